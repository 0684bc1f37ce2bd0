/- What the laws lean on, part 12: a reader of code, plain facts, and what each function gives; no conditions. -/
import Derived.WalkKit
import Derived.Lib.Walk
import Derived.Lib.SliceRun
import Derived.Test.YtmhcoaflmgajhaaGreatA11
set_option linter.unusedVariables false
set_option linter.unusedSimpArgs false
noncomputable section
namespace Go.Proofs.YtmhcoaflmgajhaaGreat
open Go Go.Ev Go.Proofs.Tryz
open Go.IntKind (i64 signed u32 u64 wrap wrap_u32)
set_option maxRecDepth 1000000
abbrev DM:Type:=List Int
abbrev abh(x:DM):LV:=LV.one (VV.sc (SV.rd true false (Ty.int IntKind.u8) x))
abbrev abi(x:DM):List (Nat×Ev.Item):= []
def Sh(x:Int):Tr (DM):=(.need (1≤70368744177664∧1≤70368744177664) (.need (2≤70368744177664∧2≤70368744177664)
 (.need (3≤70368744177664∧3≤70368744177664) (.need (4≤70368744177664∧4≤70368744177664) (.need (5≤70368744177664∧5≤70368744177664)
 (.need (6≤70368744177664∧6≤70368744177664) (.need (7≤70368744177664∧7≤70368744177664) (.need (8≤70368744177664∧8≤70368744177664)
 (.ret ([IntKind.u8.wrap (shr u64 x 0)]++ [IntKind.u8.wrap (shr u64 x 8)]++ [IntKind.u8.wrap (shr u64 x 16)]++
 [IntKind.u8.wrap (shr u64 x 24)]++ [IntKind.u8.wrap (shr u64 x 32)]++ [IntKind.u8.wrap (shr u64 x 40)]++ [IntKind.u8.wrap
 (shr u64 x 48)]++ [IntKind.u8.wrap (shr u64 x 56)]))))))))))
abbrev c5(x:Int):Prop:=0≤x∧x<18446744073709551616
abbrev KW(x:Int):DM:=cF 8 x
def abj:al:=bD [] ((ab (ak (ay .u64)) ae)) (ae) (q0∘q1 c5) (q0∘q1 KW) abh abi
theorem P8(x:Int)(h_:c5 x):(Sh x).Is (KW x):=by
 delta KW;obtain⟨h1,h2⟩:=h_
 have e:∀i:Nat,i<8→IntKind.u8.wrap (shr .u64 x (8*i:Nat))=x/256 ^ i%256:=by
  intro i hi;have e1:((2 ^ (8*i):Nat):Int)=256 ^ i:=by rw[Nat.pow_mul,Int.natCast_pow];rfl
  rw[o9 .u64 x (8*i) (by simp[IntKind.bits];omega),wrap_u8,e1]
 simp only[Sh,ah,ai];refine⟨by omega,by omega,by omega,by omega,by omega,by omega,by omega,by omega,?_⟩;rw[qP,← List.map_congr_left (fun i hi=>e i (by simpa using hi))];rfl
theorem DN:abj.Ok Tryz.prog 130:=
 a5 mixed aw func130 (by kernel_rfl) call130 (ks:= [.oU,.fr [.rd true u8],.fr [.sym],.syms,.auto,.ba]) (fun _ _=>aS.nil _) (fun _ _=>by kernel_rfl) fun x_ y_ h=>P8 x_.1 h
abbrev y8:Type:=Int×(List Int)×Int×Int
abbrev Si:aH St y8:=(bq (jk 3 (ab (ak (ay u64)) (jk 3 (ab (ak (g9 false false (Ty.int IntKind.u8)))
 (ab (ak (ay i64)) (ab (ak (ay i64)) (jk 13 ae))))))) ae).jl (fun y=>(y.1.1,y.1.2.1,y.1.2.2.1,y.1.2.2.2.1)) (fun
 x=>((x.1,(x.2.1,(x.2.2.1,(x.2.2.2,())))),())) (fun _=>rfl)
abbrev Sj:List Wk:= [.fr (cR 23 [(3,.ao),(7,.ao),(8,.ao),(9,.ao)]),.syms,.auto,.ba]
abbrev abk:Exit→List Wk:=zy Sj 0 [.fr (cR 23 [(3,.ao)]),.syms,.auto,.ba] [.fr (cR 23 [(2,.ao)]),.syms,.auto,.ba]
abbrev KX:Type:=Int
abbrev abl(x:KX):Exit×St:=(Exit.exit 0,⟨(jt 3 (LV.one (VV.sc (SV.int u64 (SI.sym x)))::(jt 19 []))),[]⟩)
def KY(x:Int)(l:List Int)(n:Int)(i:Int):Tr (y8⊕(KX)):=(.ite (decide (i<n)) (.need (0≤i∧i<(↑l.length:
 Int)) (.need (0≤i64.wrap (8*i)) (.ret (.inl (bf u64 x (shl u64 (u64.wrap (l.getD i.toNat 0)) (i64.wrap
 (8*i))),l,n,i64.wrap (i+1)))))) (.ret (.inr (x))))
abbrev vJ(x:Int)(l:List Int)(n:Int)(i:Int):Prop:=l.length=8∧aA l∧n=l.length∧0≤i∧i≤8∧x=bH (l.take i.toNat)
abbrev KZ(x:Int)(l:List Int)(n:Int)(i:Int):KX:=bH l
abbrev Sk:y8→aV:=eR (fun x_=>vJ x_.1 x_.2.1 x_.2.2.1 x_.2.2.2) (fun x_=>KZ x_.1 x_.2.1 x_.2.2.1 x_.2.2.2) abl
theorem P9(x:Int)(l:List Int)(n:Int)(i:Int)(h_:vJ x l n i):dB (fun x_:y8=>KY x_.1 x_.2.1 x_.2.2.1 x_.2.2.2) (x,l,n,i) (KZ x l n i):=by
 delta KZ;obtain⟨h1,h2,rfl,h4,h5,rfl⟩:=h_;obtain⟨k,rfl⟩:∃m:Nat,i=m:=⟨i.toNat,by omega⟩;obtain⟨j,hj⟩:∃j,8-k=j:=⟨_,rfl⟩;rw[Int.toNat_natCast]
 induction j generalizing k with
 |zero=>
  refine .stop ?_;have c:¬ (k:Int)<l.length:=by omega
  rw[List.take_of_length_le (by omega)];simp[KY,c,az,ai]
 |succ j ih=>
  have c:(k:Int)<l.length:=by omega
  refine .go ?_ (ih (k+1) (by omega) (by omega) (by omega));have e:=Rx h2 h1 (show k<8 by omega);simp only[KY,c,Int.toNat_natCast,e,ah,aI,aL,aU,aJ,aC,aE,aM,aK,aN,a7,a9,aG,aD,ai]
  try simp only[az,ah,aI,aL,aU,aJ,aC,aE,aM,aK,aN,a7,a9,aG,aD,ai]
  rw[ar (n:=(k:Int)+1) (by omega) (by omega),ar (by omega) (by omega)];simp;omega
theorem K0(y_):∀x:y8,Ex Tryz.prog ((ae).wr y_) (.loop (aY f169 0)) (Si.wr x) (Sk x):=
 cJ mixed aw (ws:=abk) (aS.nil _) (fun _=>by kernel_rfl) (fun z e=>by cases e) fA (fun x_ h=>P9 x_.1 x_.2.1 x_.2.2.1 x_.2.2.2 h)
abbrev DO:Type:=Int
abbrev abm(x:DO):LV:=LV.one (VV.sc (SV.int u64 (SI.sym x)))
abbrev abn(x:DO):List (Nat×Ev.Item):= []
def Sl(b:List Int):Tr (DO):=(.need ((0:Int)≤0∧(0:Int)≤8∧8≤(↑b.length:Int)) (.need (vJ 0 (List.take 8
 (List.drop 0 b)) (↑(List.take 8 (List.drop 0 b)).length:Int) 0) (.ret (bH (List.take 8 (List.drop 0 b))))))
abbrev mZ(b:List Int):Prop:=8≤b.length∧aA b
abbrev K1(b:List Int):DO:=bH (b.take 8)
def abo:al:=bD [some u8] (bA) (ae) (q0∘q1 mZ) (q0∘q1 K1) abm abn
theorem Qa(b:List Int)(h_:mZ b):(Sl b).Is (K1 b):=by
 delta K1;obtain⟨h1,h2⟩:=h_;simp only[Sl,ah,ai,List.drop_zero];simp;have hl:(b.take 8).length=8:=by rw[List.length_take];omega
 exact⟨by omega,hl,h2.take 8,by rw[List.length_take],by omega,by omega,rfl⟩
theorem DP:abo.Ok Tryz.prog 169:=
 a5 mixed aw func169 (by kernel_rfl) call169 (LT:=fun _ y_=> [(0,fh Si ((ae).wr y_) Sj Sk)]) (ks:=fH) (fun _ y_=>aS.bW (kQ (by kernel_rfl) (b8 (K0 y_)) ly)) (fun _ _=>by kernel_rfl) fun x_ y_ h=>Qa x_.1 h
abbrev DQ:Type:=Int
abbrev abp(x:DQ):LV:=LV.one (VV.sc (SV.int i64 (SI.sym x)))
abbrev abq(x:DQ):List (Nat×Ev.Item):= []
def Sm(b:List Int):Tr (DQ):=(.need (mZ b) (.ite (decide (bH (List.take 8 b)≤2147483647)) (.ret (i64.wrap
 (bH (List.take 8 b)))) (.ret ((-1)))))
abbrev DR:Type:=Bool
abbrev abr(x:DR):LV:=LV.one (VV.sc (SV.bool (SB.sym x)))
abbrev abt(x:DR):List (Nat×Ev.Item):= []
def Sn(n:Int):Tr (DR):=(.ite (decide (0≤n)==true) (.ret (decide (n≤2147483647))) (.ret (false)))
abbrev m5(n:Int):Prop:=True
abbrev K2(n:Int):DR:=decide (0≤n∧n≤2147483647)
def abu:al:=bD [] (Xw) (ae) (q0∘q1 m5) (q0∘q1 K2) abr abt
theorem Qb(n:Int)(h_:m5 n):(Sn n).Is (K2 n):=by
 delta K2;simp only[Sn,ah,aI,aL,aU,aJ,aC,aE,aM,aK,aN,a7,a9,aG,aD,ai]
 try simp only[az,ah,aI,aL,aU,aJ,aC,aE,aM,aK,aN,a7,a9,aG,aD,ai]
 grind [ar]
theorem DS:abu.Ok Tryz.prog 129:=
 a5 mixed aw func129 (by kernel_rfl) call129 (ks:=fH) (fun _ _=>aS.nil _) (fun _ _=>by kernel_rfl) fun x_ y_ h=>Qb x_.1 h
def m6(b:List Int):Int:=if bH (b.take 8)≤2147483647 then bH (b.take 8)else-1
abbrev m7(b:List Int):Prop:=8≤b.length∧aA b
abbrev K3(b:List Int):DQ:=m6 b
def abv:al:=bD [some u8] (bA) (ae) (q0∘q1 m7) (q0∘q1 K3) abp abq
theorem Qc(b:List Int)(h_:m7 b):(Sm b).Is (K3 b):=by
 delta K3;have h:8≤b.length∧aA b:=h_;have hr:=(dO (h.2.take 8) (by rw[List.length_take];omega)).1;simp only[Sm,m6,ah,aI,aL,aU,aJ,aC,aE,aM,aK,aN,a7,a9,aG,aD,ai]
 try simp only[az,ah,aI,aL,aU,aJ,aC,aE,aM,aK,aN,a7,a9,aG,aD,ai]
 grind [ar]
theorem DT:abv.Ok Tryz.prog 170:=
 a5 mixed ((aj DP aw)) func170 (by kernel_rfl) call170 (ks:=fH) (fun _ _=>aS.nil _) (fun _ _=>by kernel_rfl) fun x_ y_ h=>Qc x_.1 h
abbrev Cm:Type:=Int×Int×Int×Int×List Int
abbrev cCm{Y:Type}(r:aH (List SV) Y):aH (List SV) (Int×Int×Int×Int×List Int×Y):=ab (ay .i64) (ab (ay .u64) (ab (ay .u64) (ab (ay .i64) (ab (mq u8 64) r))))
abbrev cmA:aH (List LV) (Cm×Unit):=ab (fy ((cCm ae).jl (fun x=>(x.1,x.2.1,x.2.2.1,x.2.2.2.1,x.2.2.2.2.1)) (fun y=>(y.1,y.2.1,y.2.2.1,y.2.2.2.1,y.2.2.2.2,())) (fun _=>rfl))) ae
def kE(c:Int×Int×Int×Int×List Int):List Int:= [cF 8 (u64.wrap c.fst),cF 8 c.snd.fst,cF 8
 c.snd.snd.fst,cF 8 (u64.wrap c.snd.snd.snd.fst),List.take 64 (List.drop 0 c.snd.snd.snd.snd)].flatten
abbrev vK:Type:=List Int
abbrev V7(x:vK):LV:=LV.one (VV.sc (SV.rd true false (Ty.int IntKind.u8) x))
abbrev V8(x:vK):List (Nat×Ev.Item):= []
def K4(c:Int×Int×Int×Int×List Int):Tr (vK):=(.ite (decide (c.fst<0)==false) (.ite (decide (1<c.fst)==
 false) (.need (m5 c.snd.snd.snd.fst) (.ite (!decide (0≤c.snd.snd.snd.fst∧c.snd.snd.snd.fst≤2147483647)) (.ret ([])) (.need (c5
 (u64.wrap c.fst)) (.need (c5 c.snd.fst) (.need (c5 c.snd.snd.fst) (.need (c5 (u64.wrap c.snd.snd.snd.fst)) (.need ((0:
 Int)≤0∧(0:Int)≤64∧(64:Int)≤64) (.need ((kE c).length≤70368744177664∧5≤140737488355328) (.ret (kE c)))))))))) (.ret ([])))
 (.ret ([])))
abbrev K5(c:Cm):Prop:=0≤c.1∧c.1≤1∧0≤c.2.2.2.1∧c.2.2.2.1≤2147483647
def Gk(c:Cm):List Int:=if K5 c then cF 8 c.1++(cF 8 c.2.1++(cF 8 c.2.2.1++(cF 8 c.2.2.2.1++c.2.2.2.2.take 64)))else []
abbrev sa(x:Int):Prop:=0≤x∧x<18446744073709551616
abbrev m8(c:Cm):Prop:=sa c.2.1∧sa c.2.2.1
abbrev BB(c:Cm):vK:=Gk c
def V9:al:=bD [] (cmA) (ae) (q0∘q1 m8) (q0∘q1 BB) V7 V8
theorem K6(c:Cm)(h_:m8 c):(K4 c).Is (BB c):=by
 delta BB;obtain⟨h1,h2⟩:=h_;have e1:K5 c→u64.wrap c.1=c.1:=fun h=>by rw[wrap_u64 (by omega) (by omega)]
 have e2:K5 c→u64.wrap c.2.2.2.1=c.2.2.2.1:=fun h=>by rw[wrap_u64 (by omega) (by omega)]
 have hl:(kE c).length≤96:=by
  unfold kE;simp only[List.flatten_cons,List.flatten_nil,List.append_nil,List.length_append,List.length_take,fk];omega
 have ea:K5 c→kE c=cF 8 c.1++(cF 8 c.2.1++(cF 8 c.2.2.1++(cF 8 c.2.2.2.1++c.2.2.2.2.take 64))):=fun h=>by
  unfold kE;rw[e1 h,e2 h];simp
 simp only[K4,Gk,ah,aI,aU,ai];grind
theorem K7:V9.Ok Tryz.prog 94:=
 a5 mixed ((aj DS (aj DN (aj lA aw)))) func94 (by kernel_rfl) call94 (ks:= [.oU,.fr [.rd true u8],.fr [.sym],.syms,.auto,.ba]) (fun _ _=>aS.nil _) (fun _ _=>by kernel_rfl) fun x_ y_ h=>K6 x_.1 h
def BC(b:List Int):Cm:=(b.getD 0 0,bH ((b.drop 8).take 8),bH ((b.drop 16).take 8),m6 (b.drop 24),(b.drop 32).take 64)
def BD:Cm:=(0,0,0,0,List.replicate 64 0)
def gm(b:List Int):Cm×Bool:=if b.length=96∧dm (Gk (BC b)) b=true then(BC b,true)else(BD,false)
def py(b:List Int):Int×Int×Int×Int×List Int:=(i64.wrap (b.getD 0 0),bH (List.take 8 (List.take ((↑b.length
 :Int)-8).toNat (List.drop 8 b))),bH (List.take 8 (List.take ((↑b.length:Int)-16).toNat (List.drop 16 b))),m6 (List.take ((↑b.length:Int)
 -24).toNat (List.drop 24 b)),List.take 64 (List.drop 0 (List.take ((↑b.length:Int)-32).toNat (List.drop 32 b))))
abbrev vL:Type:=Int×Int×Int×Int×(List Int)×Bool
abbrev Wa(x:vL):LV:=LV.bV [VV.agg [SV.int i64 (SI.sym x.1),SV.int u64 (SI.sym x.2.1),SV.int u64
 (SI.sym x.2.2.1),SV.int i64 (SI.sym x.2.2.2.1),SV.arr (Ty.int IntKind.u8) 64 x.2.2.2.2.1],VV.sc (SV.bool (SB.sym x.2.2.2.2.2))]
abbrev Wb(x:vL):List (Nat×Ev.Item):= []
def K8(b:List Int):Tr (vL):=(.ite ((↑b.length:Int)!=96) (.ret (0,0,0,0,List.replicate 64 (0:Int),false)) (.need
 ((0:Int)≤0∧0<(↑b.length:Int)) (.need ((0:Int)≤8∧8≤(↑b.length:Int)∧(↑b.length:Int)≤(↑b.length:Int)) (.need (mZ
 (List.take ((↑b.length:Int)-8).toNat (List.drop 8 b))) (.need ((0:Int)≤16∧16≤(↑b.length:Int)∧(↑b.length:Int)≤(↑b.length:Int))
 (.need (mZ (List.take ((↑b.length:Int)-16).toNat (List.drop 16 b))) (.need ((0:Int)≤24∧24≤(↑b.length:Int)∧(↑b.length:Int)≤
 (↑b.length:Int)) (.need (m7 (List.take ((↑b.length:Int)-24).toNat (List.drop 24 b))) (.need ((0:Int)≤32∧32≤(↑b.length:Int)∧
 (↑b.length:Int)≤(↑b.length:Int)) (.need (64≤(List.take ((↑b.length:Int)-32).toNat (List.drop 32 b)).length) (.need (64≤(List.take
 ((↑b.length:Int)-32).toNat (List.drop 32 b)).length) (.need (m8 (py b)) (.ite (!dm (Gk (py b)) b) (.ret (0,0,0,0,
 List.replicate 64 (0:Int),false)) (.ret (i64.wrap (b.getD 0 0),bH (List.take 8 (List.take ((↑b.length:Int)-8).toNat (List.drop 8
 b))),bH (List.take 8 (List.take ((↑b.length:Int)-16).toNat (List.drop 16 b))),m6 (List.take ((↑b.length:Int)-24).toNat (List.drop 24 b)),
 List.take 64 (List.drop 0 (List.take ((↑b.length:Int)-32).toNat (List.drop 32 b))),true)))))))))))))))
theorem fQ{α:Type}(b:List α){n:Nat}{k:Int}(h:k.toNat=n):List.take ((b.length:Int)-k).toNat (b.drop n)=b.drop n:=List.take_of_length_le (by rw[List.length_drop];omega)
abbrev cmT(x:Cm×Bool):Int×Int×Int×Int×List Int×Bool:=(x.1.1,x.1.2.1,x.1.2.2.1,x.1.2.2.2.1,x.1.2.2.2.2,x.2)
theorem pz(b:List Int):sa (bH b):=by
 cases b with
 |nil=>exact⟨by decide,by decide⟩
 |cons x l=>rw[bH,ky];exact⟨by omega,by omega⟩
abbrev m9(b:List Int):Prop:=aA b∧b.length<1099511627776
abbrev BE(b:List Int):vL:=cmT (gm b)
def Wc:al:=bD [some u8] (bA) (ae) (q0∘q1 m9) (q0∘q1 BE) Wa Wb
theorem K9(b:List Int)(h_:m9 b):(K8 b).Is (BE b):=by
 delta BE;obtain⟨h1,h2⟩:=h_;have b0:=h1.getD 0;have w0:i64.wrap (b.getD 0 0)=b.getD 0 0:=by unfold By at b0;rw[ar (by omega) (by omega)]
 have hd:∀n,(b.drop n).length=b.length-n:=fun n=>List.length_drop;have ha:∀n,aA (b.drop n):=fun n=>h1.drop n;have e0:py b=BC b:=by unfold py BC;simp only[w0,fQ,List.drop_zero,Int.reduceToNat]
 have hp:m8 (BC b):=⟨pz _,pz _⟩;simp only[K8,e0,w0,fQ,Int.reduceToNat,ah,aE,aD,ai,List.drop_zero];unfold gm cmT;have ec:BC b=(b.getD 0 0,bH ((b.drop 8).take 8),bH ((b.drop 16).take 8),m6 (b.drop 24),(b.drop 32).take 64):=rfl;have h8:=hd 8;have h16:=hd 16;have h24:=hd 24;have h32:=hd 32;have a8:=ha 8;have a16:=ha 16;have a24:=ha 24;clear hd ha
 by_cases c:b.length=96
 ·cases c2:dm (Gk (BC b)) b<;>grind [BD]
 ·have c':¬ (b.length:Int)=96:=by omega
  simp[c,c',BD]
theorem La:Wc.Ok Tryz.prog 133:=
 a5 mixed ((aj DP (aj DT (aj mH (aj K7 aw))))) func133 (by kernel_rfl) call133 (ks:=fH) (fun _ _=>aS.nil _) (fun _ _=>by kernel_rfl) fun x_ y_ h=>K9 x_.1 h
def dV(x:Int)(b:List Int):Int:=b.foldl (fun x c=>bf .u64 (shl .u64 x 8) (u64.wrap c)) x
abbrev y9:Type:=Int×(List Int)×Int×Int
abbrev So:aH St y9:=(bq (jk 3 (ab (ak (ay u64)) (jk 3 (ab (ak (g9 false false (Ty.int IntKind.u8)))
 (ab (ak (ay i64)) (ab (ak (ay i64)) (jk 10 ae))))))) ae).jl (fun y=>(y.1.1,y.1.2.1,y.1.2.2.1,y.1.2.2.2.1)) (fun
 x=>((x.1,(x.2.1,(x.2.2.1,(x.2.2.2,())))),())) (fun _=>rfl)
abbrev Sp:List Wk:= [.fr (cR 20 [(3,.ao),(7,.ao),(8,.ao),(9,.ao)]),.syms,.auto,.ba]
abbrev abw:Exit→List Wk:=zy Sp 0 [.fr (cR 20 [(3,.ao)]),.syms,.auto,.ba] [.fr (cR 20 [(2,.ao)]),.syms,.auto,.ba]
abbrev Lb:Type:=Int
abbrev abx(x:Lb):Exit×St:=(Exit.exit 0,⟨(jt 3 (LV.one (VV.sc (SV.int u64 (SI.sym x)))::(jt 16 []))),[]⟩)
def Lc(x:Int)(l:List Int)(n:Int)(i:Int):Tr (y9⊕(Lb)):=(.ite (decide (i<n)) (.need (0≤i∧i<(↑l.length:
 Int)) (.ret (.inl (bf u64 (shl u64 x 8) (u64.wrap (l.getD i.toNat 0)),l,n,i64.wrap (i+1))))) (.ret (.inr (x))))
abbrev vM(x:Int)(l:List Int)(n:Int)(i:Int):Prop:=0≤i∧i≤n∧n=l.length∧n<1099511627776
abbrev Ld(x:Int)(l:List Int)(n:Int)(i:Int):Lb:=dV x (l.drop i.toNat)
abbrev Sq:y9→aV:=eR (fun x_=>vM x_.1 x_.2.1 x_.2.2.1 x_.2.2.2) (fun x_=>Ld x_.1 x_.2.1 x_.2.2.1 x_.2.2.2) abx
theorem Qd(x:Int)(l:List Int)(n:Int)(i:Int)(h_:vM x l n i):dB (fun x_:y9=>Lc x_.1 x_.2.1 x_.2.2.1 x_.2.2.2) (x,l,n,i) (Ld x l n i):=by
 delta Ld;obtain⟨h1,h2,rfl,h4⟩:=h_;obtain⟨k,rfl⟩:∃m:Nat,i=m:=⟨i.toNat,by omega⟩;obtain⟨j,hj⟩:∃j,l.length-k=j:=⟨_,rfl⟩;rw[Int.toNat_natCast]
 induction j generalizing k x with
 |zero=>
  refine .stop ?_;have c:¬ (k:Int)<l.length:=by omega
  rw[List.drop_of_length_le (by omega)];simp[Lc,c,az,ai,dV]
 |succ j ih=>
  have c:(k:Int)<l.length:=by omega
  have w:=ih (bf .u64 (shl .u64 x 8) (u64.wrap (l.getD k 0))) (k+1) (by omega) (by omega) (by omega);rw[iO 0 (by omega),dV,List.foldl_cons];refine .go ?_ w;simp only[Lc,c,Int.toNat_natCast,ah,aI,aL,aU,aJ,aC,aE,aM,aK,aN,a7,a9,aG,aD,ai]
  try simp only[az,ah,aI,aL,aU,aJ,aC,aE,aM,aK,aN,a7,a9,aG,aD,ai]
  rw[ar (by omega) (by omega)];simp
theorem Le(y_):∀x:y9,Ex Tryz.prog ((ae).wr y_) (.loop (aY f128 0)) (So.wr x) (Sq x):=
 cJ mixed aw (ws:=abw) (aS.nil _) (fun _=>by kernel_rfl) (fun z e=>by cases e) fA (fun x_ h=>Qd x_.1 x_.2.1 x_.2.2.1 x_.2.2.2 h)
abbrev DU:Type:=Int
abbrev aby(x:DU):LV:=LV.one (VV.sc (SV.int u64 (SI.sym x)))
abbrev abz(x:DU):List (Nat×Ev.Item):= []
def Sr(b:List Int):Tr (DU):=(.need ((0:Int)≤0∧(0:Int)≤8∧8≤(↑b.length:Int)) (.need (vM 0 (List.take 8
 (List.drop 0 b)) (↑(List.take 8 (List.drop 0 b)).length:Int) 0) (.ret (dV 0 (List.drop 0 (List.take 8 (List.drop 0 b)))))))
abbrev c6(b:List Int):Prop:=8≤b.length
abbrev Lf(b:List Int):DU:=dV 0 (b.take 8)
def abA:al:=bD [some u8] (bA) (ae) (q0∘q1 c6) (q0∘q1 Lf) aby abz
theorem Qe(b:List Int)(h_:c6 b):(Sr b).Is (Lf b):=by
 delta Lf;have h:8≤b.length:=h_;have hl:(b.take 8).length=8:=by rw[List.length_take];omega
 simp only[Sr,ah,ai,List.drop_zero];exact⟨by omega,⟨by omega,by omega,rfl,by omega⟩,trivial⟩
theorem DV:abA.Ok Tryz.prog 128:=
 a5 mixed aw func128 (by kernel_rfl) call128 (LT:=fun _ y_=> [(0,fh So ((ae).wr y_) Sp Sq)]) (ks:=fH) (fun _ y_=>aS.bW (kQ (by kernel_rfl) (b8 (Le y_)) ly)) (fun _ _=>by kernel_rfl) fun x_ y_ h=>Qe x_.1 h
abbrev jHq:aH Ev.Item HH:=ix 115 Ob
abbrev za:Type:=(List Int)×(List Int)×Int×Int×HH
abbrev Ss:aH St za:=(bq (ab (ak (g9 false false (Ty.int IntKind.u8))) (jk 3 (aq (ak (a6 (0) (0))) (jk 25 (ab
 (ak (g9 false false (Ty.int IntKind.u8))) (ab (ak (ay i64)) (ab (ak (ay i64)) (jk 28 ae)))))))) (ab (cj jHq)
 ae)).jl (fun y=>(y.1.1,y.1.2.1,y.1.2.2.1,y.1.2.2.2.1,y.2.1)) (fun x=>((x.1,(x.2.1,(x.2.2.1,(x.2.2.2.1,())))),(x.2.2.2.2,()))) (fun _
 =>rfl)
abbrev Su:List Wk:= [.dx 0 1 8 .u64,.fr (cR 61 [(0,.ao),(4,.ao),(30,.ao),(31,.ao),(32,.ao)]),.syms,.auto,.ba]
abbrev abB:Exit→List Wk:=zy Su 0 [.dx 0 1 8 .u64,.fr (cR 61 [(0,.ao),(4,.ao)]),.syms,.auto,.ba] [.dx 0 1 8 .u64,.fr (cR
 61 [(2,.ao),(3,.ao)]),.syms,.auto,.ba]
abbrev BF:Type:=Bool
abbrev Wd(x:BF):Exit×St:=(Exit.ret,⟨(jt 2 (LV.one (VV.sc (SV.cQ (Value.pointer none)))::(LV.one (VV.sc (SV.bool
 (SB.sym x)))::(jt 57 [])))),[]⟩)
abbrev BG:Type:=(List Int)×HH
abbrev We(x:BG):Exit×St:=(Exit.exit 0,⟨(LV.one (VV.sc (SV.rd false false (Ty.int IntKind.u8) x.1))::(jt 3 (LV.one
 (VV.sc (SV.ptr 0 0))::(jt 56 [])))),[some (jHq.wr x.2)]⟩)
def DW(b:List Int)(l:List Int)(n:Int)(i:Int)(h:HH):Tr (za⊕(BF⊕BG)):=(.ite (decide (i<n)) (.need (0
 ≤i∧i<(↑l.length:Int)) (.ite (l.getD i.toNat (0:Int)!=0) (.ret (.inr (.inl (false)))) (.ret (.inl (b,l,n,i64.wrap (i+1),h)))))
 (.ret (.inr (.inr (b,h)))))
abbrev na(b:List Int)(l:List Int)(n:Int)(i:Int)(h:HH):Prop:=0≤i∧i≤n∧n=l.length∧n<1099511627776
abbrev Lg(b:List Int)(l:List Int)(n:Int)(i:Int)(h:HH):Bool:= !(l.drop i.toNat).all (· ==0)
abbrev Lh(b:List Int)(l:List Int)(n:Int)(i:Int)(h:HH):BF:=false
abbrev Li(b:List Int)(l:List Int)(n:Int)(i:Int)(h:HH):BG:=(b,h)
abbrev Sv:za→aV:=qA (fun x_=>na x_.1 x_.2.1 x_.2.2.1 x_.2.2.2.1 x_.2.2.2.2) (fun x_=>Lg x_.1 x_.2.1 x_.2.2.1 x_.2.2.2.1 x_.2.2.2.2) (fun x_=>Lh x_.1 x_.2.1 x_.2.2.1 x_.2.2.2.1 x_.2.2.2.2) (fun x_=>Li x_.1 x_.2.1 x_.2.2.1 x_.2.2.2.1 x_.2.2.2.2) Wd We
theorem Qf(b:List Int)(l:List Int)(n:Int)(i:Int)(h:HH)(h_:na b l n i h):dB (fun x_:za=>DW x_.1 x_.2.1 x_.2.2.1 x_.2.2.2.1 x_.2.2.2.2) (b,l,n,i,h) (bif Lg b l n i h then .inl (Lh b l n i h)else .inr (Li b l n i h)):=by
 delta Lg Lh Li;obtain⟨h1,h2,rfl,h4⟩:=h_;obtain⟨k,rfl⟩:∃m:Nat,i=m:=⟨i.toNat,by omega⟩;obtain⟨j,hj⟩:∃j,l.length-k=j:=⟨_,rfl⟩;rw[Int.toNat_natCast]
 induction j generalizing k with
 |zero=>
  refine .stop ?_;have c:¬ (k:Int)<l.length:=by omega
  rw[List.drop_of_length_le (by omega)];simp[DW,c,az,ai]
 |succ j ih=>
  have c:(k:Int)<l.length:=by omega
  rw[iO 0 (by omega)]
  by_cases c2:l.getD k 0=0
  ·have w:=ih (k+1) (by omega) (by omega) (by omega);have e1:((l.getD k 0::l.drop (k+1)).all (· ==0))=(l.drop (k+1)).all (· ==0):=(by rw[List.all_cons,c2];rfl);rw[e1];refine .go ?_ w;simp only[DW,c,Int.toNat_natCast,c2,ah,aI,aL,aU,aJ,aC,aE,aM,aK,aN,a7,a9,aG,aD,ai]
   try simp only[az,ah,aI,aL,aU,aJ,aC,aE,aM,aK,aN,a7,a9,aG,aD,ai]
   grind [ar]
  ·refine .stop ?_;have e1:((l.getD k 0::l.drop (k+1)).all (· ==0))=false:=(by rw[List.all_cons,beq_eq_false_iff_ne.2 c2];rfl);rw[e1];simp only[DW,c,Int.toNat_natCast,c2,ah,aI,aL,aU,aJ,aC,aE,aM,aK,aN,a7,a9,aG,aD,ai]
   try simp only[az,ah,aI,aL,aU,aJ,aC,aE,aM,aK,aN,a7,a9,aG,aD,ai]
   grind
theorem Lj(y_):∀x:za,Ex Tryz.prog ((ae).wr y_) (.loop (aY f93 0)) (Ss.wr x) (Sv x):=
 cJ mixed ((aj DV aw)) (ws:=abB) (aS.nil _) (fun _=>by kernel_rfl) (fun z=>by cases z<;>(intro e;cases e)) tX (fun x_ h=>Qf x_.1 x_.2.1 x_.2.2.1 x_.2.2.2.1 x_.2.2.2.2 h)
def zb:List Int:= [0,0,0,0,0,0,0,0]
def kZ(b:List Int):Int:=i64.wrap (72+(i64.wrap (dV 0 (List.take 8 (List.take ((↑b.length:Int)-64).toNat
 (List.drop 64 b))))).tmod 128)
abbrev DX:Type:=Bool
abbrev abC(x:DX):LV:=LV.bV [VV.sc (SV.cQ (Value.pointer none)),VV.sc (SV.bool (SB.sym x))]
abbrev abD(x:DX):List (Nat×Ev.Item):= []
abbrev DY:Type:=Bool×HH
abbrev abE(x:DY):LV:=LV.bV [VV.sc (SV.ptr 0 0),VV.sc (SV.bool (SB.sym x.1))]
abbrev abF(x:DY):List (Nat×Ev.Item):= [(0,jHq.wr x.2)]
def Wf(b:List Int):Tr (DX⊕DY):=(.ite (((↑b.length:Int)!=200)==false) (.need ((0:Int)≤64∧64≤(↑b.length:
 Int)∧(↑b.length:Int)≤(↑b.length:Int)) (.need (c6 (List.take ((↑b.length:Int)-64).toNat (List.drop 64 b))) (.ite (decide
 (1152921504606846976<dV 0 (List.take 8 (List.take ((↑b.length:Int)-64).toNat (List.drop 64 b))))) (.ret (.inl (false))) (.need ((0:Int)≤64
 ∧64≤(↑b.length:Int)∧(↑b.length:Int)≤(↑b.length:Int)) (.need (c6 (List.take ((↑b.length:Int)-64).toNat (List.drop 64 b))) (.need
 (0≤kZ b∧kZ b≤(↑b.length:Int)∧(↑b.length:Int)≤(↑b.length:Int)) (.need (na b (List.take ((↑b.length:Int)-kZ b).toNat
 (List.drop (kZ b).toNat b)) (↑(List.take ((↑b.length:Int)-kZ b).toNat (List.drop (kZ b).toNat b)).length:Int) 0 {begun:=true,s:=zb,n:=i64.wrap (dV 0 (List.take 8 (List.take ((↑b.length:Int)-64).toNat (List.drop 64 b)))),wait:=List.replicate 128 (0:Int)})
 (.ite (!(List.drop 0 (List.take ((↑b.length:Int)-kZ b).toNat (List.drop (kZ b).toNat b))).all fun x=>x==0) (.ret (.inl (false))) (.need
 ((0:Int)≤0∧0≤(↑b.length:Int)∧(↑b.length:Int)≤(↑b.length:Int)) (.need (c6 (List.take ((↑b.length:Int)-0).toNat (List.drop 0
 b))) (.need ((0:Int)≤8∧8≤(↑b.length:Int)∧(↑b.length:Int)≤(↑b.length:Int)) (.need (c6 (List.take ((↑b.length:Int)-8).toNat
 (List.drop 8 b))) (.need ((0:Int)≤16∧16≤(↑b.length:Int)∧(↑b.length:Int)≤(↑b.length:Int)) (.need (c6 (List.take ((↑b.length:
 Int)-16).toNat (List.drop 16 b))) (.need ((0:Int)≤24∧24≤(↑b.length:Int)∧(↑b.length:Int)≤(↑b.length:Int)) (.need (c6 (List.take
 ((↑b.length:Int)-24).toNat (List.drop 24 b))) (.need ((0:Int)≤32∧32≤(↑b.length:Int)∧(↑b.length:Int)≤(↑b.length:Int)) (.need
 (c6 (List.take ((↑b.length:Int)-32).toNat (List.drop 32 b))) (.need ((0:Int)≤40∧40≤(↑b.length:Int)∧(↑b.length:Int)≤(↑b.length
 :Int)) (.need (c6 (List.take ((↑b.length:Int)-40).toNat (List.drop 40 b))) (.need ((0:Int)≤48∧48≤(↑b.length:Int)∧(↑b.length:
 Int)≤(↑b.length:Int)) (.need (c6 (List.take ((↑b.length:Int)-48).toNat (List.drop 48 b))) (.need ((0:Int)≤56∧56≤(↑b.length:Int)
 ∧(↑b.length:Int)≤(↑b.length:Int)) (.need (c6 (List.take ((↑b.length:Int)-56).toNat (List.drop 56 b))) (.need ((0:Int)≤0∧(0:Int)
 ≤128∧(128:Int)≤128) (.need ((0:Int)≤72∧72≤(↑b.length:Int)∧(↑b.length:Int)≤(↑b.length:Int)) (.ret (.inr (true,{begun:=true,s:=(((((((zb.set 0 (dV 0 (List.take 8 (List.take ((↑b.length:Int)-0).toNat (List.drop 0 b))))).set 1 (dV 0 (List.take 8 (List.take ((↑b.length:Int)-8).toNat (List.drop 8 b))))).set 2 (dV 0 (List.take 8 (List.take ((↑b.length:Int)-16).toNat (List.drop 16 b))))).set 3 (dV 0 (List.take 8 (List.take ((↑b.length:Int)-24).toNat (List.drop 24 b))))).set 4 (dV 0 (List.take 8 (List.take ((↑b.length:Int)-32).toNat (List.drop 32 b))))).set 5 (dV 0 (List.take 8 (List.take ((↑b.length:Int)-40).toNat (List.drop 40 b))))).set 6 (dV 0 (List.take 8 (List.take ((↑b.length:Int)-48).toNat (List.drop 48 b))))).set 7 (dV 0 (List.take 8 (List.take ((↑b.length:Int)-56).toNat (List.drop 56 b)))),n:=i64.wrap (dV 0 (List.take 8 (List.take ((↑b.length:Int)-64).toNat (List.drop 64 b)))),wait:=dF (List.replicate 128 (0:Int)) 0 128 (List.take ((↑b.length:Int)-72).toNat (List.drop 72 b))})))))))))))))))))))))))))))))
 (.ret (.inl (false))))
abbrev gn(b:List Int):Int:=dV 0 ((b.drop 64).take 8)
def jn(b:List Int):Bool:=decide (b.length=200∧gn b≤1152921504606846976)&&(b.drop (72+(gn b%128).toNat)).all (· ==0)
def Qg(b:List Int):HH:=⟨true,(List.range 8).map fun i=>dV 0 ((b.drop (8*i)).take 8),gn b,b.drop 72⟩
theorem zd:∀ (b:List Int) (x:Int),sa x→sa (dV x b)
 | [],_,h=>h
 |c::b,x,h=>by
  rw[dV,List.foldl_cons];exact zd b _ (by unfold bf;rw[IntKind.wrap_u64];exact⟨by omega,by omega⟩)
abbrev vN(b:List Int):Prop:=aA b∧b.length<1099511627776
abbrev Qh(b:List Int):Bool:= !jn b
abbrev Wg(b:List Int):DX:=false
abbrev Wh(b:List Int):DY:=(true,Qg b)
def afN:al:=CL [some u8] (bA) (ae) (q0∘q1 vN) (q0∘q1 Qh) (q0∘q1 Wg) (q0∘q1 Wh) abC abD abE abF
theorem Wi(b:List Int)(h_:vN b):(Qh b=true→(Wf b).Is (.inl (Wg b)))∧(Qh b=false→(Wf b).Is (.inr (Wh b))):=by
 delta Qh Wg Wh;obtain⟨h1,h2⟩:=h_;have hu:=zd ((b.drop 64).take 8) 0 ⟨by decide,by decide⟩;have hd:∀n,(b.drop n).length=b.length-n:=fun n=>List.length_drop;simp only[Wf,fQ,Int.reduceToNat,ah,aK,aC,aD,ai,List.drop_zero]
 by_cases c1:b.length=200
 ·have Wj:(b.length:Int)=200:=by omega
  have hn:dV 0 (List.take 8 (List.drop 64 b))=gn b:=rfl;simp only[hn]at hu ⊢
  by_cases c2:1152921504606846976<gn b
  ·have e:jn b=false:=(by unfold jn;rw[decide_eq_false (by omega)];rfl);simp[Wj,c2,e,hd,c1]
  ·have w:i64.wrap (gn b)=gn b:=ar (by omega) (by omega)
   have t:kZ b=72+gn b%128:=by
    unfold kZ;simp only[fQ,Int.reduceToNat,hn,w];rw[Int.tmod_eq_emod_of_nonneg hu.1,ar (by omega) (by omega)]
   have t2:(72+gn b%128).toNat=72+(gn b%128).toNat:=(by omega);have t3:List.take ((b.length:Int)-(72+gn b%128)).toNat (List.drop (72+(gn b%128).toNat) b)=b.drop (72+(gn b%128).toNat):=List.take_of_length_le (by rw[List.length_drop];omega);have e:jn b=(b.drop (72+(gn b%128).toNat)).all (· ==0):=(by unfold jn;rw[decide_eq_true (by omega)];rfl);have h7:=hd (72+(gn b%128).toNat);rw[e];simp only[t,t2,t3,w,hd];have hH:∀v,v=Qg b→v=Qg b:=fun _ h=>h
   cases c3:(b.drop (72+(gn b%128).toNat)).all (· ==0)with
   |true=>
    have t0:List.take ((b.length:Int)-0).toNat b=b:=List.take_of_length_le (by omega)
    have t8:dF (List.replicate 128 0) 0 128 (b.drop 72)=b.drop 72:=by
     have h72:=hd 72;have e1:List.take 128 (b.drop 72)=b.drop 72:=List.take_of_length_le (by omega);unfold dF;rw[e1,h72,c1];simp
    have q:∀k,k≤192→c6 (b.drop k):=fun k hk=>(by show 8≤_;rw[hd];omega);have q0:c6 b:=(by show 8≤_;omega);have em:(⟨true,(((((((zb.set 0 (dV 0 (b.take 8))).set 1 (dV 0 ((b.drop 8).take 8))).set 2 (dV 0 ((b.drop 16).take 8))).set 3 (dV 0 ((b.drop 24).take 8))).set 4 (dV 0 ((b.drop 32).take 8))).set 5 (dV 0 ((b.drop 40).take 8))).set 6 (dV 0 ((b.drop 48).take 8))).set 7 (dV 0 ((b.drop 56).take 8)),gn b,b.drop 72⟩:HH)=Qg b:=rfl;have ho:na b (b.drop (72+(gn b%128).toNat)) ((b.length-(72+(gn b%128).toNat):Nat):Int) 0 ⟨true,zb,gn b,List.replicate 128 0⟩:=⟨by omega,by omega,by rw[h7],by omega⟩;simp only[t0,t8,em];clear hd e w t t2 t3 hn hH t0 t8 em;refine⟨fun h=>absurd h (by decide),fun _=>⟨fun _=>⟨by omega,q _ (by decide),fun h=>absurd h c2,fun _=>⟨by omega,q _ (by decide),by omega,ho,?_⟩⟩,fun h=>absurd Wj h⟩⟩;simp only[true_implies,Bool.true_eq_false,false_implies,and_true];exact⟨by omega,q0,by omega,q _ (by decide),by omega,q _ (by decide),by omega,q _ (by decide),by omega,q _ (by decide),by omega,q _ (by decide),by omega,q _ (by decide),by omega,q _ (by decide),by omega,by omega⟩
   |false=>
    have ho:na b (b.drop (72+(gn b%128).toNat)) ((b.length-(72+(gn b%128).toNat):Nat):Int) 0 ⟨true,zb,gn b,List.replicate 128 0⟩:=⟨by omega,by omega,by rw[h7],by omega⟩;have q:∀k,k≤192→c6 (b.drop k):=fun k hk=>(by show 8≤_;rw[hd];omega);refine⟨fun _=>⟨fun _=>⟨by omega,q _ (by decide),fun h=>absurd h c2,fun _=>⟨by omega,q _ (by decide),by omega,ho,?_⟩⟩,fun h=>absurd Wj h⟩,fun h=>absurd h (by decide)⟩;simp
 ·have Wj:¬ (b.length:Int)=200:=by omega
  have e:jn b=false:=by unfold jn;rw[decide_eq_false (by omega)];rfl
  simp[Wj,e]
theorem Wl:afN.Ok Tryz.prog 93:=
 Ag mixed ((aj DV aw)) func93 (by kernel_rfl) call93 (LT:=fun _ y_=> [(0,fh Ss ((ae).wr y_) Su Sv)]) (ks:= [.dx 0 1 8 .u64,.fr [.sym],.syms,.auto,.ba]) (fun _ y_=>aS.bW (kQ (by kernel_rfl) (b8 (Lj y_)) ly)) (fun _ _=>by kernel_rfl) fun x_ y_ h=>Wi x_.1 h
abbrev Ck:Type:=Int×Int×Int×Int×List Int×List Int
abbrev cCk{Y:Type}(m:aH SV (List Int))(r:aH (List SV) Y):aH (List SV) (Int×Int×Int×Int×List Int×List Int×Y):=ab (ay .i64) (ab (ay .i64) (ab (ay .i64) (ab (ay .i64) (ab (mq u8 8) (ab m r)))))
abbrev afO:aH (List LV) (Ck×Unit):=ab (fy ((cCk (g9 false false u8) ae).jl (fun x=>(x.1,x.2.1,x.2.2.1,x.2.2.2.1,x.2.2.2.2.1,x.2.2.2.2.2.1)) (fun y=>(y.1,y.2.1,y.2.2.1,y.2.2.2.1,y.2.2.2.2.1,y.2.2.2.2.2,())) (fun _=>rfl))) ae
def pA(c:Int×Int×Int×Int×List Int×List Int):Int:=bf u64 (u64.wrap c.fst) (shl u64
 (u64.wrap c.snd.fst) 8)
def gM(c:Int×Int×Int×Int×List Int×List Int):List Int:= [cF 8 (pA c),cF 8 (u64.wrap c.snd.snd.fst),
 cF 8 (u64.wrap c.snd.snd.snd.fst),List.take 8 (List.drop 0 c.snd.snd.snd.snd.fst),c.snd.snd.snd.snd.snd].flatten
abbrev vO:Type:=List Int
abbrev Wm(x:vO):LV:=LV.one (VV.sc (SV.rd true false (Ty.int IntKind.u8) x))
abbrev Wn(x:vO):List (Nat×Ev.Item):= []
def Lk(c:Int×Int×Int×Int×List Int×List Int):Tr (vO):=(.ite (decide (c.fst<0)==false) (.ite (decide (1<
 c.fst)==false) (.ite (decide (c.snd.fst<0)==false) (.ite (decide (16<c.snd.fst)==false) (.need (m5 c.snd.snd.fst) (.ite ((!decide (0≤
 c.snd.snd.fst∧c.snd.snd.fst≤2147483647))==false) (.need (m5 c.snd.snd.snd.fst) (.ite (!decide (0≤c.snd.snd.snd.fst∧c.snd.snd.snd.fst≤
 2147483647)) (.ret ([])) (.ite (!jn c.snd.snd.snd.snd.snd) (.need (vN c.snd.snd.snd.snd.snd) (.ite (!false) (.ret ([])) (.need (c5 (pA
 c)) (.need (c5 (u64.wrap c.snd.snd.fst)) (.need (c5 (u64.wrap c.snd.snd.snd.fst)) (.need ((0:Int)≤0∧(0:Int)≤8∧(8
 :Int)≤8) (.need ((gM c).length≤70368744177664∧5≤140737488355328) (.ret (gM c))))))))) (.need (vN c.snd.snd.snd.snd.snd) (.ite
 (!true) (.ret ([])) (.need (c5 (pA c)) (.need (c5 (u64.wrap c.snd.snd.fst)) (.need (c5 (u64.wrap
 c.snd.snd.snd.fst)) (.need ((0:Int)≤0∧(0:Int)≤8∧(8:Int)≤8) (.need ((gM c).length≤70368744177664∧5≤140737488355328) (.ret
 (gM c)))))))))))) (.ret ([])))) (.ret ([]))) (.ret ([]))) (.ret ([]))) (.ret ([])))
abbrev BH(c:Ck):Prop:=0≤c.1∧c.1≤1∧0≤c.2.1∧c.2.1≤16∧0≤c.2.2.1∧c.2.2.1≤2147483647∧0≤c.2.2.2.1∧c.2.2.2.1≤2147483647∧jn c.2.2.2.2.2=true
def Ll(c:Ck):List Int:=if BH c then cF 8 (c.1+256*c.2.1)++(cF 8 c.2.2.1++(cF 8 c.2.2.2.1++(c.2.2.2.2.1.take 8++c.2.2.2.2.2)))else []
theorem Gl{b:List Int}(h:jn b=true):b.length=200:=by
 unfold jn at h;simp only[Bool.and_eq_true,decide_eq_true_eq]at h;exact h.1.1
theorem Qi{x y:Int}(h1:0≤x)(h2:x≤1)(h3:0≤y)(h4:y≤16):bf .u64 (u64.wrap x) (shl .u64 (u64.wrap y) 8)=x+256*y:=by
 have e:=mu .u64 y 8 (by decide)
 rw[wrap_u64 h1 (by omega),wrap_u64 h3 (by omega),show(8:Int)=((8:Nat):Int)from rfl,e,wrap_u64 (by simp;omega) (by simp;omega),fY,
  tT (m:=8) (by simp;omega) (by simp) h1 (by simp;omega) (by simp;omega)]
 simp;omega
abbrev nb(c:Ck):Prop:=aA c.2.2.2.2.2∧c.2.2.2.2.2.length<1099511627776
abbrev BI(c:Ck):vO:=Ll c
def Wo:al:=bD [some u8] (afO) (ae) (q0∘q1 nb) (q0∘q1 BI) Wm Wn
theorem Lm(c:Ck)(h_:nb c):(Lk c).Is (BI c):=by
 delta BI;obtain⟨h1,h2⟩:=h_;have e0:BH c→pA c=c.1+256*c.2.1:=fun h=>Qi h.1 h.2.1 h.2.2.1 h.2.2.2.1;have e1:BH c→u64.wrap c.2.2.1=c.2.2.1:=fun h=>by rw[wrap_u64 (by omega) (by omega)]
 have e2:BH c→u64.wrap c.2.2.2.1=c.2.2.2.1:=fun h=>by rw[wrap_u64 (by omega) (by omega)]
 have hl:BH c→(gM c).length≤232:=fun h=>by
  have:=Gl h.2.2.2.2.2.2.2.2;unfold gM;simp only[List.flatten_cons,List.flatten_nil,List.append_nil,List.length_append,List.length_take,fk,List.length_cons,List.length_nil];omega
 have ea:BH c→gM c=cF 8 (c.1+256*c.2.1)++(cF 8 c.2.2.1++(cF 8 c.2.2.2.1++(c.2.2.2.2.1.take 8++c.2.2.2.2.2))):=fun h=>by
  unfold gM;rw[e0 h,e1 h,e2 h];simp only[List.flatten_cons,List.flatten_nil,List.append_nil,List.drop_zero]
 simp only[Lk,Ll,ah,aI,aU,aJ,aD,ai]
 by_cases c0:BH c
 ·have hm:=c0.2.2.2.2.2.2.2.2;have hs:c5 (c.1+256*c.2.1):=⟨by omega,by omega⟩;have hs1:c5 c.2.2.1:=⟨by omega,by omega⟩;have hs2:c5 c.2.2.2.1:=⟨by omega,by omega⟩;have h5:=hl c0;rw[if_pos c0,e0 c0,e1 c0,e2 c0,← ea c0];clear ea e0 e1 e2 hl;grind
 ·rw[if_neg c0];clear ea e0 e1 e2 hl
  by_cases hm:jn c.2.2.2.2.2=true
  ·have c1:¬ (0≤c.1∧c.1≤1∧0≤c.2.1∧c.2.1≤16∧0≤c.2.2.1∧c.2.2.1≤2147483647∧0≤c.2.2.2.1∧c.2.2.2.1≤2147483647):=fun h=>c0 ⟨h.1,h.2.1,h.2.2.1,h.2.2.2.1,h.2.2.2.2.1,h.2.2.2.2.2.1,h.2.2.2.2.2.2.1,h.2.2.2.2.2.2.2,hm⟩;simp only[hm]at*;grind
  ·simp only[hm]at*;grind
theorem Ln:Wo.Ok Tryz.prog 150:=
 a5 mixed ((aj DS (aj DN (aj lA (aj Wl aw))))) func150 (by kernel_rfl) call150 (ks:= [.oU,.fr [.rd true u8],.fr [.sym],.syms,.auto,.ba]) (fun _ _=>aS.nil _) (fun _ _=>by kernel_rfl) fun x_ y_ h=>Lm x_.1 h
def BK(b:List Int):Ck:=(b.getD 0 0,b.getD 1 0,m6 (b.drop 8),m6 (b.drop 16),(b.drop 24).take 8,b.drop 32)
def vP:Ck:=(0,0,0,0,List.replicate 8 0,[])
def og(b:List Int):Ck×Bool:=if b.length=232∧dm (Ll (BK b)) b=true then(BK b,true)else(vP,false)
def pB(b:List Int):Int×Int×Int×Int×List Int×List Int:=(i64.wrap (b.getD 0 0),i64.wrap (b.getD 1
 0),m6 (List.take ((↑b.length:Int)-8).toNat (List.drop 8 b)),m6 (List.take ((↑b.length:Int)-16).toNat (List.drop 16 b)),List.take 8
 (List.drop 0 (List.take ((↑b.length:Int)-24).toNat (List.drop 24 b))),List.take ((↑b.length:Int)-32).toNat (List.drop 32 b))
abbrev vQ:Type:=Int×Int×Int×Int×(List Int)×(List Int)×Bool
abbrev Wp(x:vQ):LV:=LV.bV [VV.agg [SV.int i64 (SI.sym x.1),SV.int i64 (SI.sym x.2.1),SV.int i64
 (SI.sym x.2.2.1),SV.int i64 (SI.sym x.2.2.2.1),SV.arr (Ty.int IntKind.u8) 8 x.2.2.2.2.1,SV.rd true false (Ty.int IntKind.u8) x.2.2.2.2.2.1],
 VV.sc (SV.bool (SB.sym x.2.2.2.2.2.2))]
abbrev Wq(x:vQ):List (Nat×Ev.Item):= []
def Lo(b:List Int):Tr (vQ):=(.ite ((↑b.length:Int)!=232) (.ret (0,0,0,0,[0,0,0,0,0,0,0,0],[],false))
 (.need ((0:Int)≤0∧0<(↑b.length:Int)) (.need ((0:Int)≤1∧1<(↑b.length:Int)) (.need ((0:Int)≤8∧8≤(↑b.length:Int)∧
 (↑b.length:Int)≤(↑b.length:Int)) (.need (m7 (List.take ((↑b.length:Int)-8).toNat (List.drop 8 b))) (.need ((0:Int)≤16∧16≤
 (↑b.length:Int)∧(↑b.length:Int)≤(↑b.length:Int)) (.need (m7 (List.take ((↑b.length:Int)-16).toNat (List.drop 16 b))) (.need ((0:
 Int)≤24∧24≤(↑b.length:Int)∧(↑b.length:Int)≤(↑b.length:Int)) (.need (8≤(List.take ((↑b.length:Int)-24).toNat (List.drop 24
 b)).length) (.need (8≤(List.take ((↑b.length:Int)-24).toNat (List.drop 24 b)).length) (.need ((0:Int)≤32∧32≤(↑b.length:Int)∧
 (↑b.length:Int)≤(↑b.length:Int)) (.need ((List.take ((↑b.length:Int)-32).toNat (List.drop 32 b)).length≤70368744177664) (.need (nb
 (pB b)) (.ite (!dm (Ll (pB b)) b) (.ret (0,0,0,0,[0,0,0,0,0,0,0,0],[],false)) (.ret (i64.wrap (b.getD 0 0),
 i64.wrap (b.getD 1 0),m6 (List.take ((↑b.length:Int)-8).toNat (List.drop 8 b)),m6 (List.take ((↑b.length:Int)-16).toNat
 (List.drop 16 b)),List.take 8 (List.drop 0 (List.take ((↑b.length:Int)-24).toNat (List.drop 24 b))),List.take ((↑b.length:Int)-32).toNat
 (List.drop 32 b),true))))))))))))))))
abbrev ckT(x:Ck×Bool):Int×Int×Int×Int×List Int×List Int×Bool:=(x.1.1,x.1.2.1,x.1.2.2.1,x.1.2.2.2.1,x.1.2.2.2.2.1,x.1.2.2.2.2.2,x.2)
abbrev nc(b:List Int):Prop:=aA b∧b.length<1099511627776
abbrev BL(b:List Int):vQ:=ckT (og b)
def Wr:al:=bD [some u8] (bA) (ae) (q0∘q1 nc) (q0∘q1 BL) Wp Wq
theorem Lp(b:List Int)(h_:nc b):(Lo b).Is (BL b):=by
 delta BL;obtain⟨h1,h2⟩:=h_;have b0:=h1.getD 0;have b1:=h1.getD 1;have w0:i64.wrap (b.getD 0 0)=b.getD 0 0:=by unfold By at b0;rw[ar (by omega) (by omega)]
 have w1:i64.wrap (b.getD 1 0)=b.getD 1 0:=by unfold By at b1;rw[ar (by omega) (by omega)]
 have h8:(b.drop 8).length=b.length-8:=List.length_drop;have h16:(b.drop 16).length=b.length-16:=List.length_drop;have h24:(b.drop 24).length=b.length-24:=List.length_drop;have h32:(b.drop 32).length=b.length-32:=List.length_drop;have a8:=h1.drop 8;have a16:=h1.drop 16;have a32:=h1.drop 32;have e0:pB b=BK b:=by unfold pB BK;simp only[w0,w1,fQ,List.drop_zero,Int.reduceToNat]
 have hp:b.length=232→nb (BK b):=fun h=>⟨a32,by show(b.drop 32).length<_;omega⟩;simp only[Lo,e0,w0,w1,fQ,Int.reduceToNat,ah,aE,aD,ai,List.drop_zero];unfold og ckT;have ec:BK b=(b.getD 0 0,b.getD 1 0,m6 (b.drop 8),m6 (b.drop 16),(b.drop 24).take 8,b.drop 32):=rfl;have ez:([0,0,0,0,0,0,0,0]:List Int)=List.replicate 8 0:=rfl;rw[ez]
 by_cases c:b.length=232
 ·have hp:=hp c
  cases c2:dm (Ll (BK b)) b<;>grind [vP]
 ·have c':¬ (b.length:Int)=232:=by omega
  simp[c,c',vP]
theorem Lq:Wr.Ok Tryz.prog 134:=
 a5 mixed ((aj DT (aj mH (aj Ln (aj iw aw))))) func134 (by kernel_rfl) call134 (ks:= [.gU 0 4 8 .u8,.oU,.fr [.rd true u8],.fr [.sym],.syms,.auto,.ba]) (fun _ _=>aS.nil _) (fun _ _=>by kernel_rfl) fun x_ y_ h=>Lp x_.1 h
abbrev Sg:Type:=Cm×Bool×Ck
abbrev afP(m:aH SV (List Int)):aH (List SV) Sg:=(cCm (ab iv (cCk m ae))).jl (fun x=>((x.1,x.2.1,x.2.2.1,x.2.2.2.1,x.2.2.2.2.1),x.2.2.2.2.2.1,(x.2.2.2.2.2.2.1,x.2.2.2.2.2.2.2.1,x.2.2.2.2.2.2.2.2.1,x.2.2.2.2.2.2.2.2.2.1,x.2.2.2.2.2.2.2.2.2.2.1,x.2.2.2.2.2.2.2.2.2.2.2.1))) (fun y=>(y.1.1,y.1.2.1,y.1.2.2.1,y.1.2.2.2.1,y.1.2.2.2.2,y.2.1,y.2.2.1,y.2.2.2.1,y.2.2.2.2.1,y.2.2.2.2.2.1,y.2.2.2.2.2.2.1,y.2.2.2.2.2.2.2,())) (fun _=>rfl)
abbrev cSg:aH (List SV) Sg:=afP (g9 true false u8)
abbrev DZ:Type:=Int×Int×Int×Int×(List Int)×Bool×Int×Int×Int×Int×(List Int)×(List Int)
abbrev abG(x:DZ):LV:=LV.one (VV.agg [SV.int i64 (SI.sym x.1),SV.int u64 (SI.sym x.2.1),SV.int u64
 (SI.sym x.2.2.1),SV.int i64 (SI.sym x.2.2.2.1),SV.arr (Ty.int IntKind.u8) 64 x.2.2.2.2.1,SV.bool (SB.sym x.2.2.2.2.2.1),SV.int i64
 (SI.sym x.2.2.2.2.2.2.1),SV.int i64 (SI.sym x.2.2.2.2.2.2.2.1),SV.int i64 (SI.sym x.2.2.2.2.2.2.2.2.1),SV.int i64 (SI.sym
 x.2.2.2.2.2.2.2.2.2.1),SV.arr (Ty.int IntKind.u8) 8 x.2.2.2.2.2.2.2.2.2.2.1,SV.rd true false (Ty.int IntKind.u8) x.2.2.2.2.2.2.2.2.2.2.2])
abbrev abH(x:DZ):List (Nat×Ev.Item):= []
def abI:Tr (DZ):=(.ret ((-1),0,0,0,List.replicate 64 (0:Int),false,0,0,0,0,[0,0,0,0,0,0,0,0],[]))
abbrev ze:Type:=Int×Int×Int×Int×(List Int)×Bool×Int×Int×Int×Int×(List Int)×(List Int)
abbrev abJ(x:ze):LV:=LV.one (VV.agg [SV.int i64 (SI.sym x.1),SV.int u64 (SI.sym x.2.1),SV.int u64
 (SI.sym x.2.2.1),SV.int i64 (SI.sym x.2.2.2.1),SV.arr (Ty.int IntKind.u8) 64 x.2.2.2.2.1,SV.bool (SB.sym x.2.2.2.2.2.1),SV.int i64
 (SI.sym x.2.2.2.2.2.2.1),SV.int i64 (SI.sym x.2.2.2.2.2.2.2.1),SV.int i64 (SI.sym x.2.2.2.2.2.2.2.2.1),SV.int i64 (SI.sym
 x.2.2.2.2.2.2.2.2.2.1),SV.arr (Ty.int IntKind.u8) 8 x.2.2.2.2.2.2.2.2.2.2.1,SV.rd true false (Ty.int IntKind.u8) x.2.2.2.2.2.2.2.2.2.2.2])
abbrev abK(x:ze):List (Nat×Ev.Item):= []
def Sw(s:(Int×Int×Int×Int×List Int)×Bool×Int×Int×Int×Int×List Int×List Int)(x:Int×Int×List Int):Tr
 (ze):=(.ite (x.fst==2) (.need (m9 x.snd.snd) (.ite ((gm x.snd.snd).snd) (.ret ((gm x.snd.snd).fst.fst,(gm x.snd.snd).fst.snd.fst,
 if(gm x.snd.snd).fst.snd.snd.fst<s.fst.snd.snd.fst then s.fst.snd.snd.fst else(gm x.snd.snd).fst.snd.snd.fst,(gm
 x.snd.snd).fst.snd.snd.snd.fst,(gm x.snd.snd).fst.snd.snd.snd.snd,false,0,0,0,0,[0,0,0,0,0,0,0,0],[])) (.ret (s.fst.fst,
 s.fst.snd.fst,s.fst.snd.snd.fst,s.fst.snd.snd.snd.fst,s.fst.snd.snd.snd.snd,s.snd.fst,s.snd.snd.fst,s.snd.snd.snd.fst,s.snd.snd.snd.snd.fst,
 s.snd.snd.snd.snd.snd.fst,s.snd.snd.snd.snd.snd.snd.fst,s.snd.snd.snd.snd.snd.snd.snd)))) (.ite (x.fst==3) (.need (nc x.snd.snd) (.ite ((og
 x.snd.snd).snd) (.ret (s.fst.fst,s.fst.snd.fst,s.fst.snd.snd.fst,s.fst.snd.snd.snd.fst,s.fst.snd.snd.snd.snd,true,(og x.snd.snd).fst.fst,(og
 x.snd.snd).fst.snd.fst,(og x.snd.snd).fst.snd.snd.fst,(og x.snd.snd).fst.snd.snd.snd.fst,(og x.snd.snd).fst.snd.snd.snd.snd.fst,(og
 x.snd.snd).fst.snd.snd.snd.snd.snd)) (.ret (s.fst.fst,s.fst.snd.fst,s.fst.snd.snd.fst,s.fst.snd.snd.snd.fst,s.fst.snd.snd.snd.snd,s.snd.fst,
 s.snd.snd.fst,s.snd.snd.snd.fst,s.snd.snd.snd.snd.fst,s.snd.snd.snd.snd.snd.fst,s.snd.snd.snd.snd.snd.snd.fst,s.snd.snd.snd.snd.snd.snd.snd))))
 (.ite (x.fst==4) (.ret (s.fst.fst,s.fst.snd.fst,s.fst.snd.snd.fst,s.fst.snd.snd.snd.fst,s.fst.snd.snd.snd.snd,false,0,0,0,0,[0,0,0,0,0,
 0,0,0],[])) (.ret (s.fst.fst,s.fst.snd.fst,s.fst.snd.snd.fst,s.fst.snd.snd.snd.fst,s.fst.snd.snd.snd.snd,s.snd.fst,s.snd.snd.fst,
 s.snd.snd.snd.fst,s.snd.snd.snd.snd.fst,s.snd.snd.snd.snd.snd.fst,s.snd.snd.snd.snd.snd.snd.fst,s.snd.snd.snd.snd.snd.snd.snd)))))
def Ws(s:Sg):ze:=(s.1.1,s.1.2.1,s.1.2.2.1,s.1.2.2.2.1,s.1.2.2.2.2,s.2.1,s.2.2.1,s.2.2.2.1,s.2.2.2.2.1,s.2.2.2.2.2.1,s.2.2.2.2.2.2.1,s.2.2.2.2.2.2.2)
def fv:Sg:=((-1,0,0,0,List.replicate 64 0),false,vP)
abbrev pC:Prop:=True
abbrev Lr:DZ:=Ws fv
def abL:al:=bD [] (ae) (ae) (q0∘q0 pC) (q0∘q0 Lr) abG abH
theorem Qj(h_:pC):(abI).Is (Lr):=by
 delta Lr;exact rfl
theorem vR:abL.Ok Tryz.prog 65:=
 a5 mixed aw func65 (by kernel_rfl) call65 (ks:= [.gU 0 10 8 .u8,.fr [.rd true u8],.fr [.sym],.syms,.auto,.ba]) (fun _ _=>aS.nil _) (fun _ _=>by kernel_rfl) fun x_ y_ h=>Qj h
def ry(s:Sg)(x:Int×Int×List Int):Sg:=
 if x.1=2 then(if(gm x.2.2).2=true then(((gm x.2.2).1.1,(gm x.2.2).1.2.1,(if(gm x.2.2).1.2.2.1<s.1.2.2.1 then s.1.2.2.1 else(gm x.2.2).1.2.2.1),(gm x.2.2).1.2.2.2.1,(gm x.2.2).1.2.2.2.2),false,vP)else s)
 else if x.1=3 then(if(og x.2.2).2=true then(s.1,true,(og x.2.2).1)else s)
 else if x.1=4 then(s.1,false,vP)
 else s
abbrev vS(s:Sg)(x:Int×Int×List Int):Prop:=aA x.2.2∧x.2.2.length<1099511627776
abbrev Ls(s:Sg)(x:Int×Int×List Int):ze:=Ws (ry s x)
def abM:al:=bD [none,some u8] ((ab (fy cSg) (ab (fy ((ab (ay .i64) (ab (ay .i64) (ab (g9 false false u8) ae))).jl (fun x=>(x.1,x.2.1,x.2.2.1)) (fun y=>(y.1,y.2.1,y.2.2,())) (fun _=>rfl))) ae))) (ae) (q0∘q2 vS) (q0∘q2 Ls) abJ abK
theorem Qk(s:Sg)(x:Int×Int×List Int)(h_:vS s x):(Sw s x).Is (Ls s x):=by
 delta Ls;have h:aA x.2.2∧x.2.2.length<1099511627776:=h_;have hc:m9 x.2.2:=h;have hk:nc x.2.2:=h;simp only[Sw,ah,aG,ai];simp only[az,aG,ai,ry];refine⟨fun c1=>⟨hc,?_,?_⟩,fun c1=>⟨fun c2=>⟨hk,?_,?_⟩,fun c2=>⟨fun c3=>?_,fun c3=>?_⟩⟩⟩
 ·intro c;rw[if_pos c1,if_pos c];rfl
 ·intro c;rw[if_pos c1,if_neg (by rw[c];decide)];rfl
 ·intro c;rw[if_neg c1,if_pos c2,if_pos c];rfl
 ·intro c;rw[if_neg c1,if_pos c2,if_neg (by rw[c];decide)];rfl
 ·rw[if_neg c1,if_neg c2,if_pos c3];rfl
 ·rw[if_neg c1,if_neg c2,if_neg c3];rfl
theorem D0:abM.Ok Tryz.prog 100:=
 a5 mixed ((aj La (aj Lq aw))) func100 (by kernel_rfl) call100 (ks:= [.gU 0 10 8 .u8,.fr [.rd true u8],.fr [.sym],.syms,.auto,.ba]) (fun _ _=>aS.nil _) (fun _ _=>by kernel_rfl) fun x_ y_ h=>Qk x_.1 x_.2.1 h
abbrev jSg:aH Ev.Item Sg:=ix 45 cSg
abbrev abN:aH (List LV) (List (Int×Int×List Int)×Unit):=ab (ak (g9 false false (.pair (.int .i64) (.pair (.int .i64) (.sl u8))))) ae
abbrev zf:Type:=(List (Int×Int×List Int))×Int×Int×((Int×Int×Int×Int×List Int)×Bool×Int×Int×Int×Int×List Int×List
 Int)×((Int×Int×Int×Int×List Int)×Bool×Int×Int×Int×Int×List Int×List Int)
abbrev Sx:aH St zf:=(bq (jk 2 (aq (ak (a6 (0) (0))) (aq (ak (a6 (1) (0))) (jk 3 (ab (ak (g9 false false
 ((Ty.int i64).pair ((Ty.int i64).pair (Ty.int IntKind.u8).sl)))) (ab (ak (ay i64)) (ab (ak (ay i64)) (jk
 8 ae)))))))) (ab (cj jSg) (ab (cj jSg) ae))).jl (fun y=>(y.1.1,y.1.2.1,y.1.2.2.1,y.2.1,y.2.2.1)) (fun x=>((x.1,(x.2.1,
 (x.2.2.1,()))),(x.2.2.2.1,(x.2.2.2.2,())))) (fun _=>rfl)
abbrev Sy:List Wk:= [.dx 0 10 8 .u8,.dx 1 10 8 .u8,.aZ 0 [.sym,.sym,.sym,.sym,.ao,.sym,.sym,.sym,.sym,.sym,.ao,.rd true
 u8],.aZ 1 [.sym,.sym,.sym,.sym,.ao,.sym,.sym,.sym,.sym,.sym,.ao,.rd true u8],.fr (cR 18 [(2,.ao),(3,.ao),(7,.ao),(8,
 .ao),(9,.ao)]),.syms,.auto,.ba]
abbrev abO:Exit→List Wk:=zy Sy 0 [.dx 0 10 8 .u8,.dx 1 10 8 .u8,.aZ 0 [.sym,.sym,.sym,.sym,.ao,.sym,.sym,.sym,.sym,.sym,
 .ao,.rd true u8],.aZ 1 [.sym,.sym,.sym,.sym,.ao,.sym,.sym,.sym,.sym,.sym,.ao,.rd true u8],.fr (cR 18 [(2,.ao),(3,.ao)]),
 .syms,.auto,.ba] [.dx 0 10 8 .u8,.dx 1 10 8 .u8,.aZ 0 [.sym,.sym,.sym,.sym,.ao,.sym,.sym,.sym,.sym,.sym,.ao,.rd true u8],
 .aZ 1 [.sym,.sym,.sym,.sym,.ao,.sym,.sym,.sym,.sym,.sym,.ao,.rd true u8],.fr (cR 18 [(2,.ao)]),.syms,.auto,.ba]
def BM(l:List (Int×Int×List Int))(i:Int):Int×Int×List Int:=l.getD i.toNat (0,0,[])
def BN(s:(Int×Int×Int×Int×List Int)×Bool×Int×Int×Int×Int×List Int×List Int):(Int×Int×Int×Int×List
 Int)×Bool×Int×Int×Int×Int×List Int×List Int:=s
abbrev Lt:Type:=((Int×Int×Int×Int×List Int)×Bool×Int×Int×Int×Int×List Int×List Int)×((Int×Int×Int×Int×List Int)
 ×Bool×Int×Int×Int×Int×List Int×List Int)
abbrev abP(x:Lt):Exit×St:=(Exit.exit 0,⟨(jt 2 (LV.one (VV.sc (SV.ptr 0 0))::(LV.one (VV.sc (SV.ptr 1 0))::(jt 14
 [])))),[some (jSg.wr x.1),some (jSg.wr x.2)]⟩)
def Lu(l:List (Int×Int×List Int))(n:Int)(i:Int)(z:(Int×Int×Int×Int×List Int)×Bool×Int×Int×Int×Int×
 List Int×List Int) (s:(Int×Int×Int×Int×List Int)×Bool×Int×Int×Int×Int×List Int×List Int):Tr (zf⊕(Lt)):=(.ite
 (decide (i<n)) (.need (0≤i∧i<(↑l.length:Int)) (.need (vS (BN s) (BM l i)) (.ret (.inl (l,n,i64.wrap (i+1),z,ry
 (BN s) (BM l i)))))) (.ret (.inr (z,s))))
def lM(l:List (Int×Int×List Int)):Prop:=∀k:Nat,k<l.length→aA (l.getD k (0,0,[])).2.2∧(l.getD k (0,0,[])).2.2.length<1099511627776
def b9(s:Sg)(l:List (Int×Int×List Int)):Sg:=l.foldl ry s
abbrev vT(l:List (Int×Int×List Int))(n:Int)(i:Int)(z:(Int×Int×Int×Int×List Int)×Bool×Int×Int×Int×Int×List Int×List Int)(s:(Int×Int×Int×Int×List Int)×Bool×Int×Int×Int×Int×List Int×List Int):Prop:=0≤i∧i≤n∧n=l.length∧n<1099511627776∧lM l
abbrev Lv(l:List (Int×Int×List Int))(n:Int)(i:Int)(z:(Int×Int×Int×Int×List Int)×Bool×Int×Int×Int×Int×List Int×List Int)(s:(Int×Int×Int×Int×List Int)×Bool×Int×Int×Int×Int×List Int×List Int):Lt:=(z,b9 s (l.drop i.toNat))
abbrev Sz:zf→aV:=eR (fun x_=>vT x_.1 x_.2.1 x_.2.2.1 x_.2.2.2.1 x_.2.2.2.2) (fun x_=>Lv x_.1 x_.2.1 x_.2.2.1 x_.2.2.2.1 x_.2.2.2.2) abP
theorem Ql(l:List (Int×Int×List Int))(n:Int)(i:Int)(z:(Int×Int×Int×Int×List Int)×Bool×Int×Int×Int×Int×List Int×List Int)(s:(Int×Int×Int×Int×List Int)×Bool×Int×Int×Int×Int×List Int×List Int)(h_:vT l n i z s):dB (fun x_:zf=>Lu x_.1 x_.2.1 x_.2.2.1 x_.2.2.2.1 x_.2.2.2.2) (l,n,i,z,s) (Lv l n i z s):=by
 delta Lv;obtain⟨h1,h2,rfl,h4,h5⟩:=h_;obtain⟨k,rfl⟩:∃m:Nat,i=m:=⟨i.toNat,by omega⟩;obtain⟨j,hj⟩:∃j,l.length-k=j:=⟨_,rfl⟩;rw[Int.toNat_natCast]
 induction j generalizing k s with
 |zero=>
  refine .stop ?_;have c:¬ (k:Int)<l.length:=by omega
  rw[List.drop_of_length_le (by omega)];simp[Lu,c,az,ai,b9]
 |succ j ih=>
  have c:(k:Int)<l.length:=by omega
  have w:=ih (ry s (l.getD k (0,0,[]))) (k+1) (by omega) (by omega) (by omega);rw[iO (0,0,[]) (by omega),b9,List.foldl_cons];refine .go ?_ w;have hx:=h5 k (by omega);simp only[Lu,BM,BN,c,aC,ah,ai,Int.toNat_natCast];exact⟨fun _=>⟨⟨by omega,trivial⟩,hx,by rw[ar (by omega) (by omega)];rfl⟩,fun h=>absurd trivial h⟩
theorem Lw(y_):∀x:zf,Ex Tryz.prog ((ae).wr y_) (.loop (aY f68 0)) (Sx.wr x) (Sz x):=
 cJ mixed ((aj vR (aj D0 aw))) (ws:=abO) (aS.nil _) (fun _=>by kernel_rfl) (fun z e=>by cases e) fA (fun x_ h=>Ql x_.1 x_.2.1 x_.2.2.1 x_.2.2.2.1 x_.2.2.2.2 h)
def eB:(Int×Int×Int×Int×List Int)×Bool×Int×Int×Int×Int×List Int×List Int:=((fv.fst.fst,0,0,0,
 fv.fst.snd.snd.snd.snd),fv.snd.fst,0,0,0,0,fv.snd.snd.snd.snd.snd.snd)
abbrev D1:Type:=Int×Int×Int×Int×(List Int)×Bool×Int×Int×Int×Int×(List Int)×(List Int)
abbrev abQ(x:D1):LV:=LV.one (VV.agg [SV.int i64 (SI.sym x.1),SV.int u64 (SI.sym x.2.1),SV.int u64
 (SI.sym x.2.2.1),SV.int i64 (SI.sym x.2.2.2.1),SV.arr (Ty.int IntKind.u8) 64 x.2.2.2.2.1,SV.bool (SB.sym x.2.2.2.2.2.1),SV.int i64
 (SI.sym x.2.2.2.2.2.2.1),SV.int i64 (SI.sym x.2.2.2.2.2.2.2.1),SV.int i64 (SI.sym x.2.2.2.2.2.2.2.2.1),SV.int i64 (SI.sym
 x.2.2.2.2.2.2.2.2.2.1),SV.arr (Ty.int IntKind.u8) 8 x.2.2.2.2.2.2.2.2.2.2.1,SV.rd true false (Ty.int IntKind.u8) x.2.2.2.2.2.2.2.2.2.2.2])
abbrev abR(x:D1):List (Nat×Ev.Item):= []
def SA(l:List (Int×Int×List Int)):Tr (D1):=(.need (pC) (.need (vT l (↑l.length:Int) 0 ((0,0,0,0,
 List.replicate 64 (0:Int)),false,0,0,0,0,[0,0,0,0,0,0,0,0],[]) eB) (.ret ((b9 eB (List.drop 0 l)).fst.fst,(b9 eB
 (List.drop 0 l)).fst.snd.fst,(b9 eB (List.drop 0 l)).fst.snd.snd.fst,(b9 eB (List.drop 0 l)).fst.snd.snd.snd.fst,(b9 eB
 (List.drop 0 l)).fst.snd.snd.snd.snd,(b9 eB (List.drop 0 l)).snd.fst,(b9 eB (List.drop 0 l)).snd.snd.fst,(b9 eB (List.drop 0
 l)).snd.snd.snd.fst,(b9 eB (List.drop 0 l)).snd.snd.snd.snd.fst,(b9 eB (List.drop 0 l)).snd.snd.snd.snd.snd.fst,(b9 eB
 (List.drop 0 l)).snd.snd.snd.snd.snd.snd.fst,(b9 eB (List.drop 0 l)).snd.snd.snd.snd.snd.snd.snd))))
abbrev pD(l:List (Int×Int×List Int)):Prop:=lM l∧l.length<1099511627776
abbrev Lx(l:List (Int×Int×List Int)):D1:=Ws (b9 fv l)
def abS:al:=bD [some (.pair (.int .i64) (.pair (.int .i64) (.sl u8)))] (abN) (ae) (q0∘q1 pD) (q0∘q1 Lx) abQ abR
theorem Qm(l:List (Int×Int×List Int))(h_:pD l):(SA l).Is (Lx l):=by
 delta Lx;obtain⟨h1,h2⟩:=h_;have e:eB=fv:=rfl;simp only[SA,ah,ai,e,List.drop_zero];exact⟨trivial,⟨by omega,by omega,rfl,by omega,h1⟩,rfl⟩
theorem Qn:abS.Ok Tryz.prog 68:=
 a5 mixed ((aj vR (aj D0 aw))) func68 (by kernel_rfl) call68 (LT:=fun _ y_=> [(0,fh Sx ((ae).wr y_) Sy Sz)]) (ks:= [.dx 0 10 8 .u8,.dx 1 10 8 .u8,.aZ 0 [.sym,.sym,.sym,.sym,.ao,.sym,.sym,.sym,.sym,.sym,.ao,.rd true u8],.aZ 1 [.sym,.sym,.sym,.sym,.ao,.sym,.sym,.sym,.sym,.sym,.ao,.rd true u8],.fr [.sym],.syms,.auto,.ba]) (fun _ y_=>aS.bW (kQ (by kernel_rfl) (b8 (Lw y_)) ly)) (fun _ _=>by kernel_rfl) fun x_ y_ h=>Qm x_.1 h
end Go.Proofs.YtmhcoaflmgajhaaGreat
end
noncomputable section
namespace Go.Proofs.YtmhcoaflmgajhaaGreat
open Go Go.Ev Go.Lib Go.RowKit Go.Proofs.Tryz
open Go.IntKind (i64 signed u32 u64 wrap wrap_u32)
set_option maxHeartbeats 4000000
set_option maxRecDepth 1000000
theorem Ly{β:Env}(w:World)(a:Addr)(n c:Nat)(l:List cy.D)(kI:bI β w (.slice (some a) n c) cy l)(hb:l.length≤1000000):
  Calls Tryz.prog 135 #[.slice (some a) n c] w fun e w'=>∃v',e= .returned v'∧bI β w' v' cy l∧w.heap.size≤w'.heap.size∧w'.os=w.os∧w'.output=w.output∧
   (∀b,b<w.heap.size→w'.heap[b]? =w.heap[b]?)∧(∀a n c,v'= .slice (some a) n c→0<c→w.heap.size≤a.block):=by
 have hold:∀b,b<w.heap.size→(w.alloc (.cells #[] 170)).heap[b]? =w.heap[b]? :=fun b hb=>heap_alloc_old w _ hb;have Gz:(w.alloc (.cells #[] 170)).heap.size=w.heap.size+1:=Array.size_push ..;have abT:bI β (w.alloc (.cells #[] 170)) (.slice (some a) n c) cy l:=kI.of (fun _ _ _ _ h=>h) fun a' n' c' e h0=>hold _ (kI.lt e h0);have l8:bI β (w.alloc (.cells #[] 170)) (.slice (some ⟨w.heap.size,0,none⟩) 0 0) cy []:=⟨_,0,0,rfl,rfl,Nat.le_refl _,fun e=>(by cases e),fun h=>absurd h (by omega)⟩;obtain⟨e,hu⟩:∃e,Tryz.prog.underlying 144=some (.slice e):=⟨170,by kernel_rfl⟩;have hu':=hu;obtain⟨news,nG,fa⟩:=sr hu abT.reads;obtain⟨z,hz,Ez⟩:∃z,ia Tryz.prog 170=some z∧wL z=cy.w:=⟨[.int .i64 (.lit 0),.int .i64 (.lit 0),.cQ (.slice none 0 0)],by kernel_rfl,by kernel_rfl⟩
 have ck:∀ty,∃v' w',(Builtin.append_ #[144,144] ty #[.slice (some ⟨w.heap.size,0,none⟩) 0 0,.slice (some a) n c]).run Tryz.prog (w.alloc (.cells #[] 170))= .ok v' w'∧_:=
  fun ty=>lh (ty_:=ty) (el:=170) (by kernel_rfl) (by kernel_rfl) (by decide) hz Ez (by_:=40) (by kernel_rfl) l8 nG fa (by simp only[List.length_nil];omega) (by simp only[List.length_nil];omega)
 obtain⟨v',w',h1,h2,h3,h4,h5,h6,h7⟩:=ck 144;rw[List.nil_append]at h2
 have fin:bI β w' v' cy l∧w.heap.size≤w'.heap.size∧w'.os=w.os∧w'.output=w.output∧(∀b,b<w.heap.size→w'.heap[b]? =w.heap[b]?)∧(∀a n c,v'= .slice (some a) n c→0<c→w.heap.size≤a.block):=
  ⟨h2,by omega,h4,h5,fun b hb=>(h6 b (by omega) (by rintro⟨_,_,_,e,h,_⟩;cases e;omega)).trans (hold b hb),fun a n c e h0=>(h7 a n c e h0).elim (fun⟨_,_,e,h⟩=>by cases e;omega) fun h=>by omega⟩
 clear ck h2 h3 h4 h5 h6 h7 abT l8 nG fa kI hold hz hu
 go_enter func135,ntmps135
 have hq:∀w,(binOp .eql 144 (.slice (some a) n c) (.slice none 0 0)).run Tryz.prog w= .ok (.bool false) w:=fun w=>by
  first|rfl|simp[binOp,Op.intArith,Op.intBits,Op.intCmp,hu']
 go_wp2_with (at_builtin;refine Lib.wpList_append_run _ rfl _ _ _ _ rfl _ _ rfl rfl _ _ h1 ?_)
 go_ret
 exact⟨v',rfl,fin⟩
abbrev BO:aH Hp (List cy.D×Unit):=ab (dq 0 cy) ae
abbrev abU:aH (List LV) Unit:=aq (ak (sI 0 0)) ae
def afR:al:=al.cl [] abU BO fun x y=>.leaf (some (y.1.length≤1000000)) (.one (.sc (.sl 1 0))) [(1,.own 0 cy y.1)]
theorem Lz:bc Tryz.prog [] [] f135 [.one (.sc (.cQ (.slice none 0 0)))] (BO.wr ([],())) [.mo 0 cy]=
 End.leaf (LV.one (VV.sc (SV.sl (1:Nat) (0:Nat)))) [some (Item.own (0:Nat) ((Ty.int i64).pair ((Ty.int i64).pair (Ty.int
 IntKind.u8).sl)) []),some (Item.own (0:Nat) ((Ty.int i64).pair ((Ty.int i64).pair (Ty.int IntKind.u8).sl)) [])]:=by kernel_rfl
theorem LA:afR.Ok Tryz.prog 135:=by
 refine(al.bb call135 fun x y Q h=>?_).sym;obtain⟨l,_⟩:=y;obtain⟨hl,hq⟩:=h;have hl:l.length≤1000000:=hl;intro β w vals hh cq
 cases cq with
 |cons a1 t1=>
  cases t1
  rename_i v;obtain⟨_,c0,hk,_,hv⟩:=(a1:SV.den β _ (.sl 0 0) v)
  have hc:c0=0:=by
   have:kd (BO.wr (l,())) 0=some (.own 0):=rfl;rw[this]at hk;cases hk;rfl
  subst hc;have hv:=hv rfl;subst hv;have kI:bI β w (β.h 0) cy l:=hh.items 0 (.own 0 cy l) rfl;obtain⟨a,n,c,e,hn,hc,hz,_⟩:=id kI;rw[e]at kI ⊢
  cases a with
  |none=>
   have GZ:=hz rfl;subst GZ;have o6:n=0:=(by omega);subst o6;have zw:l= []:=List.eq_nil_of_length_eq_zero hn.symm;subst zw;have key:fW Tryz.prog 135 [.one (.sc (.cQ (.slice none 0 0)))] (BO.wr ([],())) _:=au mixed aw func135 rfl (LT:= []) (ks:= [.mo 0 cy]) (aS.nil _);rw[Lz]at key;exact(key.use (D:= [(1,.own 0 cy [])]) ⟨rfl,rfl⟩ hq) β w _ hh (.cons ⟨rfl,rfl⟩ .nil)
  |some a=>
   refine(Ly w a n c l kI hl).mono ?_
   rintro e' w' ⟨v',rfl,h2,h3,h4,h5,h6,h7⟩
   obtain⟨β',k1,k2,k3⟩:=hh.jM (id:=1) rfl (v:=v') (ver:=0) (t:=cy) (l:=l) (w':=w') h3 h4 h5 h6 h2 h7;refine⟨v',β',_,_,rfl,⟨_,hq,rfl⟩,⟨?_,0,?_,Nat.le_refl _,fun _=>k3.symm⟩,k1⟩
   ·obtain⟨_,_,_,rfl,_⟩:=h2;rfl
   ·show kd (setAt _ 1 _) 1=_;rw[bR,if_pos rfl];rfl
abbrev zg:Type:=Int×Int×(List (Int×Int×List Int))×(List (Int×Int×List Int))
abbrev SC:aH St zg:=(bq (aq (ak (sI (1) (0))) (jk 6 (ab (ak (ay i64)) (ab (ak (ay i64))
 (jk 14 ae))))) (ab (dq (0) ((Ty.int i64).pair ((Ty.int i64).pair (Ty.int IntKind.u8).sl))) (ab (dq (0) ((Ty.int
 i64).pair ((Ty.int i64).pair (Ty.int IntKind.u8).sl))) ae))).jl (fun y=>(y.1.1,y.1.2.1,y.2.1,y.2.2.1)) (fun x=>((x.1,(x.2.1,
 ())),(x.2.2.1,(x.2.2.2,())))) (fun _=>rfl)
abbrev SD:List Wk:= [.fr (cR 23 [(0,.ao),(7,.ao),(8,.ao)]),.syms,.auto,.ba]
abbrev abV:Exit→List Wk:=zy SD 0 [.fr (cR 23 [(0,.ao)]),.syms,.auto,.ba] [.fr (cR 23 [(2,.ao)]),.syms,.auto,.ba]
abbrev LB:Type:=(List (Int×Int×List Int))×(List (Int×Int×List Int))
abbrev abW(x:LB):Exit×St:=(Exit.exit 0,⟨(LV.one (VV.sc (SV.sl 1 0))::(jt 22 [])),[some (Item.own 0 ((Ty.int
 i64).pair ((Ty.int i64).pair (Ty.int IntKind.u8).sl)) x.1),some (Item.own 0 ((Ty.int i64).pair ((Ty.int i64).pair
 (Ty.int IntKind.u8).sl)) x.2)]⟩)
def LC(n:Int)(i:Int)(k:List (Int×Int×List Int))(l:List (Int×Int×List Int)):Tr (zg⊕(LB)):=(.ite (decide
 (i<n)) (.need (0≤i∧i<(↑l.length:Int)) (.need (List.length (l.getD i.toNat (0,0,[])).snd.snd≤70368744177664) (.need (0≤i∧i<
 (↑l.length:Int)) (.ret (.inl (n,i64.wrap (i+1),k,l.set i.toNat (l.getD i.toNat (0,0,[])))))))) (.ret (.inr (k,l))))
theorem LD{α:Type}(l:List α)(k:Nat)(z:α):l.set k (l.getD k z)=l:=by
 apply List.ext_getElem?
 intro i;rw[List.getElem?_set]
 split
 ·rename_i h;subst h
  split
  ·rename_i h;rw[List.getD_eq_getElem?_getD,List.getElem?_eq_getElem h];rfl
  ·rename_i h;rw[List.getElem?_eq_none (by omega)]
 ·rfl
abbrev vU(n:Int)(i:Int)(k:List (Int×Int×List Int))(l:List (Int×Int×List Int)):Prop:=0≤i∧i≤n∧n=l.length∧n<1099511627776∧lM l
abbrev LF(n:Int)(i:Int)(k:List (Int×Int×List Int))(l:List (Int×Int×List Int)):LB:=(k,l)
abbrev SE:zg→aV:=eR (fun x_=>vU x_.1 x_.2.1 x_.2.2.1 x_.2.2.2) (fun x_=>LF x_.1 x_.2.1 x_.2.2.1 x_.2.2.2) abW
theorem Qo(n:Int)(i:Int)(k:List (Int×Int×List Int))(l:List (Int×Int×List Int))(h_:vU n i k l):dB (fun x_:zg=>LC x_.1 x_.2.1 x_.2.2.1 x_.2.2.2) (n,i,k,l) (LF n i k l):=by
 delta LF;obtain⟨h1,h2,rfl,h4,h5⟩:=h_;obtain⟨j,hj⟩:∃j:Nat,(l.length:Int)-i=j:=⟨((l.length:Int)-i).toNat,by omega⟩
 induction j generalizing i with
 |zero=>
  refine .stop ?_;have c:¬i<(l.length:Int):=by omega
  simp[LC,c,az,ai]
 |succ j ih=>
  have c:i<(l.length:Int):=by omega
  have hx:=(h5 i.toNat (by omega)).2;refine .go ?_ (ih (i+1) (by omega) (by omega) (by omega));simp only[LC,aC,ah,ai,LD];exact⟨fun _=>⟨by omega,by omega,by omega,by rw[ar (by omega) (by omega)]⟩,fun h=>absurd c h⟩
theorem LG(y_):∀x:zg,Ex Tryz.prog ((BO).wr y_) (.loop (aY f101 0)) (SC.wr x) (SE x):=
 cJ mixed ((aj LA (aj iw aw))) (ws:=abV) (aS.nil _) (fun _=>by kernel_rfl) (fun z e=>by cases e) fA (fun x_ h=>Qo x_.1 x_.2.1 x_.2.2.1 x_.2.2.2 h)
abbrev Qp:Type:=List (Int×Int×List Int)
abbrev afS(x:Qp):LV:=LV.one (VV.sc (SV.sl 1 0))
abbrev afT(x:Qp):List (Nat×Ev.Item):= [(1,Item.own 0 ((Ty.int i64).pair ((Ty.int i64).pair (Ty.int
 IntKind.u8).sl)) x)]
def abX(l:List (Int×Int×List Int)):Tr (Qp):=(.need (l.length≤1000000) (.need (vU (↑l.length:Int) 0 l l) (.ret
 (l))))
abbrev BP(l:List cy.D):Prop:=lM l∧l.length≤1000000
abbrev Wt(l:List cy.D):Qp:=l
def afU:al:=bD [] (abU) (BO) (q1∘q0 BP) (q1∘q0 Wt) afS afT
theorem Wu(l:List cy.D)(h_:BP l):(abX l).Is (Wt l):=by
 delta Wt;obtain⟨h1,h2⟩:=h_;simp only[abX,ah,ai];exact⟨h2,⟨by omega,by omega,rfl,by omega,h1⟩,trivial⟩
theorem Wv:afU.Ok Tryz.prog 101:=
 a5 mixed ((aj LA (aj iw aw))) func101 (by kernel_rfl) call101 (LT:=fun _ y_=> [(0,fh SC ((BO).wr y_) SD SE)]) (ks:=fH) (fun _ y_=>aS.bW (kQ (by kernel_rfl) (b8 (LG y_)) ly)) (fun _ _=>by kernel_rfl) fun x_ y_ h=>Wu y_.1 h
abbrev afV:aH Hp (Jn×Fl×List Int×List Int×List cy.D×Unit):=ab (cj P3) (ab (cj vH) (ab (dq 0 u8) (ab (dq 0 (.int .i64)) (ab (dq 0 cy) ae))))
abbrev vV:Type:=List (Int×Int×List Int)
abbrev Ww(x:vV):LV:=LV.one (VV.sc (SV.sl 5 0))
abbrev Wx(x:vV):List (Nat×Ev.Item):= [(5,Item.own 0 ((Ty.int i64).pair ((Ty.int i64).pair (Ty.int
 IntKind.u8).sl)) x)]
def LH(j:(Int×Int)×Int×Int×Int×Bool×Int)(f:(Int×List Int)×Bool×Bool×Int)(b:List Int)(er:List Int)(l
 :List (Int×Int×List Int)):Tr (vV):=(.need (BP l) (.ret (l)))
abbrev nd(j:Jn)(f:Fl)(b er:List Int)(l:List cy.D):Prop:=lM l∧l.length≤1000000
abbrev BQ(j:Jn)(f:Fl)(b er:List Int)(l:List cy.D):vV:=l
def Wy:al:=bD [] ((aq (ak (a6 0 0)) ae)) (afV) (q5∘q0 nd) (q5∘q0 BQ) Ww Wx
theorem LI(j:Jn)(f:Fl)(b er:List Int)(l:List cy.D)(h_:nd j f b er l):(LH j f b er l).Is (BQ j f b er l):=by
 delta BQ;simp only[LH,ah,ai];exact⟨h_,trivial⟩
theorem LJ:Wy.Ok Tryz.prog 69:=
 a5 mixed ((aj Wv aw)) func69 (by kernel_rfl) call69 (ks:=fH) (fun _ _=>aS.nil _) (fun _ _=>by kernel_rfl) fun x_ y_ h=>LI y_.1 y_.2.1 y_.2.2.1 y_.2.2.2.1 y_.2.2.2.2.1 h
abbrev jLg(j:Nat):aH Ev.Item Sg:=ix 139 ((aq (a6 j 0) cSg))
abbrev afW:aH Ev.Item Sg:=jLg 4
abbrev abY:aH Ev.Item Jn:=ix 167 (Gj 0 (sI 5 0))
def kh(f:(Int×List Int)×Bool×Bool×Int):(Int×List Int)×Bool×Bool×Int:=f
abbrev nf:Type:=Unit
abbrev LK(x:nf):LV:=LV.bV [VV.sc (SV.cQ (Value.pointer none)),VV.sc (SV.int i64 (SI.lit 1))]
abbrev LL(x:nf):List (Nat×Ev.Item):= []
abbrev nh:Type:=Int
abbrev LM(x:nh):LV:=LV.bV [VV.sc (SV.cQ (Value.pointer none)),VV.sc (SV.int i64 (SI.sym x))]
abbrev LN(x:nh):List (Nat×Ev.Item):= []
abbrev nk:Type:=((Int×Int×Int×Int×List Int)×Bool×Int×Int×Int×Int×List Int×List Int)×((Int×Int)×Int×Int×Int×
 Bool×Int)×(List (Int×Int×List Int))
abbrev LO(x:nk):LV:=LV.bV [VV.sc (SV.ptr 3 0),VV.sc (SV.int i64 (SI.lit 0))]
abbrev LP(x:nk):List (Nat×Ev.Item):= [(3,afW.wr x.1),(4,abY.wr x.2.1),(5,Item.own 0 ((Ty.int
 i64).pair ((Ty.int i64).pair (Ty.int IntKind.u8).sl)) x.2.2)]
def kF(r:Int×Int)(f:(Int×List Int)×Bool×Bool×Int)(b:List Int)(er:List Int):Tr (nf⊕nh⊕
 nk):=(.ite (decide ¬r.snd=2) (.need (oc r (kh f) b er) (.ret (.inl ()))) (.ite (f.snd.fst) (.need (oc r (kh f) b er)
 (.ite ((5:Int)!=0) (.ret (.inr (.inl (5)))) .fail)) (.need (oc r (kh f) b er) (.need (nd (cn b r).fst (kh f) b er (cn b
 r).snd) (.need (pD (cn b r).snd) (.ret (.inr (.inr (b9 fv (cn b r).snd,(cn b r).fst,(cn b r).snd)))))))))
theorem zh:∀ (n:Nat) (b:List Int),aA b→b.length<1099511627776→lM (bE n b).1
 |0,_,_,_=>fun k h=>by simp[bE]at h
 |n+1,b,hb,hl=>by
  rw[bE]
  split
  ·rename_i c;have ih:=zh n (b.drop (bN b).2.1.toNat) (hb.drop _) (by rw[List.length_drop];omega);intro k hk
   cases k with
   |zero=>
    have e:=(jc c.1).2.2.1;simp only[List.getD_cons_zero,e,Bs];exact⟨(hb.drop _).take _,by rw[List.length_take,List.length_drop];omega⟩
   |succ k=>
    simp only[List.getD_cons_succ];exact ih k (by simpa using hk)
  ·intro k h;simp at h
theorem Qq{b er:List Int}{r:Int×Int}(h1:iy b er)(h2:aA b)(h3:uh r er)(h4:r.2=2):lM (cn b r).2∧(cn b r).2.length≤1000000:=by
 unfold cn
 split
 ·exact⟨fun k h=>by simp at h,by simp⟩
 ·have hp:=ob (cP b r (oY (cP b r 0) (cP b r 1)).1).length ((cP b r (oY (cP b r 0) (cP b r 1)).1).drop 16);have hl:(cP b r (oY (cP b r 0) (cP b r 1)).1).length≤1024:=by show(bJ _ _ _).length≤_;unfold bJ;rw[List.length_take];omega
  have hd:((cP b r (oY (cP b r 0) (cP b r 1)).1).drop 16).length≤1024:=by rw[List.length_drop];omega
  exact⟨zh _ _ ((pc h2 _ _).drop _) (by omega),by simp only;omega⟩
abbrev dc(r:Int×Int)(f:Fl)(b er:List Int):Prop:=iy b er∧aA b∧uh r er
abbrev nm(r:Int×Int)(f:Fl)(b er:List Int):Bool:=decide (r.2≠2)
abbrev vW(r:Int×Int)(f:Fl)(b er:List Int):nf:=()
abbrev pE(r:Int×Int)(f:Fl)(b er:List Int):Bool:=f.2.1
abbrev vX(r:Int×Int)(f:Fl)(b er:List Int):nh:=5
abbrev vY(r:Int×Int)(f:Fl)(b er:List Int):nk:=(b9 fv (cn b r).2,(cn b r).1,(cn b r).2)
def Qr:al:=HM [] (rgA) (oV) (q3∘q1 dc) (q3∘q1 nm) (q3∘q1 vW) (q3∘q1 pE) (q3∘q1 vX) (q3∘q1 vY) LK LL LM LN LO LP
theorem Gm(r:Int×Int)(f:Fl)(b er:List Int)(h_:dc r f b er):(nm r f b er=true→(kF r f b er).Is (.inl (vW r f b er)))∧(nm r f b er=false→pE r f b er=true→(kF r f b er).Is (.inr (.inl (vX r f b er))))∧(nm r f b er=false→pE r f b er=false→(kF r f b er).Is (.inr (.inr (vY r f b er)))):=by
 delta nm vW pE vX vY;have hp:oc r (kh f) b er:=h_;obtain⟨h1,h2,h3⟩:=h_
 by_cases c:r.2=2
 ·obtain⟨o1,o2⟩:=Qq h1 h2 h3 c;have hl:pD (cn b r).2:=⟨o1,by show(cn b r).2.length<_;omega⟩;have ha:∀x y z w,nd x y z w (cn b r).2:=fun _ _ _ _=>⟨o1,o2⟩
  cases c2:f.2.1 with
  |true=>simp[kF,c,c2,az,ah,ai];exact hp
  |false=>simp[kF,c,c2,az,ah,ai];exact⟨hp,ha _ _ _ _,hl⟩
 ·simp[kF,c,az,ah,ai];exact hp
theorem tf:Qr.Ok Tryz.prog 49:=
 HN mixed ((aj V6 (aj LJ (aj Qn aw)))) func49 (by kernel_rfl) call49 (ks:= [.auto,.ba,.dx 5 11 8 .u8,.aZ 5 [.ao,.sym,.sym,.sym,.sym,.ao,.sym,.sym,.sym,.sym,.sym,.ao,.rd true u8]]) (fun _ _=>aS.nil _) (fun _ _=>by kernel_rfl) fun x_ y_ h=>Gm x_.1 y_.1 y_.2.1 y_.2.2.1 h
abbrev afX:aH Ev.Item Jn:=ix 167 (Gj 2 (sI 5 0))
abbrev afY:aH Hp (Sg×Jn×Fl×List Int×List Int×List cy.D×Unit):=ab (cj (jLg 1)) (ab (cj afX) (ab (cj afE) (ab (dq 0 u8) (ab (dq 0 (.int .i64)) (ab (dq 0 cy) ae)))))
abbrev D2:Type:=Int×Int×Int×Int×(List Int)×Bool×Int×Int×Int×Int×(List Int)×(List Int)
abbrev abZ(x:D2):LV:=LV.one (VV.agg [SV.int i64 (SI.sym x.1),SV.int u64 (SI.sym x.2.1),SV.int u64
 (SI.sym x.2.2.1),SV.int i64 (SI.sym x.2.2.2.1),SV.arr (Ty.int IntKind.u8) 64 x.2.2.2.2.1,SV.bool (SB.sym x.2.2.2.2.2.1),SV.int i64
 (SI.sym x.2.2.2.2.2.2.1),SV.int i64 (SI.sym x.2.2.2.2.2.2.2.1),SV.int i64 (SI.sym x.2.2.2.2.2.2.2.2.1),SV.int i64 (SI.sym
 x.2.2.2.2.2.2.2.2.2.1),SV.arr (Ty.int IntKind.u8) 8 x.2.2.2.2.2.2.2.2.2.2.1,SV.rd true false (Ty.int IntKind.u8) x.2.2.2.2.2.2.2.2.2.2.2])
abbrev ab0(x:D2):List (Nat×Ev.Item):= []
def SF(s:(Int×Int×Int×Int×List Int)×Bool×Int×Int×Int×Int×List Int×List Int)(j:(Int×Int)×Int×Int×
 Int×Bool×Int) (f:(Int×List Int)×Bool×Bool×Int) (b:List Int) (er:List Int) (l:List (Int×Int×List Int)):Tr (D2):=(.need
 (s.snd.snd.snd.snd.snd.snd.snd.length≤70368744177664) (.ret (s.fst.fst,s.fst.snd.fst,s.fst.snd.snd.fst,s.fst.snd.snd.snd.fst,
 s.fst.snd.snd.snd.snd,s.snd.fst,s.snd.snd.fst,s.snd.snd.snd.fst,s.snd.snd.snd.snd.fst,s.snd.snd.snd.snd.snd.fst,s.snd.snd.snd.snd.snd.snd.fst,
 s.snd.snd.snd.snd.snd.snd.snd)))
abbrev pF(s:Sg)(j:Jn)(f:Fl)(b er:List Int)(l:List cy.D):Prop:=s.2.2.2.2.2.2.2.length≤70368744177664
abbrev LQ(s:Sg)(j:Jn)(f:Fl)(b er:List Int)(l:List cy.D):D2:=Ws s
def ab1:al:=bD [] ((aq (ak (a6 0 0)) ae)) (afY) (q6∘q0 pF) (q6∘q0 LQ) abZ ab0
theorem Qs(s:Sg)(j:Jn)(f:Fl)(b er:List Int)(l:List cy.D)(h_:pF s j f b er l):(SF s j f b er l).Is (LQ s j f b er l):=by
 delta LQ;simp only[SF,ah,ai];exact⟨h_,rfl⟩
theorem Qt:ab1.Ok Tryz.prog 44:=
 a5 mixed ((aj iw aw)) func44 (by kernel_rfl) call44 (ks:= [.gU 0 10 8 .u8,.fr [.sym],.syms,.auto,.ba]) (fun _ _=>aS.nil _) (fun _ _=>by kernel_rfl) fun x_ y_ h=>Qs y_.1 y_.2.1 y_.2.2.1 y_.2.2.2.1 y_.2.2.2.2.1 y_.2.2.2.2.2.1 h
structure LR (s:Sg):Prop where
 mid:s.2.2.2.2.2.2.2.length≤200
 slot: -1≤s.1.1∧s.1.1≤1
 ver:sa s.1.2.1
 qS:sa s.1.2.2.1
theorem Qu{b:List Int}(h:(gm b).2=true):K5 (gm b).1∧sa (gm b).1.2.1∧sa (gm b).1.2.2.1:=by
 unfold gm at h ⊢
 split at h
 ·rename_i c;rw[if_pos c];refine⟨?_,pz _,pz _⟩;have h2:=c.2;unfold Gk at h2
  split at h2
  ·assumption
  ·have:=nY h2;simp at this;omega
 ·cases h
theorem LS{s:Sg}(h:LR s)(x:Int×Int×List Int):LR (ry s x):=by
 unfold ry
 by_cases c1:x.1=2
 ·rw[if_pos c1]
  by_cases c:(gm x.2.2).2=true
  ·rw[if_pos c];have hc:=Qu c;refine⟨by simp[vP],⟨by have:=hc.1.1;show-1≤(gm x.2.2).1.1;omega,hc.1.2.1⟩,hc.2.1,?_⟩;show sa (if _ then _ else _)
   split
   ·exact h.qS
   ·exact hc.2.2
  ·rw[if_neg c];exact h
 ·rw[if_neg c1]
  by_cases c2:x.1=3
  ·rw[if_pos c2]
   by_cases c:(og x.2.2).2=true
   ·rw[if_pos c];refine⟨?_,h.slot,h.ver,h.qS⟩;unfold og at c ⊢
    split at c
    ·rename_i c2;rw[if_pos c2];show(x.2.2.drop 32).length≤200;rw[List.length_drop];omega
    ·cases c
   ·rw[if_neg c];exact h
  ·rw[if_neg c2]
   by_cases c3:x.1=4
   ·rw[if_pos c3];exact⟨by simp[vP],h.slot,h.ver,h.qS⟩
   ·rw[if_neg c3];exact h
theorem rz:∀ (l:List (Int×Int×List Int)) {s:Sg},LR s→LR (b9 s l)
 | [],_,h=>h
 |x::l,s,h=>rz l (LS h x)
theorem LU:LR fv:=⟨by simp[fv,vP],⟨by decide,by decide⟩,⟨by decide,by decide⟩,⟨by decide,by decide⟩⟩
end Go.Proofs.YtmhcoaflmgajhaaGreat
end
noncomputable section
namespace Go.Proofs.YtmhcoaflmgajhaaGreat
open Go Go.Ev Go.Proofs.Tryz
open Go.IntKind (i64 signed u32 u64 wrap wrap_u32)
set_option maxRecDepth 1000000
def gp(f:(Int×List Int)×Bool×Bool×Int):(Int×List Int)×Bool×Bool×Int:=f
abbrev D3:Type:=Int×Int×Int×Int×(List Int)×Int
abbrev ab2(x:D3):LV:=LV.bV [VV.agg [SV.int i64 (SI.sym x.1),SV.int u64 (SI.sym x.2.1),SV.int u64
 (SI.sym x.2.2.1),SV.int i64 (SI.sym x.2.2.2.1),SV.arr (Ty.int IntKind.u8) 64 x.2.2.2.2.1],VV.sc (SV.int i64 (SI.sym x.2.2.2.2.2))]
abbrev ab3(x:D3):List (Nat×Ev.Item):= []
def D4(c:List (List Int)×Int)(f:(Int×List Int)×Bool×Bool×Int)(b:List Int)(er:List Int):Tr (D3):=(.ite
 (!decide (((1≤c.fst.length∧c.fst.length≤8∧3≤c.snd∧c.snd≤100)∧(2:Int)+2*c.snd≤(↑er.length:Int))∧(0:Int)≤0∧(0:Int)<
 2)) (.need (ga c 0 (gp f) b er) (.ret (0,0,0,0,List.replicate 64 (0:Int),1))) (.need (ga c 0 (gp f) b er) (.ite (!decide ((1
 :Int)≤2∧(0:Int)≤0∧2≤(↑er.length:Int))) (.need (eU 0 2 (gp f) b er) (.ret (0,0,0,0,List.replicate 64 (0:Int),1))) (.need
 (eU 0 2 (gp f) b er) (.ite (decide ¬(2:Int)=2) (.need (dc (0,2) (gp f) b er) (.ret (0,0,0,0,List.replicate 64 (0:Int),
 1))) (.ite (f.snd.fst) (.need (dc (0,2) (gp f) b er) (.ite ((5:Int)!=0) (.ret (0,0,0,0,List.replicate 64 (0:Int),5)) .fail))
 (.need (dc (0,2) (gp f) b er) (.need (pF (b9 fv (cn b (0,2)).snd) (cn b (0,2)).fst (gp f) b er (cn b (0,2)).snd)
 (.ret ((b9 fv (cn b (0,2)).snd).fst.fst,(b9 fv (cn b (0,2)).snd).fst.snd.fst,(b9 fv (cn b (0,2)).snd).fst.snd.snd.fst,(b9
 fv (cn b (0,2)).snd).fst.snd.snd.snd.fst,(b9 fv (cn b (0,2)).snd).fst.snd.snd.snd.snd,0))))))))))
def Qv(b:List Int):Sg:=b9 fv (cn b (0,2)).2
def dW(f:Fl)(b er:List Int)(c:List (List Int)×Int):Cm×Int:=if ¬j1 c er then(BD,1)else if f.2.1=true then(BD,5)else((Qv b).1,0)
abbrev pG(c:List (List Int)×Int)(f:Fl)(b er:List Int):Prop:=iy b er∧aA b
abbrev LW(c:List (List Int)×Int)(f:Fl)(b er:List Int):D3:=((dW f b er c).1.1,(dW f b er c).1.2.1,(dW f b er c).1.2.2.1,(dW f b er c).1.2.2.2.1,(dW f b er c).1.2.2.2.2,(dW f b er c).2)
def ab4:al:=bD [none,some (.arr u8 32)] (Ih) (oV) (q3∘q1 pG) (q3∘q1 LW) ab2 ab3
theorem Qw(c:List (List Int)×Int)(f:Fl)(b er:List Int)(h_:pG c f b er):(D4 c f b er).Is (LW c f b er):=by
 delta LW;obtain⟨h1,h2⟩:=h_;have hs:ga c 0 (gp f) b er:=h1;have ho:eU 0 2 (gp f) b er:=h1
 by_cases c1:j1 c er
 ·have hg:uh (0,2) er:=⟨by decide,by decide,by show(0:Int)+2≤er.length;omega⟩;have TC:(2:Int)≤er.length:=by omega
  have hl:dc (0,2) (gp f) b er:=⟨h1,h2,hg⟩;have hm:=(rz (cn b (0,2)).2 LU).mid;have hq:∀j f' b' er' l,pF (Qv b) j f' b' er' l:=fun _ _ _ _ _=>by show(Qv b).2.2.2.2.2.2.2.length≤_;unfold Qv;omega
  cases c2:f.2.1 with
  |true=>simp[D4,dW,c1,c2,TC,az,ah,ai,BD];exact⟨h1,h2,hg⟩
  |false=>
   have Eu:(b9 fv (cn b (0,2)).2).2.2.2.2.2.2.2.length≤70368744177664:=(by omega);simp[D4,dW,c1,c2,TC,az,ah,ai];exact⟨h1,hl,Eu,rfl,rfl,rfl,rfl,rfl⟩
 ·simp[D4,dW,c1,az,ah,ai,BD];exact hs
theorem D5:ab4.Ok Tryz.prog 34:=
 a5 mixed ((aj xx (aj uk (aj tf (aj Qt aw))))) func34 (by kernel_rfl) call34 (ks:=fH) (fun _ _=>aS.nil _) (fun _ _=>by kernel_rfl) fun x_ y_ h=>Qw x_.1 y_.1 y_.2.1 y_.2.2.1 h
abbrev jCf:aH Ev.Item (List (List Int)×Int):=ix 24 NV
abbrev afZ:aH (List SV) Cm:=(cCm ae).jl (fun x=>(x.1,x.2.1,x.2.2.1,x.2.2.2.1,x.2.2.2.2.1)) (fun y=>(y.1,y.2.1,y.2.2.1,y.2.2.2.1,y.2.2.2.2,())) (fun _=>rfl)
abbrev jCm:aH Ev.Item Cm:=ix 40 afZ
def rA(f:Fl)(b er:List Int)(c:List (List Int)×Int)(fl:Int):List Int→Int×List Int×Int
 | []=>(-1,List.replicate 64 0,13)
 |s::l=>if(Bn f b er c s fl).2.2=0 then(s,(Bn f b er c s fl).2.1,0)else rA f b er c fl l
theorem zi{f:Fl}{b er:List Int}{c:List (List Int)×Int}{fl:Int}:∀ {l:List Int},(rA f b er c fl l).2.2≠0→rA f b er c fl l=(-1,List.replicate 64 0,13)
 | [],_=>rfl
 |s::l,h=>by
  rw[rA]at h ⊢
  split at h
  ·exact absurd rfl h
  ·rename_i c2;rw[if_neg c2];exact zi h
abbrev zj:Type:=Int×Int×((Int×List Int)×Bool×Bool×Int)×(List Int)×(List Int)×(List (List Int)×Int)×(List Int)×(Int×Int
 ×Int×Int×List Int)×(List Int)
abbrev SG:aH St zj:=(bq (aq (ak (a6 (0) (0))) (jk 2 (aq (ak (a6 (3) (0))) (jk 1 (aq (ak (a6 (4) (0)))
 (jk 1 (aq (ak (a6 (5) (0))) (jk 27 (aq (ak (sI (6) (0))) (ab (ak (ay i64)) (ab (ak (ay i64)) (jk 19
 ae)))))))))))) (ab (cj TP) (ab (dq (0) (Ty.int IntKind.u8)) (ab (dq (0) (Ty.int i64)) (ab (cj jCf) (ab (kJ (31)
 ((ab (mq (Ty.int IntKind.u8) (64)) ae))) (ab (cj jCm) (ab (dq (0) (Ty.int i64)) ae)))))))).jl (fun y=>(y.1.1,y.1.2.1,
 y.2.1,y.2.2.1,y.2.2.2.1,y.2.2.2.2.1,y.2.2.2.2.2.1.1,y.2.2.2.2.2.2.1,y.2.2.2.2.2.2.2.1)) (fun x=>((x.1,(x.2.1,())),(x.2.2.1,(x.2.2.2.1,
 (x.2.2.2.2.1,(x.2.2.2.2.2.1,((x.2.2.2.2.2.2.1,()),(x.2.2.2.2.2.2.2.1,(x.2.2.2.2.2.2.2.2,()))))))))) (fun _=>rfl)
abbrev SH:List Wk:= [.fr (cR 57 [(0,.ao),(3,.ao),(5,.ao),(7,.ao),(35,.ao),(36,.ao),(37,.ao)]),.syms,.auto,.ba]
abbrev ab5:Exit→List Wk:=zy SH 1 [.fr (cR 57 [(5,.ao)]),.syms,.auto,.ba] [.fr (cR 57 [(4,.ao),(5,.ao),(6,.ao)]),
 .syms,.auto,.ba]
def vZ(f:(Int×List Int)×Bool×Bool×Int):(Int×List Int)×Bool×Bool×Int:=f
def LX(i:Int)(f:(Int×List Int)×Bool×Bool×Int)(b:List Int)(er:List Int)(c:List (List Int)×Int)(x:Int×Int
 ×Int×Int×List Int) (l:List Int):zC×List Int×Int:=Bn (vZ f) b er c (l.getD i.toNat 0) x.snd.snd.fst
abbrev BR:Type:=Int×Int×((Int×List Int)×Bool×Bool×Int)×(List Int)×(List Int)×(List Int)
abbrev Wz(x:BR):Exit×St:=(Exit.ret,⟨(jt 4 (LV.one (VV.sc (SV.int i64 (SI.sym x.1)))::(LV.one (VV.sc (SV.ptr
 3 0))::(LV.one (VV.sc (SV.int i64 (SI.sym x.2.1)))::(jt 50 []))))),[some (TP.wr x.2.2.1),some (Item.own 0 (Ty.int IntKind.u8)
 x.2.2.2.1),some (Item.own 0 (Ty.int i64) x.2.2.2.2.1),some (Item.aZ [SV.arr (Ty.int IntKind.u8) 64 x.2.2.2.2.2] 31)]⟩)
abbrev BS:Type:=((Int×List Int)×Bool×Bool×Int)×(List Int)×(List Int)×(List Int)
abbrev WA(x:BS):Exit×St:=(Exit.exit 1,⟨(jt 5 (LV.one (VV.sc (SV.ptr 3 0))::(jt 51 []))),[some (TP.wr x.1),some
 (Item.own 0 (Ty.int IntKind.u8) x.2.1),some (Item.own 0 (Ty.int i64) x.2.2.1),some (Item.aZ [SV.arr (Ty.int IntKind.u8) 64 x.2.2.2] 31)]⟩)
def D6(n:Int)(i:Int)(f:(Int×List Int)×Bool×Bool×Int)(b:List Int)(er:List Int)(c:List (List Int)×Int)(z:
 List Int) (x:Int×Int×Int×Int×List Int) (l:List Int):Tr (zj⊕(BR⊕BS)):=(.ite (decide (i<n)) (.need (0≤i∧i<
 (↑l.length:Int)) (.need (pt c (l.getD i.toNat 0) x.snd.snd.fst (vZ f) b er) (.ite ((LX i f b er c x l).snd.snd==0) (.ret (.inr (.inl
 (l.getD i.toNat 0,0,f,b,er,(LX i f b er c x l).snd.fst)))) (.ret (.inl (n,i64.wrap (i+1),f,b,er,c,z,x,l)))))) (.ret (.inr
 (.inr (f,b,er,z)))))
abbrev pH(n:Int)(i:Int)(f:(Int×List Int)×Bool×Bool×Int)(b:List Int)(er:List Int)(c:List (List Int)×Int)(z:List Int)(x:Int×Int×Int×Int×List Int)(l:List Int):Prop:=0≤i∧i≤n∧n=l.length∧n<1099511627776∧iy b er∧aA b∧vh c.1
abbrev LY(n:Int)(i:Int)(f:(Int×List Int)×Bool×Bool×Int)(b:List Int)(er:List Int)(c:List (List Int)×Int)(z:List Int)(x:Int×Int×Int×Int×List Int)(l:List Int):Bool:=decide ((rA f b er c x.2.2.1 (l.drop i.toNat)).2.2=0)
abbrev LZ(n:Int)(i:Int)(f:(Int×List Int)×Bool×Bool×Int)(b:List Int)(er:List Int)(c:List (List Int)×Int)(z:List Int)(x:Int×Int×Int×Int×List Int)(l:List Int):BR:=((rA f b er c x.2.2.1 (l.drop i.toNat)).1,0,f,b,er,(rA f b er c x.2.2.1 (l.drop i.toNat)).2.1)
abbrev L0(n:Int)(i:Int)(f:(Int×List Int)×Bool×Bool×Int)(b:List Int)(er:List Int)(c:List (List Int)×Int)(z:List Int)(x:Int×Int×Int×Int×List Int)(l:List Int):BS:=(f,b,er,z)
abbrev SJ:zj→aV:=qA (fun x_=>pH x_.1 x_.2.1 x_.2.2.1 x_.2.2.2.1 x_.2.2.2.2.1 x_.2.2.2.2.2.1 x_.2.2.2.2.2.2.1 x_.2.2.2.2.2.2.2.1 x_.2.2.2.2.2.2.2.2) (fun x_=>LY x_.1 x_.2.1 x_.2.2.1 x_.2.2.2.1 x_.2.2.2.2.1 x_.2.2.2.2.2.1 x_.2.2.2.2.2.2.1 x_.2.2.2.2.2.2.2.1 x_.2.2.2.2.2.2.2.2) (fun x_=>LZ x_.1 x_.2.1 x_.2.2.1 x_.2.2.2.1 x_.2.2.2.2.1 x_.2.2.2.2.2.1 x_.2.2.2.2.2.2.1 x_.2.2.2.2.2.2.2.1 x_.2.2.2.2.2.2.2.2) (fun x_=>L0 x_.1 x_.2.1 x_.2.2.1 x_.2.2.2.1 x_.2.2.2.2.1 x_.2.2.2.2.2.1 x_.2.2.2.2.2.2.1 x_.2.2.2.2.2.2.2.1 x_.2.2.2.2.2.2.2.2) Wz WA
theorem Qx(n:Int)(i:Int)(f:(Int×List Int)×Bool×Bool×Int)(b:List Int)(er:List Int)(c:List (List Int)×Int)(z:List Int)(x:Int×Int×Int×Int×List Int)(l:List Int)(h_:pH n i f b er c z x l):dB (fun x_:zj=>D6 x_.1 x_.2.1 x_.2.2.1 x_.2.2.2.1 x_.2.2.2.2.1 x_.2.2.2.2.2.1 x_.2.2.2.2.2.2.1 x_.2.2.2.2.2.2.2.1 x_.2.2.2.2.2.2.2.2) (n,i,f,b,er,c,z,x,l) (bif LY n i f b er c z x l then .inl (LZ n i f b er c z x l)else .inr (L0 n i f b er c z x l)):=by
 delta LY LZ L0;obtain⟨h1,h2,rfl,h4,h5⟩:=h_;obtain⟨k,rfl⟩:∃m:Nat,i=m:=⟨i.toNat,by omega⟩;obtain⟨j,hj⟩:∃j,l.length-k=j:=⟨_,rfl⟩;rw[Int.toNat_natCast]
 induction j generalizing k with
 |zero=>
  refine .stop ?_;have c:¬ (k:Int)<l.length:=by omega
  rw[List.drop_of_length_le (by omega)];simp[D6,c,az,ai,rA]
 |succ j ih=>
  have c1:(k:Int)<l.length:=by omega
  rw[iO 0 (by omega),rA];have hp:∀s g,pt c s g f b er:=fun _ _=>h5
  by_cases c2:(Bn f b er c (l.getD k 0) x.2.2.1).2.2=0
  ·rw[if_pos c2];refine .stop ?_;simp only[D6,vZ,aC,ah,aG,ai,Int.toNat_natCast];exact⟨fun _=>⟨by omega,hp _ _,fun _=>rfl,fun h=>absurd c2 h⟩,fun h=>absurd c1 h⟩
  ·rw[if_neg c2];refine .go ?_ (ih (k+1) (by omega) (by omega) (by omega));simp only[D6,vZ,aC,ah,aG,ai,Int.toNat_natCast];exact⟨fun _=>⟨by omega,hp _ _,fun h=>absurd h c2,fun _=>by rw[ar (by omega) (by omega)];rfl⟩,fun h=>absurd c1 h⟩
theorem L1(y_):∀x:zj,Ex Tryz.prog ((oV).wr y_) (.loop (aY f18 1)) (SG.wr x) (SJ x):=
 cJ mixed ((aj D5 (aj Dx aw))) (ws:=ab5) (aS.nil _) (fun _=>by kernel_rfl) (fun z=>by cases z<;>(intro e;cases e)) tX (fun x_ h=>Qx x_.1 x_.2.1 x_.2.2.1 x_.2.2.2.1 x_.2.2.2.2.1 x_.2.2.2.2.2.1 x_.2.2.2.2.2.2.1 x_.2.2.2.2.2.2.2.1 x_.2.2.2.2.2.2.2.2 h)
def gq(f:(Int×List Int)×Bool×Bool×Int):(Int×List Int)×Bool×Bool×Int:=f
def BT(c:List (List Int)×Int)(f:(Int×List Int)×Bool×Bool×Int)(b:List Int)(er:List Int):List Int:= [(dW
 (gq f) b er c).fst.fst,i64.wrap (1-(dW (gq f) b er c).fst.fst)]
def v5(c:List (List Int)×Int)(f:(Int×List Int)×Bool×Bool×Int)(b:List Int)(er:List Int):Int×List Int×Int
 :=rA (gq f) b er c (dW (gq f) b er c).fst.snd.snd.fst (List.drop 0 (BT c f b er))
abbrev D7:Type:=Int×(List Int)×Int
abbrev ab6(x:D7):LV:=LV.bV [VV.sc (SV.int i64 (SI.sym x.1)),VV.agg [SV.arr (Ty.int IntKind.u8) 64 x.2.1],VV.sc
 (SV.int i64 (SI.sym x.2.2))]
abbrev ab7(x:D7):List (Nat×Ev.Item):= []
def SK(c:List (List Int)×Int)(f:(Int×List Int)×Bool×Bool×Int)(b:List Int)(er:List Int):Tr (D7):=(.need
 (pG c (gq f) b er) (.ite ((dW (gq f) b er c).snd !=0) (.ret ((-1),List.replicate 64 (0:Int),(dW (gq f) b er c).snd)) (.ite
 ((dW (gq f) b er c).fst.fst==(-1)) (.ret ((-1),List.replicate 64 (0:Int),13)) (.need (pH 2 0 (gq f) b er c (List.replicate 64 (0:
 Int)) (dW (gq f) b er c).fst (BT c f b er)) (.ite (decide ((v5 c f b er).snd.snd=0)) (.ret ((v5 c f b er).fst,(v5 c f b
 er).snd.fst,0)) (.ret ((-1),List.replicate 64 (0:Int),13)))))))
def k7(f:Fl)(b er:List Int)(c:List (List Int)×Int):Int×List Int×Int:=
 if(dW f b er c).2≠0 then(-1,List.replicate 64 0,(dW f b er c).2)else if(dW f b er c).1.1= -1 then(-1,List.replicate 64 0,13)else rA f b er c (dW f b er c).1.2.2.1 [(dW f b er c).1.1,1-(dW f b er c).1.1]
abbrev v7(c:List (List Int)×Int)(f:Fl)(b er:List Int):Prop:=iy b er∧aA b∧vh c.1
abbrev L2(c:List (List Int)×Int)(f:Fl)(b er:List Int):D7:=k7 f b er c
def ab8:al:=bD [none,some (.arr u8 32)] (Ih) (oV) (q3∘q1 v7) (q3∘q1 L2) ab6 ab7
theorem Qy(c:List (List Int)×Int)(f:Fl)(b er:List Int)(h_:v7 c f b er):(SK c f b er).Is (L2 c f b er):=by
 delta L2;obtain⟨h1,h2,h3⟩:=h_;have hb:pG c f b er:=⟨h1,h2⟩
 have hs: -1≤(dW f b er c).1.1∧(dW f b er c).1.1≤1:=by
  unfold dW
  split
  ·exact⟨by decide,by decide⟩
  ·split
   ·exact⟨by decide,by decide⟩
   ·exact(rz (cn b (0,2)).2 LU).slot
 have hw:i64.wrap (1-(dW f b er c).1.1)=1-(dW f b er c).1.1:=ar (by omega) (by omega);have hp:pH 2 0 f b er c (List.replicate 64 0) (dW f b er c).1 [(dW f b er c).1.1,1-(dW f b er c).1.1]:=⟨by decide,by decide,rfl,by decide,h1,h2,h3⟩;simp only[SK,gq,BT,v5,hw,List.drop_zero,ah,aE,aG,aC,ai,k7];refine⟨hb,fun c1=>⟨fun c2=>?_,fun c2=>⟨hp,fun c3=>?_,fun c3=>?_⟩⟩,fun c1=>?_⟩
 ·rw[if_neg (by simpa using c1),if_pos c2]
 ·rw[if_neg (by simpa using c1),if_neg c2];exact Prod.ext rfl (Prod.ext rfl c3.symm)
 ·rw[if_neg (by simpa using c1),if_neg c2];exact(zi c3).symm
 ·rw[if_pos c1]
theorem Qz:ab8.Ok Tryz.prog 18:=
 a5 mixed ((aj D5 (aj Dx aw))) func18 (by kernel_rfl) call18 (LT:=fun _ y_=> [(1,fh SG ((oV).wr y_) SH SJ)]) (ks:=fH) (fun _ y_=>aS.bW (kQ (by kernel_rfl) (b8 (L1 y_)) ly)) (fun _ _=>by kernel_rfl) fun x_ y_ h=>Qy x_.1 y_.1 y_.2.1 y_.2.2.1 h
abbrev D8:Type:=Int
abbrev ab9(x:D8):LV:=LV.one (VV.sc (SV.int i64 (SI.sym x)))
abbrev aca(x:D8):List (Nat×Ev.Item):= []
def SL(s:Int)(f:(Int×List Int)×Bool×Bool×Int)(b:List Int)(er:List Int):Tr (D8):=(.ite (decide (s<0)==
 false) (.ite (decide ((↑er.length:Int)≤s)) (.ret (0)) (.need (0≤s∧s<(↑er.length:Int)) (.ret (er.getD s.toNat 0)))) (.ret (0)))
abbrev v8(s:Int)(f:Fl)(b er:List Int):Prop:=True
abbrev L3(s:Int)(f:Fl)(b er:List Int):D8:=(if 0≤s∧s<er.length then er.getD s.toNat 0 else 0)
def acb:al:=bD [] ((aq (ak (a6 0 0)) (ab (ak (ay .i64)) ae))) (oV) (q3∘q1 v8) (q3∘q1 L3) ab9 aca
theorem QA(s:Int)(f:Fl)(b er:List Int)(h_:v8 s f b er):(SL s f b er).Is (L3 s f b er):=by
 delta L3;simp only[SL,ah,aI,aL,aU,aJ,aC,aE,aM,aK,aN,a7,a9,aG,aD,ai]
 try simp only[az,ah,aI,aL,aU,aJ,aC,aE,aM,aK,aN,a7,a9,aG,aD,ai]
 grind [ar]
theorem D9:acb.Ok Tryz.prog 30:=
 a5 mixed aw func30 (by kernel_rfl) call30 (ks:=fH) (fun _ _=>aS.nil _) (fun _ _=>by kernel_rfl) fun x_ y_ h=>QA x_.1 y_.1 y_.2.1 y_.2.2.1 h
end Go.Proofs.YtmhcoaflmgajhaaGreat
end
noncomputable section
namespace Go.Ev
open Go
open Go.IntKind (i64 signed u32 u64 wrap wrap_u32)
def tg{Z:Type}(p:Prop)(V:Z→LV)(D:Z→List (Nat×Item)):Tr Z→Out
 | .ret z=>.leaf (some p) (V z) (D z)
 | .ite b t e=>.ite b (tg p V D t) (tg p V D e)
 | .need q t=>tg (p∧q) V D t
 | .fail=>.fail
theorem gN{Z:Type}{V:Z→LV}{D:Z→List (Nat×Item)}{Q:LV→List (Nat×Item)→Prop}:∀ {t:Tr Z} {p:Prop},(tg p V D t).holds Q→p∧∃z,t.Is z∧Q (V z) (D z)
 | .ret z,_,h=>⟨h.1,z,rfl,h.2⟩
 | .ite true t e,_,h=>by
  obtain⟨h1,z,h2,h3⟩:=gN (h.1 rfl);exact⟨h1,z,⟨fun _=>h2,fun e=>by cases e⟩,h3⟩
 | .ite false t e,_,h=>by
  obtain⟨h1,z,h2,h3⟩:=gN (h.2 rfl);exact⟨h1,z,⟨fun e=>(by cases e),fun _=>h2⟩,h3⟩
 | .need q t,p,h=>by
  obtain⟨h1,z,h2,h3⟩:=gN (t:=t) (p:=p∧q) h;exact⟨h1.1,z,⟨h1.2,h2⟩,h3⟩
 | .fail,_,h=>h.elim
theorem gO{Z:Type}{V:Z→LV}{D:Z→List (Nat×Item)}{Q:LV→List (Nat×Item)→Prop}{z:Z}(hq:Q (V z) (D z)):∀ {t:Tr Z} {p:Prop},p→t.Is z→(tg p V D t).holds Q
 | .ret _,_,hp,h=>by cases h;exact⟨hp,hq⟩
 | .ite _ _ _,_,hp,h=>⟨fun e=>gO hq hp (h.1 e),fun e=>gO hq hp (h.2 e)⟩
 | .need q t,p,hp,h=>gO (t:=t) (p:=p∧q) hq ⟨hp,h.1⟩ h.2
 | .fail,_,_,h=>h.elim
def L4{X Y Z:Type}(jx:List (Option Ty))(A:aH (List LV) X)(H:aH Hp Y)(pre:X→Y→Prop)(S:X→Y→Tr Z)(V:Z→LV)(D:Z→List (Nat×Item)):al:=al.cl jx A H fun x y=>tg (pre x y) V D (S x y)
theorem L5{P:Program}(fb:P.follows .mixedOrders=true){tab:List (FuncId×al)}(iu:∀p∈tab,p.2.Ok P p.1){f:FuncId}{fn:Func}(hf:P.funcs[f]? =some fn)(hb:fn.body.isSome=true)(he:jU P f){jx:List (Option Ty)}{X Y Z:Type}{A:aH (List LV) X}{H:aH Hp Y}
  {LT:X→Y→dd} (hL:∀x y,aS P (H.wr y) (LT x y) (cE fn)) {ks:List Wk} {V:Z→LV} {D:Z→List (Nat×Item)} {T S:X→Y→Tr Z} {pre:X→Y→Prop}
  (hT:∀x y,bc P tab (LT x y) fn (A.wr x) (H.wr y) ks=(T x y).end V D (H.wr y)) (hI:∀x y,pre x y→∀z,(S x y).Is z→(T x y).Is z):
  (L4 jx A H pre S V D).Ok P f:=
 HL fb iu hf hb he hL hT fun x y _ h=>by
  obtain⟨h1,z,h2,h3⟩:=gN h;exact⟨z,hI x y h1 z h2,h3⟩
theorem Ea{P:Program}{f:FuncId}{jx:List (Option Ty)}{X Y Z W:Type}{A:aH (List LV) X}{H:aH Hp Y}{pre Nf:X→Y→Prop}{S:X→Y→Tr Z}{V:Z→LV}{D:Z→List (Nat×Item)}{sp:X→Y→W}{V':W→LV}{D':W→List (Nat×Item)}
  (h:(L4 jx A H pre S V D).Ok P f) (inj:W→Z) (hV:∀w,V (inj w)=V' w) (hD:∀w,D (inj w)=D' w) (hS:∀x y,Nf x y→pre x y∧(S x y).Is (inj (sp x y))):(bD jx A H Nf sp V' D').Ok P f:=by
 refine⟨fun args hp Q hq=>h.calls args hp Q ?_⟩;simp only[bD,L4,al.cl,al.sym,al.of]at hq ⊢
 split at hq
 ·rename_i x y hx hy;obtain⟨h1,h2⟩:=hS x y hq.1;exact gO (by rw[hV,hD];exact hq.2) h1 h2
 ·exact hq.elim
end Go.Ev
end
