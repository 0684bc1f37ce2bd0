/- What the laws lean on, part 12: a reader of code, plain facts, and what each function gives; no conditions. -/
import Derived.WalkKit
import Derived.Lib.Walk
import Derived.Lib.SliceRun
import Derived.Test.YtliehnnljilacaaGreatA11
noncomputable section
open Go.IntKind (i64 signed u16 u32 u64 wrap wrap_u32)
set_option linter.unusedVariables false
set_option linter.unusedSimpArgs false
namespace Go.Proofs.YtliehnnljilacaaGreat
open Go Go.Ev Go.Proofs.Tryz
set_option maxRecDepth 1000000
def aAY(x:Int):Tr af4:=.need (1≤70368744177664∧1≤70368744177664) (.need (2≤70368744177664∧2≤70368744177664) (.need (3≤70368744177664∧3≤70368744177664) (.need (4≤70368744177664∧4≤70368744177664) (.need (5≤70368744177664∧5≤70368744177664) (.need (6≤70368744177664∧6≤70368744177664) (.need (7≤70368744177664∧7≤70368744177664) (.need (8≤70368744177664∧8≤70368744177664) (.ret ([IntKind.u8.wrap (shr u64 x 0)]++ [IntKind.u8.wrap (shr u64 x 8)]++ [IntKind.u8.wrap (shr u64 x 16)]++[IntKind.u8.wrap (shr u64 x 24)]++ [IntKind.u8.wrap (shr u64 x 32)]++ [IntKind.u8.wrap (shr u64 x 40)]++ [IntKind.u8.wrap (shr u64 x 48)]++ [IntKind.u8.wrap (shr u64 x 56)])))))))))
abbrev iq(x:Int):Prop:=0≤x∧x<18446744073709551616
abbrev ajb(x:Int):af4:=gF 8 x
def aPu:bT:=cj [] ((bD (bO (bX .u64)) bG)) bG (q0∘q1 iq) (q0∘q1 ajb) aEK aEL
theorem at4:abY iq aAY ajb:=by
 intro x h_;delta ajb;obtain⟨h1,h2⟩:=h_;have e:∀i:Nat,i<8→IntKind.u8.wrap (shr .u64 x (8*i:Nat))=x/256 ^ i%256:=by
  intro i hi;have e1:((2 ^ (8*i):Nat):Int)=256 ^ i:=by rw[Nat.pow_mul,Int.natCast_pow];rfl
  rw[wo .u64 x (8*i) (by simp[IntKind.bits];omega),wrap_u8,e1]
 simp only[aAY,bF,bH];refine⟨by omega,by omega,by omega,by omega,by omega,by omega,by omega,by omega,?_⟩;rw[wI,← List.map_congr_left (fun i hi=>e i (by simpa using hi))];rfl
theorem Yr:aPu.Ok aA 162:=ay bU func162 call162 (ks:= [.pN,.fr [.rd true u8],.fr [.sym],.cu,.bS,.ck]) (fun x_ _=>@at4 x_.1)
abbrev QM:Type:=Int×ab×Int×Int
abbrev aAZ:cl St QM:=(dy (jk 3 (bD (bO (bX u64)) (jk 3 (bD (bO (gx false false ae)) (bD (bO (bX i64)) (bD (bO (bX i64)) (jk 13 bG))))))) bG).jr (fun y=>(y.1.1,y.1.2.1,y.1.2.2.1,y.1.2.2.2.1)) (fun x=>((x.1,(x.2.1,(x.2.2.1,(x.2.2.2,())))),())) (fun _=>rfl)
abbrev aA0:List Wk:= [.fr (eH 23 [(3,.bV),(7,.bV),(8,.bV),(9,.bV)]),.cu,.bS,.ck]
abbrev aPv:Exit→List Wk:=ua aA0 0 [.fr (eH 23 [(3,.bV)]),.cu,.bS,.ck] [.fr (eH 23 [(2,.bV)]),.cu,.bS,.ck]
abbrev aPw(x:sk):Exit×St:=(Exit.exit 0,⟨(gE 3 (LV.one (VV.sc (SV.int u64 (SI.sym x)))::(gE 19 []))),[]⟩)
def ajd(x:Int)(l:ab)(n i:Int):Tr (QM⊕(sk)):=.ite (decide (i<n)) (.need (0≤i∧i<(↑l.length:Int)) (.need (0≤i64.wrap (8*i)) (.ret (.inl (cV u64 x (shl u64 (u64.wrap (l.getD i.toNat 0)) (i64.wrap (8*i))),l,n,i64.wrap (i+1)))))) (.ret (.inr x))
abbrev JY(x:Int)(l:ab)(n i:Int):Prop:=l.length=8∧bL l∧n=l.length∧0≤i∧i≤8∧x=eV (l.take i.toNat)
abbrev aje(x:Int)(l:ab)(n i:Int):sk:=eV l
abbrev aA1:QM→cT:=gX (aD JY) (aD aje) aPw
theorem at5:aeW JY ajd aje:=by
 intro x l n i h_;delta aje;obtain⟨h1,h2,rfl,h4,h5,rfl⟩:=h_;obtain⟨k,rfl⟩:∃m:Nat,i=m:=⟨i.toNat,by omega⟩;obtain⟨j,hj⟩:∃j,8-k=j:=⟨_,rfl⟩;rw[Int.toNat_natCast];induction j generalizing k with
 |zero=>
  refine .stop ?_;have c:¬ (k:Int)<l.length:=by omega
  rw[List.take_of_length_le (by omega)];simp[ajd,c,bY,bH]
 |succ j ih=>
  have c:(k:Int)<l.length:=by omega
  refine .go ?_ (ih (k+1) (by omega) (by omega) (by omega));have e:=aAf h2 h1 (show k<8 by omega);simp only[ajd,c,Int.toNat_natCast,e,bF,cv,cA,cD,cz,bW,b9,cC,cy,cx,cZ,cQ,cd,cm,bH];try simp only[bY,bF,cv,cA,cD,cz,bW,b9,cC,cy,cx,cZ,cQ,cd,cm,bH]
  rw[bM (n:=(k:Int)+1) (by omega) (by omega),bM (by omega) (by omega)];simp;omega
theorem ajf(y_):∀x:QM,Ex aA (bG.wr y_) (.loop (cG f207 0)) (aAZ.wr x) (aA1 x):=ee bJ bU (ws:=aPv) (cn.nil _) (fun _=>by kernel_rfl) (fun z e=>by cases e) im (aS @at5)
abbrev aPx(x:sk):LV:=LV.one (VV.sc (SV.int u64 (SI.sym x)))
def aA2(b:ab):Tr sk:=(.need ((0:Int)≤0∧(0:Int)≤8∧8≤(↑b.length:Int)) (.need (JY 0 (List.take 8 (List.drop 0 b)) (↑(List.take 8 (List.drop 0 b)).length:Int) 0) (.ret (eV (List.take 8 (List.drop 0 b))))))
abbrev xa(b:ab):Prop:=8≤b.length∧bL b
abbrev ajg(b:ab):sk:=eV (b.take 8)
def aPz:bT:=cj [some u8] bA bG (q0∘q1 xa) (q0∘q1 ajg) aPx aEE
theorem at6:abY xa aA2 ajg:=by
 intro b h_;delta ajg;obtain⟨h1,h2⟩:=h_;simp only[aA2,bF,bH,List.drop_zero];simp;have hl:(b.take 8).length=8:=by rw[List.length_take];omega
 exact⟨by omega,hl,h2.take 8,by rw[List.length_take],by omega,by omega,rfl⟩
theorem Yt:aPz.Ok aA 207:=az bU func207 call207 (ks:=eU) aAZ aA0 aA1 ajf (fun x_ _=>@at6 x_.1)
def aA3(b:ab):Tr sk:=.need (xa b) (.ite (decide (eV (List.take 8 b)≤2147483647)) (.ret (i64.wrap (eV (List.take 8 b)))) (.ret ((-1))))
def aA4(n:Int):Tr IE:=.ite (decide (0≤n)==true) (.ret (decide (n≤2147483647))) (.ret false)
abbrev xc(n:Int):Prop:=True
abbrev ajh(n:Int):IE:=decide (0≤n∧n≤2147483647)
def aPE:bT:=cj [] inA bG (q0∘q1 xc) (q0∘q1 ajh) aEH aEI
theorem at7:abY xc aA4 ajh:=by
 intro n h_;delta ajh;simp only[aA4,bF,cv,cA,cD,cz,bW,b9,cC,cy,cx,cZ,cQ,cd,cm,bH];try simp only[bY,bF,cv,cA,cD,cz,bW,b9,cC,cy,cx,cZ,cQ,cd,cm,bH]
 grind [bM]
theorem Yw:aPE.Ok aA 161:=ay bU func161 call161 (ks:=eU) (fun x_ _=>@at7 x_.1)
def xd(b:ab):Int:=if eV (b.take 8)≤2147483647 then eV (b.take 8)else-1
abbrev xe(b:ab):Prop:=8≤b.length∧bL b
abbrev aji(b:ab):sk:=xd b
def aPF:bT:=cj [some u8] bA bG (q0∘q1 xe) (q0∘q1 aji) aED aEE
theorem at8:abY xe aA3 aji:=by
 intro b h_;delta aji;have h:8≤b.length∧bL b:=h_;have hr:=(jW (h.2.take 8) (by rw[List.length_take];omega)).1;simp only[aA3,xd,bF,cv,cA,cD,cz,bW,b9,cC,cy,cx,cZ,cQ,cd,cm,bH];try simp only[bY,bF,cv,cA,cD,cz,bW,b9,cC,cy,cx,cZ,cQ,cd,cm,bH]
 grind [bM]
theorem Yx:aPF.Ok aA 208:=ay (bI Yt bU) func208 call208 (ks:=eU) (fun x_ _=>@at8 x_.1)
abbrev Cm:Type:=Int×Int×Int×Int×ab
abbrev cCm{Y:Type}(r:cl (List SV) Y):cl (List SV) (Int×Int×Int×Int×ab×Y):=bD (bX .i64) (bD (bX .u64) (bD (bX .u64) (bD (bX .i64) (bD (oa u8 64) r))))
abbrev cmA:cl (List LV) (Cm×Unit):=bD (jf ((cCm bG).jr (fun x=>(x.1,x.2.1,x.2.2.1,x.2.2.2.1,x.2.2.2.2.1)) (fun y=>(y.1,y.2.1,y.2.2.1,y.2.2.2.1,y.2.2.2.2,())) (fun _=>rfl))) bG
def tE(c:Int×Int×Int×Int×ab):ab:= [gF 8 (u64.wrap c.1),gF 8 c.2.1,gF 8 c.2.2.1,gF 8 (u64.wrap c.2.2.2.1),List.take 64 (List.drop 0 c.2.2.2.2)].flatten
def ajj(c:Int×Int×Int×Int×ab):Tr af4:=.ite (decide (c.1<0)==false) (.ite (decide (1<c.1)==false) (.need (xc c.2.2.2.1) (.ite (!decide (0≤c.2.2.2.1∧c.2.2.2.1≤2147483647)) (.ret ([])) (.need (iq (u64.wrap c.1)) (.need (iq c.2.1) (.need (iq c.2.2.1) (.need (iq (u64.wrap c.2.2.2.1)) (.need ((0:Int)≤0∧(0:Int)≤64∧(64:Int)≤64) (.need ((tE c).length≤70368744177664∧5≤140737488355328) (.ret (tE c)))))))))) (.ret ([]))) (.ret ([]))
abbrev ajk(c:Cm):Prop:=0≤c.1∧c.1≤1∧0≤c.2.2.2.1∧c.2.2.2.1≤2147483647
def nJ(c:Cm):ab:=if ajk c then gF 8 c.1++(gF 8 c.2.1++(gF 8 c.2.2.1++(gF 8 c.2.2.2.1++c.2.2.2.2.take 64)))else []
abbrev vg(x:Int):Prop:=0≤x∧x<18446744073709551616
abbrev nK(c:Cm):Prop:=vg c.2.1∧vg c.2.2.1
abbrev Ua(c:Cm):af4:=nJ c
def aGY:bT:=cj [] cmA bG (q0∘q1 nK) (q0∘q1 Ua) aEK aEL
theorem ajl:abY nK ajj Ua:=by
 intro c h_;delta Ua;obtain⟨h1,h2⟩:=h_;have e1:ajk c→u64.wrap c.1=c.1:=fun h=>by rw[wrap_u64 (by omega) (by omega)]
 have e2:ajk c→u64.wrap c.2.2.2.1=c.2.2.2.1:=fun h=>by rw[wrap_u64 (by omega) (by omega)]
 have hl:(tE c).length≤96:=by
  unfold tE;simp only[List.flatten_cons,List.flatten_nil,List.append_nil,List.length_append,List.length_take,ib];omega
 have ea:ajk c→tE c=gF 8 c.1++(gF 8 c.2.1++(gF 8 c.2.2.1++(gF 8 c.2.2.2.1++c.2.2.2.2.take 64))):=fun h=>by
  unfold tE;rw[e1 h,e2 h];simp
 simp only[ajj,nJ,bF,cv,cD,bH];grind
theorem Eh:aGY.Ok aA 117:=ay (bI Yw (bI Yr (bI uU bU))) func117 call117 (ks:= [.pN,.fr [.rd true u8],.fr [.sym],.cu,.bS,.ck]) (fun x_ _=>@ajl x_.1)
def Ub(b:ab):Cm:=(b.getD 0 0,eV ((b.drop 8).take 8),eV ((b.drop 16).take 8),xd (b.drop 24),(b.drop 32).take 64)
def Uc:Cm:=(0,0,0,0,List.replicate 64 0)
def mh(b:ab):Cm×Bool:=if b.length=96∧gP (nJ (Ub b)) b=true then(Ub b,true)else(Uc,false)
def Bd(b:ab):Int×Int×Int×Int×ab:=(i64.wrap (b.getD 0 0),eV (List.take 8 (List.take ((↑b.length:Int)-8).toNat (List.drop 8 b))),eV (List.take 8 (List.take ((↑b.length:Int)-16).toNat (List.drop 16 b))),xd (List.take ((↑b.length:Int)-24).toNat (List.drop 24 b)),List.take 64 (List.drop 0 (List.take ((↑b.length:Int)-32).toNat (List.drop 32 b))))
abbrev J0:Type:=Int×Int×Int×Int×ab×Bool
abbrev aGZ(x:J0):LV:=LV.dB [VV.agg [ar x.1,SV.int u64 (SI.sym x.2.1),SV.int u64 (SI.sym x.2.2.1),ar x.2.2.2.1,SV.arr ae 64 x.2.2.2.2.1],VV.sc (au x.2.2.2.2.2)]
abbrev aG0(x:J0):List ao:= []
def ajm(b:ab):Tr J0:=.ite ((↑b.length:Int)!=96) (.ret (0,0,0,0,List.replicate 64 (0:Int),false)) (.need ((0:Int)≤0∧0<(↑b.length:Int)) (.need ((0:Int)≤8∧8≤(↑b.length:Int)∧(↑b.length:Int)≤(↑b.length:Int)) (.need (xa (List.take ((↑b.length:Int)-8).toNat (List.drop 8 b))) (.need ((0:Int)≤16∧16≤(↑b.length:Int)∧(↑b.length:Int)≤(↑b.length:Int)) (.need (xa (List.take ((↑b.length:Int)-16).toNat (List.drop 16 b))) (.need ((0:Int)≤24∧24≤(↑b.length:Int)∧(↑b.length:Int)≤ (↑b.length:Int)) (.need (xe (List.take ((↑b.length:Int)-24).toNat (List.drop 24 b))) (.need ((0:Int)≤32∧32≤(↑b.length:Int)∧(↑b.length:Int)≤(↑b.length:Int)) (.need (64≤(List.take ((↑b.length:Int)-32).toNat (List.drop 32 b)).length) (.need (64≤(List.take ((↑b.length:Int)-32).toNat (List.drop 32 b)).length) (.need (nK (Bd b)) (.ite (!gP (nJ (Bd b)) b) (.ret (0,0,0,0,List.replicate 64 (0:Int),false)) (.ret (i64.wrap (b.getD 0 0),eV (List.take 8 (List.take ((↑b.length:Int)-8).toNat (List.drop 8 b))),eV (List.take 8 (List.take ((↑b.length:Int)-16).toNat (List.drop 16 b))),xd (List.take ((↑b.length:Int)-24).toNat (List.drop 24 b)),List.take 64 (List.drop 0 (List.take ((↑b.length:Int)-32).toNat (List.drop 32 b))),true))))))))))))))
theorem nf{α:Type}(b:List α){n:Nat}{k:Int}(h:k.toNat=n):List.take ((b.length:Int)-k).toNat (b.drop n)=b.drop n:=List.take_of_length_le (by rw[List.length_drop];omega)
abbrev cmT(x:Cm×Bool):Int×Int×Int×Int×ab×Bool:=(x.1.1,x.1.2.1,x.1.2.2.1,x.1.2.2.2.1,x.1.2.2.2.2,x.2)
theorem Be(b:ab):vg (eV b):=by
 cases b with
 |nil=>exact⟨by decide,by decide⟩
 |cons x l=>rw[eV,tr];exact⟨by omega,by omega⟩
abbrev xf(b:ab):Prop:=bL b∧b.length<1099511627776
abbrev Ud(b:ab):J0:=cmT (mh b)
def aG1:bT:=cj [some u8] bA bG (q0∘q1 xf) (q0∘q1 Ud) aGZ aG0
theorem ajn:abY xf ajm Ud:=by
 intro b h_;delta Ud;obtain⟨h1,h2⟩:=h_;have b0:=h1.getD 0;have w0:i64.wrap (b.getD 0 0)=b.getD 0 0:=by unfold By at b0;rw[bM (by omega) (by omega)]
 have hd:∀n,(b.drop n).length=b.length-n:=fun n=>List.length_drop;have ha:∀n,bL (b.drop n):=fun n=>h1.drop n;have e0:Bd b=Ub b:=by unfold Bd Ub;simp only[w0,nf,List.drop_zero,Int.reduceToNat]
 have hp:nK (Ub b):=⟨Be _,Be _⟩;simp only[ajm,e0,w0,nf,Int.reduceToNat,bF,b9,cm,bH,List.drop_zero];unfold mh cmT;have ec:Ub b=(b.getD 0 0,eV ((b.drop 8).take 8),eV ((b.drop 16).take 8),xd (b.drop 24),(b.drop 32).take 64):=rfl;have h8:=hd 8;have h16:=hd 16;have h24:=hd 24;have h32:=hd 32;have a8:=ha 8;have a16:=ha 16;have a24:=ha 24;clear hd ha;by_cases c:b.length=96
 ·cases c2:gP (nJ (Ub b)) b<;>grind [Uc]
 ·have c':¬ (b.length:Int)=96:=by omega
  simp[c,c',Uc]
theorem ajo:aG1.Ok aA 170:=ay (bI Yt (bI Yx (bI wJ (bI Eh bU)))) func170 call170 (ks:=eU) (fun x_ _=>@ajn x_.1)
def ki(x:Int)(b:ab):Int:=b.foldl (fun x c=>cV .u64 (shl .u64 x 8) (u64.wrap c)) x
abbrev QN:Type:=Int×ab×Int×Int
abbrev aA5:cl St QN:=(dy (jk 3 (bD (bO (bX u64)) (jk 3 (bD (bO (gx false false ae)) (bD (bO (bX i64)) (bD (bO (bX i64)) (jk 10 bG))))))) bG).jr (fun y=>(y.1.1,y.1.2.1,y.1.2.2.1,y.1.2.2.2.1)) (fun x=>((x.1,(x.2.1,(x.2.2.1,(x.2.2.2,())))),())) (fun _=>rfl)
abbrev aA6:List Wk:= [.fr (eH 20 [(3,.bV),(7,.bV),(8,.bV),(9,.bV)]),.cu,.bS,.ck]
abbrev aPG:Exit→List Wk:=ua aA6 0 [.fr (eH 20 [(3,.bV)]),.cu,.bS,.ck] [.fr (eH 20 [(2,.bV)]),.cu,.bS,.ck]
abbrev aPH(x:sk):Exit×St:=(Exit.exit 0,⟨(gE 3 (LV.one (VV.sc (SV.int u64 (SI.sym x)))::(gE 16 []))),[]⟩)
def ajq(x:Int)(l:ab)(n i:Int):Tr (QN⊕(sk)):=.ite (decide (i<n)) (.need (0≤i∧i<(↑l.length:Int)) (.ret (.inl (cV u64 (shl u64 x 8) (u64.wrap (l.getD i.toNat 0)),l,n,i64.wrap (i+1))))) (.ret (.inr x))
abbrev J1(x:Int)(l:ab)(n i:Int):Prop:=0≤i∧i≤n∧n=l.length∧n<1099511627776
abbrev ajr(x:Int)(l:ab)(n i:Int):sk:=ki x (l.drop i.toNat)
abbrev aA7:QN→cT:=gX (aD J1) (aD ajr) aPH
theorem at9:aeW J1 ajq ajr:=by
 intro x l n i h_;delta ajr;obtain⟨h1,h2,rfl,h4⟩:=h_;obtain⟨k,rfl⟩:∃m:Nat,i=m:=⟨i.toNat,by omega⟩;obtain⟨j,hj⟩:∃j,l.length-k=j:=⟨_,rfl⟩;rw[Int.toNat_natCast];induction j generalizing k x with
 |zero=>
  refine .stop ?_;have c:¬ (k:Int)<l.length:=by omega
  rw[List.drop_of_length_le (by omega)];simp[ajq,c,bY,bH,ki]
 |succ j ih=>
  have c:(k:Int)<l.length:=by omega
  have w:=ih (cV .u64 (shl .u64 x 8) (u64.wrap (l.getD k 0))) (k+1) (by omega) (by omega) (by omega);rw[gU 0 (by omega),ki,List.foldl_cons];refine .go ?_ w;simp only[ajq,c,Int.toNat_natCast,bF,cv,cA,cD,cz,bW,b9,cC,cy,cx,cZ,cQ,cd,cm,bH];try simp only[bY,bF,cv,cA,cD,cz,bW,b9,cC,cy,cx,cZ,cQ,cd,cm,bH]
  rw[bM (by omega) (by omega)];simp
theorem ajs(y_):∀x:QN,Ex aA (bG.wr y_) (.loop (cG f160 0)) (aA5.wr x) (aA7 x):=ee bJ bU (ws:=aPG) (cn.nil _) (fun _=>by kernel_rfl) (fun z e=>by cases e) im (aS @at9)
def aA8(b:ab):Tr sk:=(.need ((0:Int)≤0∧(0:Int)≤8∧8≤(↑b.length:Int)) (.need (J1 0 (List.take 8 (List.drop 0 b)) (↑(List.take 8 (List.drop 0 b)).length:Int) 0) (.ret (ki 0 (List.drop 0 (List.take 8 (List.drop 0 b)))))))
abbrev ir(b:ab):Prop:=8≤b.length
abbrev ajt(b:ab):sk:=ki 0 (b.take 8)
def aPK:bT:=cj [some u8] bA bG (q0∘q1 ir) (q0∘q1 ajt) aPx aEE
theorem aua:abY ir aA8 ajt:=by
 intro b h_;delta ajt;have h:8≤b.length:=h_;have hl:(b.take 8).length=8:=by rw[List.length_take];omega
 simp only[aA8,bF,bH,List.drop_zero];exact⟨by omega,⟨by omega,by omega,rfl,by omega⟩,trivial⟩
theorem Yz:aPK.Ok aA 160:=az bU func160 call160 (ks:=eU) aA5 aA6 aA7 ajs (fun x_ _=>@aua x_.1)
abbrev jHq:cl bE HH:=fe 136 cHH
abbrev QO:Type:=ab×ab×Int×Int×HH
abbrev aA9:cl St QO:=(dy (bD (bO (gx false false ae)) (jk 3 (bR (bO (cr (0) (0))) (jk 25 (bD (bO (gx false false ae)) (bD (bO (bX i64)) (bD (bO (bX i64)) (jk 28 bG)))))))) (bD (cb jHq) bG)).jr (fun y=>(y.1.1,y.1.2.1,y.1.2.2.1,y.1.2.2.2.1,y.2.1)) (fun x=>((x.1,(x.2.1,(x.2.2.1,(x.2.2.2.1,())))),(x.2.2.2.2,()))) (fun _=>rfl)
abbrev aBa:List Wk:= [.iN 0 1 8 .u64,.fr (eH 61 [(0,.bV),(4,.bV),(30,.bV),(31,.bV),(32,.bV)]),.cu,.bS,.ck]
abbrev aPL:Exit→List Wk:=ua aBa 0 [.iN 0 1 8 .u64,.fr (eH 61 [(0,.bV),(4,.bV)]),.cu,.bS,.ck] [.iN 0 1 8 .u64,.fr (eH 61 [(2,.bV),(3,.bV)]),.cu,.bS,.ck]
abbrev aG2(x:IE):Exit×St:=(Exit.ret,⟨(gE 2 (LV.one (VV.sc (SV.gm (Value.pointer none)))::(LV.one (VV.sc (SV.bool (SB.sym x)))::(gE 57 [])))),[]⟩)
abbrev Uf:Type:=ab×HH
abbrev aG3(x:Uf):Exit×St:=(Exit.exit 0,⟨(LV.one (VV.sc (SV.rd false false ae x.1))::(gE 3 (LV.one (VV.sc (SV.ptr 0 0))::(gE 56 [])))),[some (jHq.wr x.2)]⟩)
def YA(b l:ab)(n i:Int)(h:HH):Tr (QO⊕(IE⊕Uf)):=.ite (decide (i<n)) (.need (0 ≤i∧i<(↑l.length:Int)) (.ite (l.getD i.toNat (0:Int)!=0) (.ret (.inr (.inl false))) (.ret (.inl (b,l,n,i64.wrap (i+1),h))))) (.ret (.inr (.inr (b,h))))
abbrev xg(b l:ab)(n i:Int)(h:HH):Prop:=0≤i∧i≤n∧n=l.length∧n<1099511627776
abbrev aju(b l:ab)(n i:Int)(h:HH):Bool:= !(l.drop i.toNat).all (· ==0)
abbrev ajv(b l:ab)(n i:Int)(h:HH):IE:=false
abbrev ajw(b l:ab)(n i:Int)(h:HH):Uf:=(b,h)
abbrev aBb:QO→cT:=oU (aE xg) (aE aju) (aE ajv) (aE ajw) aG2 aG3
theorem aub(b l:ab)(n i:Int)(h:HH)(h_:xg b l n i h):eG (fun x_:QO=>YA x_.1 x_.2.1 x_.2.2.1 x_.2.2.2.1 x_.2.2.2.2) (b,l,n,i,h) (bif aju b l n i h then .inl (ajv b l n i h)else .inr (ajw b l n i h)):=by
 delta aju ajv ajw;obtain⟨h1,h2,rfl,h4⟩:=h_;obtain⟨k,rfl⟩:∃m:Nat,i=m:=⟨i.toNat,by omega⟩;obtain⟨j,hj⟩:∃j,l.length-k=j:=⟨_,rfl⟩;rw[Int.toNat_natCast];induction j generalizing k with
 |zero=>
  refine .stop ?_;have c:¬ (k:Int)<l.length:=by omega
  rw[List.drop_of_length_le (by omega)];simp[YA,c,bY,bH]
 |succ j ih=>
  have c:(k:Int)<l.length:=by omega
  rw[gU 0 (by omega)];by_cases c2:l.getD k 0=0
  ·have w:=ih (k+1) (by omega) (by omega) (by omega);have e1:((l.getD k 0::l.drop (k+1)).all (· ==0))=(l.drop (k+1)).all (· ==0):=(by rw[List.all_cons,c2];rfl);rw[e1];refine .go ?_ w;simp only[YA,c,Int.toNat_natCast,c2,bF,cv,cA,cD,cz,bW,b9,cC,cy,cx,cZ,cQ,cd,cm,bH];try simp only[bY,bF,cv,cA,cD,cz,bW,b9,cC,cy,cx,cZ,cQ,cd,cm,bH]
   grind [bM]
  ·refine .stop ?_;have e1:((l.getD k 0::l.drop (k+1)).all (· ==0))=false:=(by rw[List.all_cons,beq_eq_false_iff_ne.2 c2];rfl);rw[e1];simp only[YA,c,Int.toNat_natCast,c2,bF,cv,cA,cD,cz,bW,b9,cC,cy,cx,cZ,cQ,cd,cm,bH];try simp only[bY,bF,cv,cA,cD,cz,bW,b9,cC,cy,cx,cZ,cQ,cd,cm,bH]
   grind
theorem ajx(y_):∀x:QO,Ex aA (bG.wr y_) (.loop (cG f116 0)) (aA9.wr x) (aBb x):=ee bJ ((bI Yz bU)) (ws:=aPL) (cn.nil _) (fun _=>by kernel_rfl) (fun z=>by cases z<;>(intro e;cases e)) qw (aT @aub)
def QP:ab:= [0,0,0,0,0,0,0,0]
def uD(b:ab):Int:=i64.wrap (72+(i64.wrap (ki 0 (List.take 8 (List.take ((↑b.length:Int)-64).toNat (List.drop 64 b))))).tmod 128)
abbrev aPM(x:IE):LV:=LV.dB [VV.sc (SV.gm (Value.pointer none)),VV.sc (au x)]
abbrev YC:Type:=Bool×HH
abbrev aBc(x:YC):LV:=LV.dB [VV.sc (SV.ptr 0 0),VV.sc (au x.1)]
abbrev aBd(x:YC):List ao:= [(0,jHq.wr x.2)]
def aG4(b:ab):Tr (IE⊕YC):=(.ite (((↑b.length:Int)!=200)==false) (.need ((0:Int)≤64∧64≤(↑b.length:Int)∧(↑b.length:Int)≤(↑b.length:Int)) (.need (ir (List.take ((↑b.length:Int)-64).toNat (List.drop 64 b))) (.ite (decide (1152921504606846976<ki 0 (List.take 8 (List.take ((↑b.length:Int)-64).toNat (List.drop 64 b))))) (.ret (.inl false)) (.need ((0:Int)≤64∧64≤(↑b.length:Int)∧(↑b.length:Int)≤(↑b.length:Int)) (.need (ir (List.take ((↑b.length:Int)-64).toNat (List.drop 64 b))) (.need (0≤uD b∧uD b≤(↑b.length:Int)∧(↑b.length:Int)≤(↑b.length:Int)) (.need (xg b (List.take ((↑b.length:Int)-uD b).toNat (List.drop (uD b).toNat b)) (↑(List.take ((↑b.length:Int)-uD b).toNat (List.drop (uD b).toNat b)).length:Int) 0 {begun:=true,s:=QP,n:=i64.wrap (ki 0 (List.take 8 (List.take ((↑b.length:Int)-64).toNat (List.drop 64 b)))),wait:=List.replicate 128 (0:Int)}) (.ite (!(List.drop 0 (List.take ((↑b.length:Int)-uD b).toNat (List.drop (uD b).toNat b))).all fun x=>x==0) (.ret (.inl false)) (.need ((0:Int)≤0∧0≤(↑b.length:Int)∧(↑b.length:Int)≤(↑b.length:Int)) (.need (ir (List.take ((↑b.length:Int)-0).toNat (List.drop 0 b))) (.need ((0:Int)≤8∧8≤(↑b.length:Int)∧(↑b.length:Int)≤(↑b.length:Int)) (.need (ir (List.take ((↑b.length:Int)-8).toNat (List.drop 8 b))) (.need ((0:Int)≤16∧16≤(↑b.length:Int)∧(↑b.length:Int)≤(↑b.length:Int)) (.need (ir (List.take ((↑b.length:Int)-16).toNat (List.drop 16 b))) (.need ((0:Int)≤24∧24≤(↑b.length:Int)∧(↑b.length:Int)≤(↑b.length:Int)) (.need (ir (List.take ((↑b.length:Int)-24).toNat (List.drop 24 b))) (.need ((0:Int)≤32∧32≤(↑b.length:Int)∧(↑b.length:Int)≤(↑b.length:Int)) (.need (ir (List.take ((↑b.length:Int)-32).toNat (List.drop 32 b))) (.need ((0:Int)≤40∧40≤(↑b.length:Int)∧(↑b.length:Int)≤(↑b.length:Int)) (.need (ir (List.take ((↑b.length:Int)-40).toNat (List.drop 40 b))) (.need ((0:Int)≤48∧48≤(↑b.length:Int)∧(↑b.length:Int)≤(↑b.length:Int)) (.need (ir (List.take ((↑b.length:Int)-48).toNat (List.drop 48 b))) (.need ((0:Int)≤56∧56≤(↑b.length:Int)∧(↑b.length:Int)≤(↑b.length:Int)) (.need (ir (List.take ((↑b.length:Int)-56).toNat (List.drop 56 b))) (.need ((0:Int)≤0∧(0:Int) ≤128∧(128:Int)≤128) (.need ((0:Int)≤72∧72≤(↑b.length:Int)∧(↑b.length:Int)≤(↑b.length:Int)) (.ret (.inr (true,{begun:=true,s:=(((((((QP.set 0 (ki 0 (List.take 8 (List.take ((↑b.length:Int)-0).toNat (List.drop 0 b))))).set 1 (ki 0 (List.take 8 (List.take ((↑b.length:Int)-8).toNat (List.drop 8 b))))).set 2 (ki 0 (List.take 8 (List.take ((↑b.length:Int)-16).toNat (List.drop 16 b))))).set 3 (ki 0 (List.take 8 (List.take ((↑b.length:Int)-24).toNat (List.drop 24 b))))).set 4 (ki 0 (List.take 8 (List.take ((↑b.length:Int)-32).toNat (List.drop 32 b))))).set 5 (ki 0 (List.take 8 (List.take ((↑b.length:Int)-40).toNat (List.drop 40 b))))).set 6 (ki 0 (List.take 8 (List.take ((↑b.length:Int)-48).toNat (List.drop 48 b))))).set 7 (ki 0 (List.take 8 (List.take ((↑b.length:Int)-56).toNat (List.drop 56 b)))),n:=i64.wrap (ki 0 (List.take 8 (List.take ((↑b.length:Int)-64).toNat (List.drop 64 b)))),wait:=cP (List.replicate 128 (0:Int)) 0 128 (List.take ((↑b.length:Int)-72).toNat (List.drop 72 b))}))))))))))))))))))))))))))))) (.ret (.inl false)))
abbrev mi(b:ab):Int:=ki 0 ((b.drop 64).take 8)
def mK(b:ab):Bool:=decide (b.length=200∧mi b≤1152921504606846976)&&(b.drop (72+(mi b%128).toNat)).all (· ==0)
def Ug(b:ab):HH:=⟨true,(List.range 8).map fun i=>ki 0 ((b.drop (8*i)).take 8),mi b,b.drop 72⟩
theorem Ei:∀ (b:ab) (x:Int),vg x→vg (ki x b)
 | [],_,h=>h
 |c::b,x,h=>by
  rw[ki,List.foldl_cons];exact Ei b _ (by unfold cV;rw[IntKind.wrap_u64];exact⟨by omega,by omega⟩)
abbrev J2(b:ab):Prop:=bL b∧b.length<1099511627776
abbrev auc(b:ab):Bool:= !mK b
abbrev aG5(b:ab):IE:=false
abbrev aud(b:ab):YC:=(true,Ug b)
def aZe:bT:=Dw [some u8] bA bG (q0∘q1 J2) (q0∘q1 auc) (q0∘q1 aG5) (q0∘q1 aud) aPM aEI aBc aBd
theorem aG6(b:ab)(h_:J2 b):(auc b=true→(aG4 b).Is (.inl (aG5 b)))∧(auc b=false→(aG4 b).Is (.inr (aud b))):=by
 delta auc aG5 aud;obtain⟨h1,h2⟩:=h_;have hu:=Ei ((b.drop 64).take 8) 0 ⟨by decide,by decide⟩;have hd:∀n,(b.drop n).length=b.length-n:=fun n=>List.length_drop;simp only[aG4,nf,Int.reduceToNat,bF,cy,bW,cm,bH,List.drop_zero];by_cases c1:b.length=200
 ·have c1':(b.length:Int)=200:=by omega
  have hn:ki 0 (List.take 8 (List.drop 64 b))=mi b:=rfl;simp only[hn]at hu ⊢;by_cases c2:1152921504606846976<mi b
  ·have e:mK b=false:=(by unfold mK;rw[decide_eq_false (by omega)];rfl);simp[c1',c2,e,hd,c1]
  ·have w:i64.wrap (mi b)=mi b:=bM (by omega) (by omega);have t:uD b=72+mi b%128:=by
    unfold uD;simp only[nf,Int.reduceToNat,hn,w];rw[Int.tmod_eq_emod_of_nonneg hu.1,bM (by omega) (by omega)]
   have t2:(72+mi b%128).toNat=72+(mi b%128).toNat:=(by omega);have t3:List.take ((b.length:Int)-(72+mi b%128)).toNat (List.drop (72+(mi b%128).toNat) b)=b.drop (72+(mi b%128).toNat):=List.take_of_length_le (by rw[List.length_drop];omega);have e:mK b=(b.drop (72+(mi b%128).toNat)).all (· ==0):=(by unfold mK;rw[decide_eq_true (by omega)];rfl);have h7:=hd (72+(mi b%128).toNat);rw[e];simp only[t,t2,t3,w,hd];have hH:∀v,v=Ug b→v=Ug b:=fun _ h=>h;cases c3:(b.drop (72+(mi b%128).toNat)).all (· ==0)with
   |true=>
    have t0:List.take ((b.length:Int)-0).toNat b=b:=List.take_of_length_le (by omega);have t8:cP (List.replicate 128 0) 0 128 (b.drop 72)=b.drop 72:=by
     have h72:=hd 72;have e1:List.take 128 (b.drop 72)=b.drop 72:=List.take_of_length_le (by omega);unfold cP;rw[e1,h72,c1];simp
    have q:∀k,k≤192→ir (b.drop k):=fun k hk=>(by show 8≤_;rw[hd];omega);have q0:ir b:=(by show 8≤_;omega);have em:(⟨true,(((((((QP.set 0 (ki 0 (b.take 8))).set 1 (ki 0 ((b.drop 8).take 8))).set 2 (ki 0 ((b.drop 16).take 8))).set 3 (ki 0 ((b.drop 24).take 8))).set 4 (ki 0 ((b.drop 32).take 8))).set 5 (ki 0 ((b.drop 40).take 8))).set 6 (ki 0 ((b.drop 48).take 8))).set 7 (ki 0 ((b.drop 56).take 8)),mi b,b.drop 72⟩:HH)=Ug b:=rfl;have ho:xg b (b.drop (72+(mi b%128).toNat)) ((b.length-(72+(mi b%128).toNat):Nat):Int) 0 ⟨true,QP,mi b,List.replicate 128 0⟩:=⟨by omega,by omega,by rw[h7],by omega⟩;simp only[t0,t8,em];clear hd e w t t2 t3 hn hH t0 t8 em;refine⟨fun h=>absurd h (by decide),fun _=>⟨fun _=>⟨by omega,q _ (by decide),fun h=>absurd h c2,fun _=>⟨by omega,q _ (by decide),by omega,ho,?_⟩⟩,fun h=>absurd c1' h⟩⟩;simp only[true_implies,Bool.true_eq_false,false_implies,and_true];exact⟨by omega,q0,by omega,q _ (by decide),by omega,q _ (by decide),by omega,q _ (by decide),by omega,q _ (by decide),by omega,q _ (by decide),by omega,q _ (by decide),by omega,q _ (by decide),by omega,by omega⟩
   |false=>
    have ho:xg b (b.drop (72+(mi b%128).toNat)) ((b.length-(72+(mi b%128).toNat):Nat):Int) 0 ⟨true,QP,mi b,List.replicate 128 0⟩:=⟨by omega,by omega,by rw[h7],by omega⟩;have q:∀k,k≤192→ir (b.drop k):=fun k hk=>(by show 8≤_;rw[hd];omega);refine⟨fun _=>⟨fun _=>⟨by omega,q _ (by decide),fun h=>absurd h c2,fun _=>⟨by omega,q _ (by decide),by omega,ho,?_⟩⟩,fun h=>absurd c1' h⟩,fun h=>absurd h (by decide)⟩;simp
 ·have c1':¬ (b.length:Int)=200:=by omega
  have e:mK b=false:=by unfold mK;rw[decide_eq_false (by omega)];rfl
  simp[c1',e]
theorem ajy:aZe.Ok aA 116:=Iy bJ ((bI Yz bU)) func116 (by kernel_rfl) call116 (LT:=fun _ y_=> [(0,fN aA9 (bG.wr y_) aBa aBb)]) (ks:= [.iN 0 1 8 .u64,.fr [.sym],.cu,.bS,.ck]) (fun _ y_=>cn.dO (mI (by kernel_rfl) (dq (ajx y_)) mT)) (fun _ _=>by kernel_rfl) fun x_ _=>@aG6 x_.1
abbrev Ck:Type:=Int×Int×Int×Int×ab×ab
abbrev cCk{Y:Type}(m:cl SV ab)(r:cl (List SV) Y):cl (List SV) (Int×Int×Int×Int×ab×ab×Y):=bD (bX .i64) (bD (bX .i64) (bD (bX .i64) (bD (bX .i64) (bD (oa u8 8) (bD m r)))))
abbrev aZf:cl (List LV) (Ck×Unit):=bD (jf ((cCk (gx false false u8) bG).jr (fun x=>(x.1,x.2.1,x.2.2.1,x.2.2.2.1,x.2.2.2.2.1,x.2.2.2.2.2.1)) (fun y=>(y.1,y.2.1,y.2.2.1,y.2.2.2.1,y.2.2.2.2.1,y.2.2.2.2.2,())) (fun _=>rfl))) bG
def Bf(c:Int×Int×Int×Int×ab×ab):Int:=cV u64 (u64.wrap c.1) (shl u64 (u64.wrap c.2.1) 8)
def oH(c:Int×Int×Int×Int×ab×ab):ab:= [gF 8 (Bf c),gF 8 (u64.wrap c.2.2.1),gF 8 (u64.wrap c.2.2.2.1),List.take 8 (List.drop 0 c.2.2.2.2.1),c.2.2.2.2.2].flatten
def ajz(c:Int×Int×Int×Int×ab×ab):Tr af4:=.ite (decide (c.1<0)==false) (.ite (decide (1< c.1)==false) (.ite (decide (c.2.1<0)==false) (.ite (decide (16<c.2.1)==false) (.need (xc c.2.2.1) (.ite ((!decide (0≤ c.2.2.1∧c.2.2.1≤2147483647))==false) (.need (xc c.2.2.2.1) (.ite (!decide (0≤c.2.2.2.1∧c.2.2.2.1≤ 2147483647)) (.ret ([])) (.ite (!mK c.2.2.2.2.2) (.need (J2 c.2.2.2.2.2) (.ite (!false) (.ret ([])) (.need (iq (Bf c)) (.need (iq (u64.wrap c.2.2.1)) (.need (iq (u64.wrap c.2.2.2.1)) (.need ((0:Int)≤0∧(0:Int)≤8∧(8:Int)≤8) (.need ((oH c).length≤70368744177664∧5≤140737488355328) (.ret (oH c))))))))) (.need (J2 c.2.2.2.2.2) (.ite (!true) (.ret ([])) (.need (iq (Bf c)) (.need (iq (u64.wrap c.2.2.1)) (.need (iq (u64.wrap c.2.2.2.1)) (.need ((0:Int)≤0∧(0:Int)≤8∧(8:Int)≤8) (.need ((oH c).length≤70368744177664∧5≤140737488355328) (.ret (oH c)))))))))))) (.ret ([])))) (.ret ([]))) (.ret ([]))) (.ret ([]))) (.ret ([]))
abbrev J4(c:Ck):Prop:=0≤c.1∧c.1≤1∧0≤c.2.1∧c.2.1≤16∧0≤c.2.2.1∧c.2.2.1≤2147483647∧0≤c.2.2.2.1∧c.2.2.2.1≤2147483647∧mK c.2.2.2.2.2=true
def nL(c:Ck):ab:=if J4 c then gF 8 (c.1+256*c.2.1)++(gF 8 c.2.2.1++(gF 8 c.2.2.2.1++(c.2.2.2.2.1.take 8++c.2.2.2.2.2)))else []
theorem zA{b:ab}(h:mK b=true):b.length=200:=by
 unfold mK at h;simp only[Bool.and_eq_true,decide_eq_true_eq]at h;exact h.1.1
theorem aue{x y:Int}(h1:0≤x)(h2:x≤1)(h3:0≤y)(h4:y≤16):cV .u64 (u64.wrap x) (shl .u64 (u64.wrap y) 8)=x+256*y:=by
 have e:=mU .u64 y 8 (by decide)
 rw[wrap_u64 h1 (by omega),wrap_u64 h3 (by omega),show(8:Int)=((8:Nat):Int)from rfl,e,wrap_u64 (by simp;omega) (by simp;omega),nv,
  Ds (m:=8) (by simp;omega) (by simp) h1 (by simp;omega) (by simp;omega)]
 simp;omega
abbrev mj(c:Ck):Prop:=bL c.2.2.2.2.2∧c.2.2.2.2.2.length<1099511627776
abbrev Uh(c:Ck):af4:=nL c
def aHa:bT:=cj [some u8] aZf bG (q0∘q1 mj) (q0∘q1 Uh) aEK aEL
theorem ajA:abY mj ajz Uh:=by
 intro c h_;delta Uh;obtain⟨h1,h2⟩:=h_;have e0:J4 c→Bf c=c.1+256*c.2.1:=fun h=>aue h.1 h.2.1 h.2.2.1 h.2.2.2.1;have e1:J4 c→u64.wrap c.2.2.1=c.2.2.1:=fun h=>by rw[wrap_u64 (by omega) (by omega)]
 have e2:J4 c→u64.wrap c.2.2.2.1=c.2.2.2.1:=fun h=>by rw[wrap_u64 (by omega) (by omega)]
 have hl:J4 c→(oH c).length≤232:=fun h=>by
  have:=zA h.2.2.2.2.2.2.2.2;unfold oH;simp only[List.flatten_cons,List.flatten_nil,List.append_nil,List.length_append,List.length_take,ib,List.length_cons,List.length_nil];omega
 have ea:J4 c→oH c=gF 8 (c.1+256*c.2.1)++(gF 8 c.2.2.1++(gF 8 c.2.2.2.1++(c.2.2.2.2.1.take 8++c.2.2.2.2.2))):=fun h=>by
  unfold oH;rw[e0 h,e1 h,e2 h];simp only[List.flatten_cons,List.flatten_nil,List.append_nil,List.drop_zero]
 simp only[ajz,nL,bF,cv,cD,cz,cm,bH];by_cases c0:J4 c
 ·have hm:=c0.2.2.2.2.2.2.2.2;have hs:iq (c.1+256*c.2.1):=⟨by omega,by omega⟩;have hs1:iq c.2.2.1:=⟨by omega,by omega⟩;have hs2:iq c.2.2.2.1:=⟨by omega,by omega⟩;have h5:=hl c0;rw[if_pos c0,e0 c0,e1 c0,e2 c0,← ea c0];clear ea e0 e1 e2 hl;grind
 ·rw[if_neg c0];clear ea e0 e1 e2 hl;by_cases hm:mK c.2.2.2.2.2=true
  ·have c1:¬ (0≤c.1∧c.1≤1∧0≤c.2.1∧c.2.1≤16∧0≤c.2.2.1∧c.2.2.1≤2147483647∧0≤c.2.2.2.1∧c.2.2.2.1≤2147483647):=fun h=>c0 ⟨h.1,h.2.1,h.2.2.1,h.2.2.2.1,h.2.2.2.2.1,h.2.2.2.2.2.1,h.2.2.2.2.2.2.1,h.2.2.2.2.2.2.2,hm⟩;simp only[hm]at*;grind
  ·simp only[hm]at*;grind
theorem Ej:aHa.Ok aA 186:=ay (bI Yw (bI Yr (bI uU (bI ajy bU)))) func186 call186 (ks:= [.pN,.fr [.rd true u8],.fr [.sym],.cu,.bS,.ck]) (fun x_ _=>@ajA x_.1)
def Ui(b:ab):Ck:=(b.getD 0 0,b.getD 1 0,xd (b.drop 8),xd (b.drop 16),(b.drop 24).take 8,b.drop 32)
def Gp:Ck:=(0,0,0,0,List.replicate 8 0,[])
def o6(b:ab):Ck×Bool:=if b.length=232∧gP (nL (Ui b)) b=true then(Ui b,true)else(Gp,false)
def Bg(b:ab):Int×Int×Int×Int×ab×ab:=(i64.wrap (b.getD 0 0),i64.wrap (b.getD 1 0),xd (List.take ((↑b.length:Int)-8).toNat (List.drop 8 b)),xd (List.take ((↑b.length:Int)-16).toNat (List.drop 16 b)),List.take 8 (List.drop 0 (List.take ((↑b.length:Int)-24).toNat (List.drop 24 b))),List.take ((↑b.length:Int)-32).toNat (List.drop 32 b))
abbrev J5:Type:=Int×Int×Int×Int×ab×ab×Bool
abbrev aHb(x:J5):LV:=LV.dB [VV.agg [ar x.1,ar x.2.1,ar x.2.2.1,ar x.2.2.2.1,SV.arr ae 8 x.2.2.2.2.1,SV.rd true false ae x.2.2.2.2.2.1],VV.sc (au x.2.2.2.2.2.2)]
abbrev aHc(x:J5):List ao:= []
def ajB(b:ab):Tr J5:=.ite ((↑b.length:Int)!=232) (.ret (0,0,0,0,[0,0,0,0,0,0,0,0],[],false)) (.need ((0:Int)≤0∧0<(↑b.length:Int)) (.need ((0:Int)≤1∧1<(↑b.length:Int)) (.need ((0:Int)≤8∧8≤(↑b.length:Int)∧(↑b.length:Int)≤(↑b.length:Int)) (.need (xe (List.take ((↑b.length:Int)-8).toNat (List.drop 8 b))) (.need ((0:Int)≤16∧16≤ (↑b.length:Int)∧(↑b.length:Int)≤(↑b.length:Int)) (.need (xe (List.take ((↑b.length:Int)-16).toNat (List.drop 16 b))) (.need ((0:Int)≤24∧24≤(↑b.length:Int)∧(↑b.length:Int)≤(↑b.length:Int)) (.need (8≤(List.take ((↑b.length:Int)-24).toNat (List.drop 24 b)).length) (.need (8≤(List.take ((↑b.length:Int)-24).toNat (List.drop 24 b)).length) (.need ((0:Int)≤32∧32≤(↑b.length:Int)∧(↑b.length:Int)≤(↑b.length:Int)) (.need ((List.take ((↑b.length:Int)-32).toNat (List.drop 32 b)).length≤70368744177664) (.need (mj (Bg b)) (.ite (!gP (nL (Bg b)) b) (.ret (0,0,0,0,[0,0,0,0,0,0,0,0],[],false)) (.ret (i64.wrap (b.getD 0 0),i64.wrap (b.getD 1 0),xd (List.take ((↑b.length:Int)-8).toNat (List.drop 8 b)),xd (List.take ((↑b.length:Int)-16).toNat (List.drop 16 b)),List.take 8 (List.drop 0 (List.take ((↑b.length:Int)-24).toNat (List.drop 24 b))),List.take ((↑b.length:Int)-32).toNat (List.drop 32 b),true)))))))))))))))
abbrev ckT(x:Ck×Bool):Int×Int×Int×Int×ab×ab×Bool:=(x.1.1,x.1.2.1,x.1.2.2.1,x.1.2.2.2.1,x.1.2.2.2.2.1,x.1.2.2.2.2.2,x.2)
abbrev xh(b:ab):Prop:=bL b∧b.length<1099511627776
abbrev Uj(b:ab):J5:=ckT (o6 b)
def aHd:bT:=cj [some u8] bA bG (q0∘q1 xh) (q0∘q1 Uj) aHb aHc
theorem ajC:abY xh ajB Uj:=by
 intro b h_;delta Uj;obtain⟨h1,h2⟩:=h_;have b0:=h1.getD 0;have b1:=h1.getD 1;have w0:i64.wrap (b.getD 0 0)=b.getD 0 0:=by unfold By at b0;rw[bM (by omega) (by omega)]
 have w1:i64.wrap (b.getD 1 0)=b.getD 1 0:=by unfold By at b1;rw[bM (by omega) (by omega)]
 have h8:(b.drop 8).length=b.length-8:=List.length_drop;have h16:(b.drop 16).length=b.length-16:=List.length_drop;have h24:(b.drop 24).length=b.length-24:=List.length_drop;have h32:(b.drop 32).length=b.length-32:=List.length_drop;have a8:=h1.drop 8;have a16:=h1.drop 16;have a32:=h1.drop 32;have e0:Bg b=Ui b:=by unfold Bg Ui;simp only[w0,w1,nf,List.drop_zero,Int.reduceToNat]
 have hp:b.length=232→mj (Ui b):=fun h=>⟨a32,by show(b.drop 32).length<_;omega⟩;simp only[ajB,e0,w0,w1,nf,Int.reduceToNat,bF,b9,cm,bH,List.drop_zero];unfold o6 ckT;have ec:Ui b=(b.getD 0 0,b.getD 1 0,xd (b.drop 8),xd (b.drop 16),(b.drop 24).take 8,b.drop 32):=rfl;have ez:([0,0,0,0,0,0,0,0]:ab)=List.replicate 8 0:=rfl;rw[ez];by_cases c:b.length=232
 ·have hp:=hp c;cases c2:gP (nL (Ui b)) b<;>grind [Gp]
 ·have c':¬ (b.length:Int)=232:=by omega
  simp[c,c',Gp]
theorem ajD:aHd.Ok aA 171:=ay (bI Yx (bI wJ (bI Ej (bI jA bU)))) func171 call171 (ks:= [.mS 0 4 8 .u8,.pN,.fr [.rd true u8],.fr [.sym],.cu,.bS,.ck]) (fun x_ _=>@ajC x_.1)
abbrev Sg:Type:=Cm×Bool×Ck
abbrev aPO(m:cl SV ab):cl (List SV) Sg:=(cCm (bD ou (cCk m bG))).jr (fun x=>((x.1,x.2.1,x.2.2.1,x.2.2.2.1,x.2.2.2.2.1),x.2.2.2.2.2.1,(x.2.2.2.2.2.2.1,x.2.2.2.2.2.2.2.1,x.2.2.2.2.2.2.2.2.1,x.2.2.2.2.2.2.2.2.2.1,x.2.2.2.2.2.2.2.2.2.2.1,x.2.2.2.2.2.2.2.2.2.2.2.1))) (fun y=>(y.1.1,y.1.2.1,y.1.2.2.1,y.1.2.2.2.1,y.1.2.2.2.2,y.2.1,y.2.2.1,y.2.2.2.1,y.2.2.2.2.1,y.2.2.2.2.2.1,y.2.2.2.2.2.2.1,y.2.2.2.2.2.2.2,())) (fun _=>rfl)
abbrev cSg:cl (List SV) Sg:=aPO (gx true false u8)
abbrev YD:Type:=Int×Int×Int×Int×ab×Bool×Int×Int×Int×Int×ab×ab
abbrev aPP(x:YD):LV:=LV.one (VV.agg [ar x.1,SV.int u64 (SI.sym x.2.1),SV.int u64 (SI.sym x.2.2.1),ar x.2.2.2.1,SV.arr ae 64 x.2.2.2.2.1,au x.2.2.2.2.2.1,ar x.2.2.2.2.2.2.1,ar x.2.2.2.2.2.2.2.1,ar x.2.2.2.2.2.2.2.2.1,ar x.2.2.2.2.2.2.2.2.2.1,SV.arr ae 8 x.2.2.2.2.2.2.2.2.2.2.1,SV.rd true false ae x.2.2.2.2.2.2.2.2.2.2.2])
abbrev aPQ(x:YD):List ao:= []
def aPR:Tr YD:=.ret ((-1),0,0,0,List.replicate 64 (0:Int),false,0,0,0,0,[0,0,0,0,0,0,0,0],[])
def aBe(s:ak)(x:ah):Tr YD:=.ite (x.1==2) (.need (xf x.2.2) (.ite ((mh x.2.2).2) (.ret ((mh x.2.2).1.1,(mh x.2.2).1.2.1,if(mh x.2.2).1.2.2.1<s.1.2.2.1 then s.1.2.2.1 else(mh x.2.2).1.2.2.1,(mh x.2.2).1.2.2.2.1,(mh x.2.2).1.2.2.2.2,false,0,0,0,0,[0,0,0,0,0,0,0,0],[])) (.ret (s.1.1,s.1.2.1,s.1.2.2.1,s.1.2.2.2.1,s.1.2.2.2.2,s.2.1,s.2.2.1,s.2.2.2.1,s.2.2.2.2.1,s.2.2.2.2.2.1,s.2.2.2.2.2.2.1,s.2.2.2.2.2.2.2)))) (.ite (x.1==3) (.need (xh x.2.2) (.ite ((o6 x.2.2).2) (.ret (s.1.1,s.1.2.1,s.1.2.2.1,s.1.2.2.2.1,s.1.2.2.2.2,true,(o6 x.2.2).1.1,(o6 x.2.2).1.2.1,(o6 x.2.2).1.2.2.1,(o6 x.2.2).1.2.2.2.1,(o6 x.2.2).1.2.2.2.2.1,(o6 x.2.2).1.2.2.2.2.2)) (.ret (s.1.1,s.1.2.1,s.1.2.2.1,s.1.2.2.2.1,s.1.2.2.2.2,s.2.1,s.2.2.1,s.2.2.2.1,s.2.2.2.2.1,s.2.2.2.2.2.1,s.2.2.2.2.2.2.1,s.2.2.2.2.2.2.2)))) (.ite (x.1==4) (.ret (s.1.1,s.1.2.1,s.1.2.2.1,s.1.2.2.2.1,s.1.2.2.2.2,false,0,0,0,0,[0,0,0,0,0,0,0,0],[])) (.ret (s.1.1,s.1.2.1,s.1.2.2.1,s.1.2.2.2.1,s.1.2.2.2.2,s.2.1,s.2.2.1,s.2.2.2.1,s.2.2.2.2.1,s.2.2.2.2.2.1,s.2.2.2.2.2.2.1,s.2.2.2.2.2.2.2))))
def eP(s:Sg):YD:=(s.1.1,s.1.2.1,s.1.2.2.1,s.1.2.2.2.1,s.1.2.2.2.2,s.2.1,s.2.2.1,s.2.2.2.1,s.2.2.2.2.1,s.2.2.2.2.2.1,s.2.2.2.2.2.2.1,s.2.2.2.2.2.2.2)
def jd:Sg:=((-1,0,0,0,List.replicate 64 0),false,Gp)
abbrev Bh:Prop:=True
abbrev ajE:YD:=eP jd
def aPU:bT:=cj [] bG bG (q0∘q0 Bh) (q0∘q0 ajE) aPP aPQ
theorem auf(h_:Bh):(aPR).Is (ajE):=by
 delta ajE;exact rfl
theorem J6:aPU.Ok aA 77:=ay bU func77 call77 (ks:= [.mS 0 10 8 .u8,.fr [.rd true u8],.fr [.sym],.cu,.bS,.ck]) (fun x_ y_ h=>auf h)
def xi(s:Sg)(x:ah):Sg:=if x.1=2 then(if(mh x.2.2).2=true then(((mh x.2.2).1.1,(mh x.2.2).1.2.1,(if(mh x.2.2).1.2.2.1<s.1.2.2.1 then s.1.2.2.1 else(mh x.2.2).1.2.2.1),(mh x.2.2).1.2.2.2.1,(mh x.2.2).1.2.2.2.2),false,Gp)else s) else if x.1=3 then(if(o6 x.2.2).2=true then(s.1,true,(o6 x.2.2).1)else s) else if x.1=4 then(s.1,false,Gp) else s
abbrev J7(s:Sg)(x:ah):Prop:=bL x.2.2∧x.2.2.length<1099511627776
abbrev ajF(s:Sg)(x:ah):YD:=eP (xi s x)
def aPV:bT:=cj [none,some u8] ((bD (jf cSg) (bD (jf ((bD (bX .i64) (bD (bX .i64) (bD (gx false false u8) bG))).jr (fun x=>(x.1,x.2.1,x.2.2.1)) (fun y=>(y.1,y.2.1,y.2.2,())) (fun _=>rfl))) bG))) bG (q0∘q2 J7) (q0∘q2 ajF) aPP aPQ
theorem aug:ab1 J7 aBe ajF:=by
 intro s x h_;delta ajF;have h:bL x.2.2∧x.2.2.length<1099511627776:=h_;have hc:xf x.2.2:=h;have hk:xh x.2.2:=h;simp only[aBe,bF,cd,bH];simp only[bY,cd,bH,xi];refine⟨fun c1=>⟨hc,?_,?_⟩,fun c1=>⟨fun c2=>⟨hk,?_,?_⟩,fun c2=>⟨fun c3=>?_,fun c3=>?_⟩⟩⟩
 ·intro c;rw[if_pos c1,if_pos c];rfl
 ·intro c;rw[if_pos c1,if_neg (by rw[c];decide)];rfl
 ·intro c;rw[if_neg c1,if_pos c2,if_pos c];rfl
 ·intro c;rw[if_neg c1,if_pos c2,if_neg (by rw[c];decide)];rfl
 ·rw[if_neg c1,if_neg c2,if_pos c3];rfl
 ·rw[if_neg c1,if_neg c2,if_neg c3];rfl
theorem YE:aPV.Ok aA 133:=ay (bI ajo (bI ajD bU)) func133 call133 (ks:= [.mS 0 10 8 .u8,.fr [.rd true u8],.fr [.sym],.cu,.bS,.ck]) (fun x_ _=>@aug x_.1 x_.2.1)
abbrev jSg:cl bE Sg:=fe 52 cSg
abbrev aPW:cl (List LV) (List ah×Unit):=bD (bO (gx false false (.pair (.int .i64) (.pair (.int .i64) (.sl u8))))) bG
abbrev QQ:Type:=(List ah)×Int×Int×ak×(ak)
abbrev aBf:cl St QQ:=(dy (jk 2 (bR (bO (cr (0) (0))) (bR (bO (cr (1) (0))) (jk 3 (bD (bO (gx false false (ag.pair (ag.pair ae.sl)))) (bD (bO (bX i64)) (bD (bO (bX i64)) (jk 8 bG)))))))) (bD (cb jSg) (bD (cb jSg) bG))).jr (fun y=>(y.1.1,y.1.2.1,y.1.2.2.1,y.2.1,y.2.2.1)) (fun x=>((x.1,(x.2.1,(x.2.2.1,()))),(x.2.2.2.1,(x.2.2.2.2,())))) (fun _=>rfl)
abbrev aBg:List Wk:= [.iN 0 10 8 .u8,.iN 1 10 8 .u8,.cK 0 [.sym,.sym,.sym,.sym,.bV,.sym,.sym,.sym,.sym,.sym,.bV,.rd true u8],.cK 1 [.sym,.sym,.sym,.sym,.bV,.sym,.sym,.sym,.sym,.sym,.bV,.rd true u8],.fr (eH 18 [(2,.bV),(3,.bV),(7,.bV),(8,.bV),(9,.bV)]),.cu,.bS,.ck]
abbrev aPX:Exit→List Wk:=ua aBg 0 [.iN 0 10 8 .u8,.iN 1 10 8 .u8,.cK 0 [.sym,.sym,.sym,.sym,.bV,.sym,.sym,.sym,.sym,.sym,.bV,.rd true u8],.cK 1 [.sym,.sym,.sym,.sym,.bV,.sym,.sym,.sym,.sym,.sym,.bV,.rd true u8],.fr (eH 18 [(2,.bV),(3,.bV)]),.cu,.bS,.ck] [.iN 0 10 8 .u8,.iN 1 10 8 .u8,.cK 0 [.sym,.sym,.sym,.sym,.bV,.sym,.sym,.sym,.sym,.sym,.bV,.rd true u8],.cK 1 [.sym,.sym,.sym,.sym,.bV,.sym,.sym,.sym,.sym,.sym,.bV,.rd true u8],.fr (eH 18 [(2,.bV)]),.cu,.bS,.ck]
def Uk(l:List ah)(i:Int):Int×Int×ab:=l.getD i.toNat (0,0,[])
def Ul(s:ak):(Int×Int×Int×Int×ab)×Bool×Int×Int×Int×Int×ab×ab:=s
abbrev ajG:Type:=(ak)×(ak)
abbrev aPY(x:ajG):Exit×St:=(Exit.exit 0,⟨(gE 2 (LV.one (VV.sc (SV.ptr 0 0))::(LV.one (VV.sc (SV.ptr 1 0))::(gE 14 [])))),[some (jSg.wr x.1),some (jSg.wr x.2)]⟩)
def ajH(l:List ah)(n i:Int)(z:ak) (s:ak):Tr (QQ⊕(ajG)):=.ite (decide (i<n)) (.need (0≤i∧i<(↑l.length:Int)) (.need (J7 (Ul s) (Uk l i)) (.ret (.inl (l,n,i64.wrap (i+1),z,xi (Ul s) (Uk l i)))))) (.ret (.inr (z,s)))
def gK(l:List ah):Prop:=∀k:Nat,k<l.length→bL (l.getD k (0,0,[])).2.2∧(l.getD k (0,0,[])).2.2.length<1099511627776
def eA(s:Sg)(l:List ah):Sg:=l.foldl xi s
abbrev J8(l:List ah)(n i:Int)(z s:ak):Prop:=0≤i∧i≤n∧n=l.length∧n<1099511627776∧gK l
abbrev ajI(l:List ah)(n i:Int)(z s:ak):ajG:=(z,eA s (l.drop i.toNat))
abbrev aBh:QQ→cT:=gX (aE J8) (aE ajI) aPY
theorem auh:aeX J8 ajH ajI:=by
 intro l n i z s h_;delta ajI;obtain⟨h1,h2,rfl,h4,h5⟩:=h_;obtain⟨k,rfl⟩:∃m:Nat,i=m:=⟨i.toNat,by omega⟩;obtain⟨j,hj⟩:∃j,l.length-k=j:=⟨_,rfl⟩;rw[Int.toNat_natCast];induction j generalizing k s with
 |zero=>
  refine .stop ?_;have c:¬ (k:Int)<l.length:=by omega
  rw[List.drop_of_length_le (by omega)];simp[ajH,c,bY,bH,eA]
 |succ j ih=>
  have c:(k:Int)<l.length:=by omega
  have w:=ih (xi s (l.getD k (0,0,[]))) (k+1) (by omega) (by omega) (by omega);rw[gU (0,0,[]) (by omega),eA,List.foldl_cons];refine .go ?_ w;have hx:=h5 k (by omega);simp only[ajH,Uk,Ul,c,bW,bF,bH,Int.toNat_natCast];exact⟨fun _=>⟨⟨by omega,trivial⟩,hx,by rw[bM (by omega) (by omega)];rfl⟩,fun h=>absurd trivial h⟩
theorem ajJ(y_):∀x:QQ,Ex aA (bG.wr y_) (.loop (cG f91 0)) (aBf.wr x) (aBh x):=ee bJ ((bI J6 (bI YE bU))) (ws:=aPX) (cn.nil _) (fun _=>by kernel_rfl) (fun z e=>by cases e) im (aT @auh)
def kJ:(Int×Int×Int×Int×ab)×Bool×Int×Int×Int×Int×ab×ab:=((jd.1.1,0,0,0,jd.1.2.2.2.2),jd.2.1,0,0,0,0,jd.2.2.2.2.2.2)
def aBi(l:List ah):Tr YD:=.need Bh (.need (J8 l (↑l.length:Int) 0 ((0,0,0,0,List.replicate 64 (0:Int)),false,0,0,0,0,[0,0,0,0,0,0,0,0],[]) kJ) (.ret ((eA kJ (List.drop 0 l)).1.1,(eA kJ (List.drop 0 l)).1.2.1,(eA kJ (List.drop 0 l)).1.2.2.1,(eA kJ (List.drop 0 l)).1.2.2.2.1,(eA kJ (List.drop 0 l)).1.2.2.2.2,(eA kJ (List.drop 0 l)).2.1,(eA kJ (List.drop 0 l)).2.2.1,(eA kJ (List.drop 0 l)).2.2.2.1,(eA kJ (List.drop 0 l)).2.2.2.2.1,(eA kJ (List.drop 0 l)).2.2.2.2.2.1,(eA kJ (List.drop 0 l)).2.2.2.2.2.2.1,(eA kJ (List.drop 0 l)).2.2.2.2.2.2.2)))
abbrev qJ(l:List ah):Prop:=gK l∧l.length<1099511627776
abbrev ajK(l:List ah):YD:=eP (eA jd l)
def aP1:bT:=cj [some (.pair (.int .i64) (.pair (.int .i64) (.sl u8)))] aPW bG (q0∘q1 qJ) (q0∘q1 ajK) aPP aPQ
theorem aui:abY qJ aBi ajK:=by
 intro l h_;delta ajK;obtain⟨h1,h2⟩:=h_;have e:kJ=jd:=rfl;simp only[aBi,bF,bH,e,List.drop_zero];exact⟨trivial,⟨by omega,by omega,rfl,by omega,h1⟩,rfl⟩
theorem J9:aP1.Ok aA 91:=az (bI J6 (bI YE bU)) func91 call91 (ks:= [.iN 0 10 8 .u8,.iN 1 10 8 .u8,.cK 0 [.sym,.sym,.sym,.sym,.bV,.sym,.sym,.sym,.sym,.sym,.bV,.rd true u8],.cK 1 [.sym,.sym,.sym,.sym,.bV,.sym,.sym,.sym,.sym,.sym,.bV,.rd true u8],.fr [.sym],.cu,.bS,.ck]) aBf aBg aBh ajJ (fun x_ _=>@aui x_.1)
end Go.Proofs.YtliehnnljilacaaGreat
namespace Go.Proofs.YtliehnnljilacaaGreat
open Go Go.Ev Go.Lib Go.RowKit Go.Proofs.Tryz
set_option maxHeartbeats 4000000
set_option maxRecDepth 1000000
theorem ajL{β:Env}(w:World)(a:Addr)(n c:Nat)(l:List cH.D)(tZ:eY β w (.slice (some a) n c) cH l)(hb:l.length≤1000000):Calls aA 172 #[.slice (some a) n c] w fun e w'=>∃v',e= .returned v'∧eY β w' v' cH l∧w.heap.size≤w'.heap.size∧w'.os=w.os∧w'.output=w.output∧(∀b,b<w.heap.size→w'.heap[b]? =w.heap[b]?)∧(∀a n c,v'= .slice (some a) n c→0<c→w.heap.size≤a.block):=by
 have hold:∀b,b<w.heap.size→(w.alloc (.cells #[] 209)).heap[b]? =w.heap[b]? :=fun b hb=>heap_alloc_old w _ hb;have hsz:(w.alloc (.cells #[] 209)).heap.size=w.heap.size+1:=Array.size_push ..;have aP2:eY β (w.alloc (.cells #[] 209)) (.slice (some a) n c) cH l:=tZ.of (fun _ _ _ _ h=>h) fun a' n' c' e h0=>hold _ (tZ.lt e h0);have vU:eY β (w.alloc (.cells #[] 209)) (.slice (some ⟨w.heap.size,0,none⟩) 0 0) cH []:=⟨_,0,0,rfl,rfl,Nat.le_refl _,fun e=>(by cases e),fun h=>absurd h (by omega)⟩;obtain⟨e,hu⟩:∃e,Tryz.prog.underlying 175=some (.slice e):=⟨209,by kernel_rfl⟩;have hu':=hu;obtain⟨news,y5,lZ⟩:=GI hu aP2.reads;obtain⟨z,hz,hwz⟩:∃z,pB aA 209=some z∧wL z=cH.w:=⟨[.int .i64 (.lit 0),.int .i64 (.lit 0),.gm (.slice none 0 0)],by kernel_rfl,by kernel_rfl⟩
 have gp:∀ty,∃v' w',(Builtin.append_ #[175,175] ty #[.slice (some ⟨w.heap.size,0,none⟩) 0 0,.slice (some a) n c]).run aA (w.alloc (.cells #[] 209))= .ok v' w'∧_:=
  fun ty=>uN (ty_:=ty) (el:=209) (by kernel_rfl) (by kernel_rfl) (by decide) hz hwz (by_:=40) (by kernel_rfl) vU y5 lZ (by simp only[List.length_nil];omega) (by simp only[List.length_nil];omega)
 obtain⟨v',w',h1,h2,h3,h4,h5,h6,h7⟩:=gp 175;rw[List.nil_append]at h2
 have fin:eY β w' v' cH l∧w.heap.size≤w'.heap.size∧w'.os=w.os∧w'.output=w.output∧(∀b,b<w.heap.size→w'.heap[b]? =w.heap[b]?)∧(∀a n c,v'= .slice (some a) n c→0<c→w.heap.size≤a.block):=
  ⟨h2,by omega,h4,h5,fun b hb=>(h6 b (by omega) (by rintro⟨_,_,_,e,h,_⟩;cases e;omega)).trans (hold b hb),fun a n c e h0=>(h7 a n c e h0).elim (fun⟨_,_,e,h⟩=>by cases e;omega) fun h=>by omega⟩
 clear gp h2 h3 h4 h5 h6 h7 aP2 vU y5 lZ tZ hold hz hu
 go_enter func172,ntmps172
 have hq:∀w,(binOp .eql 175 (.slice (some a) n c) (.slice none 0 0)).run aA w= .ok (.bool false) w:=fun w=>by
  first|rfl|simp[binOp,Op.intArith,Op.intBits,Op.intCmp,hu']
 go_wp2_with (at_builtin;refine Lib.wpList_append_run _ rfl _ _ _ _ rfl _ _ rfl rfl _ _ h1 ?_)
 go_ret
 exact⟨v',rfl,fin⟩
abbrev zB:cl Hp (List cH.D×Unit):=bD (dd 0 cH) bG
abbrev auj:cl (List LV) Unit:=bR (bO (pk 0 0)) bG
def aZg:bT:=bT.fw [] auj zB fun x y=>.bN (some (y.1.length≤1000000)) (.one (.sc (.sl 1 0))) [(1,.own 0 cH y.1)]
theorem ajM:cY aA [] [] f172 [.one (.sc (.gm (.slice none 0 0)))] (zB.wr ([],())) [.kA 0 cH]=End.bN (LV.one (VV.sc (SV.sl 1 0))) [some (bE.own 0 (ag.pair (ag.pair ae.sl)) []),some (bE.own 0 (ag.pair (ag.pair ae.sl)) [])]:=by kernel_rfl
theorem ajN:aZg.Ok aA 172:=by
 refine(bT.df call172 fun x y Q h=>?_).sym;obtain⟨l,_⟩:=y;obtain⟨hl,hq⟩:=h;have hl:l.length≤1000000:=hl;intro β w vals hh dt;cases dt with
 |cons a1 t1=>
  cases t1;rename_i v;obtain⟨_,c0,hk,_,hv⟩:=(a1:SV.den β _ (.sl 0 0) v);have hc:c0=0:=by
   have:kd (zB.wr (l,())) 0=some (.own 0):=rfl;rw[this]at hk;cases hk;rfl
  subst hc;have hv:=hv rfl;subst hv;have tZ:eY β w (β.h 0) cH l:=hh.items 0 (.own 0 cH l) rfl;obtain⟨a,n,c,e,hn,hc,hz,_⟩:=id tZ;rw[e]at tZ ⊢;cases a with
  |none=>
   have hc0:=hz rfl;subst hc0;have AU:n=0:=(by omega);subst AU;have RT:l= []:=List.eq_nil_of_length_eq_zero hn.symm;subst RT;have key:my aA 172 [.one (.sc (.gm (.slice none 0 0)))] (zB.wr ([],())) _:=cg bJ bU func172 rfl (LT:= []) (ks:= [.kA 0 cH]) (cn.nil _);rw[ajM]at key;exact(key.use (D:= [(1,.own 0 cH [])]) ⟨rfl,rfl⟩ hq) β w _ hh (.cons ⟨rfl,rfl⟩ .nil)
  |some a=>
   refine(ajL w a n c l tZ hl).mono ?_;rintro e' w' ⟨v',rfl,h2,h3,h4,h5,h6,h7⟩;obtain⟨β',k1,k2,k3⟩:=hh.rZ (id:=1) rfl (v:=v') (ver:=0) (t:=cH) (l:=l) (w':=w') h3 h4 h5 h6 h2 h7;refine⟨v',β',_,_,rfl,⟨_,hq,rfl⟩,⟨?_,0,?_,Nat.le_refl _,fun _=>k3.symm⟩,k1⟩
   ·obtain⟨_,_,_,rfl,_⟩:=h2;rfl
   ·show kd (cL _ 1 _) 1=_;rw[fB,if_pos rfl];rfl
abbrev QR:Type:=Int×Int×(List ah)×(List ah)
abbrev aBj:cl St QR:=(dy (bR (bO (pk (1) (0))) (jk 6 (bD (bO (bX i64)) (bD (bO (bX i64)) (jk 14 bG))))) (bD (dd (0) (ag.pair (ag.pair ae.sl))) (bD (dd (0) (ag.pair (ag.pair ae.sl))) bG))).jr (fun y=>(y.1.1,y.1.2.1,y.2.1,y.2.2.1)) (fun x=>((x.1,(x.2.1,())),(x.2.2.1,(x.2.2.2,())))) (fun _=>rfl)
abbrev aBk:List Wk:= [.fr (eH 23 [(0,.bV),(7,.bV),(8,.bV)]),.cu,.bS,.ck]
abbrev aP3:Exit→List Wk:=ua aBk 0 [.fr (eH 23 [(0,.bV)]),.cu,.bS,.ck] [.fr (eH 23 [(2,.bV)]),.cu,.bS,.ck]
abbrev ajO:Type:=(List ah)×(List ah)
abbrev aP4(x:ajO):Exit×St:=(Exit.exit 0,⟨(LV.one (VV.sc (SV.sl 1 0))::(gE 22 [])),[some (bE.own 0 (ag.pair (ag.pair ae.sl)) x.1),some (bE.own 0 (ag.pair (ag.pair ae.sl)) x.2)]⟩)
def ajP(n i:Int)(k l:List ah):Tr (QR⊕(ajO)):=.ite (decide (i<n)) (.need (0≤i∧i<(↑l.length:Int)) (.need (List.length (l.getD i.toNat (0,0,[])).2.2≤70368744177664) (.need (0≤i∧i< (↑l.length:Int)) (.ret (.inl (n,i64.wrap (i+1),k,l.set i.toNat (l.getD i.toNat (0,0,[])))))))) (.ret (.inr (k,l)))
theorem ajQ{α:Type}(l:List α)(k:Nat)(z:α):l.set k (l.getD k z)=l:=by
 apply List.ext_getElem?;intro i;rw[List.getElem?_set];split
 ·rename_i h;subst h;split
  ·rename_i h;rw[List.getD_eq_getElem?_getD,List.getElem?_eq_getElem h];rfl
  ·rename_i h;rw[List.getElem?_eq_none (by omega)]
 ·rfl
abbrev Ka(n i:Int)(k l:List ah):Prop:=0≤i∧i≤n∧n=l.length∧n<1099511627776∧gK l
abbrev ajR(n i:Int)(k l:List ah):ajO:=(k,l)
abbrev aBl:QR→cT:=gX (aD Ka) (aD ajR) aP4
theorem auk:aeW Ka ajP ajR:=by
 intro n i k l h_;delta ajR;obtain⟨h1,h2,rfl,h4,h5⟩:=h_;obtain⟨j,hj⟩:∃j:Nat,(l.length:Int)-i=j:=⟨((l.length:Int)-i).toNat,by omega⟩;induction j generalizing i with
 |zero=>
  refine .stop ?_;have c:¬i<(l.length:Int):=by omega
  simp[ajP,c,bY,bH]
 |succ j ih=>
  have c:i<(l.length:Int):=by omega
  have hx:=(h5 i.toNat (by omega)).2;refine .go ?_ (ih (i+1) (by omega) (by omega) (by omega));simp only[ajP,bW,bF,bH,ajQ];exact⟨fun _=>⟨by omega,by omega,by omega,by rw[bM (by omega) (by omega)]⟩,fun h=>absurd c h⟩
theorem ajS(y_):∀x:QR,Ex aA (zB.wr y_) (.loop (cG f134 0)) (aBj.wr x) (aBl x):=ee bJ ((bI ajN (bI jA bU))) (ws:=aP3) (cn.nil _) (fun _=>by kernel_rfl) (fun z e=>by cases e) im (aS @auk)
abbrev aul:Type:=List ah
abbrev aZh(x:aul):LV:=aw (SV.sl 1 0)
abbrev aZi(x:aul):List ao:= [(1,bE.own 0 (ag.pair (ag.pair ae.sl)) x)]
def aP5(l:List ah):Tr aul:=.need (l.length≤1000000) (.need (Ka (↑l.length:Int) 0 l l) (.ret l))
abbrev Kb(l:List cH.D):Prop:=gK l∧l.length≤1000000
abbrev aHe(l:List cH.D):aul:=l
def aZj:bT:=cj [] auj zB (q1∘q0 Kb) (q1∘q0 aHe) aZh aZi
theorem aHf:abY Kb aP5 aHe:=by
 intro l h_;delta aHe;obtain⟨h1,h2⟩:=h_;simp only[aP5,bF,bH];exact⟨h2,⟨by omega,by omega,rfl,by omega,h1⟩,trivial⟩
theorem Um:aZj.Ok aA 134:=az (bI ajN (bI jA bU)) func134 call134 (ks:=eU) aBj aBk aBl ajS (fun _=>bq @aHf)
abbrev ajT:cl Hp (Jn×Fl×ab×ab×List cH.D×Unit):=bD (cb adG) (bD (cb dA) (bD (dd 0 u8) (bD (dd 0 (.int .i64)) (bD (dd 0 cH) bG))))
abbrev aHg(x:aul):LV:=aw (SV.sl 5 0)
abbrev aHh(x:aul):List ao:= [(5,bE.own 0 (ag.pair (ag.pair ae.sl)) x)]
def ajU(j:an)(f:ai)(b er:ab)(l:List ah):Tr aul:=.need (Kb l) (.ret l)
abbrev xj(j:Jn)(f:Fl)(b er:ab)(l:List cH.D):Prop:=gK l∧l.length≤1000000
abbrev Un(j:Jn)(f:Fl)(b er:ab)(l:List cH.D):aul:=l
def aHi:bT:=cj [] ((bR (bO (cr 0 0)) bG)) ajT (q5∘q0 xj) (q5∘q0 Un) aHg aHh
theorem ajV:acf xj ajU Un:=by
 intro j f b er l h_;delta Un;simp only[ajU,bF,bH];exact⟨h_,trivial⟩
theorem ajW:aHi.Ok aA 92:=ay (bI Um bU) func92 call92 (ks:=eU) (fun _=>bx @ajV)
abbrev jLg(j:Nat):cl bE Sg:=fe 160 ((bR (cr j 0) cSg))
abbrev aZk:cl bE Sg:=jLg 4
abbrev aP6:cl bE Jn:=fe 206 (zy 0 (pk 5 0))
def sN(f:ai):(Int×ab)×Bool×Bool×Int:=f
abbrev xm:Type:=(ak)×an×(List ah)
abbrev aj1(x:xm):LV:=LV.dB [VV.sc (SV.ptr 3 0),VV.sc (SV.int i64 (SI.lit 0))]
abbrev aj2(x:xm):List ao:= [(3,aZk.wr x.1),(4,aP6.wr x.2.1),(5,bE.own 0 (ag.pair (ag.pair ae.sl)) x.2.2)]
def tF(r:Int×Int)(f:ai)(b er:ab):Tr (IK⊕sk⊕xm):=.ite (decide ¬r.2=2) (.need (zz r (sN f) b er) (.ret (.inl ()))) (.ite f.2.1 (.need (zz r (sN f) b er) (.ite ((5:Int)!=0) (.ret (.inr (.inl (5)))) .fail)) (.need (zz r (sN f) b er) (.need (xj (eO b r).1 (sN f) b er (eO b r).2) (.need (qJ (eO b r).2) (.ret (.inr (.inr (eA jd (eO b r).2,(eO b r).1,(eO b r).2))))))))
theorem QS:∀ (n:Nat) (b:ab),bL b→b.length<1099511627776→gK (dP n b).1
 |0,_,_,_=>fun k h=>by simp[dP]at h
 |n+1,b,hb,hl=>by
  rw[dP];split
  ·rename_i c;have ih:=QS n (b.drop (eW b).2.1.toNat) (hb.drop _) (by rw[List.length_drop];omega);intro k hk;cases k with
   |zero=>
    have e:=(oG c.1).2.2.1;simp only[List.getD_cons_zero,e,QH];exact⟨(hb.drop _).take _,by rw[List.length_take,List.length_drop];omega⟩
   |succ k=>
    simp only[List.getD_cons_succ];exact ih k (by simpa using hk)
  ·intro k h;simp at h
theorem Ke{b er:ab}{r:Int×Int}(h1:dE b er)(h2:bL b)(h3:iO r er)(h4:r.2=2):gK (eO b r).2∧(eO b r).2.length≤1000000:=by
 unfold eO;split
 ·exact⟨fun k h=>by simp at h,by simp⟩
 ·have hp:=pY (ff b r (pZ (ff b r 0) (ff b r 1)).1).length ((ff b r (pZ (ff b r 0) (ff b r 1)).1).drop 16);have hl:(ff b r (pZ (ff b r 0) (ff b r 1)).1).length≤1024:=by show(cO _ _ _).length≤_;unfold cO;rw[List.length_take];omega
  have hd:((ff b r (pZ (ff b r 0) (ff b r 1)).1).drop 16).length≤1024:=by rw[List.length_drop];omega
  exact⟨QS _ _ ((wB h2 _ _).drop _) (by omega),by simp only;omega⟩
abbrev iM(r:Int×Int)(f:Fl)(b er:ab):Prop:=dE b er∧bL b∧iO r er
abbrev xn(r:Int×Int)(f:Fl)(b er:ab):Bool:=decide (r.2≠2)
abbrev Kf(r:Int×Int)(f:Fl)(b er:ab):IK:=()
abbrev Bi(r:Int×Int)(f:Fl)(b er:ab):Bool:=f.2.1
abbrev Kg(r:Int×Int)(f:Fl)(b er:ab):sk:=5
abbrev Kh(r:Int×Int)(f:Fl)(b er:ab):xm:=(eA jd (eO b r).2,(eO b r).1,(eO b r).2)
def aum:bT:=Xp [] rgA ow (q3∘q1 iM) (q3∘q1 xn) (q3∘q1 Kf) (q3∘q1 Bi) (q3∘q1 Kg) (q3∘q1 Kh) aPm aEQ aPo aEE aj1 aj2
theorem adH(r:Int×Int)(f:Fl)(b er:ab)(h_:iM r f b er):(xn r f b er=true→(tF r f b er).Is (.inl (Kf r f b er)))∧(xn r f b er=false→Bi r f b er=true→(tF r f b er).Is (.inr (.inl (Kg r f b er))))∧(xn r f b er=false→Bi r f b er=false→(tF r f b er).Is (.inr (.inr (Kh r f b er)))):=by
 delta xn Kf Bi Kg Kh;have hp:zz r (sN f) b er:=h_;obtain⟨h1,h2,h3⟩:=h_;by_cases c:r.2=2
 ·obtain⟨o1,o2⟩:=Ke h1 h2 h3 c;have hl:qJ (eO b r).2:=⟨o1,by show(eO b r).2.length<_;omega⟩;have ha:∀x y z w,xj x y z w (eO b r).2:=fun _ _ _ _=>⟨o1,o2⟩;cases c2:f.2.1 with
  |true=>simp[tF,c,c2,bY,bF,bH];exact hp
  |false=>simp[tF,c,c2,bY,bF,bH];exact⟨hp,ha _ _ _ _,hl⟩
 ·simp[tF,c,bY,bF,bH];exact hp
theorem Hr:aum.Ok aA 60:=SM bJ ((bI aGV (bI ajW (bI J9 bU)))) func60 (by kernel_rfl) call60 (ks:= [.bS,.ck,.iN 5 11 8 .u8,.cK 5 [.bV,.sym,.sym,.sym,.sym,.bV,.sym,.sym,.sym,.sym,.sym,.bV,.rd true u8]]) (fun _ _=>cn.nil _) (fun _ _=>by kernel_rfl) fun x_=>br (@adH x_.1)
abbrev aZl:cl bE Jn:=fe 206 (zy 2 (pk 5 0))
abbrev adI:cl Hp (Sg×Jn×Fl×ab×ab×List cH.D×Unit):=bD (cb (jLg 1)) (bD (cb aZl) (bD (cb qI) (bD (dd 0 u8) (bD (dd 0 (.int .i64)) (bD (dd 0 cH) bG)))))
def aBn(s:ak)(j:an) (f:ai) (b:ab) (er:ab) (l:List ah):Tr YD:=.need (s.2.2.2.2.2.2.2.length≤70368744177664) (.ret (s.1.1,s.1.2.1,s.1.2.2.1,s.1.2.2.2.1,s.1.2.2.2.2,s.2.1,s.2.2.1,s.2.2.2.1,s.2.2.2.2.1,s.2.2.2.2.2.1,s.2.2.2.2.2.2.1,s.2.2.2.2.2.2.2))
abbrev qK(s:Sg)(j:Jn)(f:Fl)(b er:ab)(l:List cH.D):Prop:=s.2.2.2.2.2.2.2.length≤70368744177664
abbrev aj3(s:Sg)(j:Jn)(f:Fl)(b er:ab)(l:List cH.D):YD:=eP s
def aP9:bT:=cj [] ((bR (bO (cr 0 0)) bG)) adI (q6∘q0 qK) (q6∘q0 aj3) aPP aPQ
theorem aun:ac1 qK aBn aj3:=by
 intro s j f b er l h_;delta aj3;simp only[aBn,bF,bH];exact⟨h_,rfl⟩
theorem Bj:aP9.Ok aA 50:=ay (bI jA bU) func50 call50 (ks:= [.mS 0 10 8 .u8,.fr [.sym],.cu,.bS,.ck]) (fun _=>bz @aun)
structure aj4 (s:Sg):Prop where
 mid:s.2.2.2.2.2.2.2.length≤200
 bK: -1≤s.1.1∧s.1.1≤1
 ver:vg s.1.2.1
 lP:vg s.1.2.2.1
theorem YH{b:ab}(h:(mh b).2=true):ajk (mh b).1∧vg (mh b).1.2.1∧vg (mh b).1.2.2.1:=by
 unfold mh at h ⊢;split at h
 ·rename_i c;rw[if_pos c];refine⟨?_,Be _,Be _⟩;have h2:=c.2;unfold nJ at h2;split at h2
  ·assumption
  ·have:=pS h2;simp at this;omega
 ·cases h
theorem aj5{s:Sg}(h:aj4 s)(x:ah):aj4 (xi s x):=by
 unfold xi;by_cases c1:x.1=2
 ·rw[if_pos c1];by_cases c:(mh x.2.2).2=true
  ·rw[if_pos c];have hc:=YH c;refine⟨by simp[Gp],⟨by have:=hc.1.1;show-1≤(mh x.2.2).1.1;omega,hc.1.2.1⟩,hc.2.1,?_⟩;show vg (if _ then _ else _);split
   ·exact h.lP
   ·exact hc.2.2
  ·rw[if_neg c];exact h
 ·rw[if_neg c1];by_cases c2:x.1=3
  ·rw[if_pos c2];by_cases c:(o6 x.2.2).2=true
   ·rw[if_pos c];refine⟨?_,h.bK,h.ver,h.lP⟩;unfold o6 at c ⊢;split at c
    ·rename_i c2;rw[if_pos c2];show(x.2.2.drop 32).length≤200;rw[List.length_drop];omega
    ·cases c
   ·rw[if_neg c];exact h
  ·rw[if_neg c2];by_cases c3:x.1=4
   ·rw[if_pos c3];exact⟨by simp[Gp],h.bK,h.ver,h.lP⟩
   ·rw[if_neg c3];exact h
theorem Ek:∀ (l:List ah) {s:Sg},aj4 s→aj4 (eA s l)
 | [],_,h=>h
 |x::l,s,h=>Ek l (aj5 h x)
theorem aj6:aj4 jd:=⟨by simp[jd,Gp],⟨by decide,by decide⟩,⟨by decide,by decide⟩,⟨by decide,by decide⟩⟩
end Go.Proofs.YtliehnnljilacaaGreat
namespace Go.Proofs.YtliehnnljilacaaGreat
open Go Go.Ev Go.Proofs.Tryz
set_option maxRecDepth 1000000
def nM(f:ai):(Int×ab)×Bool×Bool×Int:=f
abbrev YI:Type:=Int×Int×Int×Int×ab×Int
abbrev aQa(x:YI):LV:=LV.dB [VV.agg [ar x.1,SV.int u64 (SI.sym x.2.1),SV.int u64 (SI.sym x.2.2.1),ar x.2.2.2.1,SV.arr ae 64 x.2.2.2.2.1],VV.sc (ar x.2.2.2.2.2)]
abbrev aQb(x:YI):List ao:= []
def YJ(c:aj)(f:ai)(b er:ab):Tr YI:=.ite (!decide (((1≤c.1.length∧c.1.length≤8∧3≤c.2∧c.2≤100)∧(2:Int)+2*c.2≤(↑er.length:Int))∧(0:Int)≤0∧(0:Int)< 2)) (.need (nz c 0 (nM f) b er) (.ret (0,0,0,0,List.replicate 64 (0:Int),1))) (.need (nz c 0 (nM f) b er) (.ite (!decide ((1:Int)≤2∧(0:Int)≤0∧2≤(↑er.length:Int))) (.need (lN 0 2 (nM f) b er) (.ret (0,0,0,0,List.replicate 64 (0:Int),1))) (.need (lN 0 2 (nM f) b er) (.ite (decide ¬(2:Int)=2) (.need (iM (0,2) (nM f) b er) (.ret (0,0,0,0,List.replicate 64 (0:Int),1))) (.ite f.2.1 (.need (iM (0,2) (nM f) b er) (.ite ((5:Int)!=0) (.ret (0,0,0,0,List.replicate 64 (0:Int),5)) .fail)) (.need (iM (0,2) (nM f) b er) (.need (qK (eA jd (eO b (0,2)).2) (eO b (0,2)).1 (nM f) b er (eO b (0,2)).2) (.ret ((eA jd (eO b (0,2)).2).1.1,(eA jd (eO b (0,2)).2).1.2.1,(eA jd (eO b (0,2)).2).1.2.2.1,(eA jd (eO b (0,2)).2).1.2.2.2.1,(eA jd (eO b (0,2)).2).1.2.2.2.2,0)))))))))
def auo(b:ab):Sg:=eA jd (eO b (0,2)).2
def kj(f:Fl)(b er:ab)(c:aj):Cm×Int:=if ¬kD c er then(Uc,1)else if f.2.1=true then(Uc,5)else((auo b).1,0)
abbrev Bk(c:aj)(f:Fl)(b er:ab):Prop:=dE b er∧bL b
abbrev aj7(c:aj)(f:Fl)(b er:ab):YI:=((kj f b er c).1.1,(kj f b er c).1.2.1,(kj f b er c).1.2.2.1,(kj f b er c).1.2.2.2.1,(kj f b er c).1.2.2.2.2,(kj f b er c).2)
def aQc:bT:=cj [none,some (.arr u8 32)] agt ow (q3∘q1 Bk) (q3∘q1 aj7) aQa aQb
theorem aup:acb Bk YJ aj7:=by
 intro c f b er h_;delta aj7;obtain⟨h1,h2⟩:=h_;have hs:nz c 0 (nM f) b er:=h1;have ho:lN 0 2 (nM f) b er:=h1;by_cases c1:kD c er
 ·have hg:iO (0,2) er:=⟨by decide,by decide,by show(0:Int)+2≤er.length;omega⟩;have h2':(2:Int)≤er.length:=by omega
  have hl:iM (0,2) (nM f) b er:=⟨h1,h2,hg⟩;have hm:=(Ek (eO b (0,2)).2 aj6).mid;have hq:∀j f' b' Bl l,qK (auo b) j f' b' Bl l:=fun _ _ _ _ _=>by show(auo b).2.2.2.2.2.2.2.length≤_;unfold auo;omega
  cases c2:f.2.1 with
  |true=>simp[YJ,kj,c1,c2,h2',bY,bF,bH,Uc];exact⟨h1,h2,hg⟩
  |false=>
   have hq':(eA jd (eO b (0,2)).2).2.2.2.2.2.2.2.length≤70368744177664:=(by omega);simp[YJ,kj,c1,c2,h2',bY,bF,bH];exact⟨h1,hl,hq',rfl,rfl,rfl,rfl,rfl⟩
 ·simp[YJ,kj,c1,bY,bF,bH,Uc];exact hs
theorem YK:aQc.Ok aA 41:=ay (bI DF (bI IM (bI Hr (bI Bj bU)))) func41 call41 (ks:=eU) (fun x_=>br (@aup x_.1))
abbrev jCf:cl bE (aj):=fe 29 cCf
abbrev aZm:cl (List SV) Cm:=(cCm bG).jr (fun x=>(x.1,x.2.1,x.2.2.1,x.2.2.2.1,x.2.2.2.2.1)) (fun y=>(y.1,y.2.1,y.2.2.1,y.2.2.2.1,y.2.2.2.2,())) (fun _=>rfl)
abbrev jCm:cl bE Cm:=fe 47 aZm
def El(f:Fl)(b er:ab)(c:aj)(fl:Int):ab→Int×ab×Int
 | []=>(-1,List.replicate 64 0,13)
 |s::l=>if(TZ f b er c s fl).2.2=0 then(s,(TZ f b er c s fl).2.1,0)else El f b er c fl l
theorem QT{f:Fl}{b er:ab}{c:aj}{fl:Int}:∀ {l:ab},(El f b er c fl l).2.2≠0→El f b er c fl l=(-1,List.replicate 64 0,13)
 | [],_=>rfl
 |s::l,h=>by
  rw[El]at h ⊢;split at h
  ·exact absurd rfl h
  ·rename_i c2;rw[if_neg c2];exact QT h
abbrev QU:Type:=Int×Int×ai×ab×ab×aj×ab×(Int×Int×Int×Int×ab)×ab
abbrev aBo:cl St QU:=(dy (bR (bO (cr (0) (0))) (jk 2 (bR (bO (cr (3) (0))) (jk 1 (bR (bO (cr (4) (0))) (jk 1 (bR (bO (cr (5) (0))) (jk 27 (bR (bO (pk (6) (0))) (bD (bO (bX i64)) (bD (bO (bX i64)) (jk 19 bG)))))))))))) (bD (cb Pd) (bD (dd (0) ae) (bD (dd (0) ag) (bD (cb jCf) (bD (ob (37) ((bD (oa ae (64)) bG))) (bD (cb jCm) (bD (dd (0) ag) bG)))))))).jr (fun y=>(y.1.1,y.1.2.1,y.2.1,y.2.2.1,y.2.2.2.1,y.2.2.2.2.1,y.2.2.2.2.2.1.1,y.2.2.2.2.2.2.1,y.2.2.2.2.2.2.2.1)) (fun x=>((x.1,(x.2.1,())),(x.2.2.1,(x.2.2.2.1,(x.2.2.2.2.1,(x.2.2.2.2.2.1,((x.2.2.2.2.2.2.1,()),(x.2.2.2.2.2.2.2.1,(x.2.2.2.2.2.2.2.2,()))))))))) (fun _=>rfl)
abbrev aBp:List Wk:= [.fr (eH 57 [(0,.bV),(3,.bV),(5,.bV),(7,.bV),(35,.bV),(36,.bV),(37,.bV)]),.cu,.bS,.ck]
abbrev aQd:Exit→List Wk:=ua aBp 1 [.fr (eH 57 [(5,.bV)]),.cu,.bS,.ck] [.fr (eH 57 [(4,.bV),(5,.bV),(6,.bV)]),.cu,.bS,.ck]
def Ki(f:ai):(Int×ab)×Bool×Bool×Int:=f
def aj8(i:Int)(f:ai)(b er:ab)(c:aj)(x:Int×Int×Int×Int×ab) (l:ab):JF×ab×Int:=TZ (Ki f) b er c (l.getD i.toNat 0) x.2.2.1
abbrev Uo:Type:=Int×Int×ai×ab×ab×ab
abbrev aHj(x:Uo):Exit×St:=(Exit.ret,⟨(gE 4 (LV.one (VV.sc (SV.int i64 (SI.sym x.1)))::(LV.one (VV.sc (SV.ptr 3 0))::(LV.one (VV.sc (SV.int i64 (SI.sym x.2.1)))::(gE 50 []))))),[some (Pd.wr x.2.2.1),some (bE.own 0 ae x.2.2.2.1),some (bE.own 0 ag x.2.2.2.2.1),some (bE.cK [SV.arr ae 64 x.2.2.2.2.2] 37)]⟩)
abbrev Up:Type:=(ai)×ab×ab×ab
abbrev aHk(x:Up):Exit×St:=(Exit.exit 1,⟨(gE 5 (LV.one (VV.sc (SV.ptr 3 0))::(gE 51 []))),[some (Pd.wr x.1),some (bE.own 0 ae x.2.1),some (bE.own 0 ag x.2.2.1),some (bE.cK [SV.arr ae 64 x.2.2.2] 37)]⟩)
def YL(n i:Int)(f:ai)(b er:ab)(c:aj)(z:ab) (x:Int×Int×Int×Int×ab) (l:ab):Tr (QU⊕(Uo⊕Up)):=.ite (decide (i<n)) (.need (0≤i∧i< (↑l.length:Int)) (.need (Bb c (l.getD i.toNat 0) x.2.2.1 (Ki f) b er) (.ite ((aj8 i f b er c x l).2.2==0) (.ret (.inr (.inl (l.getD i.toNat 0,0,f,b,er,(aj8 i f b er c x l).2.1)))) (.ret (.inl (n,i64.wrap (i+1),f,b,er,c,z,x,l)))))) (.ret (.inr (.inr (f,b,er,z))))
abbrev Bm(n i:Int)(f:ai)(b er:ab)(c:aj)(z:ab)(x:Int×Int×Int×Int×ab)(l:ab):Prop:=0≤i∧i≤n∧n=l.length∧n<1099511627776∧dE b er∧bL b∧zt c.1
abbrev aj9(n i:Int)(f:ai)(b er:ab)(c:aj)(z:ab)(x:Int×Int×Int×Int×ab)(l:ab):Bool:=decide ((El f b er c x.2.2.1 (l.drop i.toNat)).2.2=0)
abbrev aka(n i:Int)(f:ai)(b er:ab)(c:aj)(z:ab)(x:Int×Int×Int×Int×ab)(l:ab):Uo:=((El f b er c x.2.2.1 (l.drop i.toNat)).1,0,f,b,er,(El f b er c x.2.2.1 (l.drop i.toNat)).2.1)
abbrev akb(n i:Int)(f:ai)(b er:ab)(c:aj)(z:ab)(x:Int×Int×Int×Int×ab)(l:ab):Up:=(f,b,er,z)
abbrev aBq:QU→cT:=oU (aI Bm) (aI aj9) (aI aka) (aI akb) aHj aHk
theorem auq(n i:Int)(f:ai)(b er:ab)(c:aj)(z:ab)(x:Int×Int×Int×Int×ab)(l:ab)(h_:Bm n i f b er c z x l):eG (fun x_:QU=>YL x_.1 x_.2.1 x_.2.2.1 x_.2.2.2.1 x_.2.2.2.2.1 x_.2.2.2.2.2.1 x_.2.2.2.2.2.2.1 x_.2.2.2.2.2.2.2.1 x_.2.2.2.2.2.2.2.2) (n,i,f,b,er,c,z,x,l) (bif aj9 n i f b er c z x l then .inl (aka n i f b er c z x l)else .inr (akb n i f b er c z x l)):=by
 delta aj9 aka akb;obtain⟨h1,h2,rfl,h4,h5⟩:=h_;obtain⟨k,rfl⟩:∃m:Nat,i=m:=⟨i.toNat,by omega⟩;obtain⟨j,hj⟩:∃j,l.length-k=j:=⟨_,rfl⟩;rw[Int.toNat_natCast];induction j generalizing k with
 |zero=>
  refine .stop ?_;have c:¬ (k:Int)<l.length:=by omega
  rw[List.drop_of_length_le (by omega)];simp[YL,c,bY,bH,El]
 |succ j ih=>
  have c1:(k:Int)<l.length:=by omega
  rw[gU 0 (by omega),El];have hp:∀s g,Bb c s g f b er:=fun _ _=>h5;by_cases c2:(TZ f b er c (l.getD k 0) x.2.2.1).2.2=0
  ·rw[if_pos c2];refine .stop ?_;simp only[YL,Ki,bW,bF,cd,bH,Int.toNat_natCast];exact⟨fun _=>⟨by omega,hp _ _,fun _=>rfl,fun h=>absurd c2 h⟩,fun h=>absurd c1 h⟩
  ·rw[if_neg c2];refine .go ?_ (ih (k+1) (by omega) (by omega) (by omega));simp only[YL,Ki,bW,bF,cd,bH,Int.toNat_natCast];exact⟨fun _=>⟨by omega,hp _ _,fun h=>absurd h c2,fun _=>by rw[bM (by omega) (by omega)];rfl⟩,fun h=>absurd c1 h⟩
theorem akc(y_):∀x:QU,Ex aA (ow.wr y_) (.loop (cG f25 1)) (aBo.wr x) (aBq x):=ee bJ ((bI YK (bI Yc bU))) (ws:=aQd) (cn.nil _) (fun _=>by kernel_rfl) (fun z=>by cases z<;>(intro e;cases e)) qw (aX @auq)
def nN(f:ai):(Int×ab)×Bool×Bool×Int:=f
def Uq(c:aj)(f:ai)(b er:ab):ab:= [(kj (nN f) b er c).1.1,i64.wrap (1-(kj (nN f) b er c).1.1)]
def Kj(c:aj)(f:ai)(b er:ab):Int×ab×Int:=El (nN f) b er c (kj (nN f) b er c).1.2.2.1 (List.drop 0 (Uq c f b er))
abbrev YM:Type:=Int×ab×Int
abbrev aQe(x:YM):LV:=LV.dB [VV.sc (ar x.1),VV.agg [SV.arr ae 64 x.2.1],VV.sc (ar x.2.2)]
abbrev aQf(x:YM):List ao:= []
def aBr(c:aj)(f:ai)(b er:ab):Tr YM:=.need (Bk c (nN f) b er) (.ite ((kj (nN f) b er c).2 !=0) (.ret ((-1),List.replicate 64 (0:Int),(kj (nN f) b er c).2)) (.ite ((kj (nN f) b er c).1.1==(-1)) (.ret ((-1),List.replicate 64 (0:Int),13)) (.need (Bm 2 0 (nN f) b er c (List.replicate 64 (0:Int)) (kj (nN f) b er c).1 (Uq c f b er)) (.ite (decide ((Kj c f b er).2.2=0)) (.ret ((Kj c f b er).1,(Kj c f b er).2.1,0)) (.ret ((-1),List.replicate 64 (0:Int),13))))))
def kL(f:Fl)(b er:ab)(c:aj):Int×ab×Int:=if(kj f b er c).2≠0 then(-1,List.replicate 64 0,(kj f b er c).2)else if(kj f b er c).1.1= -1 then(-1,List.replicate 64 0,13)else El f b er c (kj f b er c).1.2.2.1 [(kj f b er c).1.1,1-(kj f b er c).1.1]
abbrev tG(c:aj)(f:Fl)(b er:ab):Prop:=dE b er∧bL b∧zt c.1
abbrev akd(c:aj)(f:Fl)(b er:ab):YM:=kL f b er c
def YN:bT:=cj [none,some (.arr u8 32)] agt ow (q3∘q1 tG) (q3∘q1 akd) aQe aQf
theorem aur:acb tG aBr akd:=by
 intro c f b er h_;delta akd;obtain⟨h1,h2,h3⟩:=h_;have hb:Bk c f b er:=⟨h1,h2⟩;have hs: -1≤(kj f b er c).1.1∧(kj f b er c).1.1≤1:=by
  unfold kj;split
  ·exact⟨by decide,by decide⟩
  ·split
   ·exact⟨by decide,by decide⟩
   ·exact(Ek (eO b (0,2)).2 aj6).bK
 have hw:i64.wrap (1-(kj f b er c).1.1)=1-(kj f b er c).1.1:=bM (by omega) (by omega);have hp:Bm 2 0 f b er c (List.replicate 64 0) (kj f b er c).1 [(kj f b er c).1.1,1-(kj f b er c).1.1]:=⟨by decide,by decide,rfl,by decide,h1,h2,h3⟩;simp only[aBr,nN,Uq,Kj,hw,List.drop_zero,bF,b9,cd,bW,bH,kL];refine⟨hb,fun c1=>⟨fun c2=>?_,fun c2=>⟨hp,fun c3=>?_,fun c3=>?_⟩⟩,fun c1=>?_⟩
 ·rw[if_neg (by simpa using c1),if_pos c2]
 ·rw[if_neg (by simpa using c1),if_neg c2];exact Prod.ext rfl (Prod.ext rfl c3.symm)
 ·rw[if_neg (by simpa using c1),if_neg c2];exact(QT c3).symm
 ·rw[if_pos c1]
theorem Bn:YN.Ok aA 25:=az (bI YK (bI Yc bU)) func25 call25 (ks:=eU) aBo aBp aBq akc (fun x_=>br (@aur x_.1))
end Go.Proofs.YtliehnnljilacaaGreat
