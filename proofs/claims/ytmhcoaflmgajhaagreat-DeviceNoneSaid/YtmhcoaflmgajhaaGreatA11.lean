/- What the laws lean on, part 11: a reader of code, plain facts, and what each function gives; no conditions. -/
import Derived.Test.YtmhcoaflmgajhaaGreatA10
set_option linter.unusedVariables false
set_option linter.unusedSimpArgs false
noncomputable section
namespace Go.Proofs.YtmhcoaflmgajhaaGreat
open Go Go.Ev Go.Proofs.Tryz
open Go.IntKind (i64 signed u32 u64 wrap wrap_u32)
set_option maxRecDepth 1000000
def Vy(k:Int):Int:=if bl .u32 k 1=1 then bt .u32 (shr .u32 k 1) 3988292384 else shr .u32 k 1
def rZ:Nat→Int→Int
 |0,k=>k
 |n+1,k=>rZ n (Vy k)
abbrev yU:Type:=Int×Int
abbrev RT:aH St yU:=(bq (jk 3 (ab (ak (ay u32)) (jk 3 (ab (ak (ay i64)) (jk 11 ae)))))
 ae).jl (fun y=>(y.1.1,y.1.2.1)) (fun x=>((x.1,(x.2,())),())) (fun _=>rfl)
abbrev RU:List Wk:= [.fr (cR 19 [(3,.ao),(7,.ao)]),.syms,.auto,.ba]
abbrev aaC:Exit→List Wk:=zy RU 0 [.fr (cR 19 [(3,.ao)]),.syms,.auto,.ba] [.fr (cR 19 [(2,.ao)]),.syms,.auto,.ba]
abbrev Kh:Type:=Int
abbrev aaD(x:Kh):Exit×St:=(Exit.exit 0,⟨(jt 3 (LV.one (VV.sc (SV.int u32 (SI.sym x)))::(jt 15 []))),[]⟩)
def Ki(k:Int)(x:Int):Tr (yU⊕(Kh)):=(.ite (decide (x<8)) (.ite (bl u32 k (1:Int)==1) (.ret (.inl
 (bt u32 (shr u32 k 1) 3988292384,i64.wrap (x+1)))) (.ret (.inl (shr u32 k 1,i64.wrap (x+1))))) (.ret
 (.inr (k))))
abbrev vo(k:Int)(x:Int):Prop:=0≤x∧x≤8
abbrev Kj(k:Int)(x:Int):Kh:=rZ (8-x).toNat k
abbrev RV:yU→aV:=eR (fun x_=>vo x_.1 x_.2) (fun x_=>Kj x_.1 x_.2) aaD
theorem PJ(k:Int)(x:Int)(h_:vo k x):dB (fun x_:yU=>Ki x_.1 x_.2) (k,x) (Kj k x):=by
 delta Kj;obtain⟨h1,h2⟩:=h_;obtain⟨j,hj⟩:∃j,(8-x).toNat=j:=⟨_,rfl⟩;rw[hj]
 induction j generalizing k x with
 |zero=>refine .stop ?_;have:¬x<8:=by omega
        simp[Ki,this,az,ai,rZ]
 |succ j ih=>
  have c:x<8:=by omega
  refine .go ?_ (ih (Vy k) (x+1) (by omega) (by omega) (by omega));simp only[Ki,Vy,c,ah,aI,aL,aU,aJ,aC,aE,aM,aK,aN,a7,a9,aG,aD,ai]
  try simp only[az,ah,aI,aL,aU,aJ,aC,aE,aM,aK,aN,a7,a9,aG,aD,ai]
  grind [ar]
theorem Kk(y_):∀x:yU,Ex Tryz.prog ((ae).wr y_) (.loop (aY f244 0)) (RT.wr x) (RV x):=
 cJ mixed aw (ws:=aaC) (aS.nil _) (fun _=>by kernel_rfl) (fun z e=>by cases e) fA (fun x_ h=>PJ x_.1 x_.2 h)
abbrev Dy:Type:=Int
abbrev aaE(x:Dy):LV:=LV.one (VV.sc (SV.int u32 (SI.sym x)))
abbrev aaF(x:Dy):List (Nat×Ev.Item):= []
def RW(i:Int):Tr (Dy):=(.need (vo (u32.wrap i) 0) (.ret (rZ 8 (u32.wrap i))))
abbrev vp(i:Int):Prop:=True
abbrev Kl(i:Int):Dy:=rZ 8 (u32.wrap i)
def aaG:al:=bD [] (Xw) (ae) (q0∘q1 vp) (q0∘q1 Kl) aaE aaF
theorem PK(i:Int)(h_:vp i):(RW i).Is (Kl i):=by
 delta Kl;simp only[RW,ah,ai];exact⟨⟨by decide,by decide⟩,trivial⟩
theorem PL:aaG.Ok Tryz.prog 244:=
 a5 mixed aw func244 (by kernel_rfl) call244 (LT:=fun _ y_=> [(0,fh RT ((ae).wr y_) RU RV)]) (ks:=fH) (fun _ y_=>aS.bW (kQ (by kernel_rfl) (b8 (Kk y_)) ly)) (fun _ _=>by kernel_rfl) fun x_ y_ h=>PK x_.1 h
abbrev vq:Type:=Int
abbrev Vz(x:vq):LV:=LV.one (VV.sc (SV.int i64 (SI.sym x)))
abbrev VA(x:vq):List (Nat×Ev.Item):= []
def Km(n:Int):Tr (vq):=(.ite (decide (n<0)==false) (.ite (decide (512<n)) (.ret (0)) (.ret (i64.wrap (16+
 i64.wrap (i64.wrap ((i64.wrap (i64.wrap (n+8)-1)).tdiv 8)*8))))) (.ret (0)))
def eF(n:Int):Int:=if 0≤n∧n≤512 then 16+(n+7)/8*8 else 0
abbrev rr(n:Int):Prop:=True
abbrev Bo(n:Int):vq:=eF n
def VB:al:=bD [] (Xw) (ae) (q0∘q1 rr) (q0∘q1 Bo) Vz VA
theorem Kn(n:Int)(h_:rr n):(Km n).Is (Bo n):=by
 delta Bo;have e:0≤n→n≤512→i64.wrap (i64.wrap (n+8)-1)=n+7:=fun h1 h2=>by rw[ar (n:=n+8) (by omega) (by omega),ar (by omega) (by omega)];omega
 have e2:0≤n→n≤512→i64.wrap (16+i64.wrap (i64.wrap ((i64.wrap (i64.wrap (n+8)-1)).tdiv 8)*8))=16+(n+7)/8*8:=fun h1 h2=>by
  rw[e h1 h2,Int.tdiv_eq_ediv_of_nonneg (by omega),ar (n:=(n+7)/8) (by omega) (by omega),ar (n:=(n+7)/8*8) (by omega) (by omega),ar (by omega) (by omega)]
 simp only[Km,eF,ah,aI,aL,aU,aJ,aC,aE,aM,aK,aN,a7,a9,aG,aD,ai]
 try simp only[az,ah,aI,aL,aU,aJ,aC,aE,aM,aK,aN,a7,a9,aG,aD,ai]
 grind [ar]
theorem Ko:VB.Ok Tryz.prog 166:=
 a5 mixed aw func166 (by kernel_rfl) call166 (ks:=fH) (fun _ _=>aS.nil _) (fun _ _=>by kernel_rfl) fun x_ y_ h=>Kn x_.1 h
abbrev vr:Type:=List Int
abbrev VC(x:vr):LV:=LV.one (VV.sc (SV.sl 0 0))
abbrev VD(x:vr):List (Nat×Ev.Item):= [(0,Item.own 0 (Ty.int IntKind.u8) x)]
def VE(x:Int):Tr (vr):=(.ret ([IntKind.u8.wrap x,IntKind.u8.wrap (shr u32 x 8),IntKind.u8.wrap (shr u32
 x 16),IntKind.u8.wrap (shr u32 x 24)]))
def jm(x:Int):List Int:= [IntKind.u8.wrap x,IntKind.u8.wrap (shr .u32 x 8),IntKind.u8.wrap (shr .u32 x 16),IntKind.u8.wrap (shr .u32 x 24)]
abbrev kf(x:Int):Prop:=True
abbrev Bp(x:Int):vr:=jm x
def VF:al:=bD [] ((ab (ak (ay .u32)) ae)) (ae) (q0∘q1 kf) (q0∘q1 Bp) VC VD
theorem Kp(x:Int)(h_:kf x):(VE x).Is (Bp x):=by
 delta Bp;exact rfl
theorem yV:VF.Ok Tryz.prog 193:=
 a5 mixed aw func193 (by kernel_rfl) call193 (ks:= [.fr [.rd true u8],.fr [.sym],.syms,.auto,.ba]) (fun _ _=>aS.nil _) (fun _ _=>by kernel_rfl) fun x_ y_ h=>Kp x_.1 h
abbrev yW:Type:=Int×(List Int)×(List Int)
abbrev RX:aH St yW:=(bq (aq (ak (a6 (0) (0))) (aq (ak (a6 (1) (0))) (jk 1 (ab (ak (ay i64)) (jk
 8 ae))))) (ab (kJ (286) ((ab (mq (Ty.int u32) (256)) ae))) (ab (kJ (286) ((ab (mq (Ty.int u32) (256)) ae)))
 ae))).jl (fun y=>(y.1.1,y.2.1.1,y.2.2.1.1)) (fun x=>((x.1,()),((x.2.1,()),((x.2.2,()),())))) (fun _=>rfl)
abbrev RY:List Wk:= [.fr (cR 12 [(0,.ao),(1,.ao),(3,.ao)]),.syms,.auto,.ba]
abbrev aaH:Exit→List Wk:=zy RY 0 [.fr (cR 12 [(0,.ao),(1,.ao)]),.syms,.auto,.ba] [.fr (cR 12 [(0,.ao)]),.syms,.auto,
 .ba]
abbrev Kq:Type:=(List Int)×(List Int)
abbrev aaI(x:Kq):Exit×St:=(Exit.exit 0,⟨(LV.one (VV.sc (SV.ptr 0 0))::(LV.one (VV.sc (SV.ptr 1 0))::(jt 10 []))),
 [some (Item.aZ [SV.arr (Ty.int u32) 256 x.1] 286),some (Item.aZ [SV.arr (Ty.int u32) 256 x.2] 286)]⟩)
def Kr(i:Int)(z:List Int)(t:List Int):Tr (yW⊕(Kq)):=(.ite (decide (i<256)) (.need (vp i) (.need (0≤i∧i
 <256) (.ret (.inl (i64.wrap (i+1),z,t.set (0+i.toNat) (rZ 8 (u32.wrap i))))))) (.ret (.inr (z,t))))
theorem Dz:∃l:List Int,l=(List.range 256).map fun i:Nat=>rZ 8 i:=⟨_,rfl⟩
def yX:List Int:=Classical.choose Dz
theorem PM:yX=(List.range 256).map fun i:Nat=>rZ 8 i:=Classical.choose_spec Dz
def r8(n:Nat)(t:List Int):List Int:=(List.range 256).map fun i=>if i<n then rZ 8 i else t.getD i 0
theorem Ks{n:Nat}(h:n<256)(t:List Int):(r8 n t).set n (rZ 8 n)=r8 (n+1) t:=by
 apply List.ext_getElem
 ·simp[r8]
 intro i h1 h2;have h3:i<256:=by simpa [r8]using h2
 simp only[r8,List.getElem_set,List.getElem_map,List.getElem_range]
 by_cases c:n=i
 ·subst c;simp
 ·rw[if_neg c]
  by_cases c2:i<n
  ·rw[if_pos c2,if_pos (by omega)]
  ·rw[if_neg c2,if_neg (by omega)]
abbrev vt(i:Int)(z:List Int)(t:List Int):Prop:=0≤i∧i≤256∧∃u,t=r8 i.toNat u
abbrev Kt(i:Int)(z:List Int)(t:List Int):Kq:=(z,yX)
abbrev RZ:yW→aV:=eR (fun x_=>vt x_.1 x_.2.1 x_.2.2) (fun x_=>Kt x_.1 x_.2.1 x_.2.2) aaI
theorem PN(i:Int)(z:List Int)(t:List Int)(h_:vt i z t):dB (fun x_:yW=>Kr x_.1 x_.2.1 x_.2.2) (i,z,t) (Kt i z t):=by
 delta Kt;obtain⟨h1,h2,u,rfl⟩:=h_;obtain⟨k,rfl⟩:∃m:Nat,i=m:=⟨i.toNat,by omega⟩;obtain⟨j,hj⟩:∃j,256-k=j:=⟨_,rfl⟩;rw[Int.toNat_natCast]
 induction j generalizing k with
 |zero=>refine .stop ?_
        have c:¬ (k:Int)<256:=by omega
        have e:r8 k u=yX:=by
          rw[PM];unfold r8;apply List.map_congr_left;intro i hi;rw[if_pos (by have:=List.mem_range.1 hi;omega)]
        simp[Kr,c,az,ai,e]
 |succ j ih=>
  have c:(k:Int)<256:=by omega
  refine .go ?_ (ih (k+1) (by omega) (by omega) (by omega));have e1:u32.wrap (k:Int)=k:=by rw[wrap_u32];omega
  have e2:=Ks (n:=k) (by omega) u;simp only[Kr,c,e1,Nat.zero_add,Int.toNat_natCast,e2,ah,aI,aL,aU,aJ,aC,aE,aM,aK,aN,a7,a9,aG,aD,ai]
  try simp only[az,ah,aI,aL,aU,aJ,aC,aE,aM,aK,aN,a7,a9,aG,aD,ai]
  refine⟨fun _=>?_,fun h=>absurd trivial h⟩;rw[ar (by omega) (by omega)];exact⟨trivial,⟨by omega,trivial⟩,rfl⟩
theorem Ku(y_):∀x:yW,Ex Tryz.prog ((ae).wr y_) (.loop (aY f223 0)) (RX.wr x) (RZ x):=
 cJ mixed ((aj PL aw)) (ws:=aaH) (aS.nil _) (fun _=>by kernel_rfl) (fun z e=>by cases e) fA (fun x_ h=>PN x_.1 x_.2.1 x_.2.2 h)
abbrev DA:Type:=List Int
abbrev aaJ(x:DA):LV:=LV.one (VV.agg [SV.arr (Ty.int u32) 256 x])
abbrev aaK(x:DA):List (Nat×Ev.Item):= []
def R0:Tr (DA):=(.need (vt 0 (List.replicate 256 (0:Int)) (List.replicate 256 (0:Int))) (.ret (yX)))
abbrev vu:Prop:=True
abbrev Kv:DA:=yX
def aaL:al:=bD [] (ae) (ae) (q0∘q0 vu) (q0∘q0 Kv) aaJ aaK
theorem PO(h_:vu):(R0).Is (Kv):=by
 delta Kv;simp only[R0,ah,ai];refine⟨⟨by decide,by decide,List.replicate 256 0,?_⟩,trivial⟩
 apply List.ext_getElem
 ·simp[r8]
 ·intro i h1 h2;rw[List.getElem_replicate];simp only[r8,List.getElem_map,List.getElem_range];rw[if_neg (by simp),List.getD_eq_getElem?_getD,List.getElem?_replicate]
  split<;>rfl
theorem DB:aaL.Ok Tryz.prog 223:=
 a5 mixed aw func223 (by kernel_rfl) call223 (LT:=fun _ y_=> [(0,fh RX ((ae).wr y_) RY RZ)]) (ks:=fH) (fun _ y_=>aS.bW (kQ (by kernel_rfl) (b8 (Ku y_)) ly)) (fun _ _=>by kernel_rfl) fun x_ y_ h=>PO h
def Kw(t:List Int)(x:Int)(b:List Int):Int:=b.foldl (fun x c=>bt .u32 (shr .u32 x 8) ((t.take 256).getD (bt .u8 (IntKind.u8.wrap x) c).toNat 0)) x
theorem VG(x y:Int):0≤bt .u8 x y∧bt .u8 x y<256:=by
 unfold bt;rw[IntKind.wrap_u8];omega
abbrev yY:Type:=Int×(List Int)×Int×Int×(List Int)
abbrev R1:aH St yY:=(bq (jk 3 (aq (ak (a6 (0) (0))) (ab (ak (ay u32)) (jk 3 (ab (ak (g9 false
 false (Ty.int IntKind.u8))) (ab (ak (ay i64)) (ab (ak (ay i64)) (jk 15 ae)))))))) (ab (kJ (286) ((ab (mq
 (Ty.int u32) (256)) ae))) ae)).jl (fun y=>(y.1.1,y.1.2.1,y.1.2.2.1,y.1.2.2.2.1,y.2.1.1)) (fun x=>((x.1,(x.2.1,(x.2.2.1,
 (x.2.2.2.1,())))),((x.2.2.2.2,()),()))) (fun _=>rfl)
abbrev R2:List Wk:= [.fr (cR 26 [(3,.ao),(4,.ao),(8,.ao),(9,.ao),(10,.ao)]),.syms,.auto,.ba]
abbrev aaM:Exit→List Wk:=zy R2 0 [.fr (cR 26 [(4,.ao)]),.syms,.auto,.ba] [.fr (cR 26 [(2,.ao)]),.syms,.auto,.ba]
abbrev Kx:Type:=Int
abbrev aaN(x:Kx):Exit×St:=(Exit.exit 0,⟨(jt 4 (LV.one (VV.sc (SV.int u32 (SI.sym x)))::(jt 21 []))),[]⟩)
def Ky(x:Int)(b:List Int)(n:Int)(i:Int)(t:List Int):Tr (yY⊕(Kx)):=(.ite (decide (i<n)) (.need (0≤i∧i
 <(↑b.length:Int)) (.need (0≤bt IntKind.u8 (IntKind.u8.wrap x) (b.getD i.toNat 0)∧bt IntKind.u8 (IntKind.u8.wrap x) (b.getD i.toNat 0)<
 256) (.ret (.inl (bt u32 (shr u32 x 8) ((List.take 256 (List.drop 0 t)).getD (bt IntKind.u8 (IntKind.u8.wrap x) (b.getD i.toNat
 0)).toNat 0),b,n,i64.wrap (i+1),t))))) (.ret (.inr (x))))
abbrev vA(x:Int)(b:List Int)(n:Int)(i:Int)(t:List Int):Prop:=0≤i∧i≤n∧n=b.length∧n<1099511627776
abbrev Kz(x:Int)(b:List Int)(n:Int)(i:Int)(t:List Int):Kx:=Kw t x (b.drop i.toNat)
abbrev R3:yY→aV:=eR (fun x_=>vA x_.1 x_.2.1 x_.2.2.1 x_.2.2.2.1 x_.2.2.2.2) (fun x_=>Kz x_.1 x_.2.1 x_.2.2.1 x_.2.2.2.1 x_.2.2.2.2) aaN
theorem PQ(x:Int)(b:List Int)(n:Int)(i:Int)(t:List Int)(h_:vA x b n i t):dB (fun x_:yY=>Ky x_.1 x_.2.1 x_.2.2.1 x_.2.2.2.1 x_.2.2.2.2) (x,b,n,i,t) (Kz x b n i t):=by
 delta Kz;obtain⟨h1,h2,rfl,h4⟩:=h_;obtain⟨k,rfl⟩:∃m:Nat,i=m:=⟨i.toNat,by omega⟩;obtain⟨j,hj⟩:∃j,b.length-k=j:=⟨_,rfl⟩;rw[Int.toNat_natCast]
 induction j generalizing k x with
 |zero=>
  refine .stop ?_;have c:¬ (k:Int)<b.length:=by omega
  rw[List.drop_of_length_le (by omega)];simp[Ky,c,az,ai,Kw]
 |succ j ih=>
  have c:(k:Int)<b.length:=by omega
  have w:=ih (bt .u32 (shr .u32 x 8) ((t.take 256).getD (bt .u8 (IntKind.u8.wrap x) (b.getD k 0)).toNat 0)) (k+1) (by omega) (by omega) (by omega);rw[iO 0 (by omega),Kw,List.foldl_cons];refine .go ?_ w;have:=VG (IntKind.u8.wrap x) (b.getD k 0);simp only[Ky,c,List.drop_zero,Int.toNat_natCast,ah,aI,aL,aU,aJ,aC,aE,aM,aK,aN,a7,a9,aG,aD,ai]
  try simp only[az,ah,aI,aL,aU,aJ,aC,aE,aM,aK,aN,a7,a9,aG,aD,ai]
  grind [ar]
theorem KA(y_):∀x:yY,Ex Tryz.prog ((ae).wr y_) (.loop (aY f194 0)) (R1.wr x) (R3 x):=
 cJ mixed ((aj DB aw)) (ws:=aaM) (aS.nil _) (fun _=>by kernel_rfl) (fun z e=>by cases e) fA (fun x_ h=>PQ x_.1 x_.2.1 x_.2.2.1 x_.2.2.2.1 x_.2.2.2.2 h)
abbrev DC:Type:=Int
abbrev aaO(x:DC):LV:=LV.one (VV.sc (SV.int u32 (SI.sym x)))
abbrev aaP(x:DC):List (Nat×Ev.Item):= []
def R4(b:List Int):Tr (DC):=(.need (vu) (.need (vA 4294967295 b (↑b.length:Int) 0 yX) (.ret (bt
 u32 4294967295 (Kw yX 4294967295 (List.drop 0 b))))))
def r9(b:List Int):Int:=bt .u32 4294967295 (Kw yX 4294967295 b)
abbrev vB(b:List Int):Prop:=b.length<1099511627776
abbrev KB(b:List Int):DC:=r9 b
def aaQ:al:=bD [some u8] (bA) (ae) (q0∘q1 vB) (q0∘q1 KB) aaO aaP
theorem PR(b:List Int)(h_:vB b):(R4 b).Is (KB b):=by
 delta KB;have h:b.length<1099511627776:=h_;simp only[R4,ah,ai,r9];exact⟨trivial,⟨by omega,by omega,rfl,by omega⟩,rfl⟩
theorem DD:aaQ.Ok Tryz.prog 194:=
 a5 mixed ((aj DB aw)) func194 (by kernel_rfl) call194 (LT:=fun _ y_=> [(0,fh R1 ((ae).wr y_) R2 R3)]) (ks:=fH) (fun _ y_=>aS.bW (kQ (by kernel_rfl) (b8 (KA y_)) ly)) (fun _ _=>by kernel_rfl) fun x_ y_ h=>PR x_.1 h
abbrev afm:aH (List SV) (Int×Int×List Int):=(ab (ay .i64) (ab (ay .i64) (ab (g9 false false u8) ae))).jl (fun x=>(x.1,x.2.1,x.2.2.1)) (fun y=>(y.1,y.2.1,y.2.2,())) (fun _=>rfl)
abbrev afn:aH (List LV) ((Int×Int×List Int)×Unit):=ab (fy afm) ae
abbrev yZ:Type:=List Int
abbrev R5:aH St yZ:=(bq (jk 4 (aq (ak (sI (0) (0))) (jk 60 ae))) (ab (dq (0) (Ty.int IntKind.u8)) ae)).jl
 (fun y=>(y.2.1)) (fun x=>((),(x,()))) (fun _=>rfl)
abbrev R6:List Wk:= [.fr (cR 65 [(4,.ao)]),.syms,.auto,.ba]
abbrev aaR:Exit→List Wk:=zy R6 0 [.fr (cR 65 [(4,.ao)]),.syms,.auto,.ba] [.fr (cR 65 [(2,.ao)]),.syms,.auto,.ba]
abbrev KC:Type:=List Int
abbrev aaS(x:KC):Exit×St:=(Exit.exit 0,⟨(jt 4 (LV.one (VV.sc (SV.sl 0 0))::(jt 60 []))),[some (Item.own 0 (Ty.int
 IntKind.u8) x)]⟩)
def KD(r:List Int):Tr (yZ⊕(KC)):=(.ite ((↑r.length:Int).tmod (8:Int)!=0) (.need ((r.length+1)*1≤
 70368744177664∧r.length+1≤70368744177664) (.ret (.inl (r++ [0])))) (.ret (.inr (r))))
def iF(r:List Int):List Int:=r++List.replicate ((8-r.length%8)%8) 0
theorem KE(r:List Int):(iF r).length%8=0∧r.length≤(iF r).length∧(iF r).length≤r.length+7:=by
 unfold iF;rw[List.length_append,List.length_replicate];omega
abbrev vC(r:List Int):Prop:=r.length+(8-r.length%8)%8<1099511627776
abbrev KF(r:List Int):KC:=iF r
abbrev R7:yZ→aV:=eR (fun x_=>vC x_) (fun x_=>KF x_) aaS
theorem PS(r:List Int)(h_:vC r):dB (fun x_:yZ=>KD x_) r (KF r):=by
 delta KF;have h:r.length+(8-r.length%8)%8<1099511627776:=h_;obtain⟨j,hj⟩:∃j,(8-r.length%8)%8=j:=⟨_,rfl⟩
 induction j generalizing r with
 |zero=>
  refine .stop ?_;have c:(r.length:Int).tmod 8=0:=by rw[Int.tmod_eq_emod_of_nonneg (by omega)];omega
  simp[KD,c,az,ai,iF,hj]
 |succ j ih=>
  have c:(r.length:Int).tmod 8≠0:=by rw[Int.tmod_eq_emod_of_nonneg (by omega)];omega
  have e:iF (r++ [0])=iF r:=by
   unfold iF;rw[List.length_append,List.length_singleton,hj,show(8-(r.length+1)%8)%8=j by omega,List.append_assoc];rfl
  have w:=ih (r++ [0]) (by show(r++ [0]).length+_<_;rw[List.length_append,List.length_singleton];omega) (by rw[List.length_append,List.length_singleton];omega) (by rw[List.length_append,List.length_singleton];omega);rw[e]at w;refine .go ?_ w;simp only[KD,aE,ah,ai];exact⟨fun h=>absurd h c,fun _=>⟨by omega,trivial⟩⟩
theorem KG(y_):∀x:yZ,Ex Tryz.prog ((ae).wr y_) (.loop (aY f151 0)) (R5.wr x) (R7 x):=
 cJ mixed ((aj yV (aj DD (aj lA aw)))) (ws:=aaR) (aS.nil _) (fun _=>by kernel_rfl) (fun z e=>by cases e) fA (fun x_ h=>PS x_ h)
def ru(r:Int×Int×List Int):Int:=(↑r.snd.snd.length:Int)
def dD(r:Int×Int×List Int):List Int:= [[IntKind.u8.wrap r.fst,0,IntKind.u8.wrap (ru r),IntKind.u8.wrap (shr
 i64 (ru r) 8)],jm (u32.wrap r.snd.fst),r.snd.snd].flatten
abbrev DE:Type:=List Int
abbrev aaT(x:DE):LV:=LV.one (VV.sc (SV.rd true false (Ty.int IntKind.u8) x))
abbrev aaU(x:DE):List (Nat×Ev.Item):= []
def R8(r:Int×Int×List Int):Tr (DE):=(.ite (decide (r.fst<1)==false) (.ite (decide (250<r.fst)==false) (.ite
 (decide (r.snd.fst<0)==false) (.ite (decide (4294967295<r.snd.fst)==false) (.ite (decide (512<ru r)) (.ret ([])) (.need (kf
 (u32.wrap r.snd.fst)) (.need ((dD r).length≤70368744177664∧3≤140737488355328) (.need (vC (dD r)) (.need (vB (iF
 (dD r))) (.need (kf (r9 (iF (dD r)))) (.need (kf (bt u32 4294967295 (r9 (iF (dD r))))) (.need ([iF
 (dD r),jm (r9 (iF (dD r))),jm (bt u32 4294967295 (r9 (iF (dD r))))].flatten.length≤70368744177664∧3≤
 140737488355328) (.ret ([iF (dD r),jm (r9 (iF (dD r))),jm (bt u32 4294967295 (r9 (iF (dD
 r))))].flatten)))))))))) (.ret ([]))) (.ret ([]))) (.ret ([]))) (.ret ([])))
def DF(r:Int×Int×List Int):List Int:=iF ([IntKind.u8.wrap r.1,0,IntKind.u8.wrap r.2.2.length,IntKind.u8.wrap (shr .i64 r.2.2.length 8)]++(jm (u32.wrap r.2.1)++r.2.2))
abbrev aaV(r:Int×Int×List Int):Prop:=1≤r.1∧r.1≤250∧0≤r.2.1∧r.2.1≤4294967295∧r.2.2.length≤512
def PT(r:Int×Int×List Int):List Int:=if aaV r then DF r++(jm (r9 (DF r))++jm (bt .u32 4294967295 (r9 (DF r))))else []
abbrev vD(r:Int×Int×List Int):Prop:=True
abbrev KH(r:Int×Int×List Int):DE:=PT r
def aaW:al:=bD [some u8] (afn) (ae) (q0∘q1 vD) (q0∘q1 KH) aaT aaU
theorem PU(r:Int×Int×List Int)(h_:vD r):(R8 r).Is (KH r):=by
 delta KH
 have e3:dD r= [IntKind.u8.wrap r.1,0,IntKind.u8.wrap r.2.2.length,IntKind.u8.wrap (shr .i64 r.2.2.length 8)]++(jm (u32.wrap r.2.1)++r.2.2):=by
  unfold dD ru;simp
 have l3:(dD r).length=8+r.2.2.length:=by rw[e3];simp only[List.length_append,jm,List.length_cons,List.length_nil];omega
 have hp:=KE (dD r);have e2:ru r=r.2.2.length:=rfl;have hb:iF (dD r)=DF r:=by rw[e3];rfl
 have l4:∀x,(jm x).length=4:=fun _=>rfl;simp only[R8,e2,hb,PT,aI,aC,ah,ai,List.flatten_cons,List.flatten_nil,List.append_nil];rw[hb]at hp;grind
theorem PV:aaW.Ok Tryz.prog 151:=
 a5 mixed ((aj yV (aj DD (aj lA aw)))) func151 (by kernel_rfl) call151 (LT:=fun _ y_=> [(0,fh R5 ((ae).wr y_) R6 R7)]) (ks:= [.oU,.fr [.rd true u8],.fr [.sym],.syms,.auto,.ba]) (fun _ y_=>aS.bW (kQ (by kernel_rfl) (b8 (KG y_)) ly)) (fun _ _=>by kernel_rfl) fun x_ y_ h=>PU x_.1 h
def lI(b:List Int):Int:=i64.wrap (8+bf i64 (i64.wrap (b.getD 2 0)) (shl i64
 (i64.wrap (b.getD 3 0)) 8))
def Bq(b:List Int):Int:=(↑b.length:Int)
def Br(b:List Int):Int:=bf i64 (bf i64 (bf i64 (i64.wrap (b.getD 4 0)) (shl
 i64 (i64.wrap (b.getD 5 0)) 8)) (shl i64 (i64.wrap (b.getD 6 0)) 16)) (shl i64 (i64.wrap (b.getD 7 0))
 24)
def vE(b:List Int):Int×Int×List Int:=(i64.wrap (b.getD 0 0),Br b,List.take (lI b-8).toNat (List.drop 8
 b))
abbrev DG:Type:=Int×Int×(List Int)×Int×Bool
abbrev aaX(x:DG):LV:=LV.bV [VV.agg [SV.int i64 (SI.sym x.1),SV.int i64 (SI.sym x.2.1),SV.rd true false
 (Ty.int IntKind.u8) x.2.2.1],VV.sc (SV.int i64 (SI.sym x.2.2.2.1)),VV.sc (SV.bool (SB.sym x.2.2.2.2))]
abbrev aaY(x:DG):List (Nat×Ev.Item):= []
def R9(b:List Int):Tr (DG):=(.ite (decide (Bq b<16)) (.ret (0,0,[],0,false)) (.need ((0:Int)≤2∧2<
 (↑b.length:Int)) (.need ((0:Int)≤3∧3<(↑b.length:Int)) (.need (rr (bf i64 (i64.wrap (b.getD 2 0)) (shl i64
 (i64.wrap (b.getD 3 0)) 8))) (.ite ((eF (bf i64 (i64.wrap (b.getD 2 0)) (shl i64 (i64.wrap (b.getD 3 0))
 8))==0)==false) (.ite (decide (Bq b<eF (bf i64 (i64.wrap (b.getD 2 0)) (shl i64 (i64.wrap (b.getD 3 0))
 8)))) (.ret (0,0,[],0,false)) (.need ((0:Int)≤4∧4<(↑b.length:Int)) (.need ((0:Int)≤5∧5<(↑b.length:Int)) (.need ((0:Int)≤6∧
 6<(↑b.length:Int)) (.need ((0:Int)≤7∧7<(↑b.length:Int)) (.need ((0:Int)≤0∧0<(↑b.length:Int)) (.need ((0:Int)≤8∧8≤lI
 b∧lI b≤(↑b.length:Int)) (.need ((List.take (lI b-8).toNat (List.drop 8 b)).length≤70368744177664) (.need (vD (vE b)) (.need
 ((0:Int)≤0∧0≤eF (bf i64 (i64.wrap (b.getD 2 0)) (shl i64 (i64.wrap (b.getD 3 0)) 8))∧eF (bf
 i64 (i64.wrap (b.getD 2 0)) (shl i64 (i64.wrap (b.getD 3 0)) 8))≤(↑b.length:Int)) (.ite (!dm (PT (vE b))
 (List.take (eF (bf i64 (i64.wrap (b.getD 2 0)) (shl i64 (i64.wrap (b.getD 3 0)) 8))-0).toNat (List.drop 0 b)))
 (.ret (0,0,[],0,false)) (.ret (i64.wrap (b.getD 0 0),Br b,List.take (lI b-8).toNat (List.drop 8 b),eF (bf i64
 (i64.wrap (b.getD 2 0)) (shl i64 (i64.wrap (b.getD 3 0)) 8)),true))))))))))))) (.ret (0,0,[],0,false)))))))
theorem KI{b:Int}(k:Nat){m:Int}(hm:m=2 ^ k)(hk:k≤24)(h:By b)(hb:0≤b*m∧b*m≤4294967296):shl .i64 (i64.wrap b) (k:Nat)=b*m:=by
 unfold By at h;subst hm;rw[ar (by omega) (by omega)];have:=mu .i64 b k (by simp[IntKind.bits];omega);have e:((2 ^ k:Nat):Int)=(2:Int) ^ k:=by simp
 rw[this,e];exact ar (by omega) (by omega)
def ju(b:List Int)(i:Nat):Int:=b.getD i 0+256*b.getD (i+1) 0
def KJ(b:List Int)(i:Nat):Int:=b.getD i 0+256*b.getD (i+1) 0+65536*b.getD (i+2) 0+16777216*b.getD (i+3) 0
theorem PW{b:List Int}(h:aA b):bf .i64 (bf .i64 (bf .i64 (i64.wrap (b.getD 4 0)) (shl .i64 (i64.wrap (b.getD 5 0)) 8)) (shl .i64 (i64.wrap (b.getD 6 0)) 16)) (shl .i64 (i64.wrap (b.getD 7 0)) 24)=KJ b 4:=by
 have h4:=h.getD 4;have h5:=h.getD 5;have h6:=h.getD 6;have h7:=h.getD 7;unfold KJ;generalize b.getD 4 0=x4 at*;generalize b.getD 5 0=x5 at*;generalize b.getD 6 0=x6 at*;generalize b.getD 7 0=x7 at*;have e1:=KI (b:=x5) 8 (m:=256) rfl (by decide) h5 (by unfold By at h5;omega);have e2:=KI (b:=x6) 16 (m:=65536) rfl (by decide) h6 (by unfold By at h6;omega);have e3:=KI (b:=x7) 24 (m:=16777216) rfl (by decide) h7 (by unfold By at h7;omega);rw[show((8:Nat):Int)=8 from rfl]at e1;rw[show((16:Nat):Int)=16 from rfl]at e2;rw[show((24:Nat):Int)=24 from rfl]at e3;rw[e1,e2,e3];unfold By at h4 h5 h6 h7;rw[ar (by omega) (by omega)];rw[fY .i64 x4,vk (m:=8) (x:=x5*256) (y:=x4) (by omega) (by omega) (by omega) (by omega) (by omega)];rw[fY .i64 (x5*256+x4),vk (m:=16) (x:=x6*65536) (y:=x5*256+x4) (by omega) (by omega) (by omega) (by omega) (by omega)];rw[fY .i64 (x6*65536+(x5*256+x4)),vk (m:=24) (x:=x7*16777216) (y:=x6*65536+(x5*256+x4)) (by omega) (by omega) (by omega) (by omega) (by omega)];show _=x4+256*x5+65536*x6+16777216*x7;omega
def Bs(b:List Int):Int×Int×List Int:=(b.getD 0 0,KJ b 4,(b.drop 8).take (ju b 2).toNat)
def bN(b:List Int):(Int×Int×List Int)×Int×Bool:=
 if 16≤b.length∧eF (ju b 2)≠0∧eF (ju b 2)≤b.length∧dm (PT (Bs b)) (b.take (eF (ju b 2)).toNat)=true then(Bs b,eF (ju b 2),true)else((0,0,[]),0,false)
abbrev pv(b:List Int):Prop:=aA b∧b.length<1099511627776
abbrev KK(b:List Int):DG:=((bN b).1.1,(bN b).1.2.1,(bN b).1.2.2,(bN b).2.1,(bN b).2.2)
def aaZ:al:=bD [some u8] (bA) (ae) (q0∘q1 pv) (q0∘q1 KK) aaX aaY
theorem PX(b:List Int)(h_:pv b):(R9 b).Is (KK b):=by
 delta KK;obtain⟨h1,h2⟩:=h_;have b2:=h1.getD 2;have b3:=h1.getD 3;have b0:=h1.getD 0;have t2:bf .i64 (i64.wrap (b.getD 2 0)) (shl .i64 (i64.wrap (b.getD 3 0)) 8)=ju b 2:=Vm b2 b3;have r2:0≤ju b 2∧ju b 2≤65535:=by show 0≤b.getD 2 0+256*b.getD 3 0∧b.getD 2 0+256*b.getD 3 0≤65535;unfold By at b2 b3;omega
 have w0:i64.wrap (b.getD 0 0)=b.getD 0 0:=by unfold By at b0;rw[ar (by omega) (by omega)]
 have e0:lI b=8+ju b 2:=by unfold lI;rw[t2,ar (by omega) (by omega)]
 have e1:Bq b=b.length:=rfl;have e2:Br b=KJ b 4:=PW h1;have e3:(8+ju b 2-8).toNat=(ju b 2).toNat:=by congr 1;omega
 have e4:vE b=Bs b:=by unfold vE Bs;rw[e2,e0,w0,e3]
 simp only[R9,t2,w0,e0,e1,e2,e3,e4,List.drop_zero,Int.sub_zero,ah,aI,aC,a7,aD,ai,beq_iff_eq,beq_eq_false_iff_ne];have hl:(List.take (ju b 2).toNat (List.drop 8 b)).length≤b.length:=by rw[List.length_take,List.length_drop];omega
 have hs:eF (ju b 2)≠0→ju b 2+16≤eF (ju b 2):=fun h=>by
  unfold eF at h ⊢
  split at h
  ·rename_i c;rw[if_pos c];omega
  ·exact absurd rfl h
 have hr:(bN b).1=Bs b→((bN b).1.1,(bN b).1.2.1,(bN b).1.2.2,(bN b).2.1,(bN b).2.2)=(b.getD 0 0,KJ b 4,List.take (ju b 2).toNat (List.drop 8 b),(bN b).2.1,(bN b).2.2):=fun h=>by rw[h];rfl
 unfold bN at*;generalize eF (ju b 2)=z at*;grind
theorem vF:aaZ.Ok Tryz.prog 131:=
 a5 mixed ((aj Ko (aj iw (aj PV (aj mH aw))))) func131 (by kernel_rfl) call131 (ks:= [.oU,.fr [.rd true u8],.fr [.sym],.syms,.auto,.ba]) (fun _ _=>aS.nil _) (fun _ _=>by kernel_rfl) fun x_ y_ h=>PX x_.1 h
abbrev PY:Type:=Bool
abbrev afo(x:PY):LV:=LV.one (VV.sc (SV.bool (SB.sym x)))
abbrev afp(x:PY):List (Nat×Ev.Item):= []
def aa0(x:Int):Tr (PY):=(.ret (x !=255))
abbrev Bu(x:Int):Prop:=True
abbrev VH(x:Int):PY:=decide (x≠255)
def afq:al:=bD [] ((ab (ak (ay .u8)) ae)) (ae) (q0∘q1 Bu) (q0∘q1 VH) afo afp
theorem VI(x:Int)(h_:Bu x):(aa0 x).Is (VH x):=by
 delta VH;simp only[aa0,ai]
 by_cases h:x=255<;>simp[h]
theorem KL:afq.Ok Tryz.prog 168:=
 a5 mixed aw func168 (by kernel_rfl) call168 (ks:=fH) (fun _ _=>aS.nil _) (fun _ _=>by kernel_rfl) fun x_ y_ h=>VI x_.1 h
abbrev bfA:aH (List LV) (List Int×Unit):=ab (ak (g9 false false u8)) (aq (ak (sFn 168)) ae)
def df(b:List Int):Bool:=b.all (· ==255)
def fixF:List Int→Int
 | []=>0
 |x::l=>if x=255 then fixF l+1 else 0
theorem y4:∀l,0≤fixF l
 | []=>by simp[fixF]
 |x::l=>by have:=y4 l;unfold fixF;split<;>omega
abbrev y5:Type:=(List Int)×Int×Int
abbrev Sa:aH St y5:=(bq (ab (ak (g9 false false (Ty.int IntKind.u8))) (aq (ak (sFn (168))) (jk 5 (ab (ak
 (ay i64)) (ab (ak (ay i64)) (jk 10 ae)))))) ae).jl (fun y=>(y.1.1,y.1.2.1,y.1.2.2.1)) (fun x=>((x.1,(x.2.1,
 (x.2.2,()))),())) (fun _=>rfl)
abbrev Sb:List Wk:= [.fr (cR 19 [(0,.ao),(1,.ao),(7,.ao),(8,.ao)]),.syms,.auto,.ba]
abbrev aa1:Exit→List Wk:=zy Sb 0 [.fr (cR 19 []),.syms,.auto,.ba] [.fr (cR 19 [(4,.ao)]),.syms,.auto,.ba]
abbrev Bv:Type:=Int
abbrev VJ(x:Bv):Exit×St:=(Exit.ret,⟨(jt 4 (LV.one (VV.sc (SV.int i64 (SI.sym x)))::(jt 14 []))),[]⟩)
abbrev Bw:Type:=Unit
abbrev VK(x:Bw):Exit×St:=(Exit.exit 0,⟨(jt 19 []),[]⟩)
def DH(b:List Int)(n:Int)(i:Int):Tr (y5⊕(Bv⊕Bw)):=(.ite (decide (i<n)) (.need (0≤i∧i<(↑b.length:
 Int)) (.need (Bu (b.getD i.toNat 0)) (.ite (decide ¬b.getD i.toNat (0:Int)=255) (.ret (.inr (.inl (i)))) (.ret (.inl (b,n,i64.wrap (i
 +1))))))) (.ret (.inr (.inr ()))))
abbrev vG(b:List Int)(n:Int)(i:Int):Prop:=0≤i∧i≤n∧n=b.length∧n<1099511627776
abbrev KM(b:List Int)(n:Int)(i:Int):Bool:= !df (b.drop i.toNat)
abbrev KN(b:List Int)(n:Int)(i:Int):Bv:=i+fixF (b.drop i.toNat)
abbrev KO(b:List Int)(n:Int)(i:Int):Bw:=()
abbrev Sc:y5→aV:=qA (fun x_=>vG x_.1 x_.2.1 x_.2.2) (fun x_=>KM x_.1 x_.2.1 x_.2.2) (fun x_=>KN x_.1 x_.2.1 x_.2.2) (fun x_=>KO x_.1 x_.2.1 x_.2.2) VJ VK
theorem PZ(b:List Int)(n:Int)(i:Int)(h_:vG b n i):dB (fun x_:y5=>DH x_.1 x_.2.1 x_.2.2) (b,n,i) (bif KM b n i then .inl (KN b n i)else .inr (KO b n i)):=by
 delta KM KN KO;obtain⟨h1,h2,rfl,h4⟩:=h_;obtain⟨k,rfl⟩:∃m:Nat,i=m:=⟨i.toNat,by omega⟩;obtain⟨j,hj⟩:∃j,b.length-k=j:=⟨_,rfl⟩;rw[Int.toNat_natCast]
 induction j generalizing k with
 |zero=>
  refine .stop ?_;have c:¬ (k:Int)<b.length:=by omega
  rw[List.drop_of_length_le (by omega)];simp[DH,c,az,ai,df]
 |succ j ih=>
  have c:(k:Int)<b.length:=by omega
  rw[iO 0 (by omega)]
  by_cases c2:b.getD k 0=255
  ·have w:=ih (k+1) (by omega) (by omega) (by omega);have e1:df (b.getD k 0::b.drop (k+1))=df (b.drop (k+1)):=(by unfold df;rw[List.all_cons,c2];rfl);have e2:(k:Int)+fixF (b.getD k 0::b.drop (k+1))=((k+1:Nat):Int)+fixF (b.drop (k+1)):=(by rw[fixF,if_pos c2];omega);rw[e1,e2];refine .go ?_ w;simp only[DH,c,Int.toNat_natCast,c2,ah,aI,aL,aU,aJ,aC,aE,aM,aK,aN,a7,a9,aG,aD,ai]
   try simp only[az,ah,aI,aL,aU,aJ,aC,aE,aM,aK,aN,a7,a9,aG,aD,ai]
   grind [ar]
  ·refine .stop ?_;have e1:df (b.getD k 0::b.drop (k+1))=false:=(by unfold df;rw[List.all_cons,beq_eq_false_iff_ne.2 c2];rfl);have e2:fixF (b.getD k 0::b.drop (k+1))=0:=(by rw[fixF,if_neg c2]);rw[e1,e2];simp only[DH,c,Int.toNat_natCast,c2,ah,aI,aL,aU,aJ,aC,aE,aM,aK,aN,a7,a9,aG,aD,ai]
   try simp only[az,ah,aI,aL,aU,aJ,aC,aE,aM,aK,aN,a7,a9,aG,aD,ai]
   grind
theorem KP(y_):∀x:y5,Ex Tryz.prog ((ae).wr y_) (.loop (aY f208 0)) (Sa.wr x) (Sc x):=
 cJ mixed ((aj KL aw)) (ws:=aa1) (aS.nil _) (fun _=>by kernel_rfl) (fun z=>by cases z<;>(intro e;cases e)) tX (fun x_ h=>PZ x_.1 x_.2.1 x_.2.2 h)
abbrev KQ:Type:=Int
abbrev afr(x:KQ):LV:=LV.one (VV.sc (SV.int i64 (SI.sym x)))
abbrev afs(x:KQ):List (Nat×Ev.Item):= []
def aa2(b:List Int):Tr (KQ):=(.need (vG b (↑b.length:Int) 0) (.ite (!df (List.drop 0 b)) (.ret (0+fixF (List.drop
 0 b))) (.ret ((-1)))))
abbrev Bx(b:List Int):Prop:=b.length<1099511627776
abbrev VL(b:List Int):KQ:=(if df b=true then-1 else fixF b)
def afu:al:=bD [some u8,none] (bfA) (ae) (q0∘q1 Bx) (q0∘q1 VL) afr afs
theorem VM(b:List Int)(h_:Bx b):(aa2 b).Is (VL b):=by
 delta VL;have h:b.length<1099511627776:=h_;simp only[aa2,List.drop_zero,Int.toNat_zero,ah,aI,aL,aU,aJ,aC,aE,aM,aK,aN,a7,a9,aG,aD,ai]
 try simp only[az,ah,aI,aL,aU,aJ,aC,aE,aM,aK,aN,a7,a9,aG,aD,ai]
 grind
theorem VN:afu.Ok Tryz.prog 208:=
 a5 mixed ((aj KL aw)) func208 (by kernel_rfl) call208 (LT:=fun _ y_=> [(0,fh Sa ((ae).wr y_) Sb Sc)]) (ks:=fH) (fun _ y_=>aS.bW (kQ (by kernel_rfl) (b8 (KP y_)) ly)) (fun _ _=>by kernel_rfl) fun x_ y_ h=>VM x_.1 h
abbrev P0:Type:=Bool
abbrev afv(x:P0):LV:=LV.one (VV.sc (SV.bool (SB.sym x)))
abbrev afw(x:P0):List (Nat×Ev.Item):= []
def aa3(b:List Int):Tr (P0):=(.need (Bx b) (.ret (decide (0≤if df b=true then(-1:KQ)else fixF b))))
abbrev Bz(b:List Int):Prop:=b.length<1099511627776
abbrev VO(b:List Int):P0:= !df b
def afx:al:=bD [some u8,none] (bfA) (ae) (q0∘q1 Bz) (q0∘q1 VO) afv afw
theorem VP(b:List Int)(h_:Bz b):(aa3 b).Is (VO b):=by
 delta VO;have h:b.length<1099511627776:=h_;have:=y4 b;simp only[aa3,ah,aI,aL,aU,aJ,aC,aE,aM,aK,aN,a7,a9,aG,aD,ai]
 try simp only[az,ah,aI,aL,aU,aJ,aC,aE,aM,aK,aN,a7,a9,aG,aD,ai]
 grind
theorem VQ:afx.Ok Tryz.prog 167:=
 a5 mixed ((aj VN aw)) func167 (by kernel_rfl) call167 (ks:=fH) (fun _ _=>aS.nil _) (fun _ _=>by kernel_rfl) fun x_ y_ h=>VP x_.1 h
abbrev P1:Type:=Bool
abbrev afy(x:P1):LV:=LV.one (VV.sc (SV.bool (SB.sym x)))
abbrev afz(x:P1):List (Nat×Ev.Item):= []
def aa4(b:List Int):Tr (P1):=(.need (Bz b) (.ret (!!df b)))
abbrev BA(b:List Int):Prop:=b.length<1099511627776
abbrev VR(b:List Int):P1:=df b
def afA:al:=bD [some u8] (bA) (ae) (q0∘q1 BA) (q0∘q1 VR) afy afz
theorem VS(b:List Int)(h_:BA b):(aa4 b).Is (VR b):=by
 delta VR;simp only[aa4,Bool.not_not,ah,aI,aL,aU,aJ,aC,aE,aM,aK,aN,a7,a9,aG,aD,ai]
 try simp only[az,ah,aI,aL,aU,aJ,aC,aE,aM,aK,aN,a7,a9,aG,aD,ai]
 exact⟨h_,trivial⟩
theorem KR:afA.Ok Tryz.prog 132:=
 a5 mixed ((aj VQ aw)) func132 (by kernel_rfl) call132 (ks:=fH) (fun _ _=>aS.nil _) (fun _ _=>by kernel_rfl) fun x_ y_ h=>VS x_.1 h
abbrev P2:Type:=Int
abbrev afB(x:P2):LV:=LV.one (VV.sc (SV.int i64 (SI.sym x)))
abbrev afC(x:P2):List (Nat×Ev.Item):= []
def aa5(b:List Int):Tr (P2):=(.need (pv b) (.ite ((!(bN b).snd.snd)==false) (.ite (((bN b).fst.fst !=1)==false)
 (.ite (decide (0<(↑(bN b).fst.snd.snd.length:Int))) (.ret (0)) (.ret ((bN b).fst.snd.fst))) (.ret (0))) (.ret (0))))
def px(b:List Int):Int:=if(bN b).2.2=true∧(bN b).1.1=1∧(bN b).1.2.2= []then(bN b).1.2.1 else 0
abbrev lJ(b:List Int):Prop:=aA b∧b.length<1099511627776
abbrev VT(b:List Int):P2:=px b
def afD:al:=bD [some u8] (bA) (ae) (q0∘q1 lJ) (q0∘q1 VT) afB afC
theorem VU(b:List Int)(h_:lJ b):(aa5 b).Is (VT b):=by
 delta VT;have h:aA b∧b.length<1099511627776:=h_;have e:(bN b).1.2.2= []↔(bN b).1.2.2.length=0:=List.length_eq_zero_iff.symm;simp only[aa5,px,ah,aI,aL,aU,aJ,aC,aE,aM,aK,aN,a7,a9,aG,aD,ai]
 try simp only[az,ah,aI,aL,aU,aJ,aC,aE,aM,aK,aN,a7,a9,aG,aD,ai]
 refine⟨h,?_⟩;generalize bN b=x at*;grind
theorem VW:afD.Ok Tryz.prog 98:=
 a5 mixed ((aj vF aw)) func98 (by kernel_rfl) call98 (ks:=fH) (fun _ _=>aS.nil _) (fun _ _=>by kernel_rfl) fun x_ y_ h=>VU x_.1 h
theorem jc{b:List Int}(h:(bN b).2.2=true):16≤(bN b).2.1∧(bN b).2.1≤b.length∧(bN b).1=Bs b∧(bN b).2.1=eF (ju b 2):=by
 unfold bN at h ⊢
 split at h
 ·rename_i c;rw[if_pos c];refine⟨?_,c.2.2.1,rfl,rfl⟩;have:=c.2.1;unfold eF at this ⊢
  split at this
  ·rename_i c2;simp only[if_pos c2];omega
  ·exact absurd rfl this
 ·cases h
def bE:Nat→List Int→List (Int×Int×List Int)×Int
 |0,_=>([],0)
 |n+1,b=>if(bN b).2.2=true∧(bN b).1.1≠1 then((bN b).1::(bE n (b.drop (bN b).2.1.toNat)).1,(bN b).2.1+(bE n (b.drop (bN b).2.1.toNat)).2)else([],0)
theorem rv:∀ (n m:Nat) (b:List Int),b.length≤16*n→b.length≤16*m→bE n b=bE m b
 |0,0,_,_,_=>rfl
 |0,m+1,b,h,_=>by
  rw[bE,bE,if_neg]
  rintro⟨h1,_⟩
  have:=jc h1;omega
 |n+1,0,b,_,h=>by
  rw[bE,bE,if_neg]
  rintro⟨h1,_⟩
  have:=jc h1;omega
 |n+1,m+1,b,h1,h2=>by
  rw[bE,bE]
  by_cases c:(bN b).2.2=true∧(bN b).1.1≠1
  ·have:=jc c.1;have hl:(b.drop (bN b).2.1.toNat).length=b.length-(bN b).2.1.toNat:=List.length_drop;rw[if_pos c,if_pos c,rv n m _ (by omega) (by omega)]
  ·rw[if_neg c,if_neg c]
theorem ob:∀ (n:Nat) (b:List Int),0≤(bE n b).2∧(bE n b).2≤b.length∧16*((bE n b).1.length:Int)≤(bE n b).2
 |0,b=>⟨Int.le_refl _,by simp[bE],by simp[bE]⟩
 |n+1,b=>by
  rw[bE]
  split
  ·rename_i c;have h1:=jc c.1;have h2:=ob n (b.drop (bN b).2.1.toNat);have hl:(b.drop (bN b).2.1.toNat).length=b.length-(bN b).2.1.toNat:=List.length_drop;rw[hl]at h2;refine⟨by simp only;omega,by simp only;omega,?_⟩;simp only[List.length_cons];omega
  ·exact⟨Int.le_refl _,by simp,by simp⟩
abbrev cy:Ty:=.pair (.int .i64) (.pair (.int .i64) (.sl u8))
abbrev aa6(k:Nat):aH (List SV) Fl:=(aq (sI k 0) (aq (sI (k+1) 0) (ab (ay .i64) (ab iv (ab iv (ab (ay .i64) (ab (g9 true false u8) ae))))))).jl (fun x=>((x.1,x.2.2.2.2.1),x.2.1,x.2.2.1,x.2.2.2.1)) (fun y=>(y.1.1,y.2.1,y.2.2.1,y.2.2.2,y.1.2,())) (fun _=>rfl)
abbrev vH:aH Ev.Item Fl:=ix 74 (aa6 2)
abbrev afE:aH Ev.Item Fl:=ix 74 (aa6 3)
abbrev Jn:Type:=(Int×Int)×Int×Int×Int×Bool×Int
abbrev Gj(p:Nat)(l:aH SV Unit):aH (List SV) Jn:=(aq (a6 p 0) (ab (ay .i64) (ab (ay .i64) (aq l (ab (ay .i64) (ab (ay .i64) (ab (ay .i64) (ab iv (ab (ay .i64) ae))))))))).jl (fun x=>((x.1,x.2.1),x.2.2.1,x.2.2.2.1,x.2.2.2.2.1,x.2.2.2.2.2.1,x.2.2.2.2.2.2.1)) (fun y=>(y.1.1,y.1.2,y.2.1,y.2.2.1,y.2.2.2.1,y.2.2.2.2.1,y.2.2.2.2.2,())) (fun _=>rfl)
abbrev aa7(l:aH SV Unit):aH (List SV) Jn:=Gj 1 l
abbrev afF:aH Ev.Item Jn:=ix 167 (aa7 Yz)
abbrev P3:aH Ev.Item Jn:=ix 167 (aa7 (sI 4 0))
abbrev VX:aH Hp (Jn×Fl×List Int×List Int×Unit):=ab (cj afF) (ab (cj vH) (ab (dq 0 u8) (ab (dq 0 (.int .i64)) ae)))
abbrev y6:Type:=(List Int)×((Int×Int)×Int×Int×Int×Bool×Int)×((Int×List Int)×Bool×Bool×Int)×(List Int)×(List Int)×
 (List (Int×Int×List Int))
abbrev Sd:aH St y6:=(bq (aq (ak (a6 (0) (0))) (ab (ak (g9 false false (Ty.int IntKind.u8))) (jk 55 ae)))
 (ab (cj P3) (ab (cj vH) (ab (dq (0) (Ty.int IntKind.u8)) (ab (dq (0) (Ty.int i64)) (ab (dq (0) ((Ty.int
 i64).pair ((Ty.int i64).pair (Ty.int IntKind.u8).sl))) ae)))))).jl (fun y=>(y.1.1,y.2.1,y.2.2.1,y.2.2.2.1,y.2.2.2.2.1,
 y.2.2.2.2.2.1)) (fun x=>((x.1,()),(x.2.1,(x.2.2.1,(x.2.2.2.1,(x.2.2.2.2.1,(x.2.2.2.2.2,()))))))) (fun _=>rfl)
abbrev Se:List Wk:= [.fg 0 3 cy,.fr (cR 57 [(0,.ao),(1,.ao)]),.syms,.auto,.ba]
abbrev aa8:Exit→List Wk:=zy Se 0 [.fg 0 3 cy,.fr (cR 57 [(0,.ao),(1,.ao)]),.syms,.auto,.ba] [.fg 0 3 cy,.fr (cR 57
 []),.syms,.auto,.ba]
def lK(s:List Int)(j:(Int×Int)×Int×Int×Int×Bool×Int):List Int:=List.take ((↑s.length:Int)-
 j.snd.snd.snd.fst).toNat (List.drop j.snd.snd.snd.fst.toNat s)
abbrev KS:Type:=(List Int)×((Int×Int)×Int×Int×Int×Bool×Int)×((Int×List Int)×Bool×Bool×Int)×(List Int)×(List Int)×
 (List (Int×Int×List Int))
abbrev aa9(x:KS):Exit×St:=(Exit.exit 0,⟨(LV.one (VV.sc (SV.ptr 0 0))::(LV.one (VV.sc (SV.rd false false (Ty.int
 IntKind.u8) x.1))::(jt 55 []))),[some (P3.wr x.2.1),some (vH.wr x.2.2.1),some (Item.own 0 (Ty.int IntKind.u8) x.2.2.2.1),some (Item.own 0
 (Ty.int i64) x.2.2.2.2.1),some (Item.own 0 ((Ty.int i64).pair ((Ty.int i64).pair (Ty.int IntKind.u8).sl)) x.2.2.2.2.2)]⟩)
def DI(s:List Int)(j:(Int×Int)×Int×Int×Int×Bool×Int)(f:(Int×List Int)×Bool×Bool×Int)(b:List Int)(er:
 List Int) (l:List (Int×Int×List Int)):Tr (y6⊕(KS)):=(.need (0≤j.snd.snd.snd.fst∧j.snd.snd.snd.fst≤(↑s.length:Int)∧
 (↑s.length:Int)≤(↑s.length:Int)) (.need (pv (lK s j)) (.ite ((!(bN (lK s j)).snd.snd)==false) (.ite ((bN (lK s j)).fst.fst
 ==1) (.ret (.inr (s,j,f,b,er,l))) (.need ((l.length+1)*40≤70368744177664∧l.length+1≤70368744177664) (.ret (.inl (s,(j.fst,
 j.snd.fst,j.snd.snd.fst,i64.wrap (j.snd.snd.snd.fst+(bN (lK s j)).snd.fst),j.snd.snd.snd.snd),f,b,er,l++ [(bN (lK s
 j)).fst]))))) (.ret (.inr (s,j,f,b,er,l))))))
abbrev vI(s:List Int)(j:(Int×Int)×Int×Int×Int×Bool×Int)(f:(Int×List Int)×Bool×Bool×Int)(b:List Int)(er:List Int)(l:List (Int×Int×List Int)):Prop:=aA s∧s.length≤1024∧0≤j.2.2.2.1∧j.2.2.2.1≤s.length∧l.length≤j.2.2.2.1
abbrev KT(s:List Int)(j:(Int×Int)×Int×Int×Int×Bool×Int)(f:(Int×List Int)×Bool×Bool×Int)(b:List Int)(er:List Int)(l:List (Int×Int×List Int)):KS:=(s,(j.1,j.2.1,j.2.2.1,j.2.2.2.1+(bE s.length (s.drop j.2.2.2.1.toNat)).2,j.2.2.2.2),f,b,er,l++(bE s.length (s.drop j.2.2.2.1.toNat)).1)
abbrev Sf:y6→aV:=eR (fun x_=>vI x_.1 x_.2.1 x_.2.2.1 x_.2.2.2.1 x_.2.2.2.2.1 x_.2.2.2.2.2) (fun x_=>KT x_.1 x_.2.1 x_.2.2.1 x_.2.2.2.1 x_.2.2.2.2.1 x_.2.2.2.2.2) aa9
theorem P4(s:List Int)(j:(Int×Int)×Int×Int×Int×Bool×Int)(f:(Int×List Int)×Bool×Bool×Int)(b:List Int)(er:List Int)(l:List (Int×Int×List Int))(h_:vI s j f b er l):dB (fun x_:y6=>DI x_.1 x_.2.1 x_.2.2.1 x_.2.2.2.1 x_.2.2.2.2.1 x_.2.2.2.2.2) (s,j,f,b,er,l) (KT s j f b er l):=by
 delta KT;obtain⟨h1,h2,h3,h4,h5⟩:=h_;obtain⟨r,ep,cur,u,z⟩:=j;simp only at h3 h4 h5 ⊢;obtain⟨n,hn⟩:∃n:Nat,(s.drop u.toNat).length≤16*n:=⟨(s.drop u.toNat).length,by omega⟩;have hd:∀x:Int,(s.drop x.toNat).length=s.length-x.toNat:=fun x=>List.length_drop;rw[rv s.length n _ (by rw[hd];omega) hn]
 have e0:∀x:Int,0≤x→lK s (r,ep,cur,x,z)=s.drop x.toNat:=fun x hx=>by
  unfold lK;exact List.take_of_length_le (by rw[List.length_drop];simp only;omega)
 induction n generalizing u l with
 |zero=>
  have hk:¬ (bN (s.drop u.toNat)).2.2=true:=fun h=>by have:=jc h;omega
  refine .stop ?_;simp only[DI,e0 u h3,ah,az,ai];have h6:=hd u;simp[hk,bE];exact⟨by omega,h1.drop _,by omega⟩
 |succ n ih=>
  have h6:=hd u
  by_cases c:(bN (s.drop u.toNat)).2.2=true∧(bN (s.drop u.toNat)).1.1≠1
  ·have hk:=jc c.1;have h7:=hd (u+(bN (s.drop u.toNat)).2.1);have w:=ih (l++ [(bN (s.drop u.toNat)).1]) (u+(bN (s.drop u.toNat)).2.1) (by omega) (by omega) (by rw[List.length_append,List.length_singleton];omega) (by omega);rw[bE,if_pos c,List.drop_drop,show u.toNat+(bN (s.drop u.toNat)).2.1.toNat=(u+(bN (s.drop u.toNat)).2.1).toNat by omega];rw[List.append_assoc,List.singleton_append,Int.add_assoc]at w;refine .go ?_ w;simp only[DI,e0 u h3,ah,az,ai];have hw:i64.wrap (u+(bN (s.drop u.toNat)).2.1)=u+(bN (s.drop u.toNat)).2.1:=ar (by omega) (by omega);simp[c.1,c.2,hw];exact⟨by omega,⟨h1.drop _,by omega⟩,by omega⟩
  ·refine .stop ?_;rw[bE,if_neg c];simp only[DI,e0 u h3,ah,az,ai];refine⟨by omega,⟨h1.drop _,by omega⟩,?_⟩;simp;grind
theorem KU(y_):∀x:y6,Ex Tryz.prog ((VX).wr y_) (.loop (aY f99 0)) (Sd.wr x) (Sf x):=
 cJ mixed ((aj vF (aj KR aw))) (ws:=aa8) (aS.nil _) (fun _=>by kernel_rfl) (fun z e=>by cases e) fA (fun x_ h=>P4 x_.1 x_.2.1 x_.2.2.1 x_.2.2.2.1 x_.2.2.2.2.1 x_.2.2.2.2.2 h)
def y7(s:List Int):List Int:=List.take ((↑s.length:Int)-(16+(bE s.length (List.drop 16 s)).snd)).toNat (List.drop (16
 +(bE s.length (List.drop 16 s)).snd).toNat s)
abbrev P5:Type:=((Int×Int)×Int×Int×Int×Bool×Int)×(List (Int×Int×List Int))
abbrev afG(x:P5):LV:=LV.bV []
abbrev afH(x:P5):List (Nat×Ev.Item):= [(0,P3.wr x.1),(4,Item.own 0 ((Ty.int i64).pair ((Ty.int i64).pair
 (Ty.int IntKind.u8).sl)) x.2)]
def aba(s:List Int)(j:(Int×Int)×Int×Int×Int×Bool×Int)(f:(Int×List Int)×Bool×Bool×Int)(b:List Int)(er:
 List Int):Tr (P5):=(.need (vI s (j.fst,j.snd.fst,j.snd.snd.fst,16,j.snd.snd.snd.snd) f b er []) (.need ((0:Int)≤16+(bE s.length
 (List.drop 16 s)).snd∧16+(bE s.length (List.drop 16 s)).snd≤(↑s.length:Int)∧(↑s.length:Int)≤(↑s.length:Int)) (.need (BA (y7
 s)) (.ret ((j.fst,j.snd.fst,j.snd.snd.fst,16+(bE s.length (List.drop 16 s)).snd,!df (y7 s),j.snd.snd.snd.snd.snd),[]++(bE
 s.length (List.drop 16 s)).fst)))))
def VY(s:List Int)(j:Jn):Jn:=(j.1,j.2.1,j.2.2.1,16+(bE s.length (s.drop 16)).2,!df (s.drop (16+(bE s.length (s.drop 16)).2).toNat),j.2.2.2.2.2)
abbrev lL(s:List Int)(j:Jn)(f:Fl)(b er:List Int):Prop:=aA s∧s.length=1024
abbrev VZ(s:List Int)(j:Jn)(f:Fl)(b er:List Int):P5:=(VY s j,(bE s.length (s.drop 16)).1)
def afI:al:=bD [none,some u8] ((aq (ak (a6 0 0)) (ab (ak (g9 false false u8)) ae))) (VX) (q4∘q1 lL) (q4∘q1 VZ) afG afH
theorem V0(s:List Int)(j:Jn)(f:Fl)(b er:List Int)(h_:lL s j f b er):(aba s j f b er).Is (VZ s j f b er):=by
 delta VZ;obtain⟨h1,h2⟩:=h_;have hp:=ob s.length (s.drop 16);rw[List.length_drop]at hp
 have e0:y7 s=s.drop (16+(bE s.length (s.drop 16)).2).toNat:=by
  unfold y7;exact List.take_of_length_le (by rw[List.length_drop];omega)
 have hb:(y7 s).length≤1024:=by rw[e0,List.length_drop];omega
 simp only[aba,ah,ai,List.nil_append,VY,e0];rw[e0]at hb;refine⟨⟨h1,by omega,by simp only;omega,by simp only;omega,by simp only[List.length_nil];omega⟩,by omega,?_,trivial⟩;show(_:Nat)<_;omega
theorem V1:afI.Ok Tryz.prog 99:=
 a5 mixed ((aj vF (aj KR aw))) func99 (by kernel_rfl) call99 (LT:=fun _ y_=> [(0,fh Sd ((VX).wr y_) Se Sf)]) (ks:=fH) (fun _ y_=>aS.bW (kQ (by kernel_rfl) (b8 (KU y_)) ly)) (fun _ _=>by kernel_rfl) fun x_ y_ h=>V0 x_.1 y_.1 y_.2.1 y_.2.2.1 y_.2.2.2.1 h
abbrev afJ:aH Ev.Item Jn:=ix 167 (Gj 0 (sI 4 0))
def kg(f:(Int×List Int)×Bool×Bool×Int):(Int×List Int)×Bool×Bool×Int:=f
def eA(r:Int×Int)(f:(Int×List Int)×Bool×Bool×Int)(b:List Int)(er:List Int):List Int×Int:=if f.snd.fst=
 true then([],5)else if(0:Int)≤0∧(0:Int)≤1024∧(1024:Int)≤1024*r.snd then(bJ b (1024*r.fst+0) 1024,0)else([],2)
def ct(r:Int×Int)(f:(Int×List Int)×Bool×Bool×Int)(b:List Int)(er:List Int):List Int×Int:=if f.snd.fst=
 true then([],5)else if(0:Int)≤1024∧(0:Int)≤1024∧(2048:Int)≤1024*r.snd then(bJ b (1024*r.fst+1024) 1024,0)else([],2)
abbrev DJ:Type:=Unit
abbrev abb(x:DJ):LV:=LV.bV [VV.sc (SV.cQ (Value.pointer none)),VV.sc (SV.int i64 (SI.lit 1))]
abbrev abc(x:DJ):List (Nat×Ev.Item):= []
abbrev DK:Type:=Int
abbrev abd(x:DK):LV:=LV.bV [VV.sc (SV.cQ (Value.pointer none)),VV.sc (SV.int i64 (SI.sym x))]
abbrev abe(x:DK):List (Nat×Ev.Item):= []
abbrev DL:Type:=((Int×Int)×Int×Int×Int×Bool×Int)×(List (Int×Int×List Int))
abbrev abf(x:DL):LV:=LV.bV [VV.sc (SV.ptr 3 0),VV.sc (SV.int i64 (SI.lit 0))]
abbrev abg(x:DL):List (Nat×Ev.Item):= [(3,afJ.wr x.1),(4,Item.own 0 ((Ty.int i64).pair ((Ty.int
 i64).pair (Ty.int IntKind.u8).sl)) x.2)]
def P6(r:Int×Int)(f:(Int×List Int)×Bool×Bool×Int)(b:List Int)(er:List Int):Tr (DJ⊕DK⊕DL):=(.need
 (fO r (kg f) b er) (.ite (1024*r.snd !=2048) (.ret (.inl ())) (.need (dU r 0 1024 (kg f) b er) (.ite ((eA r f b er).snd !=0)
 (.ret (.inr (.inl ((eA r f b er).snd)))) (.need (lJ (eA r f b er).fst) (.ite (decide (0<px (eA r f b er).fst)) (.need (dU r 1024
 1024 (kg f) b er) (.ite ((ct r f b er).snd !=0) (.ret (.inr (.inl ((ct r f b er).snd)))) (.need (lJ (ct r f b er).fst) (.ite (decide
 (px (eA r f b er).fst<px (ct r f b er).fst)) (.need (lL (ct r f b er).fst (r,px (ct r f b er).fst,1,0,false,0) (kg f) b
 er) (.ret (.inr (.inr ((r,px (ct r f b er).fst,1,16+(bE (ct r f b er).fst.length (List.drop 16 (ct r f b er).fst)).snd,!df
 (List.drop (16+(bE (ct r f b er).fst.length (List.drop 16 (ct r f b er).fst)).snd).toNat (ct r f b er).fst),0),(bE (ct r f b
 er).fst.length (List.drop 16 (ct r f b er).fst)).fst))))) (.need (lL (eA r f b er).fst (r,px (eA r f b er).fst,0,0,false,0) (kg
 f) b er) (.ret (.inr (.inr ((r,px (eA r f b er).fst,0,16+(bE (eA r f b er).fst.length (List.drop 16 (eA r f b er).fst)).snd,!df
 (List.drop (16+(bE (eA r f b er).fst.length (List.drop 16 (eA r f b er).fst)).snd).toNat (eA r f b er).fst),0),(bE (eA r f b
 er).fst.length (List.drop 16 (eA r f b er).fst)).fst))))))))) (.need (dU r 1024 1024 (kg f) b er) (.ite ((ct r f b er).snd !=0) (.ret
 (.inr (.inl ((ct r f b er).snd)))) (.need (lJ (ct r f b er).fst) (.ite (decide (0<px (ct r f b er).fst)) (.need (lL (ct r f b
 er).fst (r,px (ct r f b er).fst,1,0,false,0) (kg f) b er) (.ret (.inr (.inr ((r,px (ct r f b er).fst,1,16+(bE (ct r f b
 er).fst.length (List.drop 16 (ct r f b er).fst)).snd,!df (List.drop (16+(bE (ct r f b er).fst.length (List.drop 16 (ct r f b
 er).fst)).snd).toNat (ct r f b er).fst),0),(bE (ct r f b er).fst.length (List.drop 16 (ct r f b er).fst)).fst))))) (.ret (.inr (.inr ((r,
 0,(-1),0,false,0),[]))))))))))))))
abbrev cP(b:List Int)(r:Int×Int)(s:Int):List Int:=bJ b (1024*r.1+1024*s) 1024
def oY(s0 s1:List Int):Int×Int:=if 0<px s0 then(if px s0<px s1 then(1,px s1)else(0,px s0))else if 0<px s1 then(1,px s1)else(-1,0)
def cn(b:List Int)(r:Int×Int):Jn×List cy.D:=
 if(oY (cP b r 0) (cP b r 1)).1= -1 then((r,0,-1,0,false,0),[])
 else(VY (cP b r (oY (cP b r 0) (cP b r 1)).1) (r,(oY (cP b r 0) (cP b r 1)).2,(oY (cP b r 0) (cP b r 1)).1,0,false,0),(bE (cP b r (oY (cP b r 0) (cP b r 1)).1).length ((cP b r (oY (cP b r 0) (cP b r 1)).1).drop 16)).1)
abbrev oc(r:Int×Int)(f:Fl)(b er:List Int):Prop:=iy b er∧aA b∧uh r er
abbrev KV(r:Int×Int)(f:Fl)(b er:List Int):Bool:=decide (r.2≠2)
abbrev V2(r:Int×Int)(f:Fl)(b er:List Int):DJ:=()
abbrev P7(r:Int×Int)(f:Fl)(b er:List Int):Bool:=f.2.1
abbrev V3(r:Int×Int)(f:Fl)(b er:List Int):DK:=5
abbrev V4(r:Int×Int)(f:Fl)(b er:List Int):DL:=cn b r
def afK:al:=HM [] (rgA) (oV) (q3∘q1 oc) (q3∘q1 KV) (q3∘q1 V2) (q3∘q1 P7) (q3∘q1 V3) (q3∘q1 V4) abb abc abd abe abf abg
theorem V5(r:Int×Int)(f:Fl)(b er:List Int)(h_:oc r f b er):(KV r f b er=true→(P6 r f b er).Is (.inl (V2 r f b er)))∧(KV r f b er=false→P7 r f b er=true→(P6 r f b er).Is (.inr (.inl (V3 r f b er))))∧(KV r f b er=false→P7 r f b er=false→(P6 r f b er).Is (.inr (.inr (V4 r f b er)))):=by
 delta KV V2 P7 V3 V4;obtain⟨h1,h2,h3⟩:=h_;have hs:fO r (kg f) b er:=⟨by omega,by omega⟩;have hr:∀x y,dU r x y (kg f) b er:=fun _ _=>⟨h1,h3⟩;simp only[P6,ah,aE,aC,ai]
 refine⟨fun c=>⟨hs,fun e=>absurd e (by have:r.2≠2:=by simpa using c
                                       omega),fun _=>trivial⟩,fun c c2=>?_,fun c c2=>?_⟩
 all_goals have c':r.2=2:=by simpa using c
 all_goals refine⟨hs,fun _=>?_,fun h=>absurd (by omega) h⟩
 ·have e8:eA r f b er=([],5):=by unfold eA;rw[if_pos c2]
  rw[e8];exact⟨hr _ _,fun h=>by simp at h,fun _=>rfl⟩
 ·have e8:eA r f b er=(cP b r 0,0):=by unfold eA;rw[if_neg (by rw[c2];decide),if_pos (by omega)];rfl
  have e9:ct r f b er=(cP b r 1,0):=by unfold ct;rw[if_neg (by rw[c2];decide),if_pos (by omega)];rfl
  have l0:(cP b r 0).length=1024:=by have:=j0 (b:=b) (p:=1024*r.1+1024*0) (m:=1024) (by omega);show(bJ _ _ _).length=_;omega
  have l1:(cP b r 1).length=1024:=by have:=j0 (b:=b) (p:=1024*r.1+1024*1) (m:=1024) (by omega);show(bJ _ _ _).length=_;omega
  have a0:=pc h2 (1024*r.1+1024*0) 1024;have a1:=pc h2 (1024*r.1+1024*1) 1024;have q0:lJ (cP b r 0):=⟨a0,by show(_:Nat)<_;omega⟩;have q1:lJ (cP b r 1):=⟨a1,by show(_:Nat)<_;omega⟩;have d0:∀j,lL (cP b r 0) j (kg f) b er:=fun _=>⟨a0,l0⟩;have d1:∀j,lL (cP b r 1) j (kg f) b er:=fun _=>⟨a1,l1⟩;rw[e8,e9];unfold cn oY;clear e8 e9 l0 l1 a0 a1 hs h1 h2 h3
  by_cases k0:0<px (cP b r 0)
  ·by_cases k1:px (cP b r 0)<px (cP b r 1)
   ·simp only[if_pos k0,if_pos k1];exact⟨hr _ _,fun _=>⟨q0,fun _=>⟨hr _ _,fun _=>⟨q1,fun _=>⟨d1 _,rfl⟩,fun h=>absurd k1 h⟩,fun h=>absurd rfl h⟩,fun h=>absurd k0 h⟩,fun h=>absurd rfl h⟩
   ·simp only[if_pos k0,if_neg k1];exact⟨hr _ _,fun _=>⟨q0,fun _=>⟨hr _ _,fun _=>⟨q1,fun h=>absurd h k1,fun _=>⟨d0 _,rfl⟩⟩,fun h=>absurd rfl h⟩,fun h=>absurd k0 h⟩,fun h=>absurd rfl h⟩
  ·by_cases k1:0<px (cP b r 1)
   ·simp only[if_neg k0,if_pos k1];exact⟨hr _ _,fun _=>⟨q0,fun h=>absurd h k0,fun _=>⟨hr _ _,fun _=>⟨q1,fun _=>⟨d1 _,rfl⟩,fun h=>absurd k1 h⟩,fun h=>absurd rfl h⟩⟩,fun h=>absurd rfl h⟩
   ·simp only[if_neg k0,if_neg k1];exact⟨hr _ _,fun _=>⟨q0,fun h=>absurd h k0,fun _=>⟨hr _ _,fun _=>⟨q1,fun h=>absurd h k1,fun _=>rfl⟩,fun h=>absurd rfl h⟩⟩,fun h=>absurd rfl h⟩
theorem V6:afK.Ok Tryz.prog 67:=
 HN mixed ((aj sM (aj kA (aj VW (aj V1 aw))))) func67 (by kernel_rfl) call67 (ks:= [.auto,.ba,.aZ 3 [.ao,.sym,.sym,.ao,.sym,.sym,.sym,.sym,.sym],.fg 3 3 cy]) (fun _ _=>aS.nil _) (fun _ _=>by kernel_rfl) fun x_ y_ h=>V5 x_.1 y_.1 y_.2.1 y_.2.2.1 h
end Go.Proofs.YtmhcoaflmgajhaaGreat
end
