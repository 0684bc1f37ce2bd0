/- What the laws lean on, part 13: a reader of code, plain facts, and what each function gives; no conditions. -/
import Derived.Test.YtliehnnljilacaaGreatA12
noncomputable section
open Go.IntKind (i64 signed u16 u32 u64 wrap wrap_u32)
set_option linter.unusedVariables false
set_option linter.unusedSimpArgs false
namespace Go.Proofs.YtliehnnljilacaaGreat
open Go Go.Ev Go.Proofs.Tryz
set_option maxRecDepth 1000000
abbrev aHl(x:sk):LV:=LV.one (VV.sc (SV.int IntKind.u8 (SI.sym x)))
def ake(b:ab)(i:Int):Tr sk:=.ite (decide ((↑b.length:Int)≤i)) (.ret (0)) (.need (0≤i∧i<(↑b.length:Int)) (.ret (b.getD i.toNat 0)))
abbrev xp(b:ab)(i:Int):Prop:=0≤i
abbrev Ur(b:ab)(i:Int):sk:=b.getD i.toNat 0
def aHn:bT:=cj [some u8,none] ((bD (bO (gx false false u8)) (bD (bO (bX .i64)) bG))) bG (q0∘q2 xp) (q0∘q2 Ur) aHl aEE
theorem akf:ab1 xp ake Ur:=by
 intro b i h_;delta Ur;have h:0≤i:=h_;simp only[ake,bW,bF,bH];refine⟨fun c=>?_,fun c=>⟨by omega,trivial⟩⟩;rw[List.getD_eq_getElem?_getD,List.getElem?_eq_none (by omega)];rfl
theorem xq:aHn.Ok aA 254:=ay bU func254 call254 (ks:=eU) (fun x_ _=>@akf x_.1 x_.2.1)
abbrev yyA:cl (List LV) (ab×ab×Unit):=bD (bO (gx false false u8)) (bD (bO (gx false false u8)) bG)
abbrev aZo:cl (List LV) (ab×ab×ab×Unit):=bD (bO (gx false false u8)) (bD (bO (gx false false u8)) (bD (bO (gx false false u8)) bG))
def Ap(x y:Int):Bool:=eL .u8 y x==0
def jX:ab→ab→Bool
 |x::l,y::m=>Ap x y&&jX l m
 | [],[]=>true
 |_,_=>false
theorem xr:∀ {l m:ab},jX l m=true→l.length=m.length
 | [],[],_=>rfl
 | [],_::_,h=>by cases h
 |_::_,[],h=>by cases h
 |x::l,y::m,h=>by rw[jX,Bool.and_eq_true]at h;simp[xr h.2]
theorem aus:∀ {l m:ab},l.length≠m.length→jX l m=false:=fun {l m} h=>by
 cases hc:jX l m with
 |false=>rfl
 |true=>exact absurd (xr hc) h
abbrev Em:Type:=ab×ab×Int×Int
abbrev akg:cl St Em:=(dy (bD (bO (gx false false ae)) (bD (bO (gx false false ae)) (jk 10 (bD (bO (bX i64)) (bD (bO (bX i64)) (jk 13 bG)))))) bG).jr (fun y=>(y.1.1,y.1.2.1,y.1.2.2.1,y.1.2.2.2.1)) (fun x=>((x.1,(x.2.1,(x.2.2.1,(x.2.2.2,())))),())) (fun _=>rfl)
abbrev akh:List Wk:= [.fr (eH 27 [(0,.bV),(1,.bV),(12,.bV),(13,.bV)]),.cu,.bS,.ck]
abbrev aHo:Exit→List Wk:=ua akh 0 [.fr (eH 27 []),.cu,.bS,.ck] [.fr (eH 27 [(4,.bV)]),.cu,.bS,.ck]
abbrev aut(x:IE):Exit×St:=(Exit.ret,⟨(gE 4 (LV.one (VV.sc (SV.bool (SB.sym x)))::(gE 22 []))),[]⟩)
abbrev auu(x:IK):Exit×St:=(Exit.exit 0,⟨(gE 27 []),[]⟩)
def Kn(x y:ab)(n i:Int):Tr (Em⊕(IE⊕IK)):=.ite (decide (i<n)) (.need (0≤i∧i<(↑y.length:Int)) (.need (0≤i∧i<(↑x.length:Int)) (.ite (eL IntKind.u8 (y.getD i.toNat 0) (x.getD i.toNat 0)!=0) (.ret (.inr (.inl false))) (.ret (.inl (x,y,n,i64.wrap (i+1))))))) (.ret (.inr (.inr ())))
theorem QV{l:ab}{k:Nat}(h:k<l.length):l.drop k=l.getD k 0::l.drop (k+1):=gU 0 h
abbrev xt(x y:ab)(n i:Int):Prop:=0≤i∧i≤n∧n=x.length∧n=y.length∧n<1099511627776
abbrev Us(x y:ab)(n i:Int):Bool:= !jX (x.drop i.toNat) (y.drop i.toNat)
abbrev Ut(x y:ab)(n i:Int):IE:=false
abbrev Uu(x y:ab)(n i:Int):IK:=()
abbrev aki:Em→cT:=oU (aD xt) (aD Us) (aD Ut) (aD Uu) aut auu
theorem akj(x y:ab)(n i:Int)(h_:xt x y n i):eG (fun x_:Em=>Kn x_.1 x_.2.1 x_.2.2.1 x_.2.2.2) (x,y,n,i) (bif Us x y n i then .inl (Ut x y n i)else .inr (Uu x y n i)):=by
 delta Us Ut Uu;obtain⟨h1,h2,rfl,h4,h5⟩:=h_;obtain⟨k,rfl⟩:∃m:Nat,i=m:=⟨i.toNat,by omega⟩;obtain⟨j,hj⟩:∃j,x.length-k=j:=⟨_,rfl⟩;rw[Int.toNat_natCast];induction j generalizing k with
 |zero=>
  refine .stop ?_;have c:¬ (k:Int)<x.length:=by omega
  rw[List.drop_of_length_le (l:=x) (by omega),List.drop_of_length_le (l:=y) (by omega)];simp[Kn,c,bY,bH,jX]
 |succ j ih=>
  have c:(k:Int)<x.length:=by omega
  rw[QV (l:=x) (by omega),QV (l:=y) (by omega),jX];by_cases d:Ap (x.getD k 0) (y.getD k 0)=true
  ·rw[d,Bool.true_and];refine .go ?_ (ih (k+1) (by omega) (by omega) (by omega));have d':eL IntKind.u8 (y.getD k 0) (x.getD k 0)=0:=eq_of_beq d;simp only[Kn,bW,bF,b9,bH,Int.toNat_natCast,d'];exact⟨fun _=>⟨by omega,by omega,fun _=>by rw[bM (by omega) (by omega)];rfl,fun h=>absurd rfl h⟩,fun h=>absurd c h⟩
  ·have d1:Ap (x.getD k 0) (y.getD k 0)=false:=(by simpa using d);rw[d1,Bool.false_and];refine .stop ?_;have d':¬eL IntKind.u8 (y.getD k 0) (x.getD k 0)=0:=ne_of_beq_false d1;simp only[Kn,bW,bF,b9,bH,Int.toNat_natCast];exact⟨fun _=>⟨by omega,by omega,fun h=>absurd h d',fun _=>rfl⟩,fun h=>absurd c h⟩
theorem adJ(y_):∀x:Em,Ex aA (bG.wr y_) (.loop (cG f253 0)) (akg.wr x) (aki x):=ee bJ bU (ws:=aHo) (cn.nil _) (fun _=>by kernel_rfl) (fun z=>by cases z<;>(intro e;cases e)) qw (aS @akj)
def Uv(x y:ab):Int:=(↑x.length:Int)
def akk(x y:ab):Tr IE:=.ite (Uv x y !=(↑y.length:Int)) (.ret false) (.need (xt x y (Uv x y) 0) (.ite (!jX (List.drop 0 x) (List.drop 0 y)) (.ret false) (.ret true)))
abbrev xu(x y:ab):Prop:=x.length<1099511627776
abbrev akl(x y:ab):IE:=jX x y
def aQi:bT:=cj [some u8,some u8] yyA bG (q0∘q2 xu) (q0∘q2 akl) aEH aEI
theorem auv:ab1 xu akk akl:=by
 intro x y h_;delta akl;have h:x.length<1099511627776:=h_;have ea:Uv x y=x.length:=rfl;by_cases c:x.length=y.length
 ·have hp:xt x y x.length 0:=⟨by omega,by omega,rfl,by omega,by omega⟩;cases hc:jX x y<;>simp[akk,ea,hc,bY,bF,bH]<;>first|exact⟨by omega,fun _=>hp⟩|exact fun _=>hp
 ·have hn:=aus c;simp[akk,ea,hn,bY,bF,bH];exact fun h=>absurd (by omega) c
theorem Bo:aQi.Ok aA 253:=az bU func253 call253 (ks:=eU) akg akh aki adJ (fun x_ _=>@auv x_.1 x_.2.1)
def auw:bT:=bT.fw [some u8] bA bG fun x _=>.bN (some (x.1.length≤70368744177664)) (.one (.sc (.sl 0 0))) [(0,.own 0 u8 x.1)]
theorem Ko:cY aA [] [] f43 [.one (.sc (.gm (.slice none 0 0)))] [] [.kA 0 u8,.bS,.ck]=End.bN (LV.one (VV.sc (SV.sl 0 0))) [some (bE.own 0 ae [])]:=by kernel_rfl
theorem Kq(l:ab):cY aA [] [] f43 [.one (.sc (.rd false true u8 l))] [] [.kA 0 u8,.bS,.ck]=End.need ((0+l.length)*1≤70368744177664∧0+l.length≤70368744177664) (End.bN (LV.one (VV.sc (SV.sl 0 0))) [some (bE.own 0 ae ([]++l))]):=by kernel_rfl
theorem tH:auw.Ok aA 43:=by
 refine(bT.df call43 fun x y Q h=>?_).sym;obtain⟨l,_⟩:=x;obtain⟨hl,hq⟩:=h;have hl:l.length≤70368744177664:=hl;refine il.Ix (x:= []) (y:= []) (fun e=>?_) ?_
 ·subst e;refine(cg bJ bU func43 rfl (LT:= []) (ks:= [.kA 0 u8,.bS,.ck]) (cn.nil _)).use (D:= [(0,.own 0 u8 [])]) ?_ hq;show(cY _ _ _ _ [.one (.sc (.gm (.slice none 0 0)))] [] _).sat _;rw[Ko];exact⟨rfl,rfl⟩
 ·refine(cg bJ bU func43 rfl (LT:= []) (ks:= [.kA 0 u8,.bS,.ck]) (cn.nil _)).use (D:= [(0,.own 0 u8 l)]) ?_ hq;show(cY _ _ _ _ [.one (.sc (.rd false true u8 l))] [] _).sat _;rw[Kq];exact⟨⟨by omega,by omega⟩,rfl,rfl⟩
def aBs(x y:ab):Tr af4:=.need (xu x y) (.ite (!jX x y) (.ret ([])) (.need (y.length≤ 70368744177664) (.ret y)))
abbrev Bp(x y:ab):Prop:=x.length<1099511627776
abbrev akm(x y:ab):af4:=if jX x y=true then y else []
def aQl:bT:=cj [some u8,some u8] yyA bG (q0∘q2 Bp) (q0∘q2 akm) aEK aEL
theorem auy:ab1 Bp aBs akm:=by
 intro x y h_;delta akm;have h:x.length<1099511627776:=h_;simp only[aBs,bF];refine⟨h,?_⟩;by_cases c:jX x y=true
 ·have hl:=xr c;simp[c,bY,bF,bH];omega
 ·simp[c,bY,bF,bH]
theorem YQ:aQl.Ok aA 240:=ay (bI Bo (bI jA bU)) func240 call240 (ks:= [.pN,.fr [.rd true u8],.fr [.sym],.cu,.bS,.ck]) (fun x_ _=>@auy x_.1 x_.2.1)
def lQ(g:Nat→Int→Int)(k:Nat)(o:ab):ab:=o.mapIdx fun i v=>if k≤i then g i v else v
theorem mm(g:Nat→Int→Int)(k:Nat)(o:ab):(lQ g k o).length=o.length:=List.length_mapIdx
theorem xw{g:Nat→Int→Int}{k:Nat}{o:ab}(h:k<o.length):lQ g (k+1) (o.set k (g k (o.getD k 0)))=lQ g k o:=by
 apply List.ext_getElem?;intro i;unfold lQ;rw[List.getElem?_mapIdx,List.getElem?_mapIdx,List.getElem?_set];by_cases e:k=i
 ·subst e;rw[if_pos rfl,if_pos h,List.getElem?_eq_getElem h,List.getD_eq_getElem?_getD,List.getElem?_eq_getElem h];simp;omega
 ·rw[if_neg e];cases o[i]? with
  |none=>rfl
  |some v=>
   simp only[Option.map_some];by_cases h2:k≤i
   ·rw[if_pos h2,if_pos (by omega)]
   ·rw[if_neg h2,if_neg (by omega)]
theorem Ay{g:Nat→Int→Int}{k:Nat}{o:ab}(h:o.length≤k):lQ g k o=o:=by
 apply List.ext_getElem?;intro i;unfold lQ;rw[List.getElem?_mapIdx];by_cases h2:i<o.length
 ·rw[List.getElem?_eq_getElem h2];simp;omega
 ·rw[List.getElem?_eq_none (by omega)];rfl
def Hs(x p:ab)(k:Nat)(o:ab):ab:=lQ (fun i v=>cV .u8 v (dz .u8 (x.getD i 0) (p.getD i 0))) k o
def En(p:ab)(k:Nat)(o:ab):ab:=lQ (fun i v=>cV .u8 v (p.getD i 0)) k o
def Az(x y p:ab):ab:=Hs x p 0 y
def xx(x p:ab):ab:=En p 0 x
abbrev Eo:Type:=ab×ab×Int×Int×ab
abbrev akn:cl St Eo:=(dy (bD (bO (gx false false ae)) (jk 1 (bD (bO (gx false false ae)) (jk 4 (bR (bO (pk (0) (0))) (jk 8 (bD (bO (bX i64)) (bD (bO (bX i64)) (jk 18 bG))))))))) (bD (dd (0) ae) bG)).jr (fun y=>(y.1.1,y.1.2.1,y.1.2.2.1,y.1.2.2.2.1,y.2.1)) (fun x=>((x.1,(x.2.1,(x.2.2.1,(x.2.2.2.1,())))),(x.2.2.2.2,()))) (fun _=>rfl)
abbrev ako:List Wk:= [.fr (eH 36 [(0,.bV),(2,.bV),(7,.bV),(16,.bV),(17,.bV)]),.cu,.bS,.ck]
abbrev aHp:Exit→List Wk:=ua ako 0 [.fr (eH 36 [(7,.bV)]),.cu,.bS,.ck] [.fr (eH 36 [(6,.bV)]),.cu,.bS,.ck]
abbrev aHq(x:af4):Exit×St:=(Exit.exit 0,⟨(gE 7 (LV.one (VV.sc (SV.sl 0 0))::(gE 28 []))),[some (bE.own 0 ae x)]⟩)
def Ux(x p:ab)(n i:Int)(o:ab):Tr (Eo⊕(af4)):=.ite (decide (i<n)) (.need (0 ≤i∧i<(↑o.length:Int)) (.need (0≤i∧i<(↑x.length:Int)) (.need (xp p i) (.need (0≤i∧i<(↑o.length:Int)) (.ret (.inl (x,p,n,i64.wrap (i+1),o.set i.toNat (cV IntKind.u8 (o.getD i.toNat 0) (dz IntKind.u8 (x.getD i.toNat 0) (p.getD i.toNat 0)))))))))) (.ret (.inr o))
abbrev xy(x p:ab)(n i:Int)(o:ab):Prop:=0≤i∧i≤n∧n=o.length∧n=x.length∧n<1099511627776
abbrev Uy(x p:ab)(n i:Int)(o:ab):af4:=Hs x p i.toNat o
abbrev akp:Eo→cT:=gX (aE xy) (aE Uy) aHq
theorem akq:aeX xy Ux Uy:=by
 intro x p n i o h_;delta Uy;obtain⟨h1,h2,h3,h4,h5⟩:=h_;obtain⟨k,rfl⟩:∃m:Nat,i=m:=⟨i.toNat,by omega⟩;obtain⟨j,hj⟩:∃j,o.length-k=j:=⟨_,rfl⟩;rw[Int.toNat_natCast];induction j generalizing k o with
 |zero=>
  refine .stop ?_;have c:¬ (k:Int)<n:=by omega
  rw[Hs,Ay (by omega)];simp[Ux,c,bY,bH]
 |succ j ih=>
  have c:(k:Int)<n:=by omega
  have w:=ih (o.set k (cV .u8 (o.getD k 0) (dz .u8 (x.getD k 0) (p.getD k 0)))) (by rw[List.length_set];exact h3) (k+1) (by omega) (by omega) (by rw[List.length_set];omega);rw[Hs,xw (g:=fun i v=>cV .u8 v (dz .u8 (x.getD i 0) (p.getD i 0))) (by omega)]at w;refine .go ?_ w;simp only[Ux,bW,bF,bH,Int.toNat_natCast];exact⟨fun _=>⟨by omega,by omega,by show(0:Int)≤k;omega,by omega,by rw[bM (by omega) (by omega)];rfl⟩,fun h=>absurd c h⟩
theorem adK(y_):∀x:Eo,Ex aA (bG.wr y_) (.loop (cG f239 0)) (akn.wr x) (akp x):=ee bJ ((bI Bo (bI tH (bI xq bU)))) (ws:=aHp) (cn.nil _) (fun _=>by kernel_rfl) (fun z e=>by cases e) im (aT @akq)
def aBt(x y p:ab):Tr af4:=.need (xu x y) (.ite (!jX x y) (.ret ([])) (.need (y.length≤70368744177664) (.need (xy x p (↑y.length:Int) 0 y) (.ret (Hs x p 0 y)))))
abbrev Bq(x y p:ab):Prop:=x.length<1099511627776
abbrev akr(x y p:ab):af4:=if jX x y=true then Az x y p else []
def aQo:bT:=cj [some u8,some u8,some u8] aZo bG (q0∘q3 Bq) (q0∘q3 akr) aEK aEL
theorem auz:ab6 Bq aBt akr:=by
 intro x y p h_;delta akr;have h:x.length<1099511627776:=h_;simp only[aBt,bF];refine⟨h,?_⟩;by_cases c:jX x y=true
 ·have hl:=xr c;have hp:xy x p y.length 0 y:=⟨by omega,by omega,rfl,by omega,by omega⟩;simp[c,bY,bF,bH];exact⟨by omega,hp,rfl⟩
 ·simp[c,bY,bF,bH]
theorem YS:aQo.Ok aA 239:=az (bI Bo (bI tH (bI xq bU))) func239 call239 (ks:= [.pN,.fr [.rd true u8],.fr [.sym],.cu,.bS,.ck]) akn ako akp adK (fun x_ _=>@auz x_.1 x_.2.1 x_.2.2.1)
abbrev Ep:Type:=ab×Int×Int×ab
abbrev aks:cl St Ep:=(dy (jk 1 (bD (bO (gx false false ae)) (jk 3 (bR (bO (pk (0) (0))) (jk 4 (bD (bO (bX i64)) (bD (bO (bX i64)) (jk 13 bG)))))))) (bD (dd (0) ae) bG)).jr (fun y=>(y.1.1,y.1.2.1,y.1.2.2.1,y.2.1)) (fun x=>((x.1,(x.2.1,(x.2.2.1,()))),(x.2.2.2,()))) (fun _=>rfl)
abbrev akt:List Wk:= [.fr (eH 25 [(1,.bV),(5,.bV),(10,.bV),(11,.bV)]),.cu,.bS,.ck]
abbrev aHr:Exit→List Wk:=ua akt 0 [.fr (eH 25 [(5,.bV)]),.cu,.bS,.ck] [.fr (eH 25 [(4,.bV)]),.cu,.bS,.ck]
abbrev aHs(x:af4):Exit×St:=(Exit.exit 0,⟨(gE 5 (LV.one (VV.sc (SV.sl 0 0))::(gE 19 []))),[some (bE.own 0 ae x)]⟩)
def UA(p:ab)(n i:Int)(o:ab):Tr (Ep⊕(af4)):=.ite (decide (i<n)) (.need (0≤i∧i< (↑o.length:Int)) (.need (xp p i) (.need (0≤i∧i<(↑o.length:Int)) (.ret (.inl (p,n,i64.wrap (i+1),o.set i.toNat (cV IntKind.u8 (o.getD i.toNat 0) (p.getD i.toNat 0)))))))) (.ret (.inr o))
abbrev xz(p:ab)(n i:Int)(o:ab):Prop:=0≤i∧i≤n∧n=o.length∧n<1099511627776
abbrev UB(p:ab)(n i:Int)(o:ab):af4:=En p i.toNat o
abbrev aku:Ep→cT:=gX (aD xz) (aD UB) aHs
theorem akv:aeW xz UA UB:=by
 intro p n i o h_;delta UB;obtain⟨h1,h2,h3,h5⟩:=h_;obtain⟨k,rfl⟩:∃m:Nat,i=m:=⟨i.toNat,by omega⟩;obtain⟨j,hj⟩:∃j,o.length-k=j:=⟨_,rfl⟩;rw[Int.toNat_natCast];induction j generalizing k o with
 |zero=>
  refine .stop ?_;have c:¬ (k:Int)<n:=by omega
  rw[En,Ay (by omega)];simp[UA,c,bY,bH]
 |succ j ih=>
  have c:(k:Int)<n:=by omega
  have w:=ih (o.set k (cV .u8 (o.getD k 0) (p.getD k 0))) (by rw[List.length_set];exact h3) (k+1) (by omega) (by omega) (by rw[List.length_set];omega);rw[En,xw (g:=fun i v=>cV .u8 v (p.getD i 0)) (by omega)]at w;refine .go ?_ w;simp only[UA,bW,bF,bH,Int.toNat_natCast];exact⟨fun _=>⟨by omega,by show(0:Int)≤k;omega,by omega,by rw[bM (by omega) (by omega)];rfl⟩,fun h=>absurd c h⟩
theorem adL(y_):∀x:Ep,Ex aA (bG.wr y_) (.loop (cG f241 0)) (aks.wr x) (aku x):=ee bJ ((bI tH (bI xq bU))) (ws:=aHr) (cn.nil _) (fun _=>by kernel_rfl) (fun z e=>by cases e) im (aS @akv)
def aBu(x p:ab):Tr af4:=.need (x.length≤70368744177664) (.need (xz p (↑x.length:Int) 0 x) (.ret (En p 0 x)))
abbrev Kr(x p:ab):Prop:=x.length<1099511627776
abbrev akw(x p:ab):af4:=xx x p
def aQr:bT:=cj [some u8,some u8] yyA bG (q0∘q2 Kr) (q0∘q2 akw) aEK aEL
theorem auA:ab1 Kr aBu akw:=by
 intro x p h_;delta akw;have h:x.length<1099511627776:=h_;have hp:xz p x.length 0 x:=⟨by omega,by omega,rfl,by omega⟩;simp[aBu,bF,bH];exact⟨by omega,hp,rfl⟩
theorem auB:aQr.Ok aA 241:=az (bI tH (bI xq bU)) func241 call241 (ks:= [.pN,.fr [.rd true u8],.fr [.sym],.cu,.bS,.ck]) aks akt aku adL (fun x_ _=>@auA x_.1 x_.2.1)
def jw(f:Fl):Bool×Fl:=if f.2.2.1=false then(false,((i64.wrap (f.1.1+1),f.1.2),f.2)) else if 0<f.2.2.2 then(false,((i64.wrap (f.1.1+1),f.1.2),f.2.1,f.2.2.1,i64.wrap (f.2.2.2-1))) else(true,((i64.wrap (f.1.1+1),f.1.2),true,false,f.2.2.2))
abbrev gL:cl (List LV) Unit:=bR (bO (cr 0 0)) bG
abbrev QW:cl (List LV) (Int×ab×Unit):=bR (bO (cr 0 0)) (bD (bO (bX .i64)) (bD (bO (gx false false u8)) bG))
abbrev YU:Type:=Bool×(ai)
abbrev aQs(x:YU):LV:=aw (au x.1)
abbrev aQt(x:YU):List ao:= [(0,Pd.wr x.2)]
def aBv(f:ai)(b er:ab):Tr YU:=.ite (!f.2.2.1) (.ret (false,((i64.wrap (f.1.1+1),f.1.2),f.2))) (.ite (decide (0<f.2.2.2)) (.ret (false,((i64.wrap (f.1.1+1),f.1.2),f.2.1,f.2.2.1,i64.wrap (f.2.2.2-1)))) (.ret (true,((i64.wrap (f.1.1+1),f.1.2),true,false,f.2.2.2))))
abbrev tJ(f:Fl)(b er:ab):Prop:=True
abbrev akx(f:Fl)(b er:ab):YU:=jw f
def aQu:bT:=cj [] gL ow (q3∘q0 tJ) (q3∘q0 akx) aQs aQt
theorem auC:ab6 tJ aBv akx:=by
 intro f b er h_;delta akx;obtain⟨⟨s,p⟩,o,a,n⟩:=f;simp only[aBv,jw];cases a<;>simp[bY,bW,bH]
theorem Ks:aQu.Ok aA 238:=ay bU func238 call238 (ks:=eU) (fun _=>br @auC)
def Er(at_:Int)(x:ab):Int:=i64.wrap (at_+(↑x.length:Int))
def aBw(at_:Int)(x:ab)(f:ai)(b er:ab):Tr IE:=.need (0 ≤at_∧at_≤Er at_ x∧Er at_ x≤(↑b.length:Int)) (.need (xu (List.take (Er at_ x-at_).toNat (List.drop at_.toNat b)) x) (.ret (!jX (List.take (Er at_ x-at_).toNat (List.drop at_.toNat b)) x)))
abbrev Br(at_:Int)(x:ab)(f:Fl)(b er:ab):Prop:=0≤at_∧at_+x.length≤b.length∧b.length<1099511627776
abbrev aky(at_:Int)(x:ab)(f:Fl)(b er:ab):IE:= !jX (cO b at_ x.length) x
def aQx:bT:=cj [none,none,some u8] QW ow (q3∘q2 Br) (q3∘q2 aky) aEH aEI
theorem auD:acf Br aBw aky:=by
 intro at_ x f b er h_;delta aky;obtain⟨h1,h2,h3⟩:=h_;have e:Er at_ x=at_+x.length:=bM (by omega) (by omega);have e2:(at_+x.length-at_).toNat=(x.length:Int).toNat:=by congr 1;omega
 have l:(List.take (x.length:Int).toNat (List.drop at_.toNat b)).length≤b.length:=by rw[List.length_take,List.length_drop];omega
 simp only[aBw,e,e2,bF,bH];exact⟨⟨by omega,by omega,by omega⟩,by show(_:Nat)<_;omega,rfl⟩
theorem YW:aQx.Ok aA 237:=ay (bI Bo bU) func237 call237 (ks:=eU) (fun x_=>br (@auD x_.1 x_.2.1))
def wrF:Nat→Fl→ab→Int→ab→Int×Fl×ab
 |0,f,b,_,_=>(0,f,b)
 |n+1,f,b,p,x=>if(jw f).1=true then(5,(jw f).2,rH b p (Az (cO b p 8) (x.take 8) (jw f).2.1.2))else wrF n (jw f).2 (rH b p (x.take 8)) (p+8) (x.drop 8)
def Oc(f:Fl)(b:ab)(p:Int)(x:ab):Int×Fl×ab:=wrF (x.length/8) f b p x
theorem auE(f:Fl)(b:ab)(p:Int):Oc f b p []=(0,f,b):=rfl
theorem akA{f:Fl}{b:ab}{p:Int}{x:ab}(h:8≤x.length):Oc f b p x=if(jw f).1=true then(5,(jw f).2,rH b p (Az (cO b p 8) (x.take 8) (jw f).2.1.2))else Oc (jw f).2 (rH b p (x.take 8)) (p+8) (x.drop 8):=by
 unfold Oc;obtain⟨n,hn⟩:∃n,x.length/8=n+1:=⟨x.length/8-1,by omega⟩;have e:(x.drop 8).length/8=n:=by rw[List.length_drop];omega
 rw[hn,e,wrF]
theorem Ht:∀ (k:Nat) {l m:ab},jX l m=true→jX (l.take k) (m.take k)=true
 |0,_,_,_=>rfl
 |_+1,[],[],_=>rfl
 |_+1,[],_::_,h=>by cases h
 |_+1,_::_,[],h=>by cases h
 |k+1,x::l,y::m,h=>by
  rw[jX,Bool.and_eq_true]at h;rw[List.take_succ_cons,List.take_succ_cons,jX,Bool.and_eq_true];exact⟨h.1,Ht k h.2⟩
theorem Hu:∀ (k:Nat) {l m:ab},jX l m=true→jX (l.drop k) (m.drop k)=true
 |0,_,_,h=>h
 |_+1,[],[],_=>rfl
 |_+1,[],_::_,h=>by cases h
 |_+1,_::_,[],h=>by cases h
 |k+1,x::l,y::m,h=>by
  rw[jX,Bool.and_eq_true]at h;exact Hu k h.2
theorem p5{b x:ab}{p:Int}(h:uT b p x.length):(rH b p x).length=b.length:=by
 obtain⟨h1,h2,h3⟩:=h;unfold rH;rw[List.length_append,List.length_append,List.length_take,List.length_drop];omega
theorem auF{b x:ab}{p:Int}(h:uT b p x.length)(m:Int):cO (rH b p x) (p+x.length) m=cO b (p+x.length) m:=by
 obtain⟨h1,h2,h3⟩:=h;unfold cO rH;have e:(p+(x.length:Int)).toNat=p.toNat+x.length:=by omega
 have hl:(b.take p.toNat).length=p.toNat:=by rw[List.length_take];omega
 rw[e,← List.append_assoc,List.drop_append_of_le_length (by rw[List.length_append];omega),List.drop_of_length_le (by rw[List.length_append];omega),List.nil_append]
theorem xA{b l:ab}{p:Int}{n:Nat}(hn:l.length=n):cP b p.toNat n l=rH b p l:=by
 unfold cP rH;rw[List.take_of_length_le (l:=l) (by omega),hn,Nat.min_self]
theorem adM{b:ab}{p m:Int}(h:0≤p)(hm:8≤m):(cO b p m).take 8=cO b p 8∧(cO b p m).drop 8=cO b (p+8) (m-8):=by
 unfold cO;constructor
 ·rw[List.take_take];congr 1;omega
 ·rw[List.drop_take,List.drop_drop];congr 2<;>omega
abbrev Es:Type:=Int×ab×Int×ai×ab×ab
abbrev akB:cl St Es:=(dy (bR (bO (cr (0) (0))) (bD (bO (bX i64)) (bD (bO (gx false false ae)) (jk 4 (bD (bO (bX i64)) (jk 72 bG)))))) (bD (cb Pd) (bD (dd (0) ae) (bD (dd (0) ag) bG)))).jr (fun y=>(y.1.1,y.1.2.1,y.1.2.2.1,y.2.1,y.2.2.1,y.2.2.2.1)) (fun x=>((x.1,(x.2.1,(x.2.2.1,()))),(x.2.2.2.1,(x.2.2.2.2.1,(x.2.2.2.2.2,()))))) (fun _=>rfl)
abbrev akC:List Wk:= [.fr (eH 80 [(0,.bV),(1,.bV),(2,.bV),(7,.bV)]),.cu,.bS,.ck]
abbrev aHt:Exit→List Wk:=ua akC 1 [.fr (eH 80 []),.cu,.bS,.ck] [.fr (eH 80 [(6,.bV)]),.cu,.bS,.ck]
def qL(at_ i:Int)(b:ab):ab:=List.take (i64.wrap (i64.wrap (at_+i)+8)-i64.wrap (at_+i)).toNat (List.drop (i64.wrap (at_+i)).toNat b)
def qM(f:ai):(Int×ab)×Bool×Bool×Int:=f
abbrev Kt:Type:=Int×ai×ab×ab
abbrev auG(x:Kt):Exit×St:=(Exit.ret,⟨(gE 6 (LV.one (VV.sc (SV.int i64 (SI.sym x.1)))::(gE 73 []))),[some (Pd.wr x.2.1),some (bE.own 0 ae x.2.2.1),some (bE.own 0 ag x.2.2.2)]⟩)
abbrev Ku:Type:=(ai)×ab×ab
abbrev auH(x:Ku):Exit×St:=(Exit.exit 1,⟨(gE 80 []),[some (Pd.wr x.1),some (bE.own 0 ae x.2.1),some (bE.own 0 ag x.2.2)]⟩)
def Kv(at_:Int)(x:ab)(i:Int)(f:ai)(b er:ab):Tr (Es⊕(Kt⊕Ku)):=.ite (decide (i<(↑x.length:Int))) (.need (0≤i64.wrap (at_+i)∧i64.wrap (at_+i)≤i64.wrap (i64.wrap (at_+i)+8)∧i64.wrap (i64.wrap (at_+i)+8)≤(↑b.length:Int)) (.need (0≤i∧i≤i64.wrap (i+8)∧i64.wrap (i+8)≤(↑x.length:Int)) (.need (tJ (qM f) b er) (.ite ((jw (qM f)).1) (.need (Bq (qL at_ i b) (List.take (i64.wrap (i+8)-i).toNat (List.drop i.toNat x)) (jw (qM f)).2.1.2) (.ret (.inr (.inl (5,(jw (qM f)).2,cP b (i64.wrap (at_+i)).toNat (i64.wrap (i64.wrap (at_+i)+8)-i64.wrap (at_+i)).toNat (if jX (qL at_ i b) (List.take (i64.wrap (i+8)-i).toNat (List.drop i.toNat x))=true then Az (qL at_ i b) (List.take (i64.wrap (i+8)-i).toNat (List.drop i.toNat x)) (jw (qM f)).2.1.2 else []),er))))) (.need (Bp (qL at_ i b) (List.take (i64.wrap (i+8)-i).toNat (List.drop i.toNat x))) (.ret (.inl (at_,x,i64.wrap (i+8),(jw (qM f)).2,cP b (i64.wrap (at_+i)).toNat (i64.wrap (i64.wrap (at_+i)+8)-i64.wrap (at_+i)).toNat (if jX (qL at_ i b) (List.take (i64.wrap (i+8)-i).toNat (List.drop i.toNat x))=true then List.take (i64.wrap (i+8)-i).toNat (List.drop i.toNat x)else []),er)))))))) (.ret (.inr (.inr (f,b,er))))
abbrev xB(at_:Int)(x:ab)(i:Int)(f:ai)(b er:ab):Prop:=0≤at_∧0≤i∧i≤x.length∧at_+x.length≤b.length∧b.length<1099511627776∧(x.length-i)%8=0∧jX (cO b (at_+i) (x.length-i)) (x.drop i.toNat)=true
abbrev UC(at_:Int)(x:ab)(i:Int)(f:ai)(b er:ab):Bool:=decide ((Oc f b (at_+i) (x.drop i.toNat)).1≠0)
abbrev UD(at_:Int)(x:ab)(i:Int)(f:ai)(b er:ab):Kt:=(5,(Oc f b (at_+i) (x.drop i.toNat)).2.1,(Oc f b (at_+i) (x.drop i.toNat)).2.2,er)
abbrev UE(at_:Int)(x:ab)(i:Int)(f:ai)(b er:ab):Ku:=((Oc f b (at_+i) (x.drop i.toNat)).2.1,(Oc f b (at_+i) (x.drop i.toNat)).2.2,er)
abbrev akD:Es→cT:=oU (aF xB) (aF UC) (aF UD) (aF UE) auG auH
theorem akE(at_:Int)(x:ab)(i:Int)(f:ai)(b er:ab)(h_:xB at_ x i f b er):eG (fun x_:Es=>Kv x_.1 x_.2.1 x_.2.2.1 x_.2.2.2.1 x_.2.2.2.2.1 x_.2.2.2.2.2) (at_,x,i,f,b,er) (bif UC at_ x i f b er then .inl (UD at_ x i f b er)else .inr (UE at_ x i f b er)):=by
 delta UC UD UE;obtain⟨h1,h2,h3,h4,h5,h6,h7⟩:=h_;obtain⟨n,hn⟩:∃n:Nat,(x.length-i)=8*n:=⟨((x.length-i)/8).toNat,by omega⟩;induction n generalizing i f b with
 |zero=>
  have c:¬i<(x.length:Int):=by omega
  rw[List.drop_of_length_le (by omega),auE];refine .stop ?_;simp[Kv,c,bY,bH]
 |succ n ih=>
  have c:i<(x.length:Int):=by omega
  have w1:i64.wrap (at_+i)=at_+i:=bM (by omega) (by omega);have w2:i64.wrap (at_+i+8)=at_+i+8:=bM (by omega) (by omega);have w3:i64.wrap (i+8)=i+8:=bM (by omega) (by omega);have w4:(at_+i+8-(at_+i)).toNat=8:=by omega
  have w5:(i+8-i).toNat=8:=by omega
  obtain⟨c1,c2⟩:=adM (b:=b) (p:=at_+i) (m:=x.length-i) (by omega) (by omega);have k1:=Ht 8 h7;have k2:=Hu 8 h7;rw[c1]at k1;rw[c2,List.drop_drop,show i.toNat+8=(i+8).toNat by omega]at k2;have l1:((x.drop i.toNat).take 8).length=8:=by rw[List.length_take,List.length_drop];omega
  have l2:(cO b (at_+i) 8).length=8:=by have:=gg (b:=b) (p:=at_+i) (m:=8) (by omega);omega
  have l3:(Az (cO b (at_+i) 8) ((x.drop i.toNat).take 8) (jw f).2.1.2).length=8:=by unfold Az Hs;rw[mm];exact l1
  have hr:uT b (at_+i) ((x.drop i.toNat).take 8).length:=by rw[l1];exact⟨by omega,by omega,by omega⟩
  have hd:(x.drop i.toNat).drop 8=x.drop (i+8).toNat:=by rw[List.drop_drop];congr 1;omega
  have e0:qL at_ i b=cO b (at_+i) 8:=by unfold qL;rw[w1,w2,w4];rfl
  have e1:qM f=f:=rfl;have q1:tJ f b er:=trivial;have q2:Bq (cO b (at_+i) 8) ((x.drop i.toNat).take 8) (jw f).2.1.2:=by show(_:Nat)<_;omega
  have q3:Bp (cO b (at_+i) 8) ((x.drop i.toNat).take 8):=by show(_:Nat)<_;omega
  rw[akA (by rw[List.length_drop];omega),hd];cases hs:(jw f).1 with
  |true=>
   rw[if_pos rfl];refine .stop ?_;simp only[Kv,w1,w2,w3,w4,w5,e0,e1,hs,bW,bF,dH,bH];exact⟨fun _=>⟨by omega,by omega,q1,q2,by rw[if_pos k1,xA l3];rfl⟩,fun h=>absurd c h⟩
  |false=>
   rw[if_neg (by decide)];have hl:=p5 hr;have hc:=auF hr (x.length-(i+8));rw[l1,show at_+i+((8:Nat):Int)=at_+(i+8) by omega]at hc;rw[show at_+i+8=at_+(i+8) by omega,show(x.length:Int)-i-8=x.length-(i+8) by omega]at k2;have w:=ih (i+8) (jw f).2 (rH b (at_+i) ((x.drop i.toNat).take 8)) (by omega) (by omega) (by omega) (by omega) (by omega) (by rw[hc];exact k2) (by omega);rw[← show at_+i+8=at_+(i+8) by omega]at w;refine .go ?_ w;simp only[Kv,w1,w2,w3,w4,w5,e0,e1,hs,bW,bF,dV,bH];exact⟨fun _=>⟨by omega,by omega,q1,q3,by rw[if_pos k1,xA l1]⟩,fun h=>absurd c h⟩
theorem adN(y_):∀x:Es,Ex aA (ow.wr y_) (.loop (cG f219 1)) (akB.wr x) (akD x):=ee bJ ((bI sr (bI YW (bI Ks (bI YS (bI YQ bU)))))) (ws:=aHt) (cn.nil _) (fun _=>by kernel_rfl) (fun z=>by cases z<;>(intro e;cases e)) qw (aU @akE)
def Et(at_:Int)(x:ab):Int:=(↑x.length:Int)
def qN(f:ai):(Int×ab)×Bool×Bool×Int:=f
abbrev YX:Type:=Int×ai×ab
abbrev aQy(x:YX):LV:=aw (ar x.1)
abbrev aQz(x:YX):List ao:= [(0,Pd.wr x.2.1),(1,bE.own 0 ae x.2.2)]
def aBx(at_:Int)(x:ab)(f:ai)(b er:ab):Tr YX:=.ite f.2.1 (.ret (5,f,b)) (.need (ny at_ (Et at_ x) (qN f) b er) (.ite (!decide (0≤at_∧0≤Et at_ x∧at_+Et at_ x≤ (↑b.length:Int))) (.ret (2,f,b)) (.ite ((at_.tmod (8:Int)!=0)==false) (.ite ((Et at_ x).tmod (8:Int)!=0) (.ret (3,f,b)) (.need (Br at_ x (qN f) b er) (.ite (!jX (cO b at_ (↑x.length:Int)) x) (.ret (4,f,b)) (.need (xB at_ x 0 (qN f) b er) (.ite (decide ¬(Oc (qN f) b (at_+0) (List.drop 0 x)).1=0) (.ret (5,(Oc (qN f) b (at_+0) (List.drop 0 x)).2.1,(Oc (qN f) b (at_+0) (List.drop 0 x)).2.2)) (.ret (0,(Oc (qN f) b (at_+0) (List.drop 0 x)).2.1,(Oc (qN f) b (at_+0) (List.drop 0 x)).2.2))))))) (.ret (3,f,b)))))
def Kw(f:Fl)(b:ab)(p:Int)(x:ab):Int×Fl×ab:=if f.2.1=true then(5,f,b)else if ¬uT b p x.length then(2,f,b)else if ¬ (p%8=0∧(x.length:Int)%8=0)then(3,f,b)else if jX (cO b p x.length) x=false then(4,f,b)else Oc f b p x
theorem YY:∀ (n:Nat) (f:Fl) (b:ab) (p:Int) (x:ab),(wrF n f b p x).1=0∨(wrF n f b p x).1=5
 |0,_,_,_,_=>.inl rfl
 |n+1,f,b,p,x=>by
  rw[wrF];split
  ·exact .inr rfl
  ·exact YY n _ _ _ _
abbrev Kx(at_:Int)(x:ab)(f:Fl)(b er:ab):Prop:=b.length<1099511627776∧x.length<1099511627776
abbrev akF(at_:Int)(x:ab)(f:Fl)(b er:ab):YX:=Kw f b at_ x
def aQA:bT:=cj [none,none,some u8] QW ow (q3∘q2 Kx) (q3∘q2 akF) aQy aQz
theorem auI:acf Kx aBx akF:=by
 intro at_ x f b er h_;delta akF;obtain⟨h1,h2⟩:=h_;have e1:Et at_ x=x.length:=rfl;have e2:qN f=f:=rfl;have m1:at_.tmod 8=0↔at_%8=0:=by rw[← Int.dvd_iff_tmod_eq_zero,Int.dvd_iff_emod_eq_zero]
 have m2:(x.length:Int).tmod 8=0↔(x.length:Int)%8=0:=by rw[← Int.dvd_iff_tmod_eq_zero,Int.dvd_iff_emod_eq_zero]
 have p1:ny at_ x.length f b er:=h1;have ew:=YY (x.length/8) f b at_ x;change (Oc f b at_ x).1=0∨(Oc f b at_ x).1=5 at ew;simp only[aBx,e1,e2,Int.add_zero,List.drop_zero,bF,cD,cz,cy,b9,cm,bW,bH,Kw];rw[bY];simp only[bF,cD,cz,cy,b9,cm,bW,bH];refine⟨fun c=>by rw[if_pos c],fun c=>⟨p1,fun c1=>?_,fun c1=>?_⟩⟩
 ·have c1:uT b at_ x.length:=of_decide_eq_true c1;refine⟨fun c2=>⟨fun c3=>?_,fun c3=>?_⟩,fun c2=>?_⟩
  ·have p2:Br at_ x f b er:=⟨by omega,by omega,h1⟩;rw[if_neg (by rw[c];decide),if_neg (fun h=>h c1),if_neg (fun h=>h ⟨m1.1 c2,m2.1 c3⟩)];refine⟨p2,fun c4=>?_,fun c4=>?_⟩
   ·have p3:xB at_ x 0 f b er:=⟨by omega,by omega,by omega,by omega,h1,by have:=m2.1 c3;omega,by rw[Int.add_zero,Int.sub_zero];exact c4⟩;rw[if_neg (by rw[c4];decide)];refine⟨p3,fun c5=>?_,fun c5=>?_⟩
    ·rcases ew with e|e
     ·exact absurd e c5
     ·exact Prod.ext e.symm rfl
    ·have e:(Oc f b at_ x).1=0:=(by omega);exact Prod.ext e.symm rfl
   ·rw[if_pos c4]
  ·rw[if_neg (by rw[c];decide),if_neg (fun h=>h c1),if_pos (fun h=>c3 (m2.2 h.2))]
  ·rw[if_neg (by rw[c];decide),if_neg (fun h=>h c1),if_pos (fun h=>c2 (m1.2 h.1))]
 ·rw[if_neg (by rw[c];decide),if_pos (of_decide_eq_false c1)]
theorem auJ:aQA.Ok aA 219:=az (bI sr (bI YW (bI Ks (bI YS (bI YQ bU))))) func219 call219 (ks:=eU) akB akC akD adN (fun x_=>br (@auI x_.1 x_.2.1))
def vh(f:Fl)(b er:ab)(s:Int):Int×Fl×ab×ab:=if f.2.1=true then(5,f,b,er)else if ¬ (0≤s∧s<er.length)then(2,f,b,er) else if(jw f).1=true then(5,(jw f).2,rH b (1024*s) (xx (cO b (1024*s) 1024) (jw f).2.1.2),er.set s.toNat (i64.wrap (er.getD s.toNat 0+1))) else(0,(jw f).2,rH b (1024*s) (List.replicate 1024 255),er.set s.toNat (i64.wrap (er.getD s.toNat 0+1)))
def zC(s:Int):Nat:=(i64.wrap (i64.wrap (s+1)*1024)-i64.wrap (s*1024)).toNat
def vk(f:ai):(Int×ab)×Bool×Bool×Int:=f
abbrev aQB(x:Kt):LV:=aw (ar x.1)
abbrev aQC(x:Kt):List ao:= [(0,Pd.wr x.2.1),(1,bE.own 0 ae x.2.2.1),(2,bE.own 0 ag x.2.2.2)]
def aBy(s:Int)(f:ai)(b er:ab):Tr Kt:=.ite f.2.1 (.ret (5,f,b,er)) (.ite (decide (s<0)==false) (.ite (decide ((↑er.length:Int)≤s)) (.ret (2,f,b,er)) (.need (0≤i64.wrap (s*1024)∧i64.wrap (s*1024)≤i64.wrap (i64.wrap (s+1)*1024)∧i64.wrap (i64.wrap (s+1)*1024)≤(↑b.length:Int)) (.need (0≤s∧s<(↑er.length:Int)) (.need (0≤s∧s<(↑er.length:Int)) (.need (tJ (vk f) b (er.set s.toNat (i64.wrap (er.getD s.toNat (0:Int)+1)))) (.ite ((jw (vk f)).1) (.need (Kr (List.take (zC s) (List.drop (i64.wrap (s*1024)).toNat b)) (jw (vk f)).2.1.2) (.ret (5,(jw (vk f)).2,cP b (i64.wrap (s*1024)).toNat (zC s) (xx (List.take (zC s) (List.drop (i64.wrap (s*1024)).toNat b)) (jw (vk f)).2.1.2),er.set s.toNat (i64.wrap (er.getD s.toNat (0:Int)+1))))) (.need (Dy 1024) (.ret (0,(jw (vk f)).2,cP b (i64.wrap (s*1024)).toNat (zC s) (List.replicate 1024 (255:Int)),er.set s.toNat (i64.wrap (er.getD s.toNat (0:Int)+1))))))))))) (.ret (2,f,b,er)))
abbrev Ky(s:Int)(f:Fl)(b er:ab):Prop:=dE b er
abbrev akG(s:Int)(f:Fl)(b er:ab):Kt:=vh f b er s
def aQD:bT:=cj [] ((bR (bO (cr 0 0)) (bD (bO (bX .i64)) bG))) ow (q3∘q1 Ky) (q3∘q1 akG) aQB aQC
theorem auK:acb Ky aBy akG:=by
 intro s f b er h_;delta akG;obtain⟨h1,h2,h3⟩:=h_;have e1:vk f=f:=rfl;have q1:∀Bl,tJ f b Bl:=fun _=>trivial;simp only[aBy,e1,bY,bF,bH,vh];refine⟨fun c=>by rw[if_pos c],fun c=>?_⟩;rw[if_neg (by rw[c];decide)];by_cases c1:0≤s∧s<er.length
 ·rw[if_neg (fun h=>h c1)];have w1:i64.wrap (s*1024)=1024*s:=by rw[bM (by omega) (by omega),Int.mul_comm]
  have w2:i64.wrap (i64.wrap (s+1)*1024)=1024*s+1024:=by rw[bM (n:=s+1) (by omega) (by omega),bM (by omega) (by omega)];omega
  have e0:zC s=1024:=by unfold zC;rw[w1,w2];omega
  have d1:(decide (s<0)==false)=true:=by simp;omega
  have d2:decide ((er.length:Int)≤s)=false:=decide_eq_false (by omega);have l1:=gg (b:=b) (p:=1024*s) (m:=1024) (by omega);have l2:(xx (cO b (1024*s) 1024) (jw f).2.1.2).length=1024:=by unfold xx En;rw[mm];omega
  simp only[w1,w2,e0,d1,d2];refine⟨fun _=>⟨fun h=>(by cases h),fun _=>⟨by omega,c1,c1,q1 _,fun c2=>⟨by show(cO b (1024*s) 1024).length<_;omega,?_⟩,fun c2=>⟨⟨by decide,by decide⟩,?_⟩⟩⟩,fun h=>by cases h⟩
  ·rw[if_pos c2,xA]
   ·rfl
   ·exact l2
  ·rw[if_neg (by rw[c2];decide),xA (by rw[List.length_replicate])]
 ·rw[if_pos c1];refine⟨fun d=>⟨fun _=>rfl,fun d2=>?_⟩,fun _=>rfl⟩;simp at d d2;omega
theorem auL:aQD.Ok aA 221:=ay (bI Ks (bI auB (bI SN bU))) func221 call221 (ks:=eU) (fun x_=>br (@auK x_.1))
abbrev Y0:Type:=ai
abbrev aQE(x:Y0):LV:=LV.dB []
abbrev aQF(x:Y0):List ao:= [(0,Pd.wr x)]
def aBz(n:Int)(x:ab)(f:ai)(b er:ab):Tr Y0:=.need (x.length≤70368744177664) (.ret (((f.1.1,x),f.2.1,decide (0≤n),n)))
abbrev xC(n:Int)(x:ab)(f:Fl)(b er:ab):Prop:=x.length<1099511627776
abbrev akH(n:Int)(x:ab)(f:Fl)(b er:ab):Y0:=((f.1.1,x),f.2.1,decide (0≤n),n)
def Y1:bT:=cj [none,none,some u8] QW ow (q3∘q2 xC) (q3∘q2 akH) aQE aQF
theorem auM:acf xC aBz akH:=by
 intro n x f b er h_;delta akH;have h:x.length<1099511627776:=h_;simp only[aBz,bF,bH];exact⟨by omega,trivial⟩
theorem Kz:Y1.Ok aA 26:=ay (bI jA bU) func26 call26 (ks:=eU) (fun x_=>br (@auM x_.1 x_.2.1))
def aQI(f:ai)(b er:ab):Tr Y0:=.ret ((f.1,false,false,f.2.2.2))
abbrev xD(f:Fl)(b er:ab):Prop:=True
abbrev akI(f:Fl)(b er:ab):Y0:=(f.1,false,false,f.2.2.2)
def Y3:bT:=cj [] gL ow (q3∘q0 xD) (q3∘q0 akI) aQE aQF
theorem auN:ab6 xD aQI akI:=by
 intro f b er h_;delta akI;exact rfl
theorem KA:Y3.Ok aA 21:=ay bU func21 call21 (ks:=eU) (fun _=>br @auN)
def aBA(s:Int)(f:ai)(b er:ab):Tr sk:=.ite (decide (s<0)==false) (.ite (decide ((↑er.length:Int)≤s)) (.ret (0)) (.need (0≤s∧s<(↑er.length:Int)) (.ret (er.getD s.toNat 0)))) (.ret (0))
abbrev KB(s:Int)(f:Fl)(b er:ab):Prop:=True
abbrev akJ(s:Int)(f:Fl)(b er:ab):sk:=if 0≤s∧s<er.length then er.getD s.toNat 0 else 0
def aQL:bT:=cj [] ((bR (bO (cr 0 0)) (bD (bO (bX .i64)) bG))) ow (q3∘q1 KB) (q3∘q1 akJ) aED aEE
theorem auO:acb KB aBA akJ:=by
 intro s f b er h_;delta akJ;simp only[aBA,bF,cv,cA,cD,cz,bW,b9,cC,cy,cx,cZ,cQ,cd,cm,bH];try simp only[bY,bF,cv,cA,cD,cz,bW,b9,cC,cy,cx,cZ,cQ,cd,cm,bH]
 grind [bM]
theorem Y5:aQL.Ok aA 34:=ay bU func34 call34 (ks:=eU) (fun x_=>br (@auO x_.1))
abbrev aZp:cl (List LV) ((Int×Int)×Int×ab×Unit):=bD (jf cRg) (bD (bO (bX .i64)) (bD (bO (gx false false u8)) bG))
abbrev rgN:cl (List LV) ((Int×Int)×Int×Unit):=bD (jf cRg) (bD (bO (bX .i64)) bG)
def gM(f:Fl)(b:ab)(r:Int×Int)(p:Int)(x:ab):Int×Fl×ab:=if f.2.1=true then(5,f,b)else if ¬inR r p x.length then(2,f,b)else Kw f b (1024*r.1+p) x
def qO(f:ai):(Int×ab)×Bool×Bool×Int:=f
def Bs(r:Int×Int)(p:Int)(x:ab):Int:=(↑x.length:Int)
def KC(r:Int×Int)(p:Int)(x:ab)(f:ai)(b er:ab):Int:=if f.2.1=true then 5 else if 0≤p∧0≤Bs r p x∧p+Bs r p x≤1024*r.2 then 0 else 2
def akK(r:Int×Int)(p:Int)(x:ab)(f:ai)(b er:ab):Tr YX:=.need (wD r p (Bs r p x) (qO f) b er) (.ite (KC r p x f b er !=0) (.ret (KC r p x f b er,f,b)) (.need (tw r (qO f) b er) (.need (Kx (i64.wrap (1024*r.1+p)) x (qO f) b er) (.ret ((Kw (qO f) b (i64.wrap (1024*r.1+p)) x).1,(Kw (qO f) b (i64.wrap (1024*r.1+p)) x).2.1,(Kw (qO f) b (i64.wrap (1024*r.1+p)) x).2.2)))))
abbrev eB(r:Int×Int)(p:Int)(x:ab)(f:Fl)(b er:ab):Prop:=dE b er∧iO r er∧x.length<1099511627776
abbrev UF(r:Int×Int)(p:Int)(x:ab)(f:Fl)(b er:ab):YX:=gM f b r p x
def aHw:bT:=cj [none,none,some u8] aZp ow (q3∘q3 eB) (q3∘q3 UF) aQy aQz
theorem akL:ac1 eB akK UF:=by
 intro r p x f b er h_;delta UF;obtain⟨⟨h1,h2,h3⟩,⟨h4,h5,h6⟩,h7⟩:=h_;simp only[akK,qO,Bs,KC,gM,bF,cv,cA,cD,cz,bW,b9,cC,cy,cx,cZ,cQ,cd,cm,bH];try simp only[bY,bF,cv,cA,cD,cz,bW,b9,cC,cy,cx,cZ,cQ,cd,cm,bH]
 grind [bM]
theorem sO:aHw.Ok aA 190:=ay (bI Pf (bI GZ (bI auJ bU))) func190 call190 (ks:=eU) (fun x_=>br (@akL x_.1 x_.2.1 x_.2.2.1))
def akM(r:Int×Int)(s:Int)(f:ai)(b er:ab):Tr sk:=.need (jN f b er) (.ite f.2.1 (.ret (5)) (.ite (decide (s<0)==false) (.ite (decide (r.2≤s)) (.ret (2)) (.ret (0))) (.ret (2))))
abbrev xE(r:Int×Int)(s:Int)(f:Fl)(b er:ab):Prop:=True
abbrev UG(r:Int×Int)(s:Int)(f:Fl)(b er:ab):sk:=if f.2.1=true then 5 else if 0≤s∧s<r.2 then 0 else 2
def aHz:bT:=cj [] rgN ow (q3∘q2 xE) (q3∘q2 UG) aED aEE
theorem akN:acf xE akM UG:=by
 intro r s f b er h_;delta UG;simp only[akM,bF,cv,cA,cD,cz,bW,b9,cC,cy,cx,cZ,cQ,cd,cm,bH];try simp only[bY,bF,cv,cA,cD,cz,bW,b9,cC,cy,cx,cZ,cQ,cd,cm,bH]
 grind [bM]
theorem QX:aHz.Ok aA 220:=ay (bI lM bU) func220 call220 (ks:=eU) (fun x_=>br (@akN x_.1 x_.2.1))
def fH(f:Fl)(b er:ab)(r:Int×Int)(s:Int):Int×Fl×ab×ab:=if f.2.1=true then(5,f,b,er)else if ¬ (0≤s∧s<r.2)then(2,f,b,er)else vh f b er (r.1+s)
def qP(f:ai):(Int×ab)×Bool×Bool×Int:=f
def KF(r:Int×Int)(s:Int)(f:ai)(b er:ab):Int:=if f.2.1=true then 5 else if 0≤s∧s<r.2 then 0 else 2
def akO(r:Int×Int)(s:Int)(f:ai)(b er:ab):Tr Kt:=.need (xE r s (qP f) b er) (.ite (KF r s f b er !=0) (.ret (KF r s f b er,f,b,er)) (.need (Ky (i64.wrap (r.1+s)) (qP f) b er) (.ret ((vh (qP f) b er (i64.wrap (r.1+s))).1,(vh (qP f) b er (i64.wrap (r.1+s))).2.1,(vh (qP f) b er (i64.wrap (r.1+s))).2.2.1,(vh (qP f) b er (i64.wrap (r.1+s))).2.2.2))))
abbrev kM(r:Int×Int)(s:Int)(f:Fl)(b er:ab):Prop:=dE b er∧iO r er
abbrev UH(r:Int×Int)(s:Int)(f:Fl)(b er:ab):Kt:=fH f b er r s
def aHC:bT:=cj [] rgN ow (q3∘q2 kM) (q3∘q2 UH) aQB aQC
theorem akP:acf kM akO UH:=by
 intro r s f b er h_;delta UH;obtain⟨⟨h1,h2,h3⟩,⟨h4,h5,h6⟩⟩:=h_;simp only[akO,qP,KF,fH,bF,cv,cA,cD,cz,bW,b9,cC,cy,cx,cZ,cQ,cd,cm,bH];try simp only[bY,bF,cv,cA,cD,cz,bW,b9,cC,cy,cx,cZ,cQ,cd,cm,bH]
 grind [bM]
theorem sP:aHC.Ok aA 195:=ay (bI QX (bI auL bU)) func195 call195 (ks:=eU) (fun x_=>br (@akP x_.1 x_.2.1))
def KH(f:ai):(Int×ab)×Bool×Bool×Int:=f
def KI(r:Int×Int)(s:Int)(f:ai)(b er:ab):Int:=if f.2.1=true then 5 else if 0≤s∧s<r.2 then 0 else 2
def tK(r:Int×Int)(s:Int)(f:ai)(b er:ab):ab×Int:=if f.2.1=true then([],5)else if 0≤i64.wrap (s*1024)∧(0:Int)≤1024∧i64.wrap (s*1024)+(1024:Int)≤1024*r.2 then(cO b (1024*r.1+i64.wrap (s*1024)) 1024,0)else([],2)
abbrev KJ:Type:=Bool×Int
abbrev aHD(x:KJ):LV:=LV.dB [VV.sc (au x.1),VV.sc (ar x.2)]
abbrev aHE(x:KJ):List ao:= []
def akQ(r:Int×Int)(s:Int)(f:ai)(b er:ab):Tr KJ:=.need (xE r s (KH f) b er) (.ite (KI r s f b er !=0) (.ret (false,KI r s f b er)) (.need (fO r (i64.wrap (s*1024)) 1024 (KH f) b er) (.ite (((tK r s f b er).2==0)==true) (.need (JW (tK r s f b er).1) (.ret (eS (tK r s f b er).1,(tK r s f b er).2))) (.ret (false,(tK r s f b er).2)))))
abbrev kN(r:Int×Int)(s:Int)(f:Fl)(b er:ab):Prop:=dE b er∧iO r er
abbrev UI(r:Int×Int)(s:Int)(f:Fl)(b er:ab):KJ:=if f.2.1=true then(false,5)else if ¬ (0≤s∧s<r.2)then(false,2)else(eS (cO b (1024*r.1+1024*s) 1024),0)
def aHF:bT:=cj [] rgN ow (q3∘q2 kN) (q3∘q2 UI) aHD aHE
theorem akR:acf kN akQ UI:=by
 intro r s f b er h_;delta UI;obtain⟨⟨h1,h2,h3⟩,⟨h4,h5,h6⟩⟩:=h_;have w:0≤s→s<r.2→i64.wrap (s*1024)=1024*s:=fun _ _=>by rw[bM (by omega) (by omega),Int.mul_comm]
 have l:(cO b (1024*r.1+1024*s) 1024).length≤1024:=by unfold cO;rw[List.length_take];omega
 simp only[akQ,KH,KI,tK,bF,cv,cA,cD,cz,bW,b9,cC,cy,cx,cZ,cQ,cd,cm,bH];try simp only[bY,bF,cv,cA,cD,cz,bW,b9,cC,cy,cx,cZ,cQ,cd,cm,bH]
 grind [bM]
theorem sQ:aHF.Ok aA 194:=ay (bI QX (bI lE (bI T9 bU))) func194 call194 (ks:=eU) (fun x_=>br (@akR x_.1 x_.2.1))
def UJ(r:Int×Int)(a n:Int)(f:ai)(b er:ab):Tr (IK⊕IL):=.need (tv a n r.2) (.ite (!decide (1≤n∧0≤a∧a+n≤r.2)) (.ret (.inl ())) (.ret (.inr (i64.wrap (r.1+a),n))))
abbrev QY(r:Int×Int)(a n:Int)(f:Fl)(b er:ab):Prop:=dE b er∧iO r er
abbrev KK(r:Int×Int)(a n:Int)(f:Fl)(b er:ab):Bool:= !decide (1≤n∧0≤a∧a+n≤r.2)
abbrev UK(r:Int×Int)(a n:Int)(f:Fl)(b er:ab):IK:=()
abbrev KL(r:Int×Int)(a n:Int)(f:Fl)(b er:ab):IL:=(r.1+a,n)
def aHG:bT:=Dw [] ((bD (jf cRg) (bD (bO (bX .i64)) (bD (bO (bX .i64)) bG)))) ow (q3∘q3 QY) (q3∘q3 KK) (q3∘q3 UK) (q3∘q3 KL) aEP aEQ aER aES
theorem akS(r:Int×Int)(a n:Int)(f:Fl)(b er:ab)(h_:QY r a n f b er):(KK r a n f b er=true→(UJ r a n f b er).Is (.inl (UK r a n f b er)))∧(KK r a n f b er=false→(UJ r a n f b er).Is (.inr (KL r a n f b er))):=by
 delta KK UK KL;obtain⟨⟨h1,h2,h3⟩,⟨h4,h5,h6⟩⟩:=h_;simp only[UJ,bF,cv,cA,cD,cz,bW,b9,cC,cy,cx,cZ,cQ,cd,cm,bH];try simp only[bY,bF,cv,cA,cD,cz,bW,b9,cC,cy,cx,cZ,cQ,cd,cm,bH]
 grind [bM]
theorem akT:aHG.Ok aA 158:=Iy bJ ((bI GY bU)) func158 (by kernel_rfl) call158 (ks:= [.bS,.ck]) (fun _ _=>cn.nil _) (fun _ _=>by kernel_rfl) fun x_=>br (@akS x_.1 x_.2.1 x_.2.2.1)
end Go.Proofs.YtliehnnljilacaaGreat
namespace Go.Ev
open Go
def Hv{Z:Type}(p:Prop)(V:Z→LV)(D:Z→List (Nat×bE)):Tr Z→Out
 | .ret z=>.bN (some p) (V z) (D z)
 | .ite b t e=>.ite b (Hv p V D t) (Hv p V D e)
 | .need q t=>Hv (p∧q) V D t
 | .fail=>.fail
theorem oI{Z:Type}{V:Z→LV}{D:Z→List (Nat×bE)}{Q:LV→List (Nat×bE)→Prop}:∀ {t:Tr Z} {p:Prop},(Hv p V D t).holds Q→p∧∃z,t.Is z∧Q (V z) (D z)
 | .ret z,_,h=>⟨h.1,z,rfl,h.2⟩
 | .ite true t e,_,h=>by
  obtain⟨h1,z,h2,h3⟩:=oI (h.1 rfl);exact⟨h1,z,⟨fun _=>h2,fun e=>by cases e⟩,h3⟩
 | .ite false t e,_,h=>by
  obtain⟨h1,z,h2,h3⟩:=oI (h.2 rfl);exact⟨h1,z,⟨fun e=>(by cases e),fun _=>h2⟩,h3⟩
 | .need q t,p,h=>by
  obtain⟨h1,z,h2,h3⟩:=oI (t:=t) (p:=p∧q) h;exact⟨h1.1,z,⟨h1.2,h2⟩,h3⟩
 | .fail,_,h=>h.elim
theorem oJ{Z:Type}{V:Z→LV}{D:Z→List (Nat×bE)}{Q:LV→List (Nat×bE)→Prop}{z:Z}(hq:Q (V z) (D z)):∀ {t:Tr Z} {p:Prop},p→t.Is z→(Hv p V D t).holds Q
 | .ret _,_,hp,h=>by cases h;exact⟨hp,hq⟩
 | .ite _ _ _,_,hp,h=>⟨fun e=>oJ hq hp (h.1 e),fun e=>oJ hq hp (h.2 e)⟩
 | .need q t,p,hp,h=>oJ (t:=t) (p:=p∧q) hq ⟨hp,h.1⟩ h.2
 | .fail,_,_,h=>h.elim
def sR{X Y Z:Type}(tys:List (Option Ty))(A:cl (List LV) X)(H:cl Hp Y)(pre:X→Y→Prop)(S:X→Y→Tr Z)(V:Z→LV)(D:Z→List (Nat×bE)):bT:=bT.fw tys A H fun x y=>Hv (pre x y) V D (S x y)
theorem kO{P:Program}(jy:P.follows .mixedOrders=true){tab:List (FuncId×bT)}(mc:∀p∈tab,p.2.Ok P p.1){f:FuncId}{fn:Func}(hf:P.funcs[f]? =some fn)(hb:fn.body.isSome=true)(he:oT P f){tys:List (Option Ty)}{X Y Z:Type}{A:cl (List LV) X}{H:cl Hp Y}
  {LT:X→Y→gW} (hL:∀x y,cn P (H.wr y) (LT x y) (fV fn)) {ks:List Wk} {V:Z→LV} {D:Z→List (Nat×bE)} {T S:X→Y→Tr Z} {pre:X→Y→Prop}
  (hT:∀x y,cY P tab (LT x y) fn (A.wr x) (H.wr y) ks=(T x y).end V D (H.wr y)) (hI:∀x y,pre x y→∀z,(S x y).Is z→(T x y).Is z):
  (sR tys A H pre S V D).Ok P f:=
 SK jy mc hf hb he hL hT fun x y _ h=>by
  obtain⟨h1,z,h2,h3⟩:=oI h;exact⟨z,hI x y h1 z h2,h3⟩
theorem KM{P:Program}(jy:P.follows .mixedOrders=true){tab:List (FuncId×bT)}(mc:∀p∈tab,p.2.Ok P p.1){f:FuncId}{fn:Func}(hf:P.funcs[f]? =some fn)(hb:fn.body.isSome=true)(he:oT P f){tys:List (Option Ty)}{X Y Z W:Type}{A:cl (List LV) X}{H:cl Hp Y}
  {LT:X→Y→gW} (hL:∀x y,cn P (H.wr y) (LT x y) (fV fn)) {ks:List Wk} {V:Z→LV} {D:Z→List (Nat×bE)} {T:X→Y→Tr Z} {pre:X→Y→Prop} {sp:X→Y→W} {V':W→LV} {D':W→List (Nat×bE)}
  (hT:∀x y,cY P tab (LT x y) fn (A.wr x) (H.wr y) ks=(T x y).end V D (H.wr y)) (inj:W→Z) (hV:∀w,V (inj w)=V' w) (hD:∀w,D (inj w)=D' w) (hI:∀x y,pre x y→(T x y).Is (inj (sp x y))):
  (cj tys A H pre sp V' D').Ok P f:=
 SK jy mc hf hb he hL hT fun x y _ h=>⟨_,hI x y h.1,by rw[hV,hD];exact h.2⟩
theorem lR{P:Program}{f:FuncId}{tys:List (Option Ty)}{X Y Z W:Type}{A:cl (List LV) X}{H:cl Hp Y}{pre Gc:X→Y→Prop}{S:X→Y→Tr Z}{V:Z→LV}{D:Z→List (Nat×bE)}{sp:X→Y→W}{V':W→LV}{D':W→List (Nat×bE)} (h:(sR tys A H pre S V D).Ok P f) (inj:W→Z) (hV:∀w,V (inj w)=V' w) (hD:∀w,D (inj w)=D' w) (hS:∀x y,Gc x y→pre x y∧(S x y).Is (inj (sp x y))):(cj tys A H Gc sp V' D').Ok P f:=by
 refine⟨fun args hp Q hq=>h.calls args hp Q ?_⟩;simp only[cj,sR,bT.fw,bT.sym,bT.of]at hq ⊢;split at hq
 ·rename_i x y hx hy;obtain⟨h1,h2⟩:=hS x y hq.1;exact oJ (by rw[hV,hD];exact hq.2) h1 h2
 ·exact hq.elim
def Tr.akU{Z:Type}(E:Z→Exit×St):Tr Z→cT
 | .ret z=>.bN (E z).1 (E z).2
 | .ite b t e=>.ite b (t.akU E) (e.akU E)
 | .need p t=>.need p (t.akU E)
 | .fail=>.fail
theorem Tr.xF{Z:Type}{E:Z→Exit×St}{R:Exit→St→Prop}:∀ {t:Tr Z},(t.akU E).sat R→∃z,t.Is z∧R (E z).1 (E z).2
 | .ret z,h=>⟨z,rfl,h⟩
 | .ite true t e,h=>by
  obtain⟨z,h1,h2⟩:=Tr.xF (h.1 rfl);exact⟨z,⟨fun _=>h1,fun e=>by cases e⟩,h2⟩
 | .ite false t e,h=>by
  obtain⟨z,h1,h2⟩:=Tr.xF (h.2 rfl);exact⟨z,⟨fun e=>(by cases e),fun _=>h1⟩,h2⟩
 | .need p t,h=>by
  obtain⟨z,h1,h2⟩:=Tr.xF h.2;exact⟨z,⟨h.1,h1⟩,h2⟩
 | .fail,h=>h.elim
abbrev KN{X Z:Type}(pre:X→Prop)(S:X→Tr Z)(E:Z→Exit×St)(x:X):cT:=.need (pre x) ((S x).akU E)
theorem Eu{P:Program}(jy:P.follows .mixedOrders=true){tab:List (FuncId×bT)}(mc:∀p∈tab,p.2.Ok P p.1){LT:gW}{fn:Func}{id:Nat}{hp:Hp}{ws:Exit→List Wk}(hL:cn P hp LT (cG fn id)) {X Z:Type} {C:cl St X} {E:Z→Exit×St} {L:X→Tr (X⊕Z)} {pre:X→Prop} {S:X→Tr Z} (hT:∀x,ma P tab LT fn id hp ws (C.wr x)=(L x).res C.wr E) (hE:∀z,(E z).1≠ .normal) (hI:∀x,pre x→∀z,(S x).Is z→eG L x z) (x:X):Ex P hp (.loop (cG fn id)) (C.wr x) (KN pre S E x):=by
 intro W β₀ R Q hs hq β a w hr;obtain⟨hx,hs⟩:=hs;obtain⟨z,hz,hs2⟩:=Tr.xF hs;have key:=ee jy mc hL (P:=P) hT hE (F:=fun y=>.need (y=x) (.bN (E z).1 (E z).2)) (pre:=fun y=>y=x) (sp:=fun _=>z) (fun y R h=>h) (fun y h=>by subst h;exact hI y hx z hz) x;exact key W β₀ R Q ⟨rfl,hs2⟩ hq β a w hr
end Go.Ev
namespace Go.Proofs.YtliehnnljilacaaGreat
open Go Go.Ev Go.Proofs.Tryz
set_option maxRecDepth 1000000
abbrev Cf:Type:=aj
abbrev cLd(f g:Nat)(s:cl SV Unit):cl (List SV) Cf:=(bR (cr f 0) (bD (gx true false (.arr u8 32)) (bD (bX .i64) (bR (cr g 0) (bR s bG))))).jr (fun x=>(x.1,x.2.1)) (fun y=>(y.1,y.2,())) (fun _=>rfl)
abbrev jLd(f g:Nat):cl bE Cf:=fe 112 (cLd f g uv)
abbrev aZs:cl bE Cf:=jLd 0 4
abbrev jc:cl bE Sg:=jLg 5
abbrev aQM:cl bE Jn:=fe 206 (zy 0 (pk 6 0))
def mX(f:ai):(Int×ab)×Bool×Bool×Int:=f
abbrev Bz:Type:=(List ab)×Int
abbrev auV(x:Bz):LV:=LV.dB [VV.sc (SV.ptr 3 0),VV.sc (SV.int i64 (SI.lit 0))]
abbrev auW(x:Bz):List ao:= [(3,bE.cK [SV.ptr 0 0,SV.rd true false (ae.arr 32) x.1,ar x.2,SV.gm (Value.pointer none),SV.gm (Value.pointer none)] 112)]
abbrev xG:Type:=(aj)×ak×an×(List ah)
abbrev Y8(x:xG):LV:=LV.dB [VV.sc (SV.ptr 3 0),VV.sc (SV.int i64 (SI.lit 0))]
abbrev Y9(x:xG):List ao:= [(3,aZs.wr x.1),(4,jc.wr x.2.1),(5,aQM.wr x.2.2.1),(6,bE.own 0 (ag.pair (ag.pair ae.sl)) x.2.2.2)]
abbrev BA:Type:=IK⊕sk⊕Bz⊕xG
abbrev auX:BA→LV:=Sum.elim aPm (Sum.elim aPo (Sum.elim auV Y8))
abbrev auY:BA→List ao:=Sum.elim aEQ (Sum.elim aEE (Sum.elim auW Y9))
def KO(c:aj)(f:ai)(b er:ab):Tr (IK⊕sk⊕Bz⊕xG):=.need (su c (mX f) b er) (.ite (!decide ((1≤c.1.length∧c.1.length≤8∧3≤c.2∧c.2≤100)∧(2:Int)+2*c.2≤(↑er.length:Int))) (.ret (.inl ())) (.ite (!decide ((1:Int)≤2∧(0:Int)≤0∧2≤(↑er.length:Int))) (.need (lN 0 2 (mX f) b er) (.ret (.inl ()))) (.need (lN 0 2 (mX f) b er) (.ite (decide ¬(2:Int)=2) (.need (iM (0,2) (mX f) b er) (.ret (.inl ()))) (.ite f.2.1 (.need (iM (0,2) (mX f) b er) (.ite ((5:Int)!=0) (.ret (.inr (.inl (5)))) (.need (c.1.length≤ 1000000) (.ret (.inr (.inr (.inl (c.1,c.2)))))))) (.need (iM (0,2) (mX f) b er) (.need (c.1.length≤1000000) (.ret (.inr (.inr (.inr (c,eA jd (eO b (0,2)).2,(eO b (0,2)).1,(eO b (0,2)).2))))))))))))
abbrev Ew(c:Cf)(f:Fl)(b er:ab):Prop:=dE b er∧bL b
abbrev KP(c:Cf)(f:Fl)(b er:ab):Tr BA:=.ite (!decide (kD c er)) (.ret (.inl ())) (.ite f.2.1 (.ret (.inr (.inl 5))) (.ret (.inr (.inr (.inr (c,eA jd (eO b (0,2)).2,eO b (0,2)))))))
def aHH:bT:=sR [none,some (.arr u8 32)] agt ow (q3∘q1 Ew) (q3∘q1 KP) auX auY
theorem akV(c:Cf)(f:Fl)(b er:ab)(h_:Ew c f b er)(z_:BA)(fS:(KP c f b er).Is z_):(KO c f b er).Is z_:=by
 delta KP at fS;obtain⟨h1,h2⟩:=h_;have hf:su c (mX f) b er:=h1;have ho:lN 0 2 (mX f) b er:=h1;have fS:=cD.1 fS;have hk0:c.1.length≤8→c.1.length≤1000000:=fun h=>Nat.le_trans h (by decide);by_cases c1:kD c er
 ·have hg:iO (0,2) er:=⟨by decide,by decide,by show(0:Int)+2≤er.length;omega⟩;have hl:iM (0,2) (mX f) b er:=⟨h1,h2,hg⟩;have hk:=hk0 c1.1.2.1;have c2:(2:Int)≤er.length:=by omega
  have hz:=fS.2 c1;have e1:decide (1≤(2:Int)∧0≤(0:Int)∧(2:Int)≤(er.length:Int))=true:=decide_eq_true ⟨by decide,by decide,c2⟩;have e2:decide (¬ (2:Int)=2)=false:=rfl;have e3:((5:Int)!=0)=true:=rfl;have e4:decide ((1≤c.1.length∧c.1.length≤8∧3≤c.2∧c.2≤100)∧(2:Int)+2*c.2≤(er.length:Int))=true:=decide_eq_true c1;cases c3:f.2.1 with
  |true=>obtain rfl:=hz.1 c3;simp only[KO,c3,e1,e2,e3,e4,Bool.not_true,not_true_eq_false,decide_false,dH,dV,bF,bH];exact⟨hf,ho,hl,trivial⟩
  |false=>obtain rfl:=hz.2 c3;simp only[KO,c3,e1,e2,e3,e4,Bool.not_true,not_true_eq_false,decide_false,dH,dV,bF,bH];exact⟨hf,ho,hl,hk,trivial⟩
 ·obtain rfl:=fS.1 c1;have c1':¬ ((1≤c.1.length∧c.1.length≤8∧3≤c.2∧c.2≤100)∧(2:Int)+2*c.2≤(er.length:Int)):=c1;simp only[KO,decide_eq_false c1',Bool.not_false,dH,bF,bH];exact⟨hf,trivial⟩
theorem akW:aHH.Ok aA 39:=kO bJ ((bI Pg (bI IM (bI Hr (bI XB bU))))) func39 (by kernel_rfl) call39 (ks:= [.bS,.ck]) (fun _ _=>cn.nil _) (fun _ _=>by kernel_rfl) fun x_ y_ h=>akV x_.1 y_.1 y_.2.1 y_.2.2.1 h
abbrev nh(c:Cf)(f:Fl)(b er:ab):Prop:=dE b er∧bL b∧kD c er∧f.2.1=false
abbrev Za(c:Cf)(f:Fl)(b er:ab):xG:=(c,eA jd (eO b (0,2)).2,eO b (0,2))
def auZ:bT:=cj [none,some (.arr u8 32)] agt ow (q3∘q1 nh) (q3∘q1 Za) Y8 Y9
theorem adO(c:Cf)(f:Fl)(b er:ab)(h_:nh c f b er):Ew c f b er∧(KP c f b er).Is ((fun z_=>(Sum.inr (Sum.inr (Sum.inr z_)))) (Za c f b er)):=by
 obtain⟨h1,h2,h3,h4⟩:=h_;exact⟨⟨h1,h2⟩,cD.2 ⟨fun h=>absurd h3 h,fun _=>bY.2 ⟨fun h=>(by rw[h4]at h;cases h),fun _=>rfl⟩⟩⟩
theorem tL:auZ.Ok aA 39:=lR akW (fun z_=>(Sum.inr (Sum.inr (Sum.inr z_)))) (fun _=>rfl) (fun _=>rfl) fun x_=>br (@adO x_.1)
abbrev cDv(l:cl SV Unit):cl (List SV) Cf:=(bD (gx true false (.arr u8 32)) (bD (bX .i64) (bR (cr 1 0) (bR l bG)))).jr (fun x=>(x.1,x.2.1)) (fun y=>(y.1,y.2,())) (fun _=>rfl)
abbrev aZt:cl bE Cf:=fe 65 (cDv uv)
abbrev ud:cl bE Cf:=fe 65 (cDv (cr 4 0))
abbrev ue:cl bE Cf:=jLd 1 5
abbrev iY:cl bE Sg:=jLg 6
abbrev Ey:cl bE Jn:=fe 206 (zy 1 (pk 7 0))
abbrev aZu:cl Hp (Cf×Fl×ab×ab×Unit):=bD (cb aZt) (bD (cb dA) (bD (dd 0 u8) (bD (dd 0 (.int .i64)) bG)))
abbrev nO:cl (List LV) Unit:=bR (bO (cr 0 0)) bG
abbrev KQ:Type:=Int×aj×aj×ak×an×(List ah)
abbrev aHI(x:KQ):LV:=aw (ar x.1)
abbrev aHJ(x:KQ):List ao:= [(0,ud.wr x.2.1),(4,ue.wr x.2.2.1),(5,iY.wr x.2.2.2.1),(6,Ey.wr x.2.2.2.2.1),(7,bE.own 0 (ag.pair (ag.pair ae.sl)) x.2.2.2.2.2)]
def aHK(c:aj)(f:ai)(b er:ab):Tr KQ:=.need (nh c f b er) (.ret (0,c,c,eA jd (eO b (0,2)).2,(eO b (0,2)).1,(eO b (0,2)).2))
abbrev xH(c:Cf)(f:Fl)(b er:ab):Prop:=dE b er∧bL b∧kD c er∧f.2.1=false
abbrev UL(c:Cf)(f:Fl)(b er:ab):KQ:=(0,c,c,eA jd (eO b (0,2)).2,eO b (0,2))
def aHL:bT:=cj [] nO aZu (q4∘q0 xH) (q4∘q0 UL) aHI aHJ
theorem akX:acb xH aHK UL:=by
 intro c f b er h_;delta UL;exact⟨h_,rfl⟩
theorem akY:aHL.Ok aA 20:=ay (bI tL bU) func20 call20 (ks:=eU) (fun _=>bw @akX)
def vl(c:aj):ab:=List.replicate (1024*Dz (i64.wrap (2+i64.wrap (2*c.2)))).toNat (255:Int)
abbrev Ez:Type:=Int×aj×ai×ab×ab×aj×ak×an×(List ah)
abbrev KS(x:Ez):LV:=LV.dB [VV.sc (SV.ptr 0 0),VV.sc (ar x.1)]
abbrev EA(x:Ez):List ao:= [(0,ud.wr x.2.1),(1,dA.wr x.2.2.1),(2,bE.own 0 ae x.2.2.2.1),(3,bE.own 0 ag x.2.2.2.2.1),(4,ue.wr x.2.2.2.2.2.1),(5,iY.wr x.2.2.2.2.2.2.1),(6,Ey.wr x.2.2.2.2.2.2.2.1),(7,bE.own 0 (ag.pair (ag.pair ae.sl)) x.2.2.2.2.2.2.2.2)]
abbrev KT:Type:=IK⊕Ez
abbrev aHO:KT→LV:=Sum.elim aPm KS
abbrev aHP:KT→List ao:=Sum.elim aEQ EA
def akZ(c:aj):Tr (IK⊕Ez):=.need (nd c) (.ite (!decide (1≤c.1.length∧c.1.length≤8∧3≤c.2∧c.2≤100)) (.ret (.inl ())) (.need (c.1.length≤1000000) (.need (IC (i64.wrap (2+i64.wrap (2*c.2)))) (.need (xH c ((0,[]),false,false,0) (vl c) (List.replicate (Dz (i64.wrap (2+i64.wrap (2*c.2)))).toNat (0:Int))) (.ret (.inr (0,c,((0,[]),false,false,0),vl c,List.replicate (Dz (i64.wrap (2+i64.wrap (2*c.2)))).toNat (0:Int),c,eA jd (eO (vl c) (0,2)).2,(eO (vl c) (0,2)).1,(eO (vl c) (0,2)).2)))))))
theorem Zb{n:Nat}{p m:Int}(h:0≤p∧0≤m∧p+m≤n):cO (List.replicate n (255:Int)) p m=List.replicate m.toNat 255:=by
 unfold cO;rw[List.drop_replicate,List.take_replicate,Nat.min_eq_left (by omega)]
theorem ak0:zx (List.replicate 1024 255)=0:=by decide+kernel
theorem adP{n:Nat}(h:2048≤n):eO (List.replicate n 255) (0,2)=(((0,2),0,-1,0,false,0),[]):=by
 have e0:ff (List.replicate n (255:Int)) (0,2) 0=List.replicate 1024 255:=Zb (by simp only;omega);have e1:ff (List.replicate n (255:Int)) (0,2) 1=List.replicate 1024 255:=Zb (by simp only;omega);unfold eO;rw[e0,e1];unfold pZ;rw[ak0];rfl
def jx(c:Cf):Nat:=(2+2*c.2).toNat
abbrev KU(c:Cf):Prop:=True
abbrev Zc(c:Cf):Tr KT:=.ite (!decide (gy c)) (.ret (.inl ())) (.ret (.inr (0,c,((0,[]),false,false,0),List.replicate (1024*jx c) 255,List.replicate (jx c) 0,c,jd,((0,2),0,-1,0,false,0),[])))
def aQO:bT:=sR [some (.arr u8 32)] cfA bG (q0∘q1 KU) (q0∘q1 Zc) aHO aHP
theorem au0(c:Cf)(h_:KU c)(z_:KT)(fS:(Zc c).Is z_):(akZ c).Is z_:=by
 delta Zc at fS;have fS:=cD.1 fS;have c4:nd c:=trivial;by_cases c1:gy c
 ·obtain rfl:=fS.2 c1;have hw:i64.wrap (2+i64.wrap (2*c.2))=2+2*c.2:=by rw[bM (n:=2*c.2) (by omega) (by omega),bM (by omega) (by omega)]
  have hs:Dz (2+2*c.2)=2+2*c.2:=by unfold Dz;split<;>(try split)<;>omega
  have e1:(2+2*c.2).toNat=jx c:=rfl;have hc:2+2*c.2=(jx c:Int)∧8≤jx c∧jx c≤202:=by unfold jx;omega
  have e2:(1024*(2+2*c.2)).toNat=1024*jx c:=by omega
  have e0:vl c=List.replicate (1024*jx c) 255:=by unfold vl;rw[hw,hs,e2]
  have hk:c.1.length≤1000000:=Nat.le_trans c1.2.1 (by decide);have hf:dE (List.replicate (1024*jx c) (255:Int)) (List.replicate (jx c) 0):=⟨by simp,by simp;omega,by simp;omega⟩;have hp:xH c ((0,[]),false,false,0) (List.replicate (1024*jx c) 255) (List.replicate (jx c) 0):=⟨hf,bL.rep _ ⟨by decide,by decide⟩,⟨c1,by rw[List.length_replicate];omega⟩,rfl⟩;have hn:IC (jx c:Int):=trivial;simp only[akZ,hw,hs,e0,e1,adP (show 2048≤1024*jx c by omega),bF,cD,bH];exact⟨c4,fun h=>absurd c1 h,fun _=>⟨hk,trivial,hp,rfl⟩⟩
 ·obtain rfl:=fS.1 c1;simp only[akZ,bF,cD,bH];exact⟨c4,fun _=>trivial,fun h=>absurd h c1⟩
theorem au1:aQO.Ok aA 7:=kO bJ ((bI zh (bI XB (bI aEC (bI akY bU))))) func7 (by kernel_rfl) call7 (ks:= [.bS,.ck]) (fun _ _=>cn.nil _) (fun _ _=>by kernel_rfl) fun x_ y_ h=>au0 x_.1 h
abbrev xI(c:Cf):Prop:=gy c
abbrev vm(c:Cf):Ez:=(0,c,((0,[]),false,false,0),List.replicate (1024*jx c) 255,List.replicate (jx c) 0,c,jd,((0,2),0,-1,0,false,0),[])
def ak1:bT:=cj [some (.arr u8 32)] cfA bG (q0∘q1 xI) (q0∘q1 vm) KS EA
theorem ak2(c:Cf)(h_:xI c):KU c∧(Zc c).Is ((fun z_=>(Sum.inr z_)) (vm c)):=by
 exact⟨trivial,cD.2 ⟨fun h=>absurd h_ h,fun _=>rfl⟩⟩
theorem QZ:ak1.Ok aA 7:=lR au1 (fun z_=>(Sum.inr z_)) (fun _=>rfl) (fun _=>rfl) fun x_ _=>@ak2 x_.1
abbrev o7:cl Hp (Cf×Fl×ab×ab×Cf×Sg×Jn×List cH.D×Unit):=bD (cb ud) (bD (cb dA) (bD (dd 0 u8) (bD (dd 0 (.int .i64)) (bD (cb ue) (bD (cb iY) (bD (cb Ey) (bD (dd 0 cH) bG)))))))
abbrev gz:Type:=Int×Int×Int×ab
abbrev cOp:cl (List SV) gz:=(bD (bX .i64) (bD (bX .i64) (bD (bX .i64) (bD (gx false false u8) bG)))).jr (fun x=>(x.1,x.2.1,x.2.2.1,x.2.2.2.1)) (fun y=>(y.1,y.2.1,y.2.2.1,y.2.2.2,())) (fun _=>rfl)
abbrev mn:cl (List LV) (gz×Unit):=bR (bO (cr 0 0)) (bD (jf cOp) bG)
abbrev aQP:cl (List LV) Unit:=bR (bO uv) bG
def zD(f:ai):(Int×ab)×Bool×Bool×Int:=f
abbrev aQQ(x:gz):LV:=LV.one (VV.agg [ar x.1,ar x.2.1,ar x.2.2.1,SV.arr ae 64 x.2.2.2])
abbrev aQR(x:gz):List ao:= []
def aBB(o:Int×Int×Int×ab)(c:aj)(f:ai)(b er:ab) (k:aj) (g:ak) (j:an) (l:List ah):Tr gz:=.ite (o.1==9) .fail (.ite (o.1==10) .fail (.need (jN (zD f) b er) (.ite f.2.1 .fail (.ite (o.1==7) (.need (tG c (zD f) b er) (.ret ((kL (zD f) b er c).2.2,0,(kL (zD f) b er c).1,(kL (zD f) b er c).2.1))) (.ite (o.1==8) .fail .fail)))))
abbrev KV(o:gz)(c:Cf)(f:Fl)(b er:ab)(k:Cf)(g:Sg)(j:Jn)(l:List cH.D):Prop:=o.1=7∧f.2.1=false∧dE b er∧bL b∧zt c.1
abbrev ak3(o:gz)(c:Cf)(f:Fl)(b er:ab)(k:Cf)(g:Sg)(j:Jn)(l:List cH.D):gz:=((kL f b er c).2.2,0,(kL f b er c).1,(kL f b er c).2.1)
def aQS:bT:=cj [none,some u8] mn o7 (q8∘q1 KV) (q8∘q1 ak3) aQQ aQR
theorem au2:aex KV aBB ak3:=by
 intro o c f b er k g j l h_;delta ak3;obtain⟨h1,h2,h3⟩:=h_;have e:zD f=f:=rfl;have h9:(o.1==9)=false:=by rw[h1];rfl
 have h10:(o.1==10)=false:=by rw[h1];rfl
 have h7:(o.1==7)=true:=by rw[h1];rfl
 simp only[aBB,e,h9,h10,h7,h2,dV,dH,bF,bH];exact⟨trivial,h3,trivial⟩
theorem au3:aQS.Ok aA 10:=ay (bI lM (bI Bn bU)) func10 call10 (ks:=eU) (fun x_=>bC (@au2 x_.1))
def aZx(c:aj)(f:ai)(b er:ab)(k:aj) (g:ak) (j:an) (l:List ah):Tr IE:=.need (jN f b er) (.ret (!f.2.1))
abbrev UM(c:Cf)(f:Fl)(b er:ab)(k:Cf)(g:Sg)(j:Jn)(l:List cH.D):Prop:=True
abbrev aHQ(c:Cf)(f:Fl)(b er:ab)(k:Cf)(g:Sg)(j:Jn)(l:List cH.D):IE:= !f.2.1
def aZy:bT:=cj [] nO o7 (q8∘q0 UM) (q8∘q0 aHQ) aEH aEI
theorem aHR:aeo UM aZx aHQ:=by
 intro c f b er k g j l h_;delta aHQ;exact⟨trivial,rfl⟩
theorem aHS:aZy.Ok aA 14:=ay (bI lM bU) func14 call14 (ks:=eU) (fun _=>bC @aHR)
end Go.Proofs.YtliehnnljilacaaGreat
namespace Go.Proofs.YtliehnnljilacaaGreat
open Go Go.Ev Go.ChangeShapes Go.WideShapes Go.ChangeAt Go.RowKit Go.Proofs.Tryz
set_option maxRecDepth 100000
theorem adQ{H:Type}{enc:TypeId×Value→H}{W:World}{fuel:Nat}{cs:List Value}{y:DataW H×List MemPlace} (h:DataW.trod enc aA W 0 (fun _=>true) true fuel 41 cs=some y):∃ (l:ab) (v:Value),cs= [v]∧bL l∧(SV.rd false false u8 l).den (wx W) (kd []) v:=by
 rcases open_ints underlying41 underlying5 O3 h with⟨e,_⟩|⟨a,len,cap,zs,e,_,hlc,_,hzl,_,Q0,hwf⟩
 ·exact⟨[],_,e,fun z hz=>(by simp at hz),rfl,(fun e=>by cases e),.inr (.inr ⟨rfl,rfl⟩)⟩
 ·simp only[if_true]at hzl;refine⟨zs.take len,_,e,fun z hz=>wf_u8 (hwf z (List.mem_of_mem_take hz)),rfl,(fun e=>by cases e),.inr (.inl ⟨rfl,rfl,by decide,?_⟩)⟩;refine⟨some a,len,cap,rfl,by simp;omega,hlc,(fun e=>by cases e),fun h0=>?_⟩;have GH:=Q0 0 (by omega);have hsp:a.spot=none:=by
   have:a.add 0=a:=(by cases a;simp[Addr.add]);rw[this]at GH;exact World.cell?_spot GH
  refine⟨a,(zs.take len).map (.int .u8),rfl,hsp,?_,fun i u hu=>?_⟩
  ·generalize zs.take len=l;induction l with
   |nil=>exact .nil
   |cons x l ih=>exact cI.cons (vs:= [.int .u8 x]) rfl ih
  ·rw[List.getElem?_map]at hu;obtain⟨z,hz,rfl⟩:=map_some hu;have hil:i<len∧i<zs.length:=by
    have:=(List.getElem?_eq_some_iff.1 hz).1;simp at this;omega
   rw[Q0 i hil.2];rw[List.getElem?_take,if_pos hil.1]at hz;rw[List.getD_eq_getElem?_getD,hz];rfl
end Go.Proofs.YtliehnnljilacaaGreat
