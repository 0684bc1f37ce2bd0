/- What the laws lean on, part 8: a reader of code, plain facts, and what each function gives; no conditions. -/
import Derived.Test.YtnbkagglkajbkaaGreatA7
set_option linter.unusedVariables false
set_option linter.unusedSimpArgs false
noncomputable section
namespace Go.Proofs.YtnbkagglkajbkaaGreat
open Go Go.Ev Go.Proofs.Tryz
open Go.IntKind (i64 signed u16 u64 wrap)
set_option maxRecDepth 1000000
abbrev kF:Ty:=.pair (.int .i64) (.pair (.int .i64) (.int .u8))
abbrev cY:Type:=Int×Int×Int
abbrev ZX:aM LV cY:=(zh (ae (aA .i64) (ae (aA .i64) (ae (aA .u8) ag)))).kE (fun x=>(x.1,x.2.1,x.2.2.1)) (fun y=>(y.1,y.2.1,y.2.2,())) (fun _=>rfl)
abbrev zj:aM (List LV) (List cY×Unit):=ae (ah (fh false false kF)) ag
def b9(t:cY):Int:=if t.1=0 then 1 else t.1
def k8(t:cY)(made:Int):Bool:=if t.1=0 then decide (t.2.1=0)else decide (t.2.2=0∧2≤t.1∧t.1≤257∧1≤t.2.1∧t.2.1≤4096∧t.2.1≤made)
def bq:Int→List cY→Bool
 |_,[]=>true
 |made,t::l=>k8 t made&&decide (made+b9 t≤8192)&&bq (made+b9 t) l
abbrev HG:Type:=Int
abbrev afY(x:HG):LV:=LV.one (VV.sc (SV.int i64 (SI.sym x)))
abbrev afZ(x:HG):List (Nat×Ev.Item):= []
def Q5(t:Int×Int×Int):Tr (HG):=(.ite (t.fst==0) (.ret (1)) (.ret (t.fst)))
theorem Q6(t:cY):aG Tryz.prog [] [] f130 (((ae ZX ag)).wr (t,())) ((ag).wr (())) [.fr [.sym],.syms,.auto,.aE]=(Q5 t).end afY afZ ((ag).wr (())):=by kernel_rfl
theorem ZY(t:cY):aH Tryz.prog ((ag).wr (())) [] (aF f130):=(aH.nil _)
abbrev nD(t:cY):Prop:=True
abbrev Q7(t:cY):HG:=b9 t
def HI:an:=cv [] ((ae ZX ag)) (ag) (fun x_ y_=>nD x_.1) (fun x_ y_=>Q7 x_.1) afY afZ
theorem af0(t:cY)(h_:nD t):(Q5 t).Is (Q7 t):=by
 delta Q7;simp only[Q5,b9,eA,au];exact⟨fun h=>by rw[if_pos h],fun h=>by rw[if_neg h]⟩
theorem BQ:HI.Ok Tryz.prog 130:=
 br mixed ax func130 (by kernel_rfl) call130 (fun x_ y_=>ZY x_.1) (fun x_ y_=>Q6 x_.1) (fun x_ y_ h=>af0 x_.1 h)
abbrev Wn:Type:=Bool
abbrev asO(x:Wn):LV:=LV.one (VV.sc (SV.bool (SB.sym x)))
abbrev asP(x:Wn):List (Nat×Ev.Item):= []
def af1(t:Int×Int×Int)(made:Int):Tr (Wn):=(.ite (t.fst==0) (.ret (t.snd.fst==0)) (.ite ((t.snd.snd==0)==true)
 (.ite (decide (2≤t.fst)==true) (.ite (decide (t.fst≤257)==true) (.ite (decide (1≤t.snd.fst)==true) (.ret (decide (t.snd.fst≤if made<
 4096 then made else 4096))) (.ret (false))) (.ret (false))) (.ret (false))) (.ret (false))))
theorem ZZ(t:cY)(made:Int):aG Tryz.prog [] [] f180 (((ae ZX (ae (ah (aA .i64)) ag))).wr (t,made,())) ((ag).wr (())) [.fr [.sym],.syms,.auto,.aE]=(af1 t made).end asO asP ((ag).wr (())):=by kernel_rfl
theorem af2(t:cY)(made:Int):aH Tryz.prog ((ag).wr (())) [] (aF f180):=(aH.nil _)
abbrev zH(t:cY)(made:Int):Prop:=True
abbrev af3(t:cY)(made:Int):Wn:=k8 t made
def Wo:an:=cv [] ((ae ZX (ae (ah (aA .i64)) ag))) (ag) (fun x_ y_=>zH x_.1 x_.2.1) (fun x_ y_=>af3 x_.1 x_.2.1) asO asP
theorem aoz(t:cY)(made:Int)(h_:zH t made):(af1 t made).Is (af3 t made):=by
 delta af3;have e:(t.2.1≤if made<4096 then made else 4096)↔(t.2.1≤4096∧t.2.1≤made):=by split<;>omega
 simp only[af1,k8,eA,au,iS,bE,beq_iff_eq,beq_eq_false_iff_ne,decide_eq_true_eq,decide_eq_false_iff_not,e];refine⟨fun h=>by rw[if_pos h];exact(Bool.eq_iff_iff.2 (by simp)),fun h=>?_⟩;rw[if_neg h];refine⟨fun h1=>⟨fun h2=>⟨fun h3=>⟨fun h4=>decide_eq_decide.2 ⟨fun h5=>⟨h1,h2,h3,h4,h5⟩,fun h=>h.2.2.2.2⟩,fun h4=>?_⟩,fun h3=>?_⟩,fun h2=>?_⟩,fun h1=>?_⟩
 ·exact(decide_eq_false fun h=>h4 h.2.2.2.1).symm
 ·exact(decide_eq_false fun h=>h3 h.2.2.1).symm
 ·exact(decide_eq_false fun h=>h2 h.2.1).symm
 ·exact(decide_eq_false fun h=>h1 h.1).symm
theorem HJ:Wo.Ok Tryz.prog 180:=
 br mixed ax func180 (by kernel_rfl) call180 (fun x_ y_=>af2 x_.1 x_.2.1) (fun x_ y_=>ZZ x_.1 x_.2.1) (fun x_ y_ h=>aoz x_.1 x_.2.1 h)
theorem kg{t:cY}{made:Int}(h:k8 t made=true):1≤b9 t∧b9 t≤257:=by
 unfold k8 at h;unfold b9
 split at h
 ·rename_i e;rw[if_pos e];omega
 ·rename_i e;rw[if_neg e];have:=of_decide_eq_true h;omega
abbrev ql:Type:=Int×(List (Int×Int×Int))×Int×Int
abbrev qm:aM St ql:=(aS (jk 3 (ae (ah (aA i64)) (jk 2 (ae (ah (fh false false ((Ty.int
 i64).pair ((Ty.int i64).pair (Ty.int IntKind.u8))))) (ae (ah (aA i64)) (ae (ah (aA i64)) (jk 19
 ag))))))) ag).kE (fun y=>(y.1.1,y.1.2.1,y.1.2.2.1,y.1.2.2.2.1)) (fun x=>((x.1,(x.2.1,(x.2.2.1,(x.2.2.2,())))),())) (fun _=>rfl)
abbrev BR:List Wk:= [.fr (cu 28 [(3,.al),(6,.al),(7,.al),(8,.al)]),.syms,.auto,.aE]
abbrev LJ:Exit→List Wk:=xz BR 0 [.fr (cu 28 []),.syms,.auto,.aE] [.fr (cu 28 [(2,.al)]),.syms,.auto,.aE]
abbrev xH:Type:=Bool
abbrev Fk(x:xH):Exit×St:=(Exit.ret,⟨(iE 2 (LV.one (VV.sc (SV.bool (SB.sym x)))::(iE 25 []))),[]⟩)
abbrev xI:Type:=Unit
abbrev Fl(x:xI):Exit×St:=(Exit.exit 0,⟨(iE 28 []),[]⟩)
def nE(made:Int)(l':List (Int×Int×Int))(n:Int)(i:Int):Tr (ql⊕(xH⊕xI)):=(.ite (decide (i
 <n)) (.need (0≤i∧i<(↑l'.length:Int)) (.need (zH (l'.getD i.toNat (0,0,0)) made) (.ite ((!k8 (l'.getD i.toNat (0,0,0)) made)==
 false) (.need (nD (l'.getD i.toNat (0,0,0))) (.ite (decide (i64.wrap (8192-made)<b9 (l'.getD i.toNat (0,0,0)))) (.ret (.inr
 (.inl (false)))) (.need (nD (l'.getD i.toNat (0,0,0))) (.ret (.inl (i64.wrap (made+b9 (l'.getD i.toNat (0,0,0))),l',n,
 i64.wrap (i+1))))))) (.ret (.inr (.inl (false))))))) (.ret (.inr (.inr ()))))
theorem HK(l:List cY)(made:Int)(l':List (Int×Int×Int))(n:Int)(i:Int):cO Tryz.prog [(130,HI),(180,Wo)] [] f124 0 ((ag).wr (())) LJ (qm.wr (made,l',n,i))=(nE made l' n i).res qm.wr (Sum.elim Fk Fl):=by kernel_rfl
abbrev s8(made:Int)(l':List (Int×Int×Int))(n:Int)(i:Int):Prop:=n=l'.length∧0≤i∧i≤n∧0≤made∧made≤8192∧n<1099511627776
abbrev BS(made:Int)(l':List (Int×Int×Int))(n:Int)(i:Int):Bool:= !bq made (l'.drop i.toNat)
abbrev BT(made:Int)(l':List (Int×Int×Int))(n:Int)(i:Int):xH:=false
abbrev BU(made:Int)(l':List (Int×Int×Int))(n:Int)(i:Int):xI:=()
abbrev BV:ql→aK:=sZ (fun x_=>s8 x_.1 x_.2.1 x_.2.2.1 x_.2.2.2) (fun x_=>BS x_.1 x_.2.1 x_.2.2.1 x_.2.2.2) (fun x_=>BT x_.1 x_.2.1 x_.2.2.1 x_.2.2.2) (fun x_=>BU x_.1 x_.2.1 x_.2.2.1 x_.2.2.2) Fk Fl
theorem Q8(made:Int)(l':List (Int×Int×Int))(n:Int)(i:Int)(h_:s8 made l' n i):cX (fun x_:ql=>nE x_.1 x_.2.1 x_.2.2.1 x_.2.2.2) (made,l',n,i) (bif BS made l' n i then .inl (BT made l' n i)else .inr (BU made l' n i)):=by
 delta BS BT BU;obtain⟨rfl,h1,h2,h3,h4,h5⟩:=h_;obtain⟨k,rfl⟩:∃k:Nat,i=k:=⟨i.toNat,by omega⟩;rw[Int.toNat_natCast];obtain⟨m,hm⟩:∃m,l'.length=k+m:=⟨l'.length-k,by omega⟩;clear h2
 induction m generalizing k made with
 |zero=>
  refine .stop ?_;rw[List.drop_of_length_le (by omega)];simp only[nE,aP,aq,au,bq];exact⟨fun h=>by omega,fun _=>rfl⟩
 |succ m ih=>
  have hk:k<l'.length:=by omega
  have e1:i64.wrap (8192-made)=8192-made:=ao (by omega) (by omega);rw[jZ (0,0,0) hk,bq];generalize hx:l'.getD k (0,0,0)=x
  cases Q9:k8 x made with
  |false=>
   refine .stop ?_;simp only[nE,aP,aq,au,Int.toNat_natCast,hx,Q9];refine⟨fun _=>⟨⟨by omega,by omega⟩,trivial,?_⟩,fun h=>by omega⟩;simp[bE,au]
  |true=>
   have Ef:=kg Q9
   by_cases hle:made+b9 x≤8192
   ·have lA:=ih (made+b9 x) (by omega) (by omega) (k+1) (by omega) (by omega);rw[decide_eq_true hle,Bool.true_and,Bool.true_and];refine .go ?_ lA;simp only[nE,aP,aq,au,Int.toNat_natCast,hx,Q9,Bool.not_true,beq_self_eq_true,dP,e1];refine⟨fun _=>⟨⟨by omega,by omega⟩,trivial,trivial,fun h=>by omega,fun _=>⟨trivial,?_⟩⟩,fun h=>by omega⟩;rw[ao (n:=made+b9 x) (by omega) (by omega),ao (n:=(k:Int)+1) (by omega) (by omega)];rfl
   ·rw[decide_eq_false hle];refine .stop ?_;simp only[nE,aP,aq,au,Int.toNat_natCast,hx,Q9,Bool.not_true,beq_self_eq_true,dP,e1];refine⟨fun _=>⟨⟨by omega,by omega⟩,trivial,trivial,fun h=>rfl,fun h=>by omega⟩,fun h=>by omega⟩
theorem LK(l:List cY):∀x:ql,Ex Tryz.prog ((ag).wr (())) (.loop (aO f124 0)) (qm.wr x) (BV x):=
 cy mixed ((aj BQ (aj HJ ax))) (ws:=LJ) (aH.nil _) (fun x_=>HK l x_.1 x_.2.1 x_.2.2.1 x_.2.2.2) (fun z=>by cases z<;>(intro e;cases e)) xy (fun x_ h=>Q8 x_.1 x_.2.1 x_.2.2.1 x_.2.2.2 h)
abbrev zI:Type:=Bool
abbrev Wp(x:zI):LV:=LV.one (VV.sc (SV.bool (SB.sym x)))
abbrev Wq(x:zI):List (Nat×Ev.Item):= []
def HL(l:List (Int×Int×Int)):Tr (zI):=(.need (s8 0 l (↑l.length:Int) 0) (.ite (!bq 0 (List.drop 0 l))
 (.ret (false)) (.ret (true))))
theorem LM(l:List cY):aG Tryz.prog [(130,HI),(180,Wo)] [(0,bZ qm ((ag).wr (())) BR (BV))] f124 ((zj).wr (l,())) ((ag).wr (())) [.fr [.sym],.syms,.auto,.aE]=(HL l).end Wp Wq ((ag).wr (())):=by kernel_rfl
theorem Ra(l:List cY):aH Tryz.prog ((ag).wr (())) [(0,bZ qm ((ag).wr (())) BR (BV))] (aF f124):=(aH.bK (js (by kernel_rfl) (bP (hp:=(ag).wr (())) (LK l)) jt))
abbrev rE(l:List cY):Prop:=l.length<1099511627776
abbrev HM(l:List cY):zI:=bq 0 l
def rF:an:=cv [some kF] (zj) (ag) (fun x_ y_=>rE x_.1) (fun x_ y_=>HM x_.1) Wp Wq
theorem Z0(l:List cY)(h_:rE l):(HL l).Is (HM l):=by
 delta HM;simp only[HL,aq,au,bE];refine⟨⟨rfl,by omega,by omega,by omega,by omega,by omega⟩,?_⟩
 cases h:bq 0 l<;>simp[h]
theorem nF:rF.Ok Tryz.prog 124:=
 br mixed ((aj BQ (aj HJ ax))) func124 (by kernel_rfl) call124 (fun x_ y_=>Ra x_.1) (fun x_ y_=>LM x_.1) (fun x_ y_ h=>Z0 x_.1 h)
abbrev qn:Type:=(List (Int×Int×Int))×Int×Int
abbrev qo:aM St qn:=(aS (ae (ah (fh false false ((Ty.int i64).pair ((Ty.int i64).pair (Ty.int
 IntKind.u8))))) (jk 2 (ae (ah (aA i64)) (ae (ah (aA i64)) (jk 56 ag))))) ag).kE (fun y=>(y.1.1,y.1.2.1,
 y.1.2.2.1)) (fun x=>((x.1,(x.2.1,(x.2.2,()))),())) (fun _=>rfl)
abbrev BW:List Wk:= [.fr (cu 61 [(0,.al),(3,.al),(4,.al)]),.syms,.auto,.aE]
abbrev LN:Exit→List Wk:=xz BW 0 [.fr (cu 61 []),.syms,.auto,.aE] [.fr (cu 61 [(2,.al)]),.syms,.auto,.aE]
abbrev xJ:Type:=Bool
abbrev Fm(x:xJ):Exit×St:=(Exit.ret,⟨(iE 2 (LV.one (VV.sc (SV.bool (SB.sym x)))::(iE 58 []))),[]⟩)
abbrev xK:Type:=Unit
abbrev Fo(x:xK):Exit×St:=(Exit.exit 0,⟨(iE 61 []),[]⟩)
def kh(l':List (Int×Int×Int))(made:Int)(i:Int):Tr (qn⊕(xJ⊕xK)):=(.ite (decide (i<
 (↑l'.length:Int))) (.need (0≤i∧i<(↑l'.length:Int)) (.ite ((l'.getD i.toNat (0,0,0)).fst==0) (.ite ((l'.getD i.toNat (0,0,0)).snd.fst !=
 0) (.ret (.inr (.inl (false)))) (.ite (decide (8192<i64.wrap (made+1))) (.ret (.inr (.inl (false)))) (.ret (.inl (l',i64.wrap
 (made+1),i64.wrap (i+1)))))) (.ite (decide ((l'.getD i.toNat (0,0,0)).fst<2)==false) (.ite (decide (257<(l'.getD i.toNat (0,0,
 0)).fst)==false) (.ite (((l'.getD i.toNat (0,0,0)).snd.snd !=0)==false) (.ite (decide ((l'.getD i.toNat (0,0,0)).snd.fst<1)==false) (.ite
 (decide (4096<(l'.getD i.toNat (0,0,0)).snd.fst)==false) (.ite (decide (made<(l'.getD i.toNat (0,0,0)).snd.fst)) (.ret (.inr (.inl (false))))
 (.ite (decide (8192<i64.wrap (made+(l'.getD i.toNat (0,0,0)).fst))) (.ret (.inr (.inl (false)))) (.ret (.inl (l',i64.wrap (made
 +(l'.getD i.toNat (0,0,0)).fst),i64.wrap (i+1)))))) (.ret (.inr (.inl (false))))) (.ret (.inr (.inl (false))))) (.ret (.inr (.inl
 (false))))) (.ret (.inr (.inl (false))))) (.ret (.inr (.inl (false))))))) (.ret (.inr (.inr ()))))
theorem HN(l:List cY)(l':List (Int×Int×Int))(made:Int)(i:Int):cO Tryz.prog [] [] f202 0 ((ag).wr (())) LN (qo.wr (l',made,i))=(kh l' made i).res qo.wr (Sum.elim Fm Fo):=by kernel_rfl
abbrev s9(l':List (Int×Int×Int))(made:Int)(i:Int):Prop:=0≤i∧i≤l'.length∧0≤made∧made≤8192∧l'.length<1099511627776
abbrev BX(l':List (Int×Int×Int))(made:Int)(i:Int):Bool:= !bq made (l'.drop i.toNat)
abbrev BY(l':List (Int×Int×Int))(made:Int)(i:Int):xJ:=false
abbrev BZ(l':List (Int×Int×Int))(made:Int)(i:Int):xK:=()
abbrev B0:qn→aK:=sZ (fun x_=>s9 x_.1 x_.2.1 x_.2.2) (fun x_=>BX x_.1 x_.2.1 x_.2.2) (fun x_=>BY x_.1 x_.2.1 x_.2.2) (fun x_=>BZ x_.1 x_.2.1 x_.2.2) Fm Fo
theorem Rb(l':List (Int×Int×Int))(made:Int)(i:Int)(h_:s9 l' made i):cX (fun x_:qn=>kh x_.1 x_.2.1 x_.2.2) (l',made,i) (bif BX l' made i then .inl (BY l' made i)else .inr (BZ l' made i)):=by
 delta BX BY BZ;obtain⟨h1,h2,h3,h4,h5⟩:=h_;obtain⟨k,rfl⟩:∃k:Nat,i=k:=⟨i.toNat,by omega⟩;rw[Int.toNat_natCast];obtain⟨m,hm⟩:∃m,l'.length=k+m:=⟨l'.length-k,by omega⟩;clear h2
 induction m generalizing k made with
 |zero=>
  refine .stop ?_;rw[List.drop_of_length_le (by omega)];simp only[kh,aP,aq,au,bq];exact⟨fun h=>by omega,fun _=>rfl⟩
 |succ m ih=>
  have hk:k<l'.length:=by omega
  rw[jZ (0,0,0) hk,bq];generalize hx:l'.getD k (0,0,0)=x;have hi:i64.wrap ((k:Int)+1)=k+1:=ao (by omega) (by omega)
  cases Q9:k8 x made with
  |false=>
   refine .stop ?_;simp only[kh,aP,aq,au,Int.toNat_natCast,hx];refine⟨fun _=>⟨⟨by omega,by omega⟩,?_⟩,fun h=>by omega⟩;obtain⟨a,b,c⟩:=x;simp only[k8]at Q9;simp only[bE,au,beq_iff_eq,beq_eq_false_iff_ne,bne_iff_ne,bne_eq_false_iff_eq,decide_eq_true_eq,decide_eq_false_iff_not,reduceCtorEq,Bool.false_and,Bool.not_false,cond_true]
   split at Q9
   ·have:=of_decide_eq_false Q9;grind
   ·have:=of_decide_eq_false Q9;grind
  |true=>
   have Ef:=kg Q9;obtain⟨a,b,c⟩:=x;simp only[k8,b9]at Q9 Ef ⊢
   by_cases ha:a=0
   ·subst ha;rw[if_pos rfl]at Q9;have hb:=of_decide_eq_true Q9;have e1:i64.wrap (made+1)=made+1:=ao (by omega) (by omega);simp only[if_true]
    by_cases hle:made+1≤8192
    ·have lA:=ih (made+1) (by omega) (by omega) (k+1) (by omega) (by omega);rw[decide_eq_true hle,Bool.true_and,Bool.true_and];refine .go ?_ lA;simp only[kh,aP,aq,au,Int.toNat_natCast,hx,e1,hi,bE,beq_iff_eq,beq_eq_false_iff_ne,bne_iff_ne,bne_eq_false_iff_eq,reduceCtorEq];grind
    ·rw[decide_eq_false hle];refine .stop ?_;simp only[kh,aP,aq,au,Int.toNat_natCast,hx,e1,hi,bE,beq_iff_eq,beq_eq_false_iff_ne,bne_iff_ne,bne_eq_false_iff_eq,reduceCtorEq,Bool.false_and,Bool.and_false,Bool.not_false,cond_true];grind
   ·rw[if_neg ha]at Q9 Ef ⊢;have hb:=of_decide_eq_true Q9;have e1:i64.wrap (made+a)=made+a:=ao (by omega) (by omega)
    by_cases hle:made+a≤8192
    ·have lA:=ih (made+a) (by omega) (by omega) (k+1) (by omega) (by omega);rw[decide_eq_true hle,Bool.true_and,Bool.true_and];refine .go ?_ lA;simp only[kh,aP,aq,au,Int.toNat_natCast,hx,e1,hi,bE,beq_iff_eq,beq_eq_false_iff_ne,bne_iff_ne,bne_eq_false_iff_eq,decide_eq_true_eq,decide_eq_false_iff_not,reduceCtorEq];grind
    ·rw[decide_eq_false hle];refine .stop ?_;simp only[kh,aP,aq,au,Int.toNat_natCast,hx,e1,hi,bE,beq_iff_eq,beq_eq_false_iff_ne,bne_iff_ne,bne_eq_false_iff_eq,decide_eq_true_eq,decide_eq_false_iff_not,reduceCtorEq,Bool.true_and,Bool.false_and,Bool.and_false,Bool.not_false,cond_true];grind
theorem LO(l:List cY):∀x:qn,Ex Tryz.prog ((ag).wr (())) (.loop (aO f202 0)) (qo.wr x) (B0 x):=
 cy mixed ax (ws:=LN) (aH.nil _) (fun x_=>HN l x_.1 x_.2.1 x_.2.2) (fun z=>by cases z<;>(intro e;cases e)) xy (fun x_ h=>Rb x_.1 x_.2.1 x_.2.2 h)
abbrev zJ:Type:=Bool
abbrev Wr(x:zJ):LV:=LV.one (VV.sc (SV.bool (SB.sym x)))
abbrev Ws(x:zJ):List (Nat×Ev.Item):= []
def HO(l:List (Int×Int×Int)):Tr (zJ):=(.need (s9 l 0 0) (.ite (!bq 0 (List.drop 0 l)) (.ret (false))
 (.ret (true))))
theorem LP(l:List cY):aG Tryz.prog [] [(0,bZ qo ((ag).wr (())) BW (B0))] f202 ((zj).wr (l,())) ((ag).wr (())) [.fr [.sym],.syms,.auto,.aE]=(HO l).end Wr Ws ((ag).wr (())):=by kernel_rfl
theorem Rc(l:List cY):aH Tryz.prog ((ag).wr (())) [(0,bZ qo ((ag).wr (())) BW (B0))] (aF f202):=(aH.bK (js (by kernel_rfl) (bP (hp:=(ag).wr (())) (LO l)) jt))
abbrev lB(l:List cY):Prop:=l.length<1099511627776
abbrev HQ(l:List cY):zJ:=bq 0 l
def k9:an:=cv [some kF] (zj) (ag) (fun x_ y_=>lB x_.1) (fun x_ y_=>HQ x_.1) Wr Ws
theorem Z3(l:List cY)(h_:lB l):(HO l).Is (HQ l):=by
 delta HQ;simp only[HO,aq,au,bE];refine⟨⟨by omega,by omega,by omega,by omega,by omega⟩,?_⟩
 cases h:bq 0 l<;>simp[h]
theorem iH:k9.Ok Tryz.prog 202:=
 br mixed ax func202 (by kernel_rfl) call202 (fun x_ y_=>Rc x_.1) (fun x_ y_=>LP x_.1) (fun x_ y_ h=>Z3 x_.1 h)
def ph:Nat→Int→List Int→List Int
 |0,_,o=>o
 |k+1,d,o=>ph k d (o++ [o.getD ((o.length:Int)-d).toNat 0])
def EC(o:List Int)(t:cY):List Int:=if t.1=0 then o++ [t.2.2]else ph t.1.toNat t.2.1 o
def jL:List Int→List cY→List Int
 |o,[]=>o
 |o,t::l=>jL (EC o t) l
def kG(l:List cY):List Int:=if bq 0 l then jL [] l else []
theorem Fp:∀ (k:Nat) (d:Int) (o:List Int),(ph k d o).length=o.length+k
 |0,_,_=>rfl
 |k+1,d,o=>by rw[ph,Fp k];simp;omega
theorem B1{o:List Int}{t:cY}{made:Int}(h:k8 t made=true):((EC o t).length:Int)=o.length+b9 t:=by
 have h1:=kg h;unfold EC b9 at*
 split
 ·simp
 ·rename_i e;rw[if_neg e]at h1;rw[Fp];omega
abbrev qp:Type:=(List (Int×Int×Int))×Int×Int×Int×Int×(List Int)×Int×Int×Int
abbrev uV:aM St qp:=(aS (jk 3 (ai (ah (ke (0) (0))) (jk 1 (ai (ah (aC (1) (0))) (jk 3 (ae (ah (fh
 false false ((Ty.int i64).pair ((Ty.int i64).pair (Ty.int IntKind.u8))))) (ae (ah (aA i64)) (ae (ah (aA
 i64)) (jk 12 (ae (ah (aA i64)) (ae (ah (aA i64)) (jk 15 ag)))))))))))) (ae (bS (0) (Ty.int IntKind.u8))
 (ae (dH (199) ((ae (aA i64) (ae (aA i64) (ae (aA IntKind.u8) ag))))) ag))).kE (fun y=>(y.1.1,y.1.2.1,
 y.1.2.2.1,y.1.2.2.2.1,y.1.2.2.2.2.1,y.2.1,y.2.2.1.1,y.2.2.1.2.1,y.2.2.1.2.2.1)) (fun x=>((x.1,(x.2.1,(x.2.2.1,(x.2.2.2.1,(x.2.2.2.2.1,
 ()))))),(x.2.2.2.2.2.1,((x.2.2.2.2.2.2.1,(x.2.2.2.2.2.2.2.1,(x.2.2.2.2.2.2.2.2,()))),())))) (fun _=>rfl)
abbrev LQ:List Wk:= [.dh 3 u8,.fr (cu 41 [(3,.al),(5,.al),(9,.al),(10,.al),(11,.al),(24,.al),(25,.al)]),.syms,
 .auto,.aE]
abbrev LR:Exit→List Wk:=xz LQ 2 [.dh 3 u8,.fr (cu 41 [(3,.al),(9,.al),(10,.al),(11,.al)]),.syms,.auto,.aE]
 [.dh 3 u8,.fr (cu 41 [(2,.al)]),.syms,.auto,.aE]
abbrev B2:Type:=(List (Int×Int×Int))×Int×Int×(List Int)
abbrev LS(x:B2):Exit×St:=(Exit.exit 2,⟨(iE 3 (LV.one (VV.sc (SV.sl 0 0))::(iE 5 (LV.one (VV.sc (SV.rd false
 false ((Ty.int i64).pair ((Ty.int i64).pair (Ty.int IntKind.u8))) x.1))::(LV.one (VV.sc (SV.int i64 (SI.sym x.2.1)))::
 (LV.one (VV.sc (SV.int i64 (SI.sym x.2.2.1)))::(iE 29 []))))))),[some (Item.own 0 (Ty.int IntKind.u8) x.2.2.2)]⟩)
def uW(l':List (Int×Int×Int))(n:Int)(i:Int)(tl:Int)(k:Int)(o:List Int)(t1:Int)(t2:Int)(t3:Int):Tr
 (qp⊕(B2)):=(.ite (decide (k<tl)) (.need (0≤i64.wrap ((↑o.length:Int)-t2)∧i64.wrap ((↑o.length:Int)-t2)<
 (↑o.length:Int)) (.need ((o.length+1)*1≤70368744177664∧o.length+1≤70368744177664) (.ret (.inl (l',n,i,tl,i64.wrap (k+1),o
 ++ [o.getD (i64.wrap ((↑o.length:Int)-t2)).toNat 0],t1,t2,t3))))) (.ret (.inr (l',n,i,o))))
theorem HR(l:List cY)(l':List (Int×Int×Int))(n:Int)(i:Int)(tl:Int)(k:Int)(o:List Int)(t1:Int)(t2:Int)(t3:Int):cO Tryz.prog [(124,rF)] [] f229 2 ((ag).wr (())) LR (uV.wr (l',n,i,tl,k,o,t1,t2,t3))=(uW l' n i tl k o t1 t2 t3).res uV.wr LS:=by kernel_rfl
abbrev jM(l':List (Int×Int×Int))(n:Int)(i:Int)(tl:Int)(k:Int)(o:List Int)(t1:Int)(t2:Int)(t3:Int):Prop:=0≤k∧k≤tl∧(k<tl→1≤t2∧t2≤o.length)∧tl<1000000∧o.length+(tl-k)<1000000
abbrev B3(l':List (Int×Int×Int))(n:Int)(i:Int)(tl:Int)(k:Int)(o:List Int)(t1:Int)(t2:Int)(t3:Int):B2:=(l',n,i,ph (tl-k).toNat t2 o)
abbrev LU:qp→aK:=eB (fun x_=>jM x_.1 x_.2.1 x_.2.2.1 x_.2.2.2.1 x_.2.2.2.2.1 x_.2.2.2.2.2.1 x_.2.2.2.2.2.2.1 x_.2.2.2.2.2.2.2.1 x_.2.2.2.2.2.2.2.2) (fun x_=>B3 x_.1 x_.2.1 x_.2.2.1 x_.2.2.2.1 x_.2.2.2.2.1 x_.2.2.2.2.2.1 x_.2.2.2.2.2.2.1 x_.2.2.2.2.2.2.2.1 x_.2.2.2.2.2.2.2.2) LS
theorem Rd(l':List (Int×Int×Int))(n:Int)(i:Int)(tl:Int)(k:Int)(o:List Int)(t1:Int)(t2:Int)(t3:Int)(h_:jM l' n i tl k o t1 t2 t3):cX (fun x_:qp=>uW x_.1 x_.2.1 x_.2.2.1 x_.2.2.2.1 x_.2.2.2.2.1 x_.2.2.2.2.2.1 x_.2.2.2.2.2.2.1 x_.2.2.2.2.2.2.2.1 x_.2.2.2.2.2.2.2.2) (l',n,i,tl,k,o,t1,t2,t3) (B3 l' n i tl k o t1 t2 t3):=by
 delta B3;obtain⟨h1,h2,h3,h4,h5⟩:=h_;obtain⟨m,hm⟩:∃m:Nat,tl=k+m:=⟨(tl-k).toNat,by omega⟩;subst hm;rw[show(k+(m:Int)-k).toNat=m from by omega]
 induction m generalizing k o with
 |zero=>
  refine .stop ?_;simp only[uW,aP,aq,au,ph];exact⟨fun h=>by omega,fun _=>trivial⟩
 |succ m ih=>
  have h3:=h3 (by omega);have e1:i64.wrap ((o.length:Int)-t2)=o.length-t2:=ao (by omega) (by omega);have e2:i64.wrap (k+1)=k+1:=ao (by omega) (by omega);have lA:=ih (k+1) (o++ [o.getD ((o.length:Int)-t2).toNat 0]) (by omega) (by omega) (fun _=>⟨h3.1,by simp;omega⟩) (by omega) (by simp;omega);rw[show k+1+(m:Int)=k+((m+1:Nat):Int)from by omega]at lA;refine .go ?_ lA;simp only[uW,aP,aq,au,e1,e2];exact⟨fun _=>⟨⟨by omega,by omega⟩,⟨by omega,by omega⟩,trivial⟩,fun h=>by omega⟩
theorem LW(l:List cY):∀x:qp,Ex Tryz.prog ((ag).wr (())) (.loop (aO f229 2)) (uV.wr x) (LU x):=
 cy mixed ((aj nF ax)) (ws:=LR) (aH.nil _) (fun x_=>HR l x_.1 x_.2.1 x_.2.2.1 x_.2.2.2.1 x_.2.2.2.2.1 x_.2.2.2.2.2.1 x_.2.2.2.2.2.2.1 x_.2.2.2.2.2.2.2.1 x_.2.2.2.2.2.2.2.2) (fun z e=>by cases e) eV (fun x_ h=>Rd x_.1 x_.2.1 x_.2.2.1 x_.2.2.2.1 x_.2.2.2.2.1 x_.2.2.2.2.2.1 x_.2.2.2.2.2.2.1 x_.2.2.2.2.2.2.2.1 x_.2.2.2.2.2.2.2.2 h)
abbrev qs:Type:=(List (Int×Int×Int))×Int×Int×(List Int)
abbrev qu:aM St qs:=(aS (jk 3 (ai (ah (ke (0) (0))) (jk 5 (ae (ah (fh false false ((Ty.int
 i64).pair ((Ty.int i64).pair (Ty.int IntKind.u8))))) (ae (ah (aA i64)) (ae (ah (aA i64)) (jk 29
 ag))))))) (ae (bS (0) (Ty.int IntKind.u8)) ag)).kE (fun y=>(y.1.1,y.1.2.1,y.1.2.2.1,y.2.1)) (fun x=>((x.1,(x.2.1,(x.2.2.1,()))),
 (x.2.2.2,()))) (fun _=>rfl)
abbrev B4:List Wk:= [.dh 3 u8,.fr (cu 41 [(3,.al),(9,.al),(10,.al),(11,.al)]),.syms,.auto,.aE]
abbrev LX:Exit→List Wk:=xz B4 0 [.dh 3 u8,.fr (cu 41 [(3,.al)]),.syms,.auto,.aE] [.dh 3 u8,.fr (cu 41 [(2,.al)]),
 .syms,.auto,.aE]
abbrev B5:Type:=List Int
abbrev LY(x:B5):Exit×St:=(Exit.exit 0,⟨(iE 3 (LV.one (VV.sc (SV.sl 0 0))::(iE 37 []))),[some (Item.own 0
 (Ty.int IntKind.u8) x)]⟩)
def uX(l':List (Int×Int×Int))(n:Int)(i:Int)(o:List Int):Tr (qs⊕(B5)):=(.ite (decide (i<n))
 (.need (0≤i∧i<(↑l'.length:Int)) (.ite ((l'.getD i.toNat (0,0,0)).fst==0) (.need ((o.length+1)*1≤70368744177664∧o.length+1≤
 70368744177664) (.need (jM l' n i (l'.getD i.toNat (0,0,0)).fst 0 (o++ [(l'.getD i.toNat (0,0,0)).snd.snd]) (l'.getD i.toNat (0,0,
 0)).fst (l'.getD i.toNat (0,0,0)).snd.fst (l'.getD i.toNat (0,0,0)).snd.snd) (.ret (.inl (l',n,i64.wrap (i+1),ph (Int.toNat
 ((l'.getD i.toNat (0,0,0)).fst-0)) (l'.getD i.toNat (0,0,0)).snd.fst (o++ [(l'.getD i.toNat (0,0,0)).snd.snd])))))) (.need (jM l' n i
 (l'.getD i.toNat (0,0,0)).fst 0 o (l'.getD i.toNat (0,0,0)).fst (l'.getD i.toNat (0,0,0)).snd.fst (l'.getD i.toNat (0,0,0)).snd.snd) (.ret
 (.inl (l',n,i64.wrap (i+1),ph (Int.toNat ((l'.getD i.toNat (0,0,0)).fst-0)) (l'.getD i.toNat (0,0,0)).snd.fst o)))))) (.ret (.inr
 (o))))
theorem HS(l:List cY)(l':List (Int×Int×Int))(n:Int)(i:Int)(o:List Int):cO Tryz.prog [(124,rF)] [(2,bZ uV ((ag).wr (())) LQ (LU))] f229 0 ((ag).wr (())) LX (qu.wr (l',n,i,o))=(uX l' n i o).res qu.wr LY:=by kernel_rfl
abbrev ta(l':List (Int×Int×Int))(n:Int)(i:Int)(o:List Int):Prop:=n=l'.length∧0≤i∧i≤l'.length∧bq o.length (l'.drop i.toNat)=true∧o.length≤8192∧l'.length<1099511627776
abbrev B6(l':List (Int×Int×Int))(n:Int)(i:Int)(o:List Int):B5:=jL o (l'.drop i.toNat)
abbrev B7:qs→aK:=eB (fun x_=>ta x_.1 x_.2.1 x_.2.2.1 x_.2.2.2) (fun x_=>B6 x_.1 x_.2.1 x_.2.2.1 x_.2.2.2) LY
theorem Re(l':List (Int×Int×Int))(n:Int)(i:Int)(o:List Int)(h_:ta l' n i o):cX (fun x_:qs=>uX x_.1 x_.2.1 x_.2.2.1 x_.2.2.2) (l',n,i,o) (B6 l' n i o):=by
 delta B6;obtain⟨rfl,h1,h2,h3,h4,h5⟩:=h_;obtain⟨k,rfl⟩:∃k:Nat,i=k:=⟨i.toNat,by omega⟩;rw[Int.toNat_natCast]at h3 ⊢;obtain⟨m,hm⟩:∃m,l'.length=k+m:=⟨l'.length-k,by omega⟩;clear h2
 induction m generalizing k o with
 |zero=>
  refine .stop ?_;rw[List.drop_of_length_le (by omega)];simp only[uX,aP,aq,au,jL];exact⟨fun h=>by omega,fun _=>trivial⟩
 |succ m ih=>
  have hk:k<l'.length:=by omega
  rw[jZ (0,0,0) hk,bq,Bool.and_eq_true,Bool.and_eq_true]at h3;obtain⟨⟨h6,h7⟩,h8⟩:=h3;rw[jZ (0,0,0) hk,jL];generalize hx:l'.getD k (0,0,0)=x at*;have h7:=of_decide_eq_true h7;have hg:=B1 (o:=o) h6;have Ef:=kg h6;have lA:=ih (EC o x) (by omega) (k+1) (by omega) (by rw[hg];exact h8) (by omega);refine .go ?_ lA;have hi:i64.wrap ((k:Int)+1)=k+1:=ao (by omega) (by omega);unfold k8 at h6;unfold b9 at Ef h7;have hkn:(0:Int)≤k∧(k:Int)<l'.length:=⟨by omega,by omega⟩;simp only[uX,aP,aq,au,eA,Int.toNat_natCast,hx,hi];refine⟨fun _=>⟨hkn,fun e=>?_,fun e=>?_⟩,fun h=>by omega⟩
  ·rw[if_pos e]at h6 Ef h7;refine⟨⟨by omega,by omega⟩,?_,?_⟩
   ·simp only[jM,hx];simp;omega
   ·simp only[EC,if_pos e,e];rfl
  ·rw[if_neg e]at h6 Ef h7;have h9:=of_decide_eq_true h6;refine⟨?_,?_⟩
   ·simp only[jM,hx];simp;omega
   ·simp only[EC,if_neg e,Int.sub_zero];rfl
theorem LZ(l:List cY):∀x:qs,Ex Tryz.prog ((ag).wr (())) (.loop (aO f229 0)) (qu.wr x) (B7 x):=
 cy mixed ((aj nF ax)) (ws:=LX) (aH.inner (by kernel_rfl) (js (by kernel_rfl) (bP (hp:=(ag).wr (())) (LW l)) jt)) (fun x_=>HS l x_.1 x_.2.1 x_.2.2.1 x_.2.2.2) (fun z e=>by cases e) eV (fun x_ h=>Re x_.1 x_.2.1 x_.2.2.1 x_.2.2.2 h)
abbrev zK:Type:=List Int
abbrev Wt(x:zK):LV:=LV.one (VV.sc (SV.sl 0 0))
abbrev Wu(x:zK):List (Nat×Ev.Item):= [(0,Item.own 0 (Ty.int IntKind.u8) x)]
def HT(l:List (Int×Int×Int)):Tr (zK):=(.need (rE l) (.ite (!bq 0 l) (.ret ([])) (.need (ta l
 (↑l.length:Int) 0 []) (.ret (jL [] (List.drop 0 l))))))
theorem L0(l:List cY):aG Tryz.prog [(124,rF)] [(0,bZ qu ((ag).wr (())) B4 (B7))] f229 ((zj).wr (l,())) ((ag).wr (())) [.dh 0 u8,.fr [.sym],.syms,.auto,.aE]=(HT l).end Wt Wu ((ag).wr (())):=by kernel_rfl
theorem Rf(l:List cY):aH Tryz.prog ((ag).wr (())) [(0,bZ qu ((ag).wr (())) B4 (B7))] (aF f229):=(aH.bK (js (by kernel_rfl) (bP (hp:=(ag).wr (())) (LZ l)) jt))
abbrev rG(l:List cY):Prop:=l.length<1099511627776
abbrev HU(l:List cY):zK:=kG l
def Wv:an:=cv [some kF] (zj) (ag) (fun x_ y_=>rG x_.1) (fun x_ y_=>HU x_.1) Wt Wu
theorem Z4(l:List cY)(h_:rG l):(HT l).Is (HU l):=by
 delta HU;simp only[HT,aq,au,bE,kG,List.drop_zero]
 cases h:bq 0 l
 ·simp[h_]
 ·simp only[Bool.not_true,reduceCtorEq,false_imp_iff,true_imp_iff,true_and,if_true];exact⟨h_,⟨rfl,by omega,by omega,h,by simp,by omega⟩,trivial⟩
theorem Z5:Wv.Ok Tryz.prog 229:=
 br mixed ((aj nF ax)) func229 (by kernel_rfl) call229 (fun x_ y_=>Rf x_.1) (fun x_ y_=>L0 x_.1) (fun x_ y_ h=>Z4 x_.1 h)
abbrev qv:Type:=(List (Int×Int×Int))×Int×Int×(List Int)
abbrev uY:aM St qv:=(aS (ae (ah (fh false false ((Ty.int i64).pair ((Ty.int i64).pair (Ty.int
 IntKind.u8))))) (jk 2 (ai (ah (ke (0) (0))) (ae (ah (aA i64)) (ae (ah (aA i64)) (jk 47 ag)))))) (ae (bS (0)
 (Ty.int IntKind.u8)) ag)).kE (fun y=>(y.1.1,y.1.2.1,y.1.2.2.1,y.2.1)) (fun x=>((x.1,(x.2.1,(x.2.2.1,()))),(x.2.2.2,()))) (fun _=>rfl)
abbrev L1:List Wk:= [.dh 3 u8,.fr (cu 53 [(0,.al),(3,.al),(4,.al),(5,.al)]),.syms,.auto,.aE]
abbrev L2:Exit→List Wk:=xz L1 2 [.dh 3 u8,.fr (cu 53 [(0,.al),(3,.al),(4,.al)]),.syms,.auto,.aE] [.dh 3 u8,
 .fr (cu 53 [(2,.al)]),.syms,.auto,.aE]
abbrev B8:Type:=(List (Int×Int×Int))×Int×(List Int)
abbrev L3(x:B8):Exit×St:=(Exit.exit 2,⟨(LV.one (VV.sc (SV.rd false false ((Ty.int i64).pair ((Ty.int
 i64).pair (Ty.int IntKind.u8))) x.1))::(iE 2 (LV.one (VV.sc (SV.sl 0 0))::(LV.one (VV.sc (SV.int i64 (SI.sym x.2.1)))::(iE 48
 []))))),[some (Item.own 0 (Ty.int IntKind.u8) x.2.2)]⟩)
def uZ(l':List (Int×Int×Int))(i:Int)(k:Int)(o:List Int):Tr (qv⊕(B8)):=(.need (0≤i∧i<
 (↑l'.length:Int)) (.ite (decide (k<(l'.getD i.toNat (0,0,0)).fst)) (.need (0≤i∧i<(↑l'.length:Int)) (.need (0≤i64.wrap
 ((↑o.length:Int)-(l'.getD i.toNat (0,0,0)).snd.fst)∧i64.wrap ((↑o.length:Int)-(l'.getD i.toNat (0,0,0)).snd.fst)<(↑o.length:
 Int)) (.need ((o.length+1)*1≤70368744177664∧o.length+1≤70368744177664) (.ret (.inl (l',i,i64.wrap (k+1),o++ [o.getD
 (i64.wrap ((↑o.length:Int)-(l'.getD i.toNat (0,0,0)).snd.fst)).toNat 0])))))) (.ret (.inr (l',i,o)))))
theorem HV(l:List cY)(l':List (Int×Int×Int))(i:Int)(k:Int)(o:List Int):cO Tryz.prog [(202,k9)] [] f160 2 ((ag).wr (())) L2 (uY.wr (l',i,k,o))=(uZ l' i k o).res uY.wr L3:=by kernel_rfl
abbrev jN(l':List (Int×Int×Int))(i:Int)(k:Int)(o:List Int):Prop:=0≤i∧i<l'.length∧0≤k∧(l'.getD i.toNat (0,0,0)).1<1000000∧(k<(l'.getD i.toNat (0,0,0)).1→1≤(l'.getD i.toNat (0,0,0)).2.1∧(l'.getD i.toNat (0,0,0)).2.1≤o.length)∧o.length+((l'.getD i.toNat (0,0,0)).1-k)<1000000∧o.length<1000000
abbrev B9(l':List (Int×Int×Int))(i:Int)(k:Int)(o:List Int):B8:=(l',i,ph ((l'.getD i.toNat (0,0,0)).1-k).toNat (l'.getD i.toNat (0,0,0)).2.1 o)
abbrev L4:qv→aK:=eB (fun x_=>jN x_.1 x_.2.1 x_.2.2.1 x_.2.2.2) (fun x_=>B9 x_.1 x_.2.1 x_.2.2.1 x_.2.2.2) L3
theorem Rg(l':List (Int×Int×Int))(i:Int)(k:Int)(o:List Int)(h_:jN l' i k o):cX (fun x_:qv=>uZ x_.1 x_.2.1 x_.2.2.1 x_.2.2.2) (l',i,k,o) (B9 l' i k o):=by
 delta B9;obtain⟨h0,h1,h2,h3,h4,h5,h6⟩:=h_;generalize hx:l'.getD i.toNat (0,0,0)=x at*;obtain⟨m,hm⟩:∃m:Nat,(x.1-k).toNat=m:=⟨_,rfl⟩;rw[hm]
 induction m generalizing k o with
 |zero=>
  refine .stop ?_;simp only[uZ,aP,aq,au,ph,hx];exact⟨⟨h0,h1⟩,fun h=>by omega,fun _=>trivial⟩
 |succ m ih=>
  have h4:=h4 (by omega);have e1:i64.wrap ((o.length:Int)-x.2.1)=o.length-x.2.1:=ao (by omega) (by omega);have e2:i64.wrap (k+1)=k+1:=ao (by omega) (by omega);have lA:=ih (k+1) (o++ [o.getD ((o.length:Int)-x.2.1).toNat 0]) (by omega) (by simp;omega) (fun _=>⟨h4.1,by simp;omega⟩) (by simp;omega) (by omega);refine .go ?_ lA;simp only[uZ,aP,aq,au,e1,e2,hx];exact⟨⟨h0,h1⟩,fun _=>⟨⟨h0,h1⟩,⟨by omega,by omega⟩,⟨by omega,by omega⟩,trivial⟩,fun h=>by omega⟩
theorem L5(l:List cY):∀x:qv,Ex Tryz.prog ((ag).wr (())) (.loop (aO f160 2)) (uY.wr x) (L4 x):=
 cy mixed ((aj iH ax)) (ws:=L2) (aH.nil _) (fun x_=>HV l x_.1 x_.2.1 x_.2.2.1 x_.2.2.2) (fun z e=>by cases e) eV (fun x_ h=>Rg x_.1 x_.2.1 x_.2.2.1 x_.2.2.2 h)
abbrev qw:Type:=(List (Int×Int×Int))×Int×(List Int)
abbrev qA:aM St qw:=(aS (ae (ah (fh false false ((Ty.int i64).pair ((Ty.int i64).pair (Ty.int
 IntKind.u8))))) (jk 2 (ai (ah (ke (0) (0))) (ae (ah (aA i64)) (jk 48 ag))))) (ae (bS (0) (Ty.int IntKind.u8)) ag)).kE
 (fun y=>(y.1.1,y.1.2.1,y.2.1)) (fun x=>((x.1,(x.2.1,())),(x.2.2,()))) (fun _=>rfl)
abbrev Ca:List Wk:= [.dh 3 u8,.fr (cu 53 [(0,.al),(3,.al),(4,.al)]),.syms,.auto,.aE]
abbrev L6:Exit→List Wk:=xz Ca 0 [.dh 3 u8,.fr (cu 53 [(3,.al)]),.syms,.auto,.aE] [.dh 3 u8,.fr (cu 53 [(2,.al)]),
 .syms,.auto,.aE]
abbrev Cb:Type:=List Int
abbrev L7(x:Cb):Exit×St:=(Exit.exit 0,⟨(iE 3 (LV.one (VV.sc (SV.sl 0 0))::(iE 49 []))),[some (Item.own 0
 (Ty.int IntKind.u8) x)]⟩)
def u0(l':List (Int×Int×Int))(i:Int)(o:List Int):Tr (qw⊕(Cb)):=(.ite (decide (i<(↑l'.length:
 Int))) (.need (0≤i∧i<(↑l'.length:Int)) (.ite ((l'.getD i.toNat (0,0,0)).fst==0) (.need (0≤i∧i<(↑l'.length:Int)) (.need ((o.length+
 1)*1≤70368744177664∧o.length+1≤70368744177664) (.need (jN l' i 0 (o++ [(l'.getD i.toNat (0,0,0)).snd.snd])) (.ret (.inl (l',
 i64.wrap (i+1),ph ((l'.getD i.toNat (0,0,0)).fst-0).toNat (l'.getD i.toNat (0,0,0)).snd.fst (o++ [(l'.getD i.toNat (0,0,
 0)).snd.snd]))))))) (.need (jN l' i 0 o) (.ret (.inl (l',i64.wrap (i+1),ph ((l'.getD i.toNat (0,0,0)).fst-0).toNat (l'.getD
 i.toNat (0,0,0)).snd.fst o)))))) (.ret (.inr (o))))
theorem HW(l:List cY)(l':List (Int×Int×Int))(i:Int)(o:List Int):cO Tryz.prog [(202,k9)] [(2,bZ uY ((ag).wr (())) L1 (L4))] f160 0 ((ag).wr (())) L6 (qA.wr (l',i,o))=(u0 l' i o).res qA.wr L7:=by kernel_rfl
abbrev tc(l':List (Int×Int×Int))(i:Int)(o:List Int):Prop:=0≤i∧i≤l'.length∧bq o.length (l'.drop i.toNat)=true∧o.length≤8192∧l'.length<1099511627776
abbrev Cc(l':List (Int×Int×Int))(i:Int)(o:List Int):Cb:=jL o (l'.drop i.toNat)
abbrev Cd:qw→aK:=eB (fun x_=>tc x_.1 x_.2.1 x_.2.2) (fun x_=>Cc x_.1 x_.2.1 x_.2.2) L7
theorem Rh(l':List (Int×Int×Int))(i:Int)(o:List Int)(h_:tc l' i o):cX (fun x_:qw=>u0 x_.1 x_.2.1 x_.2.2) (l',i,o) (Cc l' i o):=by
 delta Cc;obtain⟨h1,h2,h3,h4,h5⟩:=h_;obtain⟨k,rfl⟩:∃k:Nat,i=k:=⟨i.toNat,by omega⟩;rw[Int.toNat_natCast]at h3 ⊢;obtain⟨m,hm⟩:∃m,l'.length=k+m:=⟨l'.length-k,by omega⟩;clear h2
 induction m generalizing k o with
 |zero=>
  refine .stop ?_;rw[List.drop_of_length_le (by omega)];simp only[u0,aP,aq,au,jL];exact⟨fun h=>by omega,fun _=>trivial⟩
 |succ m ih=>
  have hk:k<l'.length:=by omega
  rw[jZ (0,0,0) hk,bq,Bool.and_eq_true,Bool.and_eq_true]at h3;obtain⟨⟨h6,h7⟩,h8⟩:=h3;rw[jZ (0,0,0) hk,jL];generalize hx:l'.getD k (0,0,0)=x at*;have h7:=of_decide_eq_true h7;have hg:=B1 (o:=o) h6;have Ef:=kg h6;have lA:=ih (EC o x) (by omega) (k+1) (by omega) (by rw[hg];exact h8) (by omega);refine .go ?_ lA;have hi:i64.wrap ((k:Int)+1)=k+1:=ao (by omega) (by omega);unfold k8 at h6;unfold b9 at Ef h7;have hkn:(0:Int)≤k∧(k:Int)<l'.length:=⟨by omega,by omega⟩;simp only[u0,aP,aq,au,eA,Int.toNat_natCast,hx,hi];refine⟨fun _=>⟨hkn,fun e=>?_,fun e=>?_⟩,fun h=>by omega⟩
  ·rw[if_pos e]at h6 Ef h7;refine⟨hkn,⟨by omega,by omega⟩,?_,?_⟩
   ·simp only[jN,Int.toNat_natCast,hx];simp;omega
   ·simp only[EC,if_pos e,e];rfl
  ·rw[if_neg e]at h6 Ef h7;have h9:=of_decide_eq_true h6;refine⟨?_,?_⟩
   ·simp only[jN,Int.toNat_natCast,hx];simp;omega
   ·simp only[EC,if_neg e,Int.sub_zero];rfl
theorem L8(l:List cY):∀x:qw,Ex Tryz.prog ((ag).wr (())) (.loop (aO f160 0)) (qA.wr x) (Cd x):=
 cy mixed ((aj iH ax)) (ws:=L6) (aH.inner (by kernel_rfl) (js (by kernel_rfl) (bP (hp:=(ag).wr (())) (L5 l)) jt)) (fun x_=>HW l x_.1 x_.2.1 x_.2.2) (fun z e=>by cases e) eV (fun x_ h=>Rh x_.1 x_.2.1 x_.2.2 h)
abbrev zL:Type:=List Int
abbrev Ww(x:zL):LV:=LV.one (VV.sc (SV.sl 0 0))
abbrev Wx(x:zL):List (Nat×Ev.Item):= [(0,Item.own 0 (Ty.int IntKind.u8) x)]
def HX(l:List (Int×Int×Int)):Tr (zL):=(.need (lB l) (.ite (!bq 0 l) (.ret ([])) (.need (tc l 0
 []) (.ret (jL [] (List.drop 0 l))))))
theorem L9(l:List cY):aG Tryz.prog [(202,k9)] [(0,bZ qA ((ag).wr (())) Ca (Cd))] f160 ((zj).wr (l,())) ((ag).wr (())) [.dh 0 u8,.fr [.sym],.syms,.auto,.aE]=(HX l).end Ww Wx ((ag).wr (())):=by kernel_rfl
theorem Ri(l:List cY):aH Tryz.prog ((ag).wr (())) [(0,bZ qA ((ag).wr (())) Ca (Cd))] (aF f160):=(aH.bK (js (by kernel_rfl) (bP (hp:=(ag).wr (())) (L8 l)) jt))
abbrev jO(l:List cY):Prop:=l.length<1099511627776
abbrev HY(l:List cY):zL:=kG l
def zM:an:=cv [some kF] (zj) (ag) (fun x_ y_=>jO x_.1) (fun x_ y_=>HY x_.1) Ww Wx
theorem Z6(l:List cY)(h_:jO l):(HX l).Is (HY l):=by
 delta HY;simp only[HX,aq,au,bE,kG,List.drop_zero]
 cases h:bq 0 l
 ·simp[h_]
 ·simp only[Bool.not_true,reduceCtorEq,false_imp_iff,true_imp_iff,true_and,if_true];exact⟨h_,⟨by omega,by omega,h,by simp,by omega⟩,trivial⟩
theorem xL:zM.Ok Tryz.prog 160:=
 br mixed ((aj iH ax)) func160 (by kernel_rfl) call160 (fun x_ y_=>Ri x_.1) (fun x_ y_=>L9 x_.1) (fun x_ y_ h=>Z6 x_.1 h)
abbrev rdt(l:List Int):LV:=.one (.sc (.rd true false u8 l))
def af4:an:=an.cl [some u8] bA ag fun x _=>.leaf (some (x.1.length≤70368744177664)) (rdt x.1) []
theorem Ma:aG Tryz.prog [] [] f177 [.one (.sc (.iM (.slice none 0 0)))] [] [.Qg 0 u8,.auto]=
 End.leaf (LV.one (VV.sc (SV.rd true false (Ty.int IntKind.u8) []))) []:=by kernel_rfl
theorem Mb(l:List Int):aG Tryz.prog [] [] f177 [.one (.sc (.rd false true u8 l))] [] [.Qg 0 u8,.auto]=
 End.need (((0:Nat)+l.length)*(1:Nat)≤(70368744177664:Nat)∧(0:Nat)+l.length≤(70368744177664:Nat)) (End.leaf (LV.one (VV.sc (SV.rd
 true false (Ty.int IntKind.u8) ([]++l)))) []):=by kernel_rfl
theorem af5:af4.Ok Tryz.prog 177:=by
 refine(an.aN call177 fun x y Q h=>?_).sym;obtain⟨l,_⟩:=x;obtain⟨hl,hq⟩:=h;have hl:l.length≤70368744177664:=hl;refine iQ.aon (x:= []) (y:= []) (fun e=>?_) ?_
 ·subst e;refine(ar mixed ax func177 rfl (LT:= []) (ks:= [.Qg 0 u8,.auto]) (aH.nil _)).use (D:= []) ?_ hq;show(aG _ _ _ _ [.one (.sc (.iM (.slice none 0 0)))] [] _).sat _;rw[Ma];exact⟨rfl,rfl⟩
 ·refine(ar mixed ax func177 rfl (LT:= []) (ks:= [.Qg 0 u8,.auto]) (aH.nil _)).use (D:= []) ?_ hq;show(aG _ _ _ _ [.one (.sc (.rd false true u8 l))] [] _).sat _;rw[Mb];exact⟨⟨by omega,by omega⟩,rfl,rfl⟩
abbrev xM:Type:=Int×Int×(List Int)
abbrev Ce:aM St xM:=(aS (jk 3 (ai (ah (aC (0) (0))) (jk 12 (ae (ah (aA i64)) (ae (ah (aA
 i64)) (jk 10 ag)))))) (ai (dH (332) ((ai (ke (1) (0)) ag))) (ae (bS (0) (Ty.int u16)) ag))).kE (fun y=>(y.1.1,
 y.1.2.1,y.2.1)) (fun x=>((x.1,(x.2.1,())),(x.2.2,()))) (fun _=>rfl)
abbrev Rj:List Wk:= [.fr (cu 28 [(3,.al),(16,.al),(17,.al)]),.syms,.auto,.aE]
abbrev af6:Exit→List Wk:=xz Rj 0 [.fr (cu 28 [(3,.al)]),.syms,.auto,.aE] [.fr (cu 28 [(2,.al)]),.syms,.auto,.aE]
abbrev Rk:Type:=List Int
abbrev af7(x:Rk):Exit×St:=(Exit.exit 0,⟨(iE 3 (LV.one (VV.sc (SV.ptr 0 0))::(iE 24 []))),[some (Item.aW [SV.sl 1
 0] 332),some (Item.own 0 (Ty.int u16) x)]⟩)
def Cf(n:Int)(i:Int)(p:List Int):Tr (xM⊕(Rk)):=(.ite (decide (i<n)) (.need (0≤i∧i<(↑p.length:Int))
 (.ret (.inl (n,i64.wrap (i+1),p.set i.toNat 1024)))) (.ret (.inr (p))))
theorem Rl(b:Int)(n:Int)(i:Int)(p:List Int):cO Tryz.prog [] [] f181 0 ((ag).wr (())) af6 (Ce.wr (n,i,p))=(Cf n i p).res Ce.wr af7:=by kernel_rfl
abbrev Cg(n:Int)(i:Int)(p:List Int):Prop:=i=0∧p=List.replicate p.length 0∧p.length<1000000∧n=p.length
abbrev Rm(n:Int)(i:Int)(p:List Int):Rk:=List.replicate p.length 1024
abbrev Rn:xM→aK:=eB (fun x_=>Cg x_.1 x_.2.1 x_.2.2) (fun x_=>Rm x_.1 x_.2.1 x_.2.2) af7
theorem af8(n:Int)(i:Int)(p:List Int)(h_:Cg n i p):cX (fun x_:xM=>Cf x_.1 x_.2.1 x_.2.2) (n,i,p) (Rm n i p):=by
 delta Rm;obtain⟨rfl,h1,h2,rfl⟩:=h_;generalize hm:p.length=m at*;subst h1;have hl:∀k,k≤m→(List.replicate k (1024:Int)++List.replicate (m-k) 0).length=m:=fun k hk=>by simp;omega
 have key:=cX.iter (L:=fun x_:xM=>Cf x_.1 x_.2.1 x_.2.2) (z:=List.replicate m 1024) (fun k=>((m:Int),(k:Int),List.replicate k 1024++List.replicate (m-k) 0)) m (fun k hk=>?_) ?_
 ·exact key
 ·simp only[Cf,aP,aq,au,hl k (by omega)];refine⟨fun _=>⟨by omega,?_⟩,fun h=>by omega⟩;rw[ao (by omega) (by omega),Int.toNat_natCast,List.set_append_right _ _ (by simp),List.length_replicate,Nat.sub_self,show m-k=(m-(k+1))+1 from by omega,List.replicate_succ,List.set_cons_zero,List.replicate_succ' (n:=k),List.append_assoc];rfl
 ·simp only[Cf,aP,aq,au,hl m (by omega),Nat.sub_self,List.replicate_zero,List.append_nil];exact⟨fun h=>by omega,fun _=>trivial⟩
theorem Z7(b:Int):∀x:xM,Ex Tryz.prog ((ag).wr (())) (.loop (aO f181 0)) (Ce.wr x) (Rn x):=
 cy mixed ax (ws:=af6) (aH.nil _) (fun x_=>Rl b x_.1 x_.2.1 x_.2.2) (fun z e=>by cases e) eV (fun x_ h=>af8 x_.1 x_.2.1 x_.2.2 h)
def cI(k:Nat):List Int:=List.replicate (2 ^ k) 1024
def mP(b:Int):Int:=if 1<if 8<b then 8 else b then if 8<b then 8 else b else 1
abbrev Wy:Type:=List Int
abbrev asQ(x:Wy):LV:=LV.one (VV.sc (SV.ptr 0 0))
abbrev asR(x:Wy):List (Nat×Ev.Item):= [(0,Item.aW [SV.sl 1 0] 332),(1,Item.own 0 (Ty.int u16) x)]
def af9(b:Int):Tr (Wy):=(.need (0≤mP b) (.need (shl i64 1 (mP b)=shl i64 1 (mP b)∧0≤shl
 i64 1 (mP b)∧2*shl i64 1 (mP b)≤70368744177664∧shl i64 1 (mP b)≤70368744177664) (.need (Cg
 (↑(List.replicate (shl i64 1 (mP b)).toNat (0:Int)).length:Int) 0 (List.replicate (shl i64 1 (mP b)).toNat (0:Int)))
 (.ret (List.replicate (List.replicate (shl i64 1 (mP b)).toNat (0:Int)).length (1024:Int))))))
theorem Z8(b:Int):aG Tryz.prog [] [(0,bZ Ce ((ag).wr (())) Rj (Rn))] f181 ((inA).wr (b,())) ((ag).wr (())) [.fr [.sym],.syms,.auto,.aE]=(af9 b).end asQ asR ((ag).wr (())):=by kernel_rfl
theorem aga(b:Int):aH Tryz.prog ((ag).wr (())) [(0,bZ Ce ((ag).wr (())) Rj (Rn))] (aF f181):=(aH.bK (js (by kernel_rfl) (bP (hp:=(ag).wr (())) (Z7 b)) jt))
abbrev u4(b:Int):Prop:=1≤b∧b≤8
abbrev agb(b:Int):Wy:=cI b.toNat
def asS:an:=cv [] (inA) (ag) (fun x_ y_=>u4 x_.1) (fun x_ y_=>agb x_.1) asQ asR
theorem aoA(b:Int)(h_:u4 b):(af9 b).Is (agb b):=by
 delta agb;obtain⟨h1,h2⟩:=h_
 have e0:(if 1<if 8<b then 8 else b then if 8<b then 8 else b else 1)=b:=by
  rw[if_neg (by omega:¬ 8<b)];split<;>omega
 obtain⟨k,rfl⟩:∃k:Nat,b=k:=⟨b.toNat,by omega⟩;have h3:(2:Nat) ^ k≤256:=Nat.le_trans (Nat.pow_le_pow_right (by omega) (show k≤8 by omega)) (by decide);have e3:shl .i64 1 (k:Int)=((2 ^ k:Nat):Int):=mg k (by omega);simp only[af9,mP,aq,au,e0,e3,cI,Int.toNat_natCast,List.length_replicate];generalize (2:Nat) ^ k=m at*;exact⟨by omega,⟨trivial,by omega,by omega,by omega⟩,⟨rfl,by rw[List.length_replicate],by rw[List.length_replicate];omega,by rw[List.length_replicate]⟩,trivial⟩
theorem aoB:asS.Ok Tryz.prog 181:=
 br mixed ax func181 (by kernel_rfl) call181 (fun x_ y_=>aga x_.1) (fun x_ y_=>Z8 x_.1) (fun x_ y_ h=>aoA x_.1 h)
abbrev jT(i:Nat):aM Ev.Item Unit:=mN 332 (ai (ke i 0) ag)
abbrev zN:Type:=(List Int)×Int×(List Int)×(List Int)×(List Int)
abbrev Wz(x:zN):LV:=LV.one (VV.agg [SV.arr (Ty.int i64) 2 x.1,SV.int i64 (SI.sym x.2.1),SV.ptr 0 0,
 SV.ptr 2 0,SV.ptr 4 0])
abbrev WA(x:zN):List (Nat×Ev.Item):= [(0,Item.aW [SV.sl 1 0] 332),(1,Item.own 0 (Ty.int u16) x.2.2.1),(2,
 Item.aW [SV.sl 3 0] 332),(3,Item.own 0 (Ty.int u16) x.2.2.2.1),(4,Item.aW [SV.sl 5 0] 332),(5,Item.own 0 (Ty.int u16)
 x.2.2.2.2)]
def WB:Tr (zN):=(.need (u4 8) (.need (u4 8) (.need (u4 6) (.ret ([1024,1024],0,cI 8,cI 8,cI
 6)))))
theorem Mc:aG Tryz.prog [(181,asS)] [] f126 ((ag).wr (())) ((ag).wr (())) [.fr [.sym],.syms,.auto,.aE,.gK 0 0 2 .i64]=(WB).end Wz WA ((ag).wr (())):=by kernel_rfl
theorem Ro:aH Tryz.prog ((ag).wr (())) [] (aF f126):=(aH.nil _)
abbrev rH:Prop:=True
abbrev HZ:zN:=([1024,1024],0,cI 8,cI 8,cI 6)
def zO:an:=cv [] (ag) (ag) (fun _ _=>rH) (fun _ _=>HZ) Wz WA
theorem Z9(h_:rH):(WB).Is (HZ):=by
 delta HZ;exact⟨⟨by decide,by decide⟩,⟨by decide,by decide⟩,⟨by decide,by decide⟩,rfl⟩
theorem xN:zO.Ok Tryz.prog 126:=
 br mixed ((aj aoB ax)) func126 (by kernel_rfl) call126 (fun x_ y_=>Ro) (fun x_ y_=>Mc) (fun x_ y_ h=>Z9 h)
abbrev jSt(a b c:Nat):aM Ev.Item (List Int×Int):=(mN 196 (ae (so (.int .i64) 2) (ae (aA .i64) (ai (aC a 0) (ai (aC b 0) (ai (aC c 0) ag)))))).kE (fun x=>(x.1,x.2.1)) (fun y=>(y.1,y.2,())) (fun _=>rfl)
abbrev aE3:aM Ev.Item Int:=(mN 249 (ai (ke 8 0) (ae (aA .u64) ag))).kE (fun x=>x.1) (fun w=>(w,())) (fun _=>rfl)
abbrev Rp:=jSt 1 3 5
abbrev jT2:=jT 2
abbrev jT4:=jT 4
abbrev jT6:=jT 6
abbrev H0:aM Hp ((List Int×Int)×List Int×List Int×List Int×Int×List Int×Unit):=
 ae (bp (jSt 1 3 5)) (ai (bp (jT 2)) (ae (bS 0 (.int .u16)) (ai (bp (jT 4)) (ae (bS 0 (.int .u16)) (ai (bp (jT 6)) (ae (bS 0 (.int .u16)) (ae (bp aE3) (ae (bS 0 u8) ag))))))))
abbrev Ch:Type:=Int×Int×(List Int×Int)×(List Int)×(List Int)×(List Int)×Int×(List Int)
abbrev Ci:aM St Ch:=(aS (jk 1 (ai (ah (aC (7) (0))) (jk 5 (ae (ah (aA i64)) (ae (ah (aA
 i64)) (jk 68 ag)))))) (ae (bp Rp) (ai (dH (332) ((ai (ke (2) (1)) ag))) (ae (bS (1) (Ty.int u16)) (ai
 (dH (332) ((ai (ke (4) (1)) ag))) (ae (bS (1) (Ty.int u16)) (ai (dH (332) ((ai (ke (6) (1)) ag))) (ae (bS (1)
 (Ty.int u16)) (ae (dH (249) ((ai (ke (8) (1)) (ae (aA u64) ag)))) (ae (bS (1) (Ty.int IntKind.u8))
 ag)))))))))).kE (fun y=>(y.1.1,y.1.2.1,y.2.1,y.2.2.1,y.2.2.2.1,y.2.2.2.2.1,y.2.2.2.2.2.1.1,y.2.2.2.2.2.2.1)) (fun x=>((x.1,(x.2.1,())),
 (x.2.2.1,(x.2.2.2.1,(x.2.2.2.2.1,(x.2.2.2.2.2.1,((x.2.2.2.2.2.2.1,()),(x.2.2.2.2.2.2.2,())))))))) (fun _=>rfl)
abbrev Rq:List Wk:= [.one 2,.one 4,.one 6,.one 8,.fr (cu 77 [(1,.al),(7,.al),(8,.al)]),.syms,.auto,.aE]
abbrev agc:Exit→List Wk:=xz Rq 0 [.one 2,.one 4,.one 6,.one 8,.fr (cu 77 []),.syms,.auto,.aE] [.one 2,.one 4,.one 6,.one 8,
 .fr (cu 77 []),.syms,.auto,.aE]
abbrev Rr:Type:=(List Int×Int)×(List Int)×(List Int)×(List Int)×Int×(List Int)
abbrev agd(x:Rr):Exit×St:=(Exit.exit 0,⟨(iE 77 []),[some (Rp.wr x.1),some (Item.aW [SV.sl 2 1] 332),some
 (Item.own 1 (Ty.int u16) x.2.1),some (Item.aW [SV.sl 4 1] 332),some (Item.own 1 (Ty.int u16) x.2.2.1),some (Item.aW [SV.sl 6 1]
 332),some (Item.own 1 (Ty.int u16) x.2.2.2.1),some (Item.aW [SV.sl 8 1,SV.int u64 (SI.sym x.2.2.2.2.1)] 249),some (Item.own 1
 (Ty.int IntKind.u8) x.2.2.2.2.2)]⟩)
def H2(d:Int)(i:Int)(s':List Int×Int)(q1:List Int)(q2:List Int)(q3:List Int)(w':Int)(l':List Int):Tr
 (Ch⊕(Rr)):=(.ite (decide (0≤i)) (.need (0≤i) (.need (BD (aI i64 (shr i64 d i) 1) w' l') (.ret (.inl (d,
 i64.wrap (i-1),s',q1,q2,q3,(fD (aI i64 (shr i64 d i) 1) w' l').fst,(fD (aI i64 (shr i64
 d i) 1) w' l').snd))))) (.ret (.inr (s',q1,q2,q3,w',l'))))
theorem Rs(t:cY)(s:List Int×Int)(p1:List Int)(p2:List Int)(p3:List Int)(w:Int)(l:List Int)(d:Int)(i:Int)(s':List Int×Int)(q1:List Int)(q2:List Int)(q3:List Int)(w':Int)(l':List Int):cO Tryz.prog [(182,Ly),(184,QB),(183,QK)] [] f127 0 ((H0).wr (s,p1,p2,p3,w,l,())) agc (Ci.wr (d,i,s',q1,q2,q3,w',l'))=(H2 d i s' q1 q2 q3 w' l').res Ci.wr agd:=by kernel_rfl
def eI:Nat→Int→Int→List Int→Int×List Int
 |0,_,w,l=>(w,l)
 |k+1,d,w,l=>eI k d (fD (d/2 ^ k%2) w l).1 (fD (d/2 ^ k%2) w l).2
abbrev Cj(d:Int)(i:Int)(s':List Int×Int)(q1:List Int)(q2:List Int)(q3:List Int)(w':Int)(l':List Int):Prop:=w9 w' l'∧0≤d∧ -1≤i∧i≤5∧l'.length<1099511000000
abbrev Rt(d:Int)(i:Int)(s':List Int×Int)(q1:List Int)(q2:List Int)(q3:List Int)(w':Int)(l':List Int):Rr:=(s',q1,q2,q3,(eI (i+1).toNat d w' l').1,(eI (i+1).toNat d w' l').2)
abbrev Ru:Ch→aK:=eB (fun x_=>Cj x_.1 x_.2.1 x_.2.2.1 x_.2.2.2.1 x_.2.2.2.2.1 x_.2.2.2.2.2.1 x_.2.2.2.2.2.2.1 x_.2.2.2.2.2.2.2) (fun x_=>Rt x_.1 x_.2.1 x_.2.2.1 x_.2.2.2.1 x_.2.2.2.2.1 x_.2.2.2.2.2.1 x_.2.2.2.2.2.2.1 x_.2.2.2.2.2.2.2) agd
theorem age(d:Int)(i:Int)(s':List Int×Int)(q1:List Int)(q2:List Int)(q3:List Int)(w':Int)(l':List Int)(h_:Cj d i s' q1 q2 q3 w' l'):cX (fun x_:Ch=>H2 x_.1 x_.2.1 x_.2.2.1 x_.2.2.2.1 x_.2.2.2.2.1 x_.2.2.2.2.2.1 x_.2.2.2.2.2.2.1 x_.2.2.2.2.2.2.2) (d,i,s',q1,q2,q3,w',l') (Rt d i s' q1 q2 q3 w' l'):=by
 delta Rt;obtain⟨h1,h2,h3,h4,h5⟩:=h_;obtain⟨k,hk⟩:∃k:Nat,i=(k:Int)-1:=⟨(i+1).toNat,by omega⟩;subst hk;clear h3;rw[show((k:Int)-1+1).toNat=k from by omega];have h6:l'.length+k<1099511000010:=by omega
 clear h5
 induction k generalizing w' l' with
 |zero=>
  refine .stop ?_;simp only[H2,aP,aq,au,eI];exact⟨fun h=>by omega,fun _=>trivial⟩
 |succ k ih=>
  have hb:aI .i64 (shr .i64 d k) 1=d/2 ^ k%2:=Hm h2 k (by omega);have e2:(((k+1:Nat):Int)-1)=(k:Int):=by omega
  have hl:=xB (d/2 ^ k%2) w' l';have lA:=ih (fD (d/2 ^ k%2) w' l').1 (fD (d/2 ^ k%2) w' l').2 (xA h1 (by omega)) (by omega) (by omega);rw[e2];refine .go ?_ lA;simp only[H2,aP,aq,au,hb];refine⟨fun _=>⟨by omega,h1,?_⟩,fun h=>by omega⟩;rw[ao (by omega) (by omega)]
theorem aaa(t:cY)(s:List Int×Int)(p1:List Int)(p2:List Int)(p3:List Int)(w:Int)(l:List Int):∀x:Ch,Ex Tryz.prog ((H0).wr (s,p1,p2,p3,w,l,())) (.loop (aO f127 0)) (Ci.wr x) (Ru x):=
 cy mixed ((aj zC (aj Lz (aj LD ax)))) (ws:=agc) (aH.nil _) (fun x_=>Rs t s p1 p2 p3 w l x_.1 x_.2.1 x_.2.2.1 x_.2.2.2.1 x_.2.2.2.2.1 x_.2.2.2.2.2.1 x_.2.2.2.2.2.2.1 x_.2.2.2.2.2.2.2) (fun z e=>by cases e) eV (fun x_ h=>age x_.1 x_.2.1 x_.2.2.1 x_.2.2.2.1 x_.2.2.2.2.1 x_.2.2.2.2.2.1 x_.2.2.2.2.2.2.1 x_.2.2.2.2.2.2.2 h)
def gN(t:Int×Int×Int):Int:=if 1<t.fst then 1 else t.fst
def Ck(t:Int×Int×Int)(s:List Int×Int):List Int:=s.fst.set (0+s.snd.toNat) (cP ((List.take 2 (List.drop 0
 s.fst)).getD s.snd.toNat 0) (gN t))
def Cl(t:Int×Int×Int)(s:List Int×Int)(p1:List Int)(w:Int)(l:List Int):Int×List Int×List Int:=bc (lg
 p1) (i64.wrap t.snd.snd) 1 (bQ ((List.take 2 (List.drop 0 s.fst)).getD s.snd.toNat 0) (gN t) w l).fst (bQ ((List.take 2 (List.drop 0
 s.fst)).getD s.snd.toNat 0) (gN t) w l).snd p1
def mQ(t:Int×Int×Int)(s:List Int×Int)(p2:List Int)(w:Int)(l:List Int):Int×List Int×List Int:=bc (lg
 p2) (i64.wrap (t.fst-2)) 1 (bQ ((List.take 2 (List.drop 0 s.fst)).getD s.snd.toNat 0) (gN t) w l).fst (bQ ((List.take 2 (List.drop
 0 s.fst)).getD s.snd.toNat 0) (gN t) w l).snd p2
def mR(t:Int×Int×Int)(s:List Int×Int)(p2:List Int)(p3:List Int)(w:Int)(l:List Int):Int×List Int×List
 Int:=bc (lg p3) (shr i64 (i64.wrap (t.snd.fst-1)) 6) 1 (mQ t s p2 w l).fst (mQ t s p2 w l).snd.fst p3
def H3(t:Int×Int×Int)(s:List Int×Int)(p2:List Int)(p3:List Int)(w:Int)(l:List Int):Int×List Int:=
 eI 6 (i64.wrap (t.snd.fst-1)) (mR t s p2 p3 w l).fst (mR t s p2 p3 w l).snd.fst
abbrev WC:Type:=(List Int×Int)×(List Int)×(List Int)×(List Int)×Int×(List Int)
abbrev asT(x:WC):LV:=LV.cj []
abbrev asU(x:WC):List (Nat×Ev.Item):= [(0,Rp.wr x.1),(1,Item.aW [SV.sl 2 1] 332),(2,Item.own 1 (Ty.int
 u16) x.2.1),(3,Item.aW [SV.sl 4 1] 332),(4,Item.own 1 (Ty.int u16) x.2.2.1),(5,Item.aW [SV.sl 6 1] 332),(6,Item.own 1 (Ty.int
 u16) x.2.2.2.1),(7,Item.aW [SV.sl 8 1,SV.int u64 (SI.sym x.2.2.2.2.1)] 249),(8,Item.own 1 (Ty.int IntKind.u8) x.2.2.2.2.2)]
def agf(t:Int×Int×Int)(s:List Int×Int)(p1:List Int)(p2:List Int)(p3:List Int)(w:Int)(l:List Int):Tr
 (WC):=(.need (0≤s.snd∧s.snd<2) (.need (zB ((List.take 2 (List.drop 0 s.fst)).getD s.snd.toNat 0) (gN t) w l) (.need (0≤s.snd∧
 s.snd<2) (.ite (gN t==0) (.need (qg (i64.wrap t.snd.snd) (bQ ((List.take 2 (List.drop 0 s.fst)).getD s.snd.toNat 0) (gN t)
 w l).fst (bQ ((List.take 2 (List.drop 0 s.fst)).getD s.snd.toNat 0) (gN t) w l).snd p1) (.ret ((Ck t s,gN t),(Cl t s p1 w
 l).snd.snd,p2,p3,(Cl t s p1 w l).fst,(Cl t s p1 w l).snd.fst))) (.need (qg (i64.wrap (t.fst-2)) (bQ ((List.take 2
 (List.drop 0 s.fst)).getD s.snd.toNat 0) (gN t) w l).fst (bQ ((List.take 2 (List.drop 0 s.fst)).getD s.snd.toNat 0) (gN t) w l).snd p2)
 (.need (qg (shr i64 (i64.wrap (t.snd.fst-1)) 6) (mQ t s p2 w l).fst (mQ t s p2 w l).snd.fst p3) (.need (Cj
 (i64.wrap (t.snd.fst-1)) 5 (Ck t s,gN t) p1 (mQ t s p2 w l).snd.snd (mR t s p2 p3 w l).snd.snd (mR t s p2 p3 w l).fst
 (mR t s p2 p3 w l).snd.fst) (.ret ((Ck t s,gN t),p1,(mQ t s p2 w l).snd.snd,(mR t s p2 p3 w l).snd.snd,(H3 t s p2 p3 w
 l).fst,(H3 t s p2 p3 w l).snd)))))))))
theorem aab(t:cY)(s:List Int×Int)(p1:List Int)(p2:List Int)(p3:List Int)(w:Int)(l:List Int):aG Tryz.prog [(182,Ly),(184,QB),(183,QK)] [(0,bZ Ci ((H0).wr (s,p1,p2,p3,w,l,())) Rq (Ru))] f127 (((ai (ah (aC 0 0)) (ai (ah (aC 7 0)) (ae ZX ag)))).wr (t,())) ((H0).wr (s,p1,p2,p3,w,l,())) [.one 2,.one 4,.one 6,.one 8,.fr [.sym],.syms,.auto,.aE]=(agf t s p1 p2 p3 w l).end asT asU ((H0).wr (s,p1,p2,p3,w,l,())):=by kernel_rfl
theorem agh(t:cY)(s:List Int×Int)(p1:List Int)(p2:List Int)(p3:List Int)(w:Int)(l:List Int):aH Tryz.prog ((H0).wr (s,p1,p2,p3,w,l,())) [(0,bZ Ci ((H0).wr (s,p1,p2,p3,w,l,())) Rq (Ru))] (aF f127):=(aH.bK (js (by kernel_rfl) (bP (hp:=(H0).wr (s,p1,p2,p3,w,l,())) (aaa t s p1 p2 p3 w l)) jt))
def pE(t:cY)(s:List Int×Int)(p1 p2 p3:List Int)(w:Int)(l:List Int):(List Int×Int)×List Int×List Int×List Int×Int×List Int:=
 let c:=bQ (s.1.getD s.2.toNat 0) (if t.1=0 then 0 else 1) w l
 let s':=(s.1.set s.2.toNat (cP (s.1.getD s.2.toNat 0) (if t.1=0 then 0 else 1)),(if t.1=0 then 0 else 1))
 if t.1=0 then
  let r:=bc (lg p1) t.2.2 1 c.1 c.2 p1
  (s',r.2.2,p2,p3,r.1,r.2.1)
 else
  let r:=bc (lg p2) (t.1-2) 1 c.1 c.2 p2
  let r2:=bc (lg p3) ((t.2.1-1)/64) 1 r.1 r.2.1 p3
  let h:=eI 6 (t.2.1-1) r2.1 r2.2.1
  (s',p1,r.2.2,r2.2.2,h.1,h.2)
theorem ki:∀ (k:Nat) (v node w:Int) (l p:List Int),w9 w l→l.length+k<1099511627775→w9 (bc k v node w l p).1 (bc k v node w l p).2.1∧(bc k v node w l p).2.1.length≤l.length+k
 |0,_,_,_,_,_,h,_=>⟨h,by simp[bc]⟩
 |k+1,v,node,w,l,p,h,hl=>by
  have h1:=nA (ef p node) (v/2 ^ k%2) w l;have h2:=nz (p:=ef p node) (b:=v/2 ^ k%2) h (by omega);have:=ki k v (2*node+v/2 ^ k%2) _ _ (b8 p node (v/2 ^ k%2)) h2 (by omega);rw[bc];exact⟨this.1,by have:=this.2;omega⟩
theorem u5:∀ (k:Nat) (v node w:Int) (l p:List Int),PE p→PE (bc k v node w l p).2.2∧lg (bc k v node w l p).2.2=lg p
 |0,_,_,_,_,_,h=>⟨h,rfl⟩
 |k+1,v,node,w,l,p,h=>by
  have:=u5 k v (2*node+v/2 ^ k%2) (bQ (ef p node) (v/2 ^ k%2) w l).1 (bQ (ef p node) (v/2 ^ k%2) w l).2 _ (BF h node (v/2 ^ k%2));rw[mh]at this;exact this
theorem Cm:∀ (k:Nat) (d w:Int) (l:List Int),w9 w l→l.length+k<1099511627775→w9 (eI k d w l).1 (eI k d w l).2∧(eI k d w l).2.length≤l.length+k
 |0,_,_,_,h,_=>⟨h,by simp[eI]⟩
 |k+1,d,w,l,h,hl=>by
  have h1:=xB (d/2 ^ k%2) w l;have:=Cm k d _ _ (xA (b:=d/2 ^ k%2) h (by omega)) (by omega);rw[eI];exact⟨this.1,by have:=this.2;omega⟩
structure SOk (s:List Int×Int) (p1 p2 p3:List Int):Prop where
 len:s.1.length=2
 bh:s.2=0∨s.2=1
 t1:PE p1
 l1:lg p1=8
 t2:PE p2
 l2:lg p2=8
 t3:PE p3
 l3:lg p3=6
def agi(t:cY):Prop:=(t.1=0∧0≤t.2.2∧t.2.2<256)∨(2≤t.1∧t.1≤257∧1≤t.2.1∧t.2.1≤4096)
abbrev H4(t:cY)(s:List Int×Int)(p1:List Int)(p2:List Int)(p3:List Int)(w:Int)(l:List Int):Prop:=SOk s p1 p2 p3∧w9 w l∧agi t∧l.length<1099500000000
abbrev agj(t:cY)(s:List Int×Int)(p1:List Int)(p2:List Int)(p3:List Int)(w:Int)(l:List Int):WC:=pE t s p1 p2 p3 w l
def agk:an:=cv [] ((ai (ah (aC 0 0)) (ai (ah (aC 7 0)) (ae ZX ag)))) (H0) (fun x_ y_=>H4 x_.1 y_.1 y_.2.1 y_.2.2.1 y_.2.2.2.1 y_.2.2.2.2.1 y_.2.2.2.2.2.1) (fun x_ y_=>agj x_.1 y_.1 y_.2.1 y_.2.2.1 y_.2.2.2.1 y_.2.2.2.2.1 y_.2.2.2.2.2.1) asT asU
theorem aoC(t:cY)(s:List Int×Int)(p1:List Int)(p2:List Int)(p3:List Int)(w:Int)(l:List Int)(h_:H4 t s p1 p2 p3 w l):(agf t s p1 p2 p3 w l).Is (agj t s p1 p2 p3 w l):=by
 delta agj;obtain⟨hs,hc,ht,hl⟩:=h_
 have e0:gN t=if t.1=0 then 0 else 1:=by
  unfold gN;rcases ht with⟨h,_⟩|⟨h,_⟩
  ·rw[if_pos h,if_neg (by omega),h]
  ·rw[if_neg (show ¬t.1=0 by omega),if_pos (by omega)]
 have e1:(List.take 2 (List.drop 0 s.1)).getD s.2.toNat 0=s.1.getD s.2.toNat 0:=by rw[List.drop_zero,List.take_of_length_le (by rw[hs.len];exact Nat.le_refl _)]
 have hb:0≤s.2∧s.2<2:=by have:=hs.bh;omega
 have h1:=nz (p:=s.1.getD s.2.toNat 0) (b:=if t.1=0 then 0 else 1) hc (by omega);have h2:=nA (s.1.getD s.2.toNat 0) (if t.1=0 then 0 else 1) w l
 have zk:Ck t s=s.1.set s.2.toNat (cP (s.1.getD s.2.toNat 0) (if t.1=0 then 0 else 1)):=by
  unfold Ck;rw[e0,e1,Nat.zero_add]
 have p8:(2:Int) ^ 8=256:=by decide
 have p6:(2:Int) ^ 6=64:=by decide
 simp only[agf,aq,au,eA,e0,e1,zk];refine⟨hb,hc,hb,fun e=>?_,fun e=>?_⟩
 ·have e:t.1=0:=Classical.byContradiction fun h=>by rw[if_neg h]at e;omega
  have ht:0≤t.2.2∧t.2.2<256:=by rcases ht with⟨_,h⟩|⟨h,_⟩<;>omega
  have e2:i64.wrap t.2.2=t.2.2:=ao (by omega) (by omega)
  have WD:Cl t s p1 w l=bc (lg p1) t.2.2 1 (bQ (s.1.getD s.2.toNat 0) 0 w l).1 (bQ (s.1.getD s.2.toNat 0) 0 w l).2 p1:=by
   unfold Cl;rw[e0,e1,e2,if_pos e]
  simp only[pE,if_pos e]at h1 h2 ⊢;rw[e2,WD];exact⟨⟨hs.t1,h1,ht.1,by rw[hs.l1,p8];exact ht.2,by rw[hs.l1];omega,by omega⟩,rfl⟩
 ·have e:¬t.1=0:=fun h=>by rw[if_pos h]at e;omega
  have ht:2≤t.1∧t.1≤257∧1≤t.2.1∧t.2.1≤4096:=by rcases ht with⟨h,_⟩|h<;>omega
  have e2:i64.wrap (t.1-2)=t.1-2:=ao (by omega) (by omega);have e3:i64.wrap (t.2.1-1)=t.2.1-1:=ao (by omega) (by omega);have e4:shr .i64 (t.2.1-1) 6=(t.2.1-1)/64:=c9 .i64 _ 6 (by decide)
  have ea3:mQ t s p2 w l=bc (lg p2) (t.1-2) 1 (bQ (s.1.getD s.2.toNat 0) 1 w l).1 (bQ (s.1.getD s.2.toNat 0) 1 w l).2 p2:=by
   unfold mQ;rw[e0,e1,e2,if_neg e]
  have ea4:mR t s p2 p3 w l=bc (lg p3) ((t.2.1-1)/64) 1 (mQ t s p2 w l).1 (mQ t s p2 w l).2.1 p3:=by
   unfold mR;rw[e3,e4]
  have ea5:H3 t s p2 p3 w l=eI 6 (t.2.1-1) (mR t s p2 p3 w l).1 (mR t s p2 p3 w l).2.1:=by
   unfold H3;rw[e3]
  simp only[pE,if_neg e]at h1 h2 ⊢;rw[e2,e3,e4];have h3:=ki (lg p2) (t.1-2) 1 _ _ p2 h1 (by rw[hs.l2];omega);rw[← ea3]at h3;have h4:=ki (lg p3) ((t.2.1-1)/64) 1 _ _ p3 h3.1 (by rw[hs.l2]at h3;rw[hs.l3];omega);rw[← ea4]at h4;have k3:=h3.2;have k4:=h4.2;rw[hs.l2]at k3;rw[hs.l3]at k4;refine⟨⟨hs.t2,h1,by omega,by rw[hs.l2,p8];omega,by rw[hs.l2];omega,by omega⟩,⟨hs.t3,h3.1,by omega,by rw[hs.l3,p6];omega,by rw[hs.l3];omega,by omega⟩,⟨h4.1,by omega,by omega,by omega,by omega⟩,?_⟩;rw[ea5,ea4,ea3]
theorem WE:agk.Ok Tryz.prog 127:=
 br mixed ((aj zC (aj Lz (aj LD ax)))) func127 (by kernel_rfl) call127 (fun x_ y_=>agh x_.1 y_.1 y_.2.1 y_.2.2.1 y_.2.2.2.1 y_.2.2.2.2.1 y_.2.2.2.2.2.1) (fun x_ y_=>aab x_.1 y_.1 y_.2.1 y_.2.2.1 y_.2.2.2.1 y_.2.2.2.2.1 y_.2.2.2.2.2.1) (fun x_ y_ h=>aoC x_.1 y_.1 y_.2.1 y_.2.2.1 y_.2.2.2.1 y_.2.2.2.2.1 y_.2.2.2.2.2.1 h)
theorem Rv{t:cY}{s:List Int×Int}{p1 p2 p3:List Int}{w:Int}{l:List Int}(hs:SOk s p1 p2 p3)(hc:w9 w l)(hl:l.length<1099500000000):
  let r:=pE t s p1 p2 p3 w l
  SOk r.1 r.2.1 r.2.2.1 r.2.2.2.1∧w9 r.2.2.2.2.1 r.2.2.2.2.2∧r.2.2.2.2.2.length≤l.length+21:=by
 have h1:=nz (p:=s.1.getD s.2.toNat 0) (b:=if t.1=0 then 0 else 1) hc (by omega);have h2:=nA (s.1.getD s.2.toNat 0) (if t.1=0 then 0 else 1) w l;unfold pE
 split
 ·rename_i e;simp only[if_pos e]at h1 h2 ⊢;obtain⟨h3,h4⟩:=ki (lg p1) t.2.2 1 _ _ p1 h1 (by rw[hs.l1];omega);obtain⟨h5,h6⟩:=u5 (lg p1) t.2.2 1 (bQ (s.1.getD s.2.toNat 0) 0 w l).1 (bQ (s.1.getD s.2.toNat 0) 0 w l).2 p1 hs.t1;rw[hs.l1]at h3 h4 h5 h6 ⊢;exact⟨⟨by simp[hs.len],.inl rfl,h5,h6,hs.t2,hs.l2,hs.t3,hs.l3⟩,h3,by omega⟩
 ·rename_i e;simp only[if_neg e]at h1 h2 ⊢;obtain⟨h3,h4⟩:=ki (lg p2) (t.1-2) 1 _ _ p2 h1 (by rw[hs.l2];omega);obtain⟨h5,h6⟩:=u5 (lg p2) (t.1-2) 1 (bQ (s.1.getD s.2.toNat 0) 1 w l).1 (bQ (s.1.getD s.2.toNat 0) 1 w l).2 p2 hs.t2;rw[hs.l2]at h3 h4 h5 h6 ⊢;generalize bc 8 (t.1-2) 1 (bQ (s.1.getD s.2.toNat 0) 1 w l).1 (bQ (s.1.getD s.2.toNat 0) 1 w l).2 p2=r at*;obtain⟨k3,k4⟩:=ki (lg p3) ((t.2.1-1)/64) 1 _ _ p3 h3 (by rw[hs.l3];omega);obtain⟨k5,k6⟩:=u5 (lg p3) ((t.2.1-1)/64) 1 r.1 r.2.1 p3 hs.t3;rw[hs.l3]at k3 k4 k5 k6 ⊢;generalize bc 6 ((t.2.1-1)/64) 1 r.1 r.2.1 p3=r2 at*;obtain⟨m3,m4⟩:=Cm 6 (t.2.1-1) _ _ k3 (by omega);exact⟨⟨by simp[hs.len],.inr rfl,hs.t1,hs.l1,h5,h6,k5,k6⟩,m3,by omega⟩
def iI:List cY→(List Int×Int)→List Int→List Int→List Int→Int→List Int→Int×List Int
 | [],_,_,_,_,w,l=>(w,l)
 |t::r,s,p1,p2,p3,w,l=>
  let x:=pE t s p1 p2 p3 w l
  iI r x.1 x.2.1 x.2.2.1 x.2.2.2.1 x.2.2.2.2.1 x.2.2.2.2.2
def sH(l:List cY):Prop:=∀t∈l,0≤t.2.2∧t.2.2<256
theorem H5{t:cY}{made:Int}(h:k8 t made=true)(hb:0≤t.2.2∧t.2.2<256):agi t:=by
 unfold k8 at h
 split at h
 ·rename_i e;exact .inl ⟨e,hb⟩
 ·have:=of_decide_eq_true h;exact .inr ⟨this.2.1,this.2.2.1,this.2.2.2.1,this.2.2.2.2.1⟩
abbrev u6:Type:=(List (Int×Int×Int))×Int×Int×Int×(List Int)×(List Int)×Int×(List Int)×(List Int)×(List Int)
abbrev u7:aM St u6:=(aS (jk 3 (ai (ah (aC (0) (0))) (ai (ah (aC (2) (0))) (jk 7 (ae (ah (fh false
 false ((Ty.int i64).pair ((Ty.int i64).pair (Ty.int IntKind.u8))))) (ae (ah (aA i64)) (ae (ah (aA i64))
 (jk 9 ag)))))))) (ae (dH (249) ((ai (ke (1) (0)) (ae (aA u64) ag)))) (ae (bS (0) (Ty.int IntKind.u8)) (ae (dH (196)
 ((ae (so (Ty.int i64) (2)) (ae (aA i64) (ai (aC (3) (0)) (ai (aC (5) (0)) (ai (aC (7) (0)) ag))))))) (ai
 (dH (332) ((ai (ke (4) (0)) ag))) (ae (bS (0) (Ty.int u16)) (ai (dH (332) ((ai (ke (6) (0)) ag))) (ae (bS (0)
 (Ty.int u16)) (ai (dH (332) ((ai (ke (8) (0)) ag))) (ae (bS (0) (Ty.int u16)) ag)))))))))).kE (fun y=>(y.1.1,
 y.1.2.1,y.1.2.2.1,y.2.1.1,y.2.2.1,y.2.2.2.1.1,y.2.2.2.1.2.1,y.2.2.2.2.1,y.2.2.2.2.2.1,y.2.2.2.2.2.2.1)) (fun x=>((x.1,(x.2.1,(x.2.2.1,
 ()))),((x.2.2.2.1,()),(x.2.2.2.2.1,((x.2.2.2.2.2.1,(x.2.2.2.2.2.2.1,())),(x.2.2.2.2.2.2.2.1,(x.2.2.2.2.2.2.2.2.1,(x.2.2.2.2.2.2.2.2.2,
 ())))))))) (fun _=>rfl)
abbrev H6:List Wk:= [.fr (cu 24 [(3,.al),(4,.al),(12,.al),(13,.al),(14,.al)]),.syms,.auto,.aE,.eG 2 0 2 .i64]
abbrev WG:Exit→List Wk:=xz H6 0 [.fr (cu 24 [(3,.al)]),.syms,.auto,.aE,.eG 2 0 2 .i64] [.fr (cu 24 [(2,.al)]),.syms,
 .auto,.aE,.eG 2 0 2 .i64]
def iT(l':List (Int×Int×Int))(i:Int):Int×Int×Int:=l'.getD i.toNat (0,0,0)
abbrev H7:Type:=Int×(List Int)
abbrev WH(x:H7):Exit×St:=(Exit.exit 0,⟨(iE 3 (LV.one (VV.sc (SV.ptr 0 0))::(iE 20 []))),[some (Item.aW [SV.sl 1
 0,SV.int u64 (SI.sym x.1)] 249),some (Item.own 0 (Ty.int IntKind.u8) x.2)]⟩)
def zP(l':List (Int×Int×Int))(n:Int)(i:Int)(w:Int)(o:List Int)(cs:List Int)(bh:Int)(p1:List Int)(p2:
 List Int) (p3:List Int):Tr (u6⊕(H7)):=(.ite (decide (i<n)) (.need (0≤i∧i<(↑l'.length:Int)) (.need (H4 (iT l' i)
 (cs,bh) p1 p2 p3 w o) (.ret (.inl (l',n,i64.wrap (i+1),(pE (iT l' i) (cs,bh) p1 p2 p3 w o).snd.snd.snd.snd.fst,(pE (iT
 l' i) (cs,bh) p1 p2 p3 w o).snd.snd.snd.snd.snd,(pE (iT l' i) (cs,bh) p1 p2 p3 w o).fst.fst,(pE (iT l' i) (cs,bh) p1 p2 p3 w
 o).fst.snd,(pE (iT l' i) (cs,bh) p1 p2 p3 w o).snd.fst,(pE (iT l' i) (cs,bh) p1 p2 p3 w o).snd.snd.fst,(pE (iT l' i) (cs,
 bh) p1 p2 p3 w o).snd.snd.snd.fst))))) (.ret (.inr (w,o))))
theorem Md(l:List cY)(l':List (Int×Int×Int))(n:Int)(i:Int)(w:Int)(o:List Int)(cs:List Int)(bh:Int)(p1:List Int)(p2:List Int)(p3:List Int):cO Tryz.prog [(124,rF),(125,afp),(126,zO),(127,agk)] [] f74 0 ((ag).wr (())) WG (u7.wr (l',n,i,w,o,cs,bh,p1,p2,p3))=(zP l' n i w o cs bh p1 p2 p3).res u7.wr WH:=by kernel_rfl
abbrev xO(l':List (Int×Int×Int))(n:Int)(i:Int)(w:Int)(o:List Int)(cs:List Int)(bh:Int)(p1:List Int)(p2:List Int)(p3:List Int):Prop:=n=l'.length∧0≤i∧i≤n∧(∃made,bq made (l'.drop i.toNat)=true)∧sH l'∧SOk (cs,bh) p1 p2 p3∧w9 w o∧o.length+21*(n-i)<1099500000000∧n<1099500000000
abbrev H8(l':List (Int×Int×Int))(n:Int)(i:Int)(w:Int)(o:List Int)(cs:List Int)(bh:Int)(p1:List Int)(p2:List Int)(p3:List Int):H7:=iI (l'.drop i.toNat) (cs,bh) p1 p2 p3 w o
abbrev H9:u6→aK:=eB (fun x_=>xO x_.1 x_.2.1 x_.2.2.1 x_.2.2.2.1 x_.2.2.2.2.1 x_.2.2.2.2.2.1 x_.2.2.2.2.2.2.1 x_.2.2.2.2.2.2.2.1 x_.2.2.2.2.2.2.2.2.1 x_.2.2.2.2.2.2.2.2.2) (fun x_=>H8 x_.1 x_.2.1 x_.2.2.1 x_.2.2.2.1 x_.2.2.2.2.1 x_.2.2.2.2.2.1 x_.2.2.2.2.2.2.1 x_.2.2.2.2.2.2.2.1 x_.2.2.2.2.2.2.2.2.1 x_.2.2.2.2.2.2.2.2.2) WH
theorem aad(l':List (Int×Int×Int))(n:Int)(i:Int)(w:Int)(o:List Int)(cs:List Int)(bh:Int)(p1:List Int)(p2:List Int)(p3:List Int)(h_:xO l' n i w o cs bh p1 p2 p3):cX (fun x_:u6=>zP x_.1 x_.2.1 x_.2.2.1 x_.2.2.2.1 x_.2.2.2.2.1 x_.2.2.2.2.2.1 x_.2.2.2.2.2.2.1 x_.2.2.2.2.2.2.2.1 x_.2.2.2.2.2.2.2.2.1 x_.2.2.2.2.2.2.2.2.2) (l',n,i,w,o,cs,bh,p1,p2,p3) (H8 l' n i w o cs bh p1 p2 p3):=by
 delta H8;obtain⟨rfl,h1,h2,⟨made,h3⟩,h4,h5,h6,h7,h8⟩:=h_;obtain⟨k,rfl⟩:∃k:Nat,i=k:=⟨i.toNat,by omega⟩;rw[Int.toNat_natCast]at h3 ⊢;obtain⟨m,hm⟩:∃m,l'.length=k+m:=⟨l'.length-k,by omega⟩;clear h2
 induction m generalizing k made w o cs bh p1 p2 p3 with
 |zero=>
  refine .stop ?_;rw[List.drop_of_length_le (by omega)];simp only[zP,aP,aq,au,iI];exact⟨fun h=>by omega,fun _=>trivial⟩
 |succ m ih=>
  have hk:k<l'.length:=by omega
  rw[jZ (0,0,0) hk,bq,Bool.and_eq_true,Bool.and_eq_true]at h3;obtain⟨⟨k1,k2⟩,k3⟩:=h3;rw[jZ (0,0,0) hk,iI]
  have Ey:l'.getD k (0,0,0)∈l':=by
   rw[List.getD_eq_getElem?_getD,List.getElem?_eq_getElem hk];exact List.getElem_mem hk
  have hx:iT l' (k:Int)=l'.getD k (0,0,0):=rfl;generalize l'.getD k (0,0,0)=x at*;obtain⟨q1,q2,q3⟩:=Rv (t:=x) h5 h6 (by omega);have lA:=ih _ _ _ _ _ _ _ _ q1 q2 (k+1) (by omega) k3 (by omega) (by omega);refine .go ?_ lA;have hi:i64.wrap ((k:Int)+1)=k+1:=ao (by omega) (by omega);simp only[zP,aP,aq,au,hx,hi];exact⟨fun _=>⟨⟨by omega,by omega⟩,⟨h5,h6,H5 k1 (h4 _ Ey),by omega⟩,rfl⟩,fun h=>by omega⟩
theorem Rw(l:List cY):∀x:u6,Ex Tryz.prog ((ag).wr (())) (.loop (aO f74 0)) (u7.wr x) (H9 x):=
 cy mixed ((aj nF (aj V7 (aj xN (aj WE ax))))) (ws:=WG) (aH.nil _) (fun x_=>Md l x_.1 x_.2.1 x_.2.2.1 x_.2.2.2.1 x_.2.2.2.2.1 x_.2.2.2.2.2.1 x_.2.2.2.2.2.2.1 x_.2.2.2.2.2.2.2.1 x_.2.2.2.2.2.2.2.2.1 x_.2.2.2.2.2.2.2.2.2) (fun z e=>by cases e) eV (fun x_ h=>aad x_.1 x_.2.1 x_.2.2.1 x_.2.2.2.1 x_.2.2.2.2.1 x_.2.2.2.2.2.1 x_.2.2.2.2.2.2.1 x_.2.2.2.2.2.2.2.1 x_.2.2.2.2.2.2.2.2.1 x_.2.2.2.2.2.2.2.2.2 h)
abbrev Ia:Type:=List Int
abbrev agl(x:Ia):LV:=LV.one (VV.sc (SV.rd true false (Ty.int IntKind.u8) x))
abbrev agm(x:Ia):List (Nat×Ev.Item):= []
def agn(w:Int)(l:List Int):Tr (Ia):=(.need (l.length≤70368744177664) (.ret (l)))
theorem Rx(w:Int)(l:List Int):aG Tryz.prog [(177,af4)] [] f128 ((gM).wr (())) ((zi).wr (w,l,())) [.fr [.sym],.syms,.auto,.aE]=(agn w l).end agl agm ((zi).wr (w,l,())):=by kernel_rfl
theorem aae(w:Int)(l:List Int):aH Tryz.prog ((zi).wr (w,l,())) [] (aF f128):=(aH.nil _)
abbrev Cn(w:Int)(l:List Int):Prop:=l.length<1099511627776
abbrev Ry(w:Int)(l:List Int):Ia:=l
def ago:an:=cv [] (gM) (zi) (fun x_ y_=>Cn y_.1 y_.2.1) (fun x_ y_=>Ry y_.1 y_.2.1) agl agm
theorem agp(w:Int)(l:List Int)(h_:Cn w l):(agn w l).Is (Ry w l):=by
 delta Ry;exact⟨by omega,rfl⟩
theorem agq:ago.Ok Tryz.prog 128:=
 br mixed ((aj af5 ax)) func128 (by kernel_rfl) call128 (fun x_ y_=>aae y_.1 y_.2.1) (fun x_ y_=>Rx y_.1 y_.2.1) (fun x_ y_ h=>agp y_.1 y_.2.1 h)
def zQ(l:List (Int×Int×Int)):Int×List Int:=iI (List.drop 0 l) ([1024,1024],0) (cI 8) (cI 8) (cI 6)
 4294967295 [0,0,0,0]
abbrev Ib:Type:=List Int
abbrev agr(x:Ib):LV:=LV.one (VV.sc (SV.rd true false (Ty.int IntKind.u8) x))
abbrev ags(x:Ib):List (Nat×Ev.Item):= []
def Rz(l:List (Int×Int×Int)):Tr (Ib):=(.need (rE l) (.ite (!bq 0 l) (.ret ([])) (.need (Hc) (.need
 (rH) (.need (xO l (↑l.length:Int) 0 4294967295 [0,0,0,0] [1024,1024] 0 (cI 8) (cI 8) (cI 6)) (.need (Cn (zQ l).fst
 (zQ l).snd) (.ret ((zQ l).snd))))))))
theorem RA(l:List cY):aG Tryz.prog [(124,rF),(125,afp),(126,zO),(127,agk),(128,ago)] [(0,bZ u7 ((ag).wr (())) H6 (H9))] f74 ((zj).wr (l,())) ((ag).wr (())) [.fr [.rd true u8],.fr [.sym],.syms,.auto,.aE]=(Rz l).end agr ags ((ag).wr (())):=by kernel_rfl
theorem aaf(l:List cY):aH Tryz.prog ((ag).wr (())) [(0,bZ u7 ((ag).wr (())) H6 (H9))] (aF f74):=(aH.bK (js (by kernel_rfl) (bP (hp:=(ag).wr (())) (Rw l)) jt))
theorem WI:∀ (l:List cY) {s:List Int×Int} {p1 p2 p3:List Int} {w:Int} {o:List Int},SOk s p1 p2 p3→w9 w o→o.length+21*l.length<1099500000000→
  w9 (iI l s p1 p2 p3 w o).1 (iI l s p1 p2 p3 w o).2∧(iI l s p1 p2 p3 w o).2.length≤o.length+21*l.length
 | [],_,_,_,_,_,_,_,h,_=>⟨h,by simp[iI]⟩
 |t::r,s,p1,p2,p3,w,o,hs,hc,hl=>by
  rw[List.length_cons]at hl;obtain⟨q1,q2,q3⟩:=Rv (t:=t) hs hc (by omega);have:=WI r q1 q2 (by omega);rw[iI,List.length_cons];exact⟨this.1,by have:=this.2;omega⟩
theorem kj(k:Nat)(h:k≤8):PE (cI k)∧lg (cI k)=k:=by
 have hl:(cI k).length=2 ^ k:=by simp[cI]
 have e:lg (cI k)=k:=by unfold lg;rw[hl,Nat.log2_two_pow]
 refine⟨⟨by rw[e];exact h,by rw[e,hl],fun i=>?_,fun i _ hi=>?_⟩,e⟩
 ·unfold cI;rw[List.getD_eq_getElem?_getD,List.getElem?_replicate]
  split<;>simp
 ·rw[e]at hi;unfold cI;rw[List.getD_eq_getElem?_getD,List.getElem?_replicate,if_pos hi];simp
theorem aAp:SOk ([1024,1024],0) (cI 8) (cI 8) (cI 6):=
 ⟨rfl,.inl rfl,(kj 8 (by omega)).1,(kj 8 (by omega)).2,(kj 8 (by omega)).1,(kj 8 (by omega)).2,(kj 6 (by omega)).1,(kj 6 (by omega)).2⟩
theorem avQ:w9 4294967295 [0,0,0,0]:=⟨by omega,by omega,fun z hz=>by simp at hz;subst hz;exact⟨by omega,by omega⟩,by simp⟩
def pj(l:List cY):List Int:=if bq 0 l then(iI l ([1024,1024],0) (cI 8) (cI 8) (cI 6) 4294967295 [0,0,0,0]).2 else []
abbrev u9(l:List cY):Prop:=l.length<1000000000∧sH l
abbrev RC(l:List cY):Ib:=pj l
def agt:an:=cv [some kF] (zj) (ag) (fun x_ y_=>u9 x_.1) (fun x_ y_=>RC x_.1) agr ags
theorem agu(l:List cY)(h_:u9 l):(Rz l).Is (RC l):=by
 delta RC;obtain⟨h1,h2⟩:=h_;have ht:=WI l aAp avQ (by simp;omega);have ea:zQ l=iI l ([1024,1024],0) (cI 8) (cI 8) (cI 6) 4294967295 [0,0,0,0]:=rfl;simp only[Rz,aq,au,bE,pj,ea];refine⟨by show _<_;omega,fun h=>?_,fun h=>⟨trivial,trivial,⟨rfl,by omega,by omega,⟨0,by simpa using h⟩,h2,aAp,avQ,by simp;omega,by omega⟩,?_,?_⟩⟩
 ·rw[if_neg (by simpa using h)]
 ·have:=ht.2;simp only[List.length_cons,List.length_nil]at this;show _<_;omega
 ·rw[if_pos (by simpa using h)]
theorem agv:agt.Ok Tryz.prog 74:=
 br mixed ((aj nF (aj V7 (aj xN (aj WE (aj agq ax)))))) func74 (by kernel_rfl) call74 (fun x_ y_=>aaf x_.1) (fun x_ y_=>RA x_.1) (fun x_ y_ h=>agu x_.1 h)
end Go.Proofs.YtnbkagglkajbkaaGreat
end
