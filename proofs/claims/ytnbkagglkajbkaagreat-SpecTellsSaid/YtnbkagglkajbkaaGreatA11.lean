/- What the laws lean on, part 11: a reader of code, plain facts, and what each function gives; no conditions. -/
import Derived.Test.YtnbkagglkajbkaaGreatA10
set_option linter.unusedVariables false
set_option linter.unusedSimpArgs false
noncomputable section
namespace Go.Proofs.YtnbkagglkajbkaaGreat
open Go Go.Ev Go.Proofs.Tryz
open Go.IntKind (i64 signed u16 u64 wrap)
set_option maxRecDepth 1000000
structure RB where
 b:List Int
 cs:List Int
 bW:Int
 bad:Bool
abbrev cRB:aM (List SV) RB:=(ai (aC 1 0) (ae (fh false false u8) (ai (aC 2 0) (ai (aC 4 0) (ai (aC 6 0) (ae (so (.int .i64) 2) (ae (aA .i64) (ae yX ag)))))))).kE
 (fun x=>⟨x.1,x.2.1,x.2.2.1,x.2.2.2.1⟩) (fun y=>(y.b,y.cs,y.bW,y.bad,())) (fun _=>rfl)
abbrev IW:aM Ev.Item RB:=mN 303 cRB
abbrev l5:aM Hp (RB×Dc×Int×List Int×Int×List Int×Int×List Int×Unit):=
 ae (bp IW) (ae (bp kH) (ae (bp Ic) (ae (bS 0 (.int .i64)) (ae (bp Ie) (ae (bS 0 (.int .i64)) (ae (bp Ig) (ae (bS 0 (.int .i64)) ag)))))))
abbrev vR:Type:=RB×(Int×Int×Int)×Int×(List Int)×Int×(List Int)×Int×(List Int)
abbrev vS:aM St vR:=(aS (ai (ah (aC (0) (0))) (jk 58 ag)) (ae (bp IW) (ae (bp kH) (ae (bp
 Ic) (ae (bS (0) (Ty.int i64)) (ae (bp Ie) (ae (bS (0) (Ty.int i64)) (ae (bp Ig) (ae (bS (0) (Ty.int
 i64)) ag))))))))).kE (fun y=>(y.2.1,y.2.2.1,y.2.2.2.1,y.2.2.2.2.1,y.2.2.2.2.2.1,y.2.2.2.2.2.2.1,y.2.2.2.2.2.2.2.1,
 y.2.2.2.2.2.2.2.2.1)) (fun x=>((),(x.1,(x.2.1,(x.2.2.1,(x.2.2.2.1,(x.2.2.2.2.1,(x.2.2.2.2.2.1,(x.2.2.2.2.2.2.1,(x.2.2.2.2.2.2.2,()))))))))))
 (fun _=>rfl)
abbrev IX:List Wk:= [.fr (cu 59 [(0,.al)]),.syms,.auto,.aE]
abbrev Xh:Exit→List Wk:=xz IX 0 [.fr (cu 59 [(0,.al)]),.syms,.auto,.aE] [.fr (cu 59 []),.syms,.auto,.aE]
abbrev CS:Type:=RB×(Int×Int×Int)×Int×(List Int)×Int×(List Int)×Int×(List Int)
abbrev MN(x:CS):Exit×St:=(Exit.ret,⟨(iE 59 []),[some (IW.wr x.1),some (kH.wr x.2.1),some (Ic.wr x.2.2.1),
 some (Item.own 0 (Ty.int i64) x.2.2.2.1),some (Ie.wr x.2.2.2.2.1),some (Item.own 0 (Ty.int i64) x.2.2.2.2.2.1),some (Ig.wr
 x.2.2.2.2.2.2.1),some (Item.own 0 (Ty.int i64) x.2.2.2.2.2.2.2)]⟩)
abbrev CT:Type:=RB×(Int×Int×Int)×Int×(List Int)×Int×(List Int)×Int×(List Int)
abbrev MO(x:CT):Exit×St:=(Exit.exit 0,⟨(LV.one (VV.sc (SV.ptr 0 0))::(iE 58 [])),[some (IW.wr x.1),some
 (kH.wr x.2.1),some (Ic.wr x.2.2.1),some (Item.own 0 (Ty.int i64) x.2.2.2.1),some (Ie.wr x.2.2.2.2.1),some (Item.own 0 (Ty.int
 i64) x.2.2.2.2.2.1),some (Ig.wr x.2.2.2.2.2.2.1),some (Item.own 0 (Ty.int i64) x.2.2.2.2.2.2.2)]⟩)
def rO(r':RB)(d':Int×Int×Int)(eN:Int)(dy:List Int)(eO:Int)(dz:List Int)(eP:Int)(dA:List Int):Tr
 (vR⊕(CS⊕CT)):=(.ite (decide (0<d'.snd.snd)==true) (.ite (!r'.bad) (.ite ((↑r'.b.length:Int)==0) (.ret (.inr (.inl ({b:=r'.b,cs:=r'.cs,bW:=r'.bW,bad:=true},
 d',eN,dy,eO,dz,eP,dA)))) (.need ((0:Int)≤0∧0<(↑r'.b.length:Int)) (.need (Cu (r'.b.getD 0 0) d') (.need ((0:Int)≤1∧1≤
 (↑r'.b.length:Int)∧(↑r'.b.length:Int)≤(↑r'.b.length:Int)) (.ret (.inl ({b:=List.take ((↑r'.b.length:Int)-1).toNat (List.drop 1 r'.b),cs:=r'.cs,bW:=r'.bW,bad:=r'.bad},
 pk d' (r'.b.getD 0 0),eN,dy,eO,dz,eP,dA))))))) (.ret (.inr (.inr (r',d',eN,dy,eO,dz,eP,dA))))) (.ret (.inr (.inr (r',d',
 eN,dy,eO,dz,eP,dA)))))
theorem MP(r:RB)(d:Dc)(b1:Int)(p1:List Int)(b2:Int)(p2:List Int)(b3:Int)(p3:List Int)(r':RB)(d':Int×Int×Int)(eN:Int)(dy:List Int)(eO:Int)(dz:List Int)(eP:Int)(dA:List Int):cO Tryz.prog [(288,R8),(289,Cv)] [] f231 0 ((l5).wr (r,d,b1,p1,b2,p2,b3,p3,())) Xh (vS.wr (r',d',eN,dy,eO,dz,eP,dA))=(rO r' d' eN dy eO dz eP dA).res vS.wr (Sum.elim MN MO):=by kernel_rfl
def gg(r:RB)(d:Dc):RB×Dc:=if r.bad=true then(r,d)else(⟨(cL r.b d).2.1,r.cs,r.bW,!(cL r.b d).1⟩,(cL r.b d).2.2)
abbrev xY(r':RB)(d':Int×Int×Int)(eN:Int)(dy:List Int)(eO:Int)(dz:List Int)(eP:Int)(dA:List Int):Prop:=lJ d'∧ay r'.b∧r'.b.length<1099511627776
abbrev IY(r':RB)(d':Int×Int×Int)(eN:Int)(dy:List Int)(eO:Int)(dz:List Int)(eP:Int)(dA:List Int):Bool:= !r'.bad&& !(cL r'.b d').1
abbrev IZ(r':RB)(d':Int×Int×Int)(eN:Int)(dy:List Int)(eO:Int)(dz:List Int)(eP:Int)(dA:List Int):CS:=((gg r' d').1,(gg r' d').2,eN,dy,eO,dz,eP,dA)
abbrev I0(r':RB)(d':Int×Int×Int)(eN:Int)(dy:List Int)(eO:Int)(dz:List Int)(eP:Int)(dA:List Int):CT:=((gg r' d').1,(gg r' d').2,eN,dy,eO,dz,eP,dA)
abbrev I1:vR→aK:=sZ (fun x_=>xY x_.1 x_.2.1 x_.2.2.1 x_.2.2.2.1 x_.2.2.2.2.1 x_.2.2.2.2.2.1 x_.2.2.2.2.2.2.1 x_.2.2.2.2.2.2.2) (fun x_=>IY x_.1 x_.2.1 x_.2.2.1 x_.2.2.2.1 x_.2.2.2.2.1 x_.2.2.2.2.2.1 x_.2.2.2.2.2.2.1 x_.2.2.2.2.2.2.2) (fun x_=>IZ x_.1 x_.2.1 x_.2.2.1 x_.2.2.2.1 x_.2.2.2.2.1 x_.2.2.2.2.2.1 x_.2.2.2.2.2.2.1 x_.2.2.2.2.2.2.2) (fun x_=>I0 x_.1 x_.2.1 x_.2.2.1 x_.2.2.2.1 x_.2.2.2.2.1 x_.2.2.2.2.2.1 x_.2.2.2.2.2.2.1 x_.2.2.2.2.2.2.2) MN MO
theorem aaV(r':RB)(d':Int×Int×Int)(eN:Int)(dy:List Int)(eO:Int)(dz:List Int)(eP:Int)(dA:List Int)(h_:xY r' d' eN dy eO dz eP dA):cX (fun x_:vR=>rO x_.1 x_.2.1 x_.2.2.1 x_.2.2.2.1 x_.2.2.2.2.1 x_.2.2.2.2.2.1 x_.2.2.2.2.2.2.1 x_.2.2.2.2.2.2.2) (r',d',eN,dy,eO,dz,eP,dA) (bif IY r' d' eN dy eO dz eP dA then .inl (IZ r' d' eN dy eO dz eP dA)else .inr (I0 r' d' eN dy eO dz eP dA)):=by
 delta IY IZ I0;obtain⟨h1,h2,h3⟩:=h_;obtain⟨b,cs,bW,bad⟩:=r';unfold gg
 cases bad with
 |true=>
  refine .stop ?_;simp only[rO,bE,aP,aq,au,eA];simp
 |false=>
 simp only[Bool.not_false,Bool.true_and]at*;simp only[Bool.false_eq_true,if_false]
 induction b generalizing d' with
 |nil=>
  refine .stop ?_;simp only[rO,cL,List.length_nil]
  by_cases hd:0<d'.2.2
  ·have e:decide (d'.2.2≤0)=false:=(by simp;omega);simp[hd,e,dP,au]
  ·have e:decide (d'.2.2≤0)=true:=(by simp;omega);simp[hd,e,e9,au]
 |cons x r ih=>
  have hr:ay r:=fun z hz=>h2 z (by simp[hz]);have hx:By x:=h2 x (by simp);rw[List.length_cons]at h3
  by_cases hn:0<d'.2.2
  ·have lA:=ih (pk d' x) (CD h1 hx) hr (by omega);rw[cL,if_pos hn];refine .go ?_ lA;have e:(((r.length+1:Nat):Int)-1).toNat=r.length:=(by omega);have e0:(((r.length+1:Nat):Int)==0)=false:=(by simp;omega);have e1:decide (0<d'.2.2)=true:=(by simpa using hn);simp only[rO,aq,au,List.length_cons,e1,e0,beq_self_eq_true,Bool.not_false,dP,e9];refine⟨⟨by omega,by omega⟩,⟨h1,hx⟩,⟨by omega,by omega,by omega⟩,?_⟩;rw[e];simp
  ·rw[cL,if_neg hn];refine .stop ?_;have e1:decide (0<d'.2.2)=false:=(by simpa using hn);simp only[rO,e1,au];simp[e9,au]
theorem SL(r:RB)(d:Dc)(b1:Int)(p1:List Int)(b2:Int)(p2:List Int)(b3:Int)(p3:List Int):∀x:vR,Ex Tryz.prog ((l5).wr (r,d,b1,p1,b2,p2,b3,p3,())) (.loop (aO f231 0)) (vS.wr x) (I1 x):=
 cy mixed ((aj Mk (aj vu ax))) (ws:=Xh) (aH.nil _) (fun x_=>MP r d b1 p1 b2 p2 b3 p3 x_.1 x_.2.1 x_.2.2.1 x_.2.2.2.1 x_.2.2.2.2.1 x_.2.2.2.2.2.1 x_.2.2.2.2.2.2.1 x_.2.2.2.2.2.2.2) (fun z=>by cases z<;>(intro e;cases e)) xy (fun x_ h=>aaV x_.1 x_.2.1 x_.2.2.1 x_.2.2.2.1 x_.2.2.2.2.1 x_.2.2.2.2.2.1 x_.2.2.2.2.2.2.1 x_.2.2.2.2.2.2.2 h)
def I2(r:RB)(d:Int×Int×Int):Int×Int×Int:=(gg r d).snd
abbrev I3:Type:=RB×(Int×Int×Int)
abbrev ah7(x:I3):LV:=LV.cj []
abbrev ah8(x:I3):List (Nat×Ev.Item):= [(0,IW.wr x.1),(1,kH.wr x.2)]
def I4(r:RB)(d:Int×Int×Int)(b1:Int)(p1:List Int)(b2:Int)(p2:List Int)(b3:Int)(p3:List Int):Tr (I3)
 :=(.need (xY r d b1 p1 b2 p2 b3 p3) (.ite (!r.bad&& !(cL r.b d).fst) (.ret ((gg r d).fst,(gg r d).snd)) (.ite ((gg r d).fst.bad
 ==false) (.need (qC (I2 r d)) (.ret ({b:=(gg r d).fst.b,cs:=(gg r d).fst.cs,bW:=(gg r d).fst.bW,bad:=mi (I2 r d)},
 (gg r d).snd))) (.ret ({b:=(gg r d).fst.b,cs:=(gg r d).fst.cs,bW:=(gg r d).fst.bW,bad:=true},(gg r d).snd)))))
theorem SM(r:RB)(d:Dc)(b1:Int)(p1:List Int)(b2:Int)(p2:List Int)(b3:Int)(p3:List Int):aG Tryz.prog [(288,R8),(289,Cv)] [(0,bZ vS ((l5).wr (r,d,b1,p1,b2,p2,b3,p3,())) IX (I1))] f231 ((gM).wr (())) ((l5).wr (r,d,b1,p1,b2,p2,b3,p3,())) [.fr [.sym],.syms,.auto,.aE]=(I4 r d b1 p1 b2 p2 b3 p3).end ah7 ah8 ((l5).wr (r,d,b1,p1,b2,p2,b3,p3,())):=by kernel_rfl
theorem aaW(r:RB)(d:Dc)(b1:Int)(p1:List Int)(b2:Int)(p2:List Int)(b3:Int)(p3:List Int):aH Tryz.prog ((l5).wr (r,d,b1,p1,b2,p2,b3,p3,())) [(0,bZ vS ((l5).wr (r,d,b1,p1,b2,p2,b3,p3,())) IX (I1))] (aF f231):=(aH.bK (js (by kernel_rfl) (bP (hp:=(l5).wr (r,d,b1,p1,b2,p2,b3,p3,())) (SL r d b1 p1 b2 p2 b3 p3)) jt))
def bB(r:RB)(d:Dc):RB×Dc:=if r.bad=true then(r,d)else(⟨(cL r.b d).2.1,r.cs,r.bW,!(cL r.b d).1||mi (cL r.b d).2.2⟩,(cL r.b d).2.2)
theorem ah9{r:RB}{d:Dc}(h1:lJ d)(h2:ay r.b)(h3:r.b.length<1099511627776):lJ (gg r d).2∧ay (gg r d).1.b∧(gg r d).1.b.length≤r.b.length:=by
 unfold gg
 split
 ·exact⟨h1,h2,Nat.le_refl _⟩
 ·obtain⟨k1,k2,k3,_⟩:=vK r.b d h1 h2;exact⟨k1,k2,k3⟩
abbrev g9(r:RB)(d:Dc)(b1:Int)(p1:List Int)(b2:Int)(p2:List Int)(b3:Int)(p3:List Int):Prop:=lJ d∧ay r.b∧r.b.length<1099511627776
abbrev SN(r:RB)(d:Dc)(b1:Int)(p1:List Int)(b2:Int)(p2:List Int)(b3:Int)(p3:List Int):I3:=bB r d
def lL:an:=cv [] (gM) (l5) (fun x_ y_=>g9 y_.1 y_.2.1 y_.2.2.1 y_.2.2.2.1 y_.2.2.2.2.1 y_.2.2.2.2.2.1 y_.2.2.2.2.2.2.1 y_.2.2.2.2.2.2.2.1) (fun x_ y_=>SN y_.1 y_.2.1 y_.2.2.1 y_.2.2.2.1 y_.2.2.2.2.1 y_.2.2.2.2.2.1 y_.2.2.2.2.2.2.1 y_.2.2.2.2.2.2.2.1) ah7 ah8
theorem aia(r:RB)(d:Dc)(b1:Int)(p1:List Int)(b2:Int)(p2:List Int)(b3:Int)(p3:List Int)(h_:g9 r d b1 p1 b2 p2 b3 p3):(I4 r d b1 p1 b2 p2 b3 p3).Is (SN r d b1 p1 b2 p2 b3 p3):=by
 delta SN;obtain⟨h1,h2,h3⟩:=h_;obtain⟨k1,k2,k3⟩:=ah9 h1 h2 h3;have ea:I2 r d=(gg r d).2:=rfl;obtain⟨b,cs,bW,bad⟩:=r
 cases bad with
 |true=>
  simp only[I4,aq,bE,au,bB,gg,ea];simp;exact⟨h1,h2,h3⟩
 |false=>
  simp only[I4,aq,bE,au,bB,gg,ea]
  cases(cL b d).1<;>simp<;>exact⟨h1,h2,h3⟩
theorem hS:lL.Ok Tryz.prog 231:=
 br mixed ((aj Mk (aj vu ax))) func231 (by kernel_rfl) call231 (fun x_ y_=>aaW y_.1 y_.2.1 y_.2.2.1 y_.2.2.2.1 y_.2.2.2.2.1 y_.2.2.2.2.2.1 y_.2.2.2.2.2.2.1 y_.2.2.2.2.2.2.2.1) (fun x_ y_=>SM y_.1 y_.2.1 y_.2.2.1 y_.2.2.2.1 y_.2.2.2.2.1 y_.2.2.2.2.2.1 y_.2.2.2.2.2.2.1 y_.2.2.2.2.2.2.2.1) (fun x_ y_ h=>aia y_.1 y_.2.1 y_.2.2.1 y_.2.2.2.1 y_.2.2.2.2.1 y_.2.2.2.2.2.1 y_.2.2.2.2.2.2.1 y_.2.2.2.2.2.2.2.1 h)
theorem ko{r:RB}{d:Dc}(h1:lJ d)(h2:ay r.b)(h3:r.b.length<1099511627776):lJ (bB r d).2∧ay (bB r d).1.b∧(bB r d).1.b.length≤r.b.length:=by
 unfold bB
 split
 ·exact⟨h1,h2,Nat.le_refl _⟩
 ·obtain⟨k1,k2,k3,_⟩:=vK r.b d h1 h2;exact⟨k1,k2,k3⟩
def aV:Nat→Int→RB→Dc→List Int→Int×RB×Dc×List Int
 |0,node,r,d,p=>(node,r,d,p)
 |k+1,node,r,d,p=>
  let x:=a7 (ef p node) d
  aV k (2*node+x.1) (bB r x.2.2).1 (bB r x.2.2).2 (b8 p node x.1)
theorem qD:∀ (k:Nat) (node:Int) (r:RB) (d:Dc) (p:List Int),lJ d→ay r.b→r.b.length<1099511627776→1≤node→
  lJ (aV k node r d p).2.2.1∧ay (aV k node r d p).2.1.b∧(aV k node r d p).2.1.b.length≤r.b.length∧(aV k node r d p).2.2.2.length=p.length∧
  2 ^ k*node≤(aV k node r d p).1∧(aV k node r d p).1<2 ^ k*(node+1)
 |0,node,r,d,p,h1,h2,h3,h4=>⟨h1,h2,Nat.le_refl _,rfl,by simp[aV],by simp[aV];omega⟩
 |k+1,node,r,d,p,h1,h2,h3,h4=>by
  obtain⟨m1,m2,m3⟩:=ko (r:=r) (fa h1 (ef p node)) h2 h3;obtain⟨b1,b2⟩:=ik (ef p node) d;obtain⟨k1,k2,k3,k4,k5,k6⟩:=qD k (2*node+(a7 (ef p node) d).1) (bB r (a7 (ef p node) d).2.2).1 (bB r (a7 (ef p node) d).2.2).2 (b8 p node (a7 (ef p node) d).1) m1 m2 (by omega) (by omega);rw[aV];refine⟨k1,k2,by omega,by rw[k4,nC],Int.le_trans ?_ k5,Int.lt_of_lt_of_le k6 ?_⟩
  ·rw[Int.pow_succ,Int.mul_assoc];exact Int.mul_le_mul_of_nonneg_left (by omega) (Int.le_of_lt (Int.pow_pos (by decide)))
  ·rw[Int.pow_succ,Int.mul_assoc];exact Int.mul_le_mul_of_nonneg_left (by omega) (Int.le_of_lt (Int.pow_pos (by decide)))
abbrev CU:Type:=Int×Int×RB×(Int×Int×Int)×Int×(List Int)×Int×(List Int)×Int×(List Int)
abbrev CV:aM St CU:=(aS (ai (ah (aC (0) (0))) (ai (ah (aC (2) (0))) (jk 3 (ae (ah (aA i64))
 (ae (ah (aA i64)) (jk 42 ag)))))) (ae (bp IW) (ae (bp kH) (ae (dH (347) ((ae (aA i64) (ai (ke (3)
 (1)) ag)))) (ae (bS (1) (Ty.int i64)) (ae (dH (347) ((ae (aA i64) (ai (ke (5) (1)) ag)))) (ae (bS (1)
 (Ty.int i64)) (ae (dH (347) ((ae (aA i64) (ai (ke (7) (1)) ag)))) (ae (bS (1) (Ty.int i64))
 ag))))))))).kE (fun y=>(y.1.1,y.1.2.1,y.2.1,y.2.2.1,y.2.2.2.1.1,y.2.2.2.2.1,y.2.2.2.2.2.1.1,y.2.2.2.2.2.2.1,y.2.2.2.2.2.2.2.1.1,
 y.2.2.2.2.2.2.2.2.1)) (fun x=>((x.1,(x.2.1,())),(x.2.2.1,(x.2.2.2.1,((x.2.2.2.2.1,()),(x.2.2.2.2.2.1,((x.2.2.2.2.2.2.1,()),
 (x.2.2.2.2.2.2.2.1,((x.2.2.2.2.2.2.2.2.1,()),(x.2.2.2.2.2.2.2.2.2,())))))))))) (fun _=>rfl)
abbrev SO:List Wk:= [.one 3,.one 5,.one 7,.fr (cu 49 [(0,.al),(1,.al),(5,.al),(6,.al)]),.syms,.auto,.aE]
abbrev aib:Exit→List Wk:=xz SO 0 [.one 3,.one 5,.one 7,.fr (cu 49 [(1,.al),(5,.al)]),.syms,.auto,.aE] [.one 3,.one 5,
 .one 7,.fr (cu 49 [(4,.al)]),.syms,.auto,.aE]
def z8(node:Int)(d':Int×Int×Int)(dy:List Int):List Int:=b8 dy node (a7 (dy.getD node.toNat 0) d').fst
def vT(node:Int)(d':Int×Int×Int)(dy:List Int):Int×Int×Int:=(a7 (dy.getD node.toNat 0) d').snd.snd
abbrev SP:Type:=Int×RB×(Int×Int×Int)×Int×(List Int)×Int×(List Int)×Int×(List Int)
abbrev aic(x:SP):Exit×St:=(Exit.exit 0,⟨(iE 1 (LV.one (VV.sc (SV.ptr 2 0))::(iE 3 (LV.one (VV.sc (SV.int i64
 (SI.sym x.1)))::(iE 43 []))))),[some (IW.wr x.2.1),some (kH.wr x.2.2.1),some (Item.aW [SV.int i64 (SI.sym x.2.2.2.1),SV.sl 3 1]
 347),some (Item.own 1 (Ty.int i64) x.2.2.2.2.1),some (Item.aW [SV.int i64 (SI.sym x.2.2.2.2.2.1),SV.sl 5 1] 347),some (Item.own 1
 (Ty.int i64) x.2.2.2.2.2.2.1),some (Item.aW [SV.int i64 (SI.sym x.2.2.2.2.2.2.2.1),SV.sl 7 1] 347),some (Item.own 1 (Ty.int
 i64) x.2.2.2.2.2.2.2.2)]⟩)
def I5(node:Int)(i:Int)(r':RB)(d':Int×Int×Int)(eN:Int)(dy:List Int)(eO:Int)(dz:List Int)(eP:Int)
 (dA:List Int):Tr (CU⊕(SP)):=(.ite (decide (i<eN)) (.need (0≤node∧node<(↑dy.length:Int)) (.need (rL (dy.getD
 node.toNat 0) d') (.need (g9 r' (vT node d' dy) eN (z8 node d' dy) eO dz eP dA) (.ret (.inl (i64.wrap (i64.wrap
 (2*node)+(a7 (dy.getD node.toNat 0) d').fst),i64.wrap (i+1),(bB r' (vT node d' dy)).fst,(bB r' (vT node d'
 dy)).snd,eN,z8 node d' dy,eO,dz,eP,dA)))))) (.ret (.inr (node,r',d',eN,dy,eO,dz,eP,dA))))
theorem SQ(r:RB)(d:Dc)(b1:Int)(p1:List Int)(b2:Int)(p2:List Int)(b3:Int)(p3:List Int)(node:Int)(i:Int)(r':RB)(d':Int×Int×Int)(eN:Int)(dy:List Int)(eO:Int)(dz:List Int)(eP:Int)(dA:List Int):cO Tryz.prog [(290,vA),(279,kZ),(231,lL)] [] f291 0 ((l5).wr (r,d,b1,p1,b2,p2,b3,p3,())) aib (CV.wr (node,i,r',d',eN,dy,eO,dz,eP,dA))=(I5 node i r' d' eN dy eO dz eP dA).res CV.wr aic:=by kernel_rfl
abbrev CW(node:Int)(i:Int)(r':RB)(d':Int×Int×Int)(eN:Int)(dy:List Int)(eO:Int)(dz:List Int)(eP:Int)(dA:List Int):Prop:=lJ d'∧ay r'.b∧r'.b.length<1099511627776∧dy.length=2 ^ eN.toNat∧eN≤8∧0≤i∧i≤eN∧1≤node∧node<2 ^ (i.toNat+1)
abbrev SR(node:Int)(i:Int)(r':RB)(d':Int×Int×Int)(eN:Int)(dy:List Int)(eO:Int)(dz:List Int)(eP:Int)(dA:List Int):SP:=((aV (eN-i).toNat node r' d' dy).1,(aV (eN-i).toNat node r' d' dy).2.1,(aV (eN-i).toNat node r' d' dy).2.2.1,eN,(aV (eN-i).toNat node r' d' dy).2.2.2,eO,dz,eP,dA)
abbrev SS:CU→aK:=eB (fun x_=>CW x_.1 x_.2.1 x_.2.2.1 x_.2.2.2.1 x_.2.2.2.2.1 x_.2.2.2.2.2.1 x_.2.2.2.2.2.2.1 x_.2.2.2.2.2.2.2.1 x_.2.2.2.2.2.2.2.2.1 x_.2.2.2.2.2.2.2.2.2) (fun x_=>SR x_.1 x_.2.1 x_.2.2.1 x_.2.2.2.1 x_.2.2.2.2.1 x_.2.2.2.2.2.1 x_.2.2.2.2.2.2.1 x_.2.2.2.2.2.2.2.1 x_.2.2.2.2.2.2.2.2.1 x_.2.2.2.2.2.2.2.2.2) aic
theorem aid(node:Int)(i:Int)(r':RB)(d':Int×Int×Int)(eN:Int)(dy:List Int)(eO:Int)(dz:List Int)(eP:Int)(dA:List Int)(h_:CW node i r' d' eN dy eO dz eP dA):cX (fun x_:CU=>I5 x_.1 x_.2.1 x_.2.2.1 x_.2.2.2.1 x_.2.2.2.2.1 x_.2.2.2.2.2.1 x_.2.2.2.2.2.2.1 x_.2.2.2.2.2.2.2.1 x_.2.2.2.2.2.2.2.2.1 x_.2.2.2.2.2.2.2.2.2) (node,i,r',d',eN,dy,eO,dz,eP,dA) (SR node i r' d' eN dy eO dz eP dA):=by
 delta SR;obtain⟨h1,h2,h3,h4,h5,h6,h7,h8,h9⟩:=h_;obtain⟨k,hk⟩:∃k:Nat,(eN-i).toNat=k:=⟨_,rfl⟩;rw[hk]
 induction k generalizing node i r' d' dy with
 |zero=>
  refine .stop ?_;simp only[I5,aP,aq,au];exact⟨fun h=>by omega,fun _=>rfl⟩
 |succ k ih=>
  have hp:(2:Int) ^ (i.toNat+1)≤2 ^ eN.toNat:=fE (by omega);have hp8:(2:Int) ^ eN.toNat≤2 ^ 8:=fE (by omega);have hp9:(2:Int) ^ 8=256:=by decide
  have e:((2 ^ eN.toNat:Nat):Int)=2 ^ eN.toNat:=by exact_mod_cast rfl
  have hlen:node<(dy.length:Int):=by rw[h4];omega
  have ZV:dy.getD node.toNat 0=ef dy node:=by unfold ef oA;rw[if_pos (decide_eq_true ⟨h8,hlen⟩)]
  obtain⟨m1,m2,m3⟩:=ko (r:=r') (fa h1 (ef dy node)) h2 h3;obtain⟨b1,b2⟩:=ik (ef dy node) d'
  have Wc:(2:Int) ^ ((i+1).toNat+1)=2*2 ^ (i.toNat+1):=by
   rw[show(i+1).toNat+1=(i.toNat+1)+1 from by omega,Int.pow_succ,Int.mul_comm]
  have lA:=ih (2*node+(a7 (ef dy node) d').1) (i+1) (bB r' (a7 (ef dy node) d').2.2).1 (bB r' (a7 (ef dy node) d').2.2).2 (b8 dy node (a7 (ef dy node) d').1) m1 m2 (by omega) (by rw[nC];exact h4) (by omega) (by omega) (by omega) (by rw[Wc];omega) (by omega);rw[aV];refine .go ?_ lA;have ea:vT node d' dy=(a7 (ef dy node) d').2.2:=by unfold vT;rw[ZV]
  have yZ:z8 node d' dy=b8 dy node (a7 (ef dy node) d').1:=by unfold z8;rw[ZV]
  simp only[I5,aP,aq,au,ea,yZ,ZV];refine⟨fun _=>⟨⟨by omega,hlen⟩,h1,⟨fa h1 _,h2,h3⟩,?_⟩,fun h=>by omega⟩;rw[ao (n:=2*node) (by omega) (by omega),ao (n:=2*node+_) (by omega) (by omega),ao (n:=i+1) (by omega) (by omega)]
theorem aaX(r:RB)(d:Dc)(b1:Int)(p1:List Int)(b2:Int)(p2:List Int)(b3:Int)(p3:List Int):∀x:CU,Ex Tryz.prog ((l5).wr (r,d,b1,p1,b2,p2,b3,p3,())) (.loop (aO f291 0)) (CV.wr x) (SS x):=
 cy mixed ((aj mj (aj iG (aj hS ax)))) (ws:=aib) (aH.nil _) (fun x_=>SQ r d b1 p1 b2 p2 b3 p3 x_.1 x_.2.1 x_.2.2.1 x_.2.2.2.1 x_.2.2.2.2.1 x_.2.2.2.2.2.1 x_.2.2.2.2.2.2.1 x_.2.2.2.2.2.2.2.1 x_.2.2.2.2.2.2.2.2.1 x_.2.2.2.2.2.2.2.2.2) (fun z e=>by cases e) eV (fun x_ h=>aid x_.1 x_.2.1 x_.2.2.1 x_.2.2.2.1 x_.2.2.2.2.1 x_.2.2.2.2.2.1 x_.2.2.2.2.2.2.1 x_.2.2.2.2.2.2.2.1 x_.2.2.2.2.2.2.2.2.1 x_.2.2.2.2.2.2.2.2.2 h)
def tg(r:RB)(d:Int×Int×Int)(b1:Int)(p1:List Int):Int×RB×(Int×Int×Int)×List Int:=aV (Int.toNat (b1-
 0)) 1 r d p1
abbrev Xi:Type:=Int×RB×(Int×Int×Int)×Int×(List Int)×Int×(List Int)×Int×(List Int)
abbrev atr(x:Xi):LV:=LV.one (VV.sc (SV.int i64 (SI.sym x.1)))
abbrev ats(x:Xi):List (Nat×Ev.Item):= [(0,IW.wr x.2.1),(1,kH.wr x.2.2.1),(2,Item.aW [SV.int i64 (SI.sym
 x.2.2.2.1),SV.sl 3 1] 347),(3,Item.own 1 (Ty.int i64) x.2.2.2.2.1),(4,Item.aW [SV.int i64 (SI.sym x.2.2.2.2.2.1),SV.sl 5 1]
 347),(5,Item.own 1 (Ty.int i64) x.2.2.2.2.2.2.1),(6,Item.aW [SV.int i64 (SI.sym x.2.2.2.2.2.2.2.1),SV.sl 7 1] 347),(7,Item.own
 1 (Ty.int i64) x.2.2.2.2.2.2.2.2)]
def aie(r:RB)(d:Int×Int×Int)(b1:Int)(p1:List Int)(b2:Int)(p2:List Int)(b3:Int)(p3:List Int):Tr (Xi):=
 (.need (CW 1 0 r d b1 p1 b2 p2 b3 p3) (.ret (i64.wrap ((tg r d b1 p1).fst-(↑(tg r d b1 p1).snd.snd.snd.length:Int)),(tg
 r d b1 p1).snd.fst,(tg r d b1 p1).snd.snd.fst,b1,(tg r d b1 p1).snd.snd.snd,b2,p2,b3,p3)))
theorem aaY(r:RB)(d:Dc)(b1:Int)(p1:List Int)(b2:Int)(p2:List Int)(b3:Int)(p3:List Int):aG Tryz.prog [(290,vA),(279,kZ),(231,lL)] [(0,bZ CV ((l5).wr (r,d,b1,p1,b2,p2,b3,p3,())) SO (SS))] f291 (((ai (ah (aC 0 0)) (ai (ah (aC 2 0)) ag))).wr (())) ((l5).wr (r,d,b1,p1,b2,p2,b3,p3,())) [.one 3,.one 5,.one 7,.fr [.sym],.syms,.auto,.aE]=(aie r d b1 p1 b2 p2 b3 p3).end atr ats ((l5).wr (r,d,b1,p1,b2,p2,b3,p3,())):=by kernel_rfl
theorem aif(r:RB)(d:Dc)(b1:Int)(p1:List Int)(b2:Int)(p2:List Int)(b3:Int)(p3:List Int):aH Tryz.prog ((l5).wr (r,d,b1,p1,b2,p2,b3,p3,())) [(0,bZ CV ((l5).wr (r,d,b1,p1,b2,p2,b3,p3,())) SO (SS))] (aF f291):=(aH.bK (js (by kernel_rfl) (bP (hp:=(l5).wr (r,d,b1,p1,b2,p2,b3,p3,())) (aaX r d b1 p1 b2 p2 b3 p3)) jt))
abbrev z9(r:RB)(d:Dc)(b1:Int)(p1:List Int)(b2:Int)(p2:List Int)(b3:Int)(p3:List Int):Prop:=lJ d∧ay r.b∧r.b.length<1099511627776∧p1.length=2 ^ b1.toNat∧0≤b1∧b1≤8
abbrev aih(r:RB)(d:Dc)(b1:Int)(p1:List Int)(b2:Int)(p2:List Int)(b3:Int)(p3:List Int):Xi:=((aV b1.toNat 1 r d p1).1-2 ^ b1.toNat,(aV b1.toNat 1 r d p1).2.1,(aV b1.toNat 1 r d p1).2.2.1,b1,(aV b1.toNat 1 r d p1).2.2.2,b2,p2,b3,p3)
def att:an:=cv [] ((ai (ah (aC 0 0)) (ai (ah (aC 2 0)) ag))) (l5) (fun x_ y_=>z9 y_.1 y_.2.1 y_.2.2.1 y_.2.2.2.1 y_.2.2.2.2.1 y_.2.2.2.2.2.1 y_.2.2.2.2.2.2.1 y_.2.2.2.2.2.2.2.1) (fun x_ y_=>aih y_.1 y_.2.1 y_.2.2.1 y_.2.2.2.1 y_.2.2.2.2.1 y_.2.2.2.2.2.1 y_.2.2.2.2.2.2.1 y_.2.2.2.2.2.2.2.1) atr ats
theorem ao0(r:RB)(d:Dc)(b1:Int)(p1:List Int)(b2:Int)(p2:List Int)(b3:Int)(p3:List Int)(h_:z9 r d b1 p1 b2 p2 b3 p3):(aie r d b1 p1 b2 p2 b3 p3).Is (aih r d b1 p1 b2 p2 b3 p3):=by
 delta aih;obtain⟨h1,h2,h3,h4,h5,h6⟩:=h_;have ea:tg r d b1 p1=aV b1.toNat 1 r d p1:=by unfold tg;rw[Int.sub_zero]
 obtain⟨k1,k2,k3,k4,k5,k6⟩:=qD b1.toNat 1 r d p1 h1 h2 h3 (by omega);have hp:(2:Int) ^ b1.toNat≤2 ^ 8:=fE (by omega);have hp9:(2:Int) ^ 8=256:=by decide
 have e:((2 ^ b1.toNat:Nat):Int)=2 ^ b1.toNat:=by exact_mod_cast rfl
 simp only[aie,aq,au,ea,k4,h4,e];refine⟨⟨h1,h2,h3,h4,h6,by omega,h5,by omega,by decide⟩,?_⟩;rw[ao (by omega) (by omega)]
theorem ao1:att.Ok Tryz.prog 291:=
 br mixed ((aj mj (aj iG (aj hS ax)))) func291 (by kernel_rfl) call291 (fun x_ y_=>aif y_.1 y_.2.1 y_.2.2.1 y_.2.2.2.1 y_.2.2.2.2.1 y_.2.2.2.2.2.1 y_.2.2.2.2.2.2.1 y_.2.2.2.2.2.2.2.1) (fun x_ y_=>aaY y_.1 y_.2.1 y_.2.2.1 y_.2.2.2.1 y_.2.2.2.2.1 y_.2.2.2.2.2.1 y_.2.2.2.2.2.2.1 y_.2.2.2.2.2.2.2.1) (fun x_ y_ h=>ao0 y_.1 y_.2.1 y_.2.2.1 y_.2.2.2.1 y_.2.2.2.2.1 y_.2.2.2.2.2.1 y_.2.2.2.2.2.2.1 y_.2.2.2.2.2.2.2.1 h)
abbrev CX:Type:=Int×Int×RB×(Int×Int×Int)×Int×(List Int)×Int×(List Int)×Int×(List Int)
abbrev CY:aM St CX:=(aS (ai (ah (aC (0) (0))) (ai (ah (aC (4) (0))) (jk 3 (ae (ah (aA i64))
 (ae (ah (aA i64)) (jk 42 ag)))))) (ae (bp IW) (ae (bp kH) (ae (dH (347) ((ae (aA i64) (ai (ke (3)
 (1)) ag)))) (ae (bS (1) (Ty.int i64)) (ae (dH (347) ((ae (aA i64) (ai (ke (5) (1)) ag)))) (ae (bS (1)
 (Ty.int i64)) (ae (dH (347) ((ae (aA i64) (ai (ke (7) (1)) ag)))) (ae (bS (1) (Ty.int i64))
 ag))))))))).kE (fun y=>(y.1.1,y.1.2.1,y.2.1,y.2.2.1,y.2.2.2.1.1,y.2.2.2.2.1,y.2.2.2.2.2.1.1,y.2.2.2.2.2.2.1,y.2.2.2.2.2.2.2.1.1,
 y.2.2.2.2.2.2.2.2.1)) (fun x=>((x.1,(x.2.1,())),(x.2.2.1,(x.2.2.2.1,((x.2.2.2.2.1,()),(x.2.2.2.2.2.1,((x.2.2.2.2.2.2.1,()),
 (x.2.2.2.2.2.2.2.1,((x.2.2.2.2.2.2.2.2.1,()),(x.2.2.2.2.2.2.2.2.2,())))))))))) (fun _=>rfl)
abbrev SU:List Wk:= [.one 3,.one 5,.one 7,.fr (cu 49 [(0,.al),(1,.al),(5,.al),(6,.al)]),.syms,.auto,.aE]
abbrev aii:Exit→List Wk:=xz SU 0 [.one 3,.one 5,.one 7,.fr (cu 49 [(1,.al),(5,.al)]),.syms,.auto,.aE] [.one 3,.one 5,
 .one 7,.fr (cu 49 [(4,.al)]),.syms,.auto,.aE]
def Aa(node:Int)(d':Int×Int×Int)(dz:List Int):List Int:=b8 dz node (a7 (dz.getD node.toNat 0) d').fst
def vU(node:Int)(d':Int×Int×Int)(dz:List Int):Int×Int×Int:=(a7 (dz.getD node.toNat 0) d').snd.snd
abbrev SW:Type:=Int×RB×(Int×Int×Int)×Int×(List Int)×Int×(List Int)×Int×(List Int)
abbrev aij(x:SW):Exit×St:=(Exit.exit 0,⟨(iE 1 (LV.one (VV.sc (SV.ptr 4 0))::(iE 3 (LV.one (VV.sc (SV.int i64
 (SI.sym x.1)))::(iE 43 []))))),[some (IW.wr x.2.1),some (kH.wr x.2.2.1),some (Item.aW [SV.int i64 (SI.sym x.2.2.2.1),SV.sl 3 1]
 347),some (Item.own 1 (Ty.int i64) x.2.2.2.2.1),some (Item.aW [SV.int i64 (SI.sym x.2.2.2.2.2.1),SV.sl 5 1] 347),some (Item.own 1
 (Ty.int i64) x.2.2.2.2.2.2.1),some (Item.aW [SV.int i64 (SI.sym x.2.2.2.2.2.2.2.1),SV.sl 7 1] 347),some (Item.own 1 (Ty.int
 i64) x.2.2.2.2.2.2.2.2)]⟩)
def I6(node:Int)(i:Int)(r':RB)(d':Int×Int×Int)(eN:Int)(dy:List Int)(eO:Int)(dz:List Int)(eP:Int)
 (dA:List Int):Tr (CX⊕(SW)):=(.ite (decide (i<eO)) (.need (0≤node∧node<(↑dz.length:Int)) (.need (rL (dz.getD
 node.toNat 0) d') (.need (g9 r' (vU node d' dz) eN dy eO (Aa node d' dz) eP dA) (.ret (.inl (i64.wrap (i64.wrap
 (2*node)+(a7 (dz.getD node.toNat 0) d').fst),i64.wrap (i+1),(bB r' (vU node d' dz)).fst,(bB r' (vU node d'
 dz)).snd,eN,dy,eO,Aa node d' dz,eP,dA)))))) (.ret (.inr (node,r',d',eN,dy,eO,dz,eP,dA))))
theorem SX(r:RB)(d:Dc)(b1:Int)(p1:List Int)(b2:Int)(p2:List Int)(b3:Int)(p3:List Int)(node:Int)(i:Int)(r':RB)(d':Int×Int×Int)(eN:Int)(dy:List Int)(eO:Int)(dz:List Int)(eP:Int)(dA:List Int):cO Tryz.prog [(290,vA),(279,kZ),(231,lL)] [] f291 0 ((l5).wr (r,d,b1,p1,b2,p2,b3,p3,())) aii (CY.wr (node,i,r',d',eN,dy,eO,dz,eP,dA))=(I6 node i r' d' eN dy eO dz eP dA).res CY.wr aij:=by kernel_rfl
abbrev CZ(node:Int)(i:Int)(r':RB)(d':Int×Int×Int)(eN:Int)(dy:List Int)(eO:Int)(dz:List Int)(eP:Int)(dA:List Int):Prop:=lJ d'∧ay r'.b∧r'.b.length<1099511627776∧dz.length=2 ^ eO.toNat∧eO≤8∧0≤i∧i≤eO∧1≤node∧node<2 ^ (i.toNat+1)
abbrev SY(node:Int)(i:Int)(r':RB)(d':Int×Int×Int)(eN:Int)(dy:List Int)(eO:Int)(dz:List Int)(eP:Int)(dA:List Int):SW:=((aV (eO-i).toNat node r' d' dz).1,(aV (eO-i).toNat node r' d' dz).2.1,(aV (eO-i).toNat node r' d' dz).2.2.1,eN,dy,eO,(aV (eO-i).toNat node r' d' dz).2.2.2,eP,dA)
abbrev SZ:CX→aK:=eB (fun x_=>CZ x_.1 x_.2.1 x_.2.2.1 x_.2.2.2.1 x_.2.2.2.2.1 x_.2.2.2.2.2.1 x_.2.2.2.2.2.2.1 x_.2.2.2.2.2.2.2.1 x_.2.2.2.2.2.2.2.2.1 x_.2.2.2.2.2.2.2.2.2) (fun x_=>SY x_.1 x_.2.1 x_.2.2.1 x_.2.2.2.1 x_.2.2.2.2.1 x_.2.2.2.2.2.1 x_.2.2.2.2.2.2.1 x_.2.2.2.2.2.2.2.1 x_.2.2.2.2.2.2.2.2.1 x_.2.2.2.2.2.2.2.2.2) aij
theorem aik(node:Int)(i:Int)(r':RB)(d':Int×Int×Int)(eN:Int)(dy:List Int)(eO:Int)(dz:List Int)(eP:Int)(dA:List Int)(h_:CZ node i r' d' eN dy eO dz eP dA):cX (fun x_:CX=>I6 x_.1 x_.2.1 x_.2.2.1 x_.2.2.2.1 x_.2.2.2.2.1 x_.2.2.2.2.2.1 x_.2.2.2.2.2.2.1 x_.2.2.2.2.2.2.2.1 x_.2.2.2.2.2.2.2.2.1 x_.2.2.2.2.2.2.2.2.2) (node,i,r',d',eN,dy,eO,dz,eP,dA) (SY node i r' d' eN dy eO dz eP dA):=by
 delta SY;obtain⟨h1,h2,h3,h4,h5,h6,h7,h8,h9⟩:=h_;obtain⟨k,hk⟩:∃k:Nat,(eO-i).toNat=k:=⟨_,rfl⟩;rw[hk]
 induction k generalizing node i r' d' dz with
 |zero=>
  refine .stop ?_;simp only[I6,aP,aq,au];exact⟨fun h=>by omega,fun _=>rfl⟩
 |succ k ih=>
  have hp:(2:Int) ^ (i.toNat+1)≤2 ^ eO.toNat:=fE (by omega);have hp8:(2:Int) ^ eO.toNat≤2 ^ 8:=fE (by omega);have hp9:(2:Int) ^ 8=256:=by decide
  have e:((2 ^ eO.toNat:Nat):Int)=2 ^ eO.toNat:=by exact_mod_cast rfl
  have hlen:node<(dz.length:Int):=by rw[h4];omega
  have ZV:dz.getD node.toNat 0=ef dz node:=by unfold ef oA;rw[if_pos (decide_eq_true ⟨h8,hlen⟩)]
  obtain⟨m1,m2,m3⟩:=ko (r:=r') (fa h1 (ef dz node)) h2 h3;obtain⟨b1,b2⟩:=ik (ef dz node) d'
  have Wc:(2:Int) ^ ((i+1).toNat+1)=2*2 ^ (i.toNat+1):=by
   rw[show(i+1).toNat+1=(i.toNat+1)+1 from by omega,Int.pow_succ,Int.mul_comm]
  have lA:=ih (2*node+(a7 (ef dz node) d').1) (i+1) (bB r' (a7 (ef dz node) d').2.2).1 (bB r' (a7 (ef dz node) d').2.2).2 (b8 dz node (a7 (ef dz node) d').1) m1 m2 (by omega) (by rw[nC];exact h4) (by omega) (by omega) (by omega) (by rw[Wc];omega) (by omega);rw[aV];refine .go ?_ lA;have ea:vU node d' dz=(a7 (ef dz node) d').2.2:=by unfold vU;rw[ZV]
  have yZ:Aa node d' dz=b8 dz node (a7 (ef dz node) d').1:=by unfold Aa;rw[ZV]
  simp only[I6,aP,aq,au,ea,yZ,ZV];refine⟨fun _=>⟨⟨by omega,hlen⟩,h1,⟨fa h1 _,h2,h3⟩,?_⟩,fun h=>by omega⟩;rw[ao (n:=2*node) (by omega) (by omega),ao (n:=2*node+_) (by omega) (by omega),ao (n:=i+1) (by omega) (by omega)]
theorem aaZ(r:RB)(d:Dc)(b1:Int)(p1:List Int)(b2:Int)(p2:List Int)(b3:Int)(p3:List Int):∀x:CX,Ex Tryz.prog ((l5).wr (r,d,b1,p1,b2,p2,b3,p3,())) (.loop (aO f291 0)) (CY.wr x) (SZ x):=
 cy mixed ((aj mj (aj iG (aj hS ax)))) (ws:=aii) (aH.nil _) (fun x_=>SX r d b1 p1 b2 p2 b3 p3 x_.1 x_.2.1 x_.2.2.1 x_.2.2.2.1 x_.2.2.2.2.1 x_.2.2.2.2.2.1 x_.2.2.2.2.2.2.1 x_.2.2.2.2.2.2.2.1 x_.2.2.2.2.2.2.2.2.1 x_.2.2.2.2.2.2.2.2.2) (fun z e=>by cases e) eV (fun x_ h=>aik x_.1 x_.2.1 x_.2.2.1 x_.2.2.2.1 x_.2.2.2.2.1 x_.2.2.2.2.2.1 x_.2.2.2.2.2.2.1 x_.2.2.2.2.2.2.2.1 x_.2.2.2.2.2.2.2.2.1 x_.2.2.2.2.2.2.2.2.2 h)
def th(r:RB)(d:Int×Int×Int)(b2:Int)(p2:List Int):Int×RB×(Int×Int×Int)×List Int:=aV (Int.toNat (b2-
 0)) 1 r d p2
abbrev Xj:Type:=Int×RB×(Int×Int×Int)×Int×(List Int)×Int×(List Int)×Int×(List Int)
abbrev atu(x:Xj):LV:=LV.one (VV.sc (SV.int i64 (SI.sym x.1)))
abbrev atv(x:Xj):List (Nat×Ev.Item):= [(0,IW.wr x.2.1),(1,kH.wr x.2.2.1),(2,Item.aW [SV.int i64 (SI.sym
 x.2.2.2.1),SV.sl 3 1] 347),(3,Item.own 1 (Ty.int i64) x.2.2.2.2.1),(4,Item.aW [SV.int i64 (SI.sym x.2.2.2.2.2.1),SV.sl 5 1]
 347),(5,Item.own 1 (Ty.int i64) x.2.2.2.2.2.2.1),(6,Item.aW [SV.int i64 (SI.sym x.2.2.2.2.2.2.2.1),SV.sl 7 1] 347),(7,Item.own
 1 (Ty.int i64) x.2.2.2.2.2.2.2.2)]
def ail(r:RB)(d:Int×Int×Int)(b1:Int)(p1:List Int)(b2:Int)(p2:List Int)(b3:Int)(p3:List Int):Tr (Xj):=
 (.need (CZ 1 0 r d b1 p1 b2 p2 b3 p3) (.ret (i64.wrap ((th r d b2 p2).fst-(↑(th r d b2 p2).snd.snd.snd.length:Int)),(th
 r d b2 p2).snd.fst,(th r d b2 p2).snd.snd.fst,b1,p1,b2,(th r d b2 p2).snd.snd.snd,b3,p3)))
theorem aa0(r:RB)(d:Dc)(b1:Int)(p1:List Int)(b2:Int)(p2:List Int)(b3:Int)(p3:List Int):aG Tryz.prog [(290,vA),(279,kZ),(231,lL)] [(0,bZ CY ((l5).wr (r,d,b1,p1,b2,p2,b3,p3,())) SU (SZ))] f291 (((ai (ah (aC 0 0)) (ai (ah (aC 4 0)) ag))).wr (())) ((l5).wr (r,d,b1,p1,b2,p2,b3,p3,())) [.one 3,.one 5,.one 7,.fr [.sym],.syms,.auto,.aE]=(ail r d b1 p1 b2 p2 b3 p3).end atu atv ((l5).wr (r,d,b1,p1,b2,p2,b3,p3,())):=by kernel_rfl
theorem aim(r:RB)(d:Dc)(b1:Int)(p1:List Int)(b2:Int)(p2:List Int)(b3:Int)(p3:List Int):aH Tryz.prog ((l5).wr (r,d,b1,p1,b2,p2,b3,p3,())) [(0,bZ CY ((l5).wr (r,d,b1,p1,b2,p2,b3,p3,())) SU (SZ))] (aF f291):=(aH.bK (js (by kernel_rfl) (bP (hp:=(l5).wr (r,d,b1,p1,b2,p2,b3,p3,())) (aaZ r d b1 p1 b2 p2 b3 p3)) jt))
abbrev Ab(r:RB)(d:Dc)(b1:Int)(p1:List Int)(b2:Int)(p2:List Int)(b3:Int)(p3:List Int):Prop:=lJ d∧ay r.b∧r.b.length<1099511627776∧p2.length=2 ^ b2.toNat∧0≤b2∧b2≤8
abbrev ain(r:RB)(d:Dc)(b1:Int)(p1:List Int)(b2:Int)(p2:List Int)(b3:Int)(p3:List Int):Xj:=((aV b2.toNat 1 r d p2).1-2 ^ b2.toNat,(aV b2.toNat 1 r d p2).2.1,(aV b2.toNat 1 r d p2).2.2.1,b1,p1,b2,(aV b2.toNat 1 r d p2).2.2.2,b3,p3)
def atw:an:=cv [] ((ai (ah (aC 0 0)) (ai (ah (aC 4 0)) ag))) (l5) (fun x_ y_=>Ab y_.1 y_.2.1 y_.2.2.1 y_.2.2.2.1 y_.2.2.2.2.1 y_.2.2.2.2.2.1 y_.2.2.2.2.2.2.1 y_.2.2.2.2.2.2.2.1) (fun x_ y_=>ain y_.1 y_.2.1 y_.2.2.1 y_.2.2.2.1 y_.2.2.2.2.1 y_.2.2.2.2.2.1 y_.2.2.2.2.2.2.1 y_.2.2.2.2.2.2.2.1) atu atv
theorem ao2(r:RB)(d:Dc)(b1:Int)(p1:List Int)(b2:Int)(p2:List Int)(b3:Int)(p3:List Int)(h_:Ab r d b1 p1 b2 p2 b3 p3):(ail r d b1 p1 b2 p2 b3 p3).Is (ain r d b1 p1 b2 p2 b3 p3):=by
 delta ain;obtain⟨h1,h2,h3,h4,h5,h6⟩:=h_;have ea:th r d b2 p2=aV b2.toNat 1 r d p2:=by unfold th;rw[Int.sub_zero]
 obtain⟨k1,k2,k3,k4,k5,k6⟩:=qD b2.toNat 1 r d p2 h1 h2 h3 (by omega);have hp:(2:Int) ^ b2.toNat≤2 ^ 8:=fE (by omega);have hp9:(2:Int) ^ 8=256:=by decide
 have e:((2 ^ b2.toNat:Nat):Int)=2 ^ b2.toNat:=by exact_mod_cast rfl
 simp only[ail,aq,au,ea,k4,h4,e];refine⟨⟨h1,h2,h3,h4,h6,by omega,h5,by omega,by decide⟩,?_⟩;rw[ao (by omega) (by omega)]
theorem ao3:atw.Ok Tryz.prog 291:=
 br mixed ((aj mj (aj iG (aj hS ax)))) func291 (by kernel_rfl) call291 (fun x_ y_=>aim y_.1 y_.2.1 y_.2.2.1 y_.2.2.2.1 y_.2.2.2.2.1 y_.2.2.2.2.2.1 y_.2.2.2.2.2.2.1 y_.2.2.2.2.2.2.2.1) (fun x_ y_=>aa0 y_.1 y_.2.1 y_.2.2.1 y_.2.2.2.1 y_.2.2.2.2.1 y_.2.2.2.2.2.1 y_.2.2.2.2.2.2.1 y_.2.2.2.2.2.2.2.1) (fun x_ y_ h=>ao2 y_.1 y_.2.1 y_.2.2.1 y_.2.2.2.1 y_.2.2.2.2.1 y_.2.2.2.2.2.1 y_.2.2.2.2.2.2.1 y_.2.2.2.2.2.2.2.1 h)
abbrev C0:Type:=Int×Int×RB×(Int×Int×Int)×Int×(List Int)×Int×(List Int)×Int×(List Int)
abbrev C1:aM St C0:=(aS (ai (ah (aC (0) (0))) (ai (ah (aC (6) (0))) (jk 3 (ae (ah (aA i64))
 (ae (ah (aA i64)) (jk 42 ag)))))) (ae (bp IW) (ae (bp kH) (ae (dH (347) ((ae (aA i64) (ai (ke (3)
 (1)) ag)))) (ae (bS (1) (Ty.int i64)) (ae (dH (347) ((ae (aA i64) (ai (ke (5) (1)) ag)))) (ae (bS (1)
 (Ty.int i64)) (ae (dH (347) ((ae (aA i64) (ai (ke (7) (1)) ag)))) (ae (bS (1) (Ty.int i64))
 ag))))))))).kE (fun y=>(y.1.1,y.1.2.1,y.2.1,y.2.2.1,y.2.2.2.1.1,y.2.2.2.2.1,y.2.2.2.2.2.1.1,y.2.2.2.2.2.2.1,y.2.2.2.2.2.2.2.1.1,
 y.2.2.2.2.2.2.2.2.1)) (fun x=>((x.1,(x.2.1,())),(x.2.2.1,(x.2.2.2.1,((x.2.2.2.2.1,()),(x.2.2.2.2.2.1,((x.2.2.2.2.2.2.1,()),
 (x.2.2.2.2.2.2.2.1,((x.2.2.2.2.2.2.2.2.1,()),(x.2.2.2.2.2.2.2.2.2,())))))))))) (fun _=>rfl)
abbrev S0:List Wk:= [.one 3,.one 5,.one 7,.fr (cu 49 [(0,.al),(1,.al),(5,.al),(6,.al)]),.syms,.auto,.aE]
abbrev aio:Exit→List Wk:=xz S0 0 [.one 3,.one 5,.one 7,.fr (cu 49 [(1,.al),(5,.al)]),.syms,.auto,.aE] [.one 3,.one 5,
 .one 7,.fr (cu 49 [(4,.al)]),.syms,.auto,.aE]
def Ac(node:Int)(d':Int×Int×Int)(dA:List Int):List Int:=b8 dA node (a7 (dA.getD node.toNat 0) d').fst
def vV(node:Int)(d':Int×Int×Int)(dA:List Int):Int×Int×Int:=(a7 (dA.getD node.toNat 0) d').snd.snd
abbrev S1:Type:=Int×RB×(Int×Int×Int)×Int×(List Int)×Int×(List Int)×Int×(List Int)
abbrev aip(x:S1):Exit×St:=(Exit.exit 0,⟨(iE 1 (LV.one (VV.sc (SV.ptr 6 0))::(iE 3 (LV.one (VV.sc (SV.int i64
 (SI.sym x.1)))::(iE 43 []))))),[some (IW.wr x.2.1),some (kH.wr x.2.2.1),some (Item.aW [SV.int i64 (SI.sym x.2.2.2.1),SV.sl 3 1]
 347),some (Item.own 1 (Ty.int i64) x.2.2.2.2.1),some (Item.aW [SV.int i64 (SI.sym x.2.2.2.2.2.1),SV.sl 5 1] 347),some (Item.own 1
 (Ty.int i64) x.2.2.2.2.2.2.1),some (Item.aW [SV.int i64 (SI.sym x.2.2.2.2.2.2.2.1),SV.sl 7 1] 347),some (Item.own 1 (Ty.int
 i64) x.2.2.2.2.2.2.2.2)]⟩)
def I7(node:Int)(i:Int)(r':RB)(d':Int×Int×Int)(eN:Int)(dy:List Int)(eO:Int)(dz:List Int)(eP:Int)
 (dA:List Int):Tr (C0⊕(S1)):=(.ite (decide (i<eP)) (.need (0≤node∧node<(↑dA.length:Int)) (.need (rL (dA.getD
 node.toNat 0) d') (.need (g9 r' (vV node d' dA) eN dy eO dz eP (Ac node d' dA)) (.ret (.inl (i64.wrap (i64.wrap
 (2*node)+(a7 (dA.getD node.toNat 0) d').fst),i64.wrap (i+1),(bB r' (vV node d' dA)).fst,(bB r' (vV node d'
 dA)).snd,eN,dy,eO,dz,eP,Ac node d' dA)))))) (.ret (.inr (node,r',d',eN,dy,eO,dz,eP,dA))))
theorem S2(r:RB)(d:Dc)(b1:Int)(p1:List Int)(b2:Int)(p2:List Int)(b3:Int)(p3:List Int)(node:Int)(i:Int)(r':RB)(d':Int×Int×Int)(eN:Int)(dy:List Int)(eO:Int)(dz:List Int)(eP:Int)(dA:List Int):cO Tryz.prog [(290,vA),(279,kZ),(231,lL)] [] f291 0 ((l5).wr (r,d,b1,p1,b2,p2,b3,p3,())) aio (C1.wr (node,i,r',d',eN,dy,eO,dz,eP,dA))=(I7 node i r' d' eN dy eO dz eP dA).res C1.wr aip:=by kernel_rfl
abbrev C2(node:Int)(i:Int)(r':RB)(d':Int×Int×Int)(eN:Int)(dy:List Int)(eO:Int)(dz:List Int)(eP:Int)(dA:List Int):Prop:=lJ d'∧ay r'.b∧r'.b.length<1099511627776∧dA.length=2 ^ eP.toNat∧eP≤8∧0≤i∧i≤eP∧1≤node∧node<2 ^ (i.toNat+1)
abbrev S3(node:Int)(i:Int)(r':RB)(d':Int×Int×Int)(eN:Int)(dy:List Int)(eO:Int)(dz:List Int)(eP:Int)(dA:List Int):S1:=((aV (eP-i).toNat node r' d' dA).1,(aV (eP-i).toNat node r' d' dA).2.1,(aV (eP-i).toNat node r' d' dA).2.2.1,eN,dy,eO,dz,eP,(aV (eP-i).toNat node r' d' dA).2.2.2)
abbrev S4:C0→aK:=eB (fun x_=>C2 x_.1 x_.2.1 x_.2.2.1 x_.2.2.2.1 x_.2.2.2.2.1 x_.2.2.2.2.2.1 x_.2.2.2.2.2.2.1 x_.2.2.2.2.2.2.2.1 x_.2.2.2.2.2.2.2.2.1 x_.2.2.2.2.2.2.2.2.2) (fun x_=>S3 x_.1 x_.2.1 x_.2.2.1 x_.2.2.2.1 x_.2.2.2.2.1 x_.2.2.2.2.2.1 x_.2.2.2.2.2.2.1 x_.2.2.2.2.2.2.2.1 x_.2.2.2.2.2.2.2.2.1 x_.2.2.2.2.2.2.2.2.2) aip
theorem aiq(node:Int)(i:Int)(r':RB)(d':Int×Int×Int)(eN:Int)(dy:List Int)(eO:Int)(dz:List Int)(eP:Int)(dA:List Int)(h_:C2 node i r' d' eN dy eO dz eP dA):cX (fun x_:C0=>I7 x_.1 x_.2.1 x_.2.2.1 x_.2.2.2.1 x_.2.2.2.2.1 x_.2.2.2.2.2.1 x_.2.2.2.2.2.2.1 x_.2.2.2.2.2.2.2.1 x_.2.2.2.2.2.2.2.2.1 x_.2.2.2.2.2.2.2.2.2) (node,i,r',d',eN,dy,eO,dz,eP,dA) (S3 node i r' d' eN dy eO dz eP dA):=by
 delta S3;obtain⟨h1,h2,h3,h4,h5,h6,h7,h8,h9⟩:=h_;obtain⟨k,hk⟩:∃k:Nat,(eP-i).toNat=k:=⟨_,rfl⟩;rw[hk]
 induction k generalizing node i r' d' dA with
 |zero=>
  refine .stop ?_;simp only[I7,aP,aq,au];exact⟨fun h=>by omega,fun _=>rfl⟩
 |succ k ih=>
  have hp:(2:Int) ^ (i.toNat+1)≤2 ^ eP.toNat:=fE (by omega);have hp8:(2:Int) ^ eP.toNat≤2 ^ 8:=fE (by omega);have hp9:(2:Int) ^ 8=256:=by decide
  have e:((2 ^ eP.toNat:Nat):Int)=2 ^ eP.toNat:=by exact_mod_cast rfl
  have hlen:node<(dA.length:Int):=by rw[h4];omega
  have ZV:dA.getD node.toNat 0=ef dA node:=by unfold ef oA;rw[if_pos (decide_eq_true ⟨h8,hlen⟩)]
  obtain⟨m1,m2,m3⟩:=ko (r:=r') (fa h1 (ef dA node)) h2 h3;obtain⟨b1,b2⟩:=ik (ef dA node) d'
  have Wc:(2:Int) ^ ((i+1).toNat+1)=2*2 ^ (i.toNat+1):=by
   rw[show(i+1).toNat+1=(i.toNat+1)+1 from by omega,Int.pow_succ,Int.mul_comm]
  have lA:=ih (2*node+(a7 (ef dA node) d').1) (i+1) (bB r' (a7 (ef dA node) d').2.2).1 (bB r' (a7 (ef dA node) d').2.2).2 (b8 dA node (a7 (ef dA node) d').1) m1 m2 (by omega) (by rw[nC];exact h4) (by omega) (by omega) (by omega) (by rw[Wc];omega) (by omega);rw[aV];refine .go ?_ lA;have ea:vV node d' dA=(a7 (ef dA node) d').2.2:=by unfold vV;rw[ZV]
  have yZ:Ac node d' dA=b8 dA node (a7 (ef dA node) d').1:=by unfold Ac;rw[ZV]
  simp only[I7,aP,aq,au,ea,yZ,ZV];refine⟨fun _=>⟨⟨by omega,hlen⟩,h1,⟨fa h1 _,h2,h3⟩,?_⟩,fun h=>by omega⟩;rw[ao (n:=2*node) (by omega) (by omega),ao (n:=2*node+_) (by omega) (by omega),ao (n:=i+1) (by omega) (by omega)]
theorem aa1(r:RB)(d:Dc)(b1:Int)(p1:List Int)(b2:Int)(p2:List Int)(b3:Int)(p3:List Int):∀x:C0,Ex Tryz.prog ((l5).wr (r,d,b1,p1,b2,p2,b3,p3,())) (.loop (aO f291 0)) (C1.wr x) (S4 x):=
 cy mixed ((aj mj (aj iG (aj hS ax)))) (ws:=aio) (aH.nil _) (fun x_=>S2 r d b1 p1 b2 p2 b3 p3 x_.1 x_.2.1 x_.2.2.1 x_.2.2.2.1 x_.2.2.2.2.1 x_.2.2.2.2.2.1 x_.2.2.2.2.2.2.1 x_.2.2.2.2.2.2.2.1 x_.2.2.2.2.2.2.2.2.1 x_.2.2.2.2.2.2.2.2.2) (fun z e=>by cases e) eV (fun x_ h=>aiq x_.1 x_.2.1 x_.2.2.1 x_.2.2.2.1 x_.2.2.2.2.1 x_.2.2.2.2.2.1 x_.2.2.2.2.2.2.1 x_.2.2.2.2.2.2.2.1 x_.2.2.2.2.2.2.2.2.1 x_.2.2.2.2.2.2.2.2.2 h)
def ti(r:RB)(d:Int×Int×Int)(b3:Int)(p3:List Int):Int×RB×(Int×Int×Int)×List Int:=aV (Int.toNat (b3-
 0)) 1 r d p3
abbrev Xk:Type:=Int×RB×(Int×Int×Int)×Int×(List Int)×Int×(List Int)×Int×(List Int)
abbrev atx(x:Xk):LV:=LV.one (VV.sc (SV.int i64 (SI.sym x.1)))
abbrev aty(x:Xk):List (Nat×Ev.Item):= [(0,IW.wr x.2.1),(1,kH.wr x.2.2.1),(2,Item.aW [SV.int i64 (SI.sym
 x.2.2.2.1),SV.sl 3 1] 347),(3,Item.own 1 (Ty.int i64) x.2.2.2.2.1),(4,Item.aW [SV.int i64 (SI.sym x.2.2.2.2.2.1),SV.sl 5 1]
 347),(5,Item.own 1 (Ty.int i64) x.2.2.2.2.2.2.1),(6,Item.aW [SV.int i64 (SI.sym x.2.2.2.2.2.2.2.1),SV.sl 7 1] 347),(7,Item.own
 1 (Ty.int i64) x.2.2.2.2.2.2.2.2)]
def air(r:RB)(d:Int×Int×Int)(b1:Int)(p1:List Int)(b2:Int)(p2:List Int)(b3:Int)(p3:List Int):Tr (Xk):=
 (.need (C2 1 0 r d b1 p1 b2 p2 b3 p3) (.ret (i64.wrap ((ti r d b3 p3).fst-(↑(ti r d b3 p3).snd.snd.snd.length:Int)),(ti
 r d b3 p3).snd.fst,(ti r d b3 p3).snd.snd.fst,b1,p1,b2,p2,b3,(ti r d b3 p3).snd.snd.snd)))
theorem aa2(r:RB)(d:Dc)(b1:Int)(p1:List Int)(b2:Int)(p2:List Int)(b3:Int)(p3:List Int):aG Tryz.prog [(290,vA),(279,kZ),(231,lL)] [(0,bZ C1 ((l5).wr (r,d,b1,p1,b2,p2,b3,p3,())) S0 (S4))] f291 (((ai (ah (aC 0 0)) (ai (ah (aC 6 0)) ag))).wr (())) ((l5).wr (r,d,b1,p1,b2,p2,b3,p3,())) [.one 3,.one 5,.one 7,.fr [.sym],.syms,.auto,.aE]=(air r d b1 p1 b2 p2 b3 p3).end atx aty ((l5).wr (r,d,b1,p1,b2,p2,b3,p3,())):=by kernel_rfl
theorem ais(r:RB)(d:Dc)(b1:Int)(p1:List Int)(b2:Int)(p2:List Int)(b3:Int)(p3:List Int):aH Tryz.prog ((l5).wr (r,d,b1,p1,b2,p2,b3,p3,())) [(0,bZ C1 ((l5).wr (r,d,b1,p1,b2,p2,b3,p3,())) S0 (S4))] (aF f291):=(aH.bK (js (by kernel_rfl) (bP (hp:=(l5).wr (r,d,b1,p1,b2,p2,b3,p3,())) (aa1 r d b1 p1 b2 p2 b3 p3)) jt))
abbrev Ad(r:RB)(d:Dc)(b1:Int)(p1:List Int)(b2:Int)(p2:List Int)(b3:Int)(p3:List Int):Prop:=lJ d∧ay r.b∧r.b.length<1099511627776∧p3.length=2 ^ b3.toNat∧0≤b3∧b3≤8
abbrev ait(r:RB)(d:Dc)(b1:Int)(p1:List Int)(b2:Int)(p2:List Int)(b3:Int)(p3:List Int):Xk:=((aV b3.toNat 1 r d p3).1-2 ^ b3.toNat,(aV b3.toNat 1 r d p3).2.1,(aV b3.toNat 1 r d p3).2.2.1,b1,p1,b2,p2,b3,(aV b3.toNat 1 r d p3).2.2.2)
def atz:an:=cv [] ((ai (ah (aC 0 0)) (ai (ah (aC 6 0)) ag))) (l5) (fun x_ y_=>Ad y_.1 y_.2.1 y_.2.2.1 y_.2.2.2.1 y_.2.2.2.2.1 y_.2.2.2.2.2.1 y_.2.2.2.2.2.2.1 y_.2.2.2.2.2.2.2.1) (fun x_ y_=>ait y_.1 y_.2.1 y_.2.2.1 y_.2.2.2.1 y_.2.2.2.2.1 y_.2.2.2.2.2.1 y_.2.2.2.2.2.2.1 y_.2.2.2.2.2.2.2.1) atx aty
theorem ao4(r:RB)(d:Dc)(b1:Int)(p1:List Int)(b2:Int)(p2:List Int)(b3:Int)(p3:List Int)(h_:Ad r d b1 p1 b2 p2 b3 p3):(air r d b1 p1 b2 p2 b3 p3).Is (ait r d b1 p1 b2 p2 b3 p3):=by
 delta ait;obtain⟨h1,h2,h3,h4,h5,h6⟩:=h_;have ea:ti r d b3 p3=aV b3.toNat 1 r d p3:=by unfold ti;rw[Int.sub_zero]
 obtain⟨k1,k2,k3,k4,k5,k6⟩:=qD b3.toNat 1 r d p3 h1 h2 h3 (by omega);have hp:(2:Int) ^ b3.toNat≤2 ^ 8:=fE (by omega);have hp9:(2:Int) ^ 8=256:=by decide
 have e:((2 ^ b3.toNat:Nat):Int)=2 ^ b3.toNat:=by exact_mod_cast rfl
 simp only[air,aq,au,ea,k4,h4,e];refine⟨⟨h1,h2,h3,h4,h6,by omega,h5,by omega,by decide⟩,?_⟩;rw[ao (by omega) (by omega)]
theorem ao5:atz.Ok Tryz.prog 291:=
 br mixed ((aj mj (aj iG (aj hS ax)))) func291 (by kernel_rfl) call291 (fun x_ y_=>ais y_.1 y_.2.1 y_.2.2.1 y_.2.2.2.1 y_.2.2.2.2.1 y_.2.2.2.2.2.1 y_.2.2.2.2.2.2.1 y_.2.2.2.2.2.2.2.1) (fun x_ y_=>aa2 y_.1 y_.2.1 y_.2.2.1 y_.2.2.2.1 y_.2.2.2.2.1 y_.2.2.2.2.2.1 y_.2.2.2.2.2.2.1 y_.2.2.2.2.2.2.2.1) (fun x_ y_ h=>ao4 y_.1 y_.2.1 y_.2.2.1 y_.2.2.2.1 y_.2.2.2.2.1 y_.2.2.2.2.2.1 y_.2.2.2.2.2.2.1 y_.2.2.2.2.2.2.2.1 h)
abbrev avZ:an:=att.or (atw.or atz)
theorem aiu:avZ.Ok Tryz.prog 291:=ao1.or (ao3.or ao5)
abbrev C3:Type:=Int×Int×RB×(Int×Int×Int)×Int×(List Int)×Int×(List Int)×Int×(List Int)×Int×Int×Int×Int×Int×Int
abbrev C4:aM St C3:=(aS (ai (ah (aC (0) (0))) (jk 1 (ai (ah (aC (8) (0))) (jk 2 (ai (ah (aC (9) (0)))
 (ae (ah (aA i64)) (ae (ah (aA i64)) (jk 74 ag)))))))) (ae (bp IW) (ae (bp kH) (ae (dH (347) ((ae
 (aA i64) (ai (ke (3) (1)) ag)))) (ae (bS (1) (Ty.int i64)) (ae (dH (347) ((ae (aA i64) (ai (ke (5)
 (1)) ag)))) (ae (bS (1) (Ty.int i64)) (ae (dH (347) ((ae (aA i64) (ai (ke (7) (1)) ag)))) (ae (bS (1)
 (Ty.int i64)) (ae (dH (199) ((ae (aA i64) (ae (aA i64) (ae (aA IntKind.u8) ag))))) (ae (dH (199)
 ((ae (aA i64) (ae (aA i64) (ae (aA IntKind.u8) ag))))) ag))))))))))).kE (fun y=>(y.1.1,y.1.2.1,y.2.1,y.2.2.1,
 y.2.2.2.1.1,y.2.2.2.2.1,y.2.2.2.2.2.1.1,y.2.2.2.2.2.2.1,y.2.2.2.2.2.2.2.1.1,y.2.2.2.2.2.2.2.2.1,y.2.2.2.2.2.2.2.2.2.1.1,
 y.2.2.2.2.2.2.2.2.2.1.2.1,y.2.2.2.2.2.2.2.2.2.1.2.2.1,y.2.2.2.2.2.2.2.2.2.2.1.1,y.2.2.2.2.2.2.2.2.2.2.1.2.1,y.2.2.2.2.2.2.2.2.2.2.1.2.2.1)) (fun x
 =>((x.1,(x.2.1,())),(x.2.2.1,(x.2.2.2.1,((x.2.2.2.2.1,()),(x.2.2.2.2.2.1,((x.2.2.2.2.2.2.1,()),(x.2.2.2.2.2.2.2.1,((x.2.2.2.2.2.2.2.2.1,
 ()),(x.2.2.2.2.2.2.2.2.2.1,((x.2.2.2.2.2.2.2.2.2.2.1,(x.2.2.2.2.2.2.2.2.2.2.2.1,(x.2.2.2.2.2.2.2.2.2.2.2.2.1,()))),
 ((x.2.2.2.2.2.2.2.2.2.2.2.2.2.1,(x.2.2.2.2.2.2.2.2.2.2.2.2.2.2.1,(x.2.2.2.2.2.2.2.2.2.2.2.2.2.2.2,()))),())))))))))))) (fun _=>rfl)
abbrev S5:List Wk:= [.one 3,.one 5,.one 7,.fr (cu 82 [(0,.al),(2,.al),(5,.al),(6,.al),(7,.al)]),.syms,.auto,.aE]
abbrev aiv:Exit→List Wk:=xz S5 0 [.one 3,.one 5,.one 7,.fr (cu 82 [(2,.al),(5,.al),(6,.al)]),.syms,.auto,.aE] [.one
 3,.one 5,.one 7,.fr (cu 82 [(2,.al)]),.syms,.auto,.aE]
def Ae(d':Int×Int×Int):Int×Int×Int:=(cz d').snd
abbrev S6:Type:=Int×RB×(Int×Int×Int)×Int×(List Int)×Int×(List Int)×Int×(List Int)×Int×Int×Int×Int×Int×Int
abbrev aiw(x:S6):Exit×St:=(Exit.exit 0,⟨(iE 2 (LV.one (VV.sc (SV.ptr 8 0))::(iE 2 (LV.one (VV.sc (SV.ptr 9 0))::
 (LV.one (VV.sc (SV.int i64 (SI.sym x.1)))::(iE 75 [])))))),[some (IW.wr x.2.1),some (kH.wr x.2.2.1),some (Item.aW [SV.int i64
 (SI.sym x.2.2.2.1),SV.sl 3 1] 347),some (Item.own 1 (Ty.int i64) x.2.2.2.2.1),some (Item.aW [SV.int i64 (SI.sym x.2.2.2.2.2.1),
 SV.sl 5 1] 347),some (Item.own 1 (Ty.int i64) x.2.2.2.2.2.2.1),some (Item.aW [SV.int i64 (SI.sym x.2.2.2.2.2.2.2.1),SV.sl 7 1]
 347),some (Item.own 1 (Ty.int i64) x.2.2.2.2.2.2.2.2.1),some (Item.aW [SV.int i64 (SI.sym x.2.2.2.2.2.2.2.2.2.1),SV.int i64
 (SI.sym x.2.2.2.2.2.2.2.2.2.2.1),SV.int IntKind.u8 (SI.sym x.2.2.2.2.2.2.2.2.2.2.2.1)] 199),some (Item.aW [SV.int i64 (SI.sym
 x.2.2.2.2.2.2.2.2.2.2.2.2.1),SV.int i64 (SI.sym x.2.2.2.2.2.2.2.2.2.2.2.2.2.1),SV.int IntKind.u8 (SI.sym x.2.2.2.2.2.2.2.2.2.2.2.2.2.2)]
 199)]⟩)
def I8(di:Int)(k:Int)(r':RB)(d':Int×Int×Int)(eN:Int)(dy:List Int)(eO:Int)(dz:List Int)(eP:Int)
 (dA:List Int) (t1:Int) (t2:Int) (t3:Int) (u1:Int) (u2:Int) (u3:Int):Tr (C3⊕(S6)):=(.ite (decide (k<6)) (.need (Cw
 d') (.need (g9 r' (Ae d') eN dy eO dz eP dA) (.ret (.inl (i64.wrap (i64.wrap (2*di)+(cz d').fst),
 i64.wrap (k+1),(bB r' (Ae d')).fst,(bB r' (Ae d')).snd,eN,dy,eO,dz,eP,dA,t1,t2,t3,u1,u2,u3))))) (.ret
 (.inr (di,r',d',eN,dy,eO,dz,eP,dA,t1,t2,t3,u1,u2,u3))))
theorem S7(r:RB)(d:Dc)(b1:Int)(p1:List Int)(b2:Int)(p2:List Int)(b3:Int)(p3:List Int)(di:Int)(k:Int)(r':RB)(d':Int×Int×Int)(eN:Int)(dy:List Int)(eO:Int)(dz:List Int)(eP:Int)(dA:List Int)(t1:Int)(t2:Int)(t3:Int)(u1:Int)(u2:Int)(u3:Int):cO Tryz.prog [(290,vA),(231,lL),(291,avZ),(292,Sf)] [] f232 0 ((l5).wr (r,d,b1,p1,b2,p2,b3,p3,())) aiv (C4.wr (di,k,r',d',eN,dy,eO,dz,eP,dA,t1,t2,t3,u1,u2,u3))=(I8 di k r' d' eN dy eO dz eP dA t1 t2 t3 u1 u2 u3).res C4.wr aiw:=by kernel_rfl
def dm:Nat→Int→RB→Dc→Int×RB×Dc
 |0,di,r,d=>(di,r,d)
 |k+1,di,r,d=>dm k (2*di+(cz d).1) (bB r (cz d).2).1 (bB r (cz d).2).2
theorem MQ:∀ (k:Nat) (di:Int) (r:RB) (d:Dc),lJ d→ay r.b→r.b.length<1099511627776→
  lJ (dm k di r d).2.2∧ay (dm k di r d).2.1.b∧(dm k di r d).2.1.b.length≤r.b.length∧
  2 ^ k*di≤(dm k di r d).1∧(dm k di r d).1<2 ^ k*(di+1)
 |0,di,r,d,h1,h2,h3=>⟨h1,h2,Nat.le_refl _,by simp[dm],by simp[dm];omega⟩
 |k+1,di,r,d,h1,h2,h3=>by
  obtain⟨m1,m2,m3⟩:=ko (r:=r) (rN h1) h2 h3;obtain⟨b1,b2⟩:=vL d;obtain⟨k1,k2,k3,k5,k6⟩:=MQ k (2*di+(cz d).1) (bB r (cz d).2).1 (bB r (cz d).2).2 m1 m2 (by omega);rw[dm];refine⟨k1,k2,by omega,Int.le_trans ?_ k5,Int.lt_of_lt_of_le k6 ?_⟩
  ·rw[Int.pow_succ,Int.mul_assoc];exact Int.mul_le_mul_of_nonneg_left (by omega) (Int.le_of_lt (Int.pow_pos (by decide)))
  ·rw[Int.pow_succ,Int.mul_assoc];exact Int.mul_le_mul_of_nonneg_left (by omega) (Int.le_of_lt (Int.pow_pos (by decide)))
abbrev C5(di:Int)(k:Int)(r':RB)(d':Int×Int×Int)(eN:Int)(dy:List Int)(eO:Int)(dz:List Int)(eP:Int)(dA:List Int)(t1:Int)(t2:Int)(t3:Int)(u1:Int)(u2:Int)(u3:Int):Prop:=lJ d'∧ay r'.b∧r'.b.length<1099511627776∧0≤k∧k≤6∧0≤di∧di<2 ^ (k.toNat+6)
abbrev S8(di:Int)(k:Int)(r':RB)(d':Int×Int×Int)(eN:Int)(dy:List Int)(eO:Int)(dz:List Int)(eP:Int)(dA:List Int)(t1:Int)(t2:Int)(t3:Int)(u1:Int)(u2:Int)(u3:Int):S6:=((dm (6-k).toNat di r' d').1,(dm (6-k).toNat di r' d').2.1,(dm (6-k).toNat di r' d').2.2,eN,dy,eO,dz,eP,dA,t1,t2,t3,u1,u2,u3)
abbrev S9:C3→aK:=eB (fun x_=>C5 x_.1 x_.2.1 x_.2.2.1 x_.2.2.2.1 x_.2.2.2.2.1 x_.2.2.2.2.2.1 x_.2.2.2.2.2.2.1 x_.2.2.2.2.2.2.2.1 x_.2.2.2.2.2.2.2.2.1 x_.2.2.2.2.2.2.2.2.2.1 x_.2.2.2.2.2.2.2.2.2.2.1 x_.2.2.2.2.2.2.2.2.2.2.2.1 x_.2.2.2.2.2.2.2.2.2.2.2.2.1 x_.2.2.2.2.2.2.2.2.2.2.2.2.2.1 x_.2.2.2.2.2.2.2.2.2.2.2.2.2.2.1 x_.2.2.2.2.2.2.2.2.2.2.2.2.2.2.2) (fun x_=>S8 x_.1 x_.2.1 x_.2.2.1 x_.2.2.2.1 x_.2.2.2.2.1 x_.2.2.2.2.2.1 x_.2.2.2.2.2.2.1 x_.2.2.2.2.2.2.2.1 x_.2.2.2.2.2.2.2.2.1 x_.2.2.2.2.2.2.2.2.2.1 x_.2.2.2.2.2.2.2.2.2.2.1 x_.2.2.2.2.2.2.2.2.2.2.2.1 x_.2.2.2.2.2.2.2.2.2.2.2.2.1 x_.2.2.2.2.2.2.2.2.2.2.2.2.2.1 x_.2.2.2.2.2.2.2.2.2.2.2.2.2.2.1 x_.2.2.2.2.2.2.2.2.2.2.2.2.2.2.2) aiw
theorem aix(di:Int)(k:Int)(r':RB)(d':Int×Int×Int)(eN:Int)(dy:List Int)(eO:Int)(dz:List Int)(eP:Int)(dA:List Int)(t1:Int)(t2:Int)(t3:Int)(u1:Int)(u2:Int)(u3:Int)(h_:C5 di k r' d' eN dy eO dz eP dA t1 t2 t3 u1 u2 u3):cX (fun x_:C3=>I8 x_.1 x_.2.1 x_.2.2.1 x_.2.2.2.1 x_.2.2.2.2.1 x_.2.2.2.2.2.1 x_.2.2.2.2.2.2.1 x_.2.2.2.2.2.2.2.1 x_.2.2.2.2.2.2.2.2.1 x_.2.2.2.2.2.2.2.2.2.1 x_.2.2.2.2.2.2.2.2.2.2.1 x_.2.2.2.2.2.2.2.2.2.2.2.1 x_.2.2.2.2.2.2.2.2.2.2.2.2.1 x_.2.2.2.2.2.2.2.2.2.2.2.2.2.1 x_.2.2.2.2.2.2.2.2.2.2.2.2.2.2.1 x_.2.2.2.2.2.2.2.2.2.2.2.2.2.2.2) (di,k,r',d',eN,dy,eO,dz,eP,dA,t1,t2,t3,u1,u2,u3) (S8 di k r' d' eN dy eO dz eP dA t1 t2 t3 u1 u2 u3):=by
 delta S8;obtain⟨h1,h2,h3,h4,h5,h6,h7⟩:=h_;obtain⟨n,hn⟩:∃n:Nat,(6-k).toNat=n:=⟨_,rfl⟩;rw[hn]
 induction n generalizing di k r' d' with
 |zero=>
  refine .stop ?_;simp only[I8,aP,aq,au];exact⟨fun h=>by omega,fun _=>rfl⟩
 |succ n ih=>
  have hp:(2:Int) ^ (k.toNat+6)≤2 ^ 12:=fE (by omega);have hp9:(2:Int) ^ 12=4096:=by decide
  obtain⟨m1,m2,m3⟩:=ko (r:=r') (rN h1) h2 h3;obtain⟨b1,b2⟩:=vL d'
  have Wc:(2:Int) ^ ((k+1).toNat+6)=2*2 ^ (k.toNat+6):=by
   rw[show(k+1).toNat+6=(k.toNat+6)+1 from by omega,Int.pow_succ,Int.mul_comm]
  have lA:=ih (2*di+(cz d').1) (k+1) (bB r' (cz d').2).1 (bB r' (cz d').2).2 m1 m2 (by omega) (by omega) (by omega) (by omega) (by rw[Wc];omega) (by omega);rw[dm];refine .go ?_ lA;have ea:Ae d'=(cz d').2:=rfl;simp only[I8,aP,aq,au,ea];refine⟨fun _=>⟨h1,⟨rN h1,h2,h3⟩,?_⟩,fun h=>by omega⟩;rw[ao (n:=2*di) (by omega) (by omega),ao (n:=2*di+_) (by omega) (by omega),ao (n:=k+1) (by omega) (by omega)]
theorem aa3(r:RB)(d:Dc)(b1:Int)(p1:List Int)(b2:Int)(p2:List Int)(b3:Int)(p3:List Int):∀x:C3,Ex Tryz.prog ((l5).wr (r,d,b1,p1,b2,p2,b3,p3,())) (.loop (aO f232 0)) (C4.wr x) (S9 x):=
 cy mixed ((aj mj (aj hS (aj aiu (aj Ml ax))))) (ws:=aiv) (aH.nil _) (fun x_=>S7 r d b1 p1 b2 p2 b3 p3 x_.1 x_.2.1 x_.2.2.1 x_.2.2.2.1 x_.2.2.2.2.1 x_.2.2.2.2.2.1 x_.2.2.2.2.2.2.1 x_.2.2.2.2.2.2.2.1 x_.2.2.2.2.2.2.2.2.1 x_.2.2.2.2.2.2.2.2.2.1 x_.2.2.2.2.2.2.2.2.2.2.1 x_.2.2.2.2.2.2.2.2.2.2.2.1 x_.2.2.2.2.2.2.2.2.2.2.2.2.1 x_.2.2.2.2.2.2.2.2.2.2.2.2.2.1 x_.2.2.2.2.2.2.2.2.2.2.2.2.2.2.1 x_.2.2.2.2.2.2.2.2.2.2.2.2.2.2.2) (fun z e=>by cases e) eV (fun x_ h=>aix x_.1 x_.2.1 x_.2.2.1 x_.2.2.2.1 x_.2.2.2.2.1 x_.2.2.2.2.2.1 x_.2.2.2.2.2.2.1 x_.2.2.2.2.2.2.2.1 x_.2.2.2.2.2.2.2.2.1 x_.2.2.2.2.2.2.2.2.2.1 x_.2.2.2.2.2.2.2.2.2.2.1 x_.2.2.2.2.2.2.2.2.2.2.2.1 x_.2.2.2.2.2.2.2.2.2.2.2.2.1 x_.2.2.2.2.2.2.2.2.2.2.2.2.2.1 x_.2.2.2.2.2.2.2.2.2.2.2.2.2.2.1 x_.2.2.2.2.2.2.2.2.2.2.2.2.2.2.2 h)
def oF(r:RB)(d:Int×Int×Int):Int×Int×Int×Int×Int:=a7 ((List.take 2 (List.drop 0 r.cs)).getD r.bW.toNat 0) d
def xZ(r:RB)(d:Int×Int×Int):RB:= {b:=r.b,cs:=r.cs.set (0+r.bW.toNat) (oF r d).snd.fst,bW:=(oF r d).fst,bad:=r.bad}
def tj(r:RB)(d:Int×Int×Int):Int×Int×Int:=(oF r d).snd.snd
def jc(r:RB)(d:Int×Int×Int):Int×Int×Int:=(bB (xZ r d) (tj r d)).snd
def jd(r:RB)(d:Int×Int×Int):RB:=(bB (xZ r d) (tj r d)).fst
def Ta(r:RB)(d:Int×Int×Int)(b2:Int)(p2:List Int):Int:=i64.wrap ((aV b2.toNat 1 (jd r d) (jc r
 d) p2).fst-2 ^ b2.toNat+2)
def tk(r:RB)(d:Int×Int×Int)(b2:Int)(p2:List Int):Int×Int×Int:=(aV b2.toNat 1 (jd r d) (jc r d)
 p2).snd.snd.fst
def tm(r:RB)(d:Int×Int×Int)(b2:Int)(p2:List Int):RB:=(aV b2.toNat 1 (jd r d) (jc r d) p2).snd.fst
def C6(r:RB)(d:Int×Int×Int)(b2:Int)(p2:List Int)(b3:Int)(p3:List Int):Int:=(aV b3.toNat 1 (tm r d b2
 p2) (tk r d b2 p2) p3).fst-2 ^ b3.toNat
def C7(r:RB)(d:Int×Int×Int)(b2:Int)(p2:List Int)(b3:Int)(p3:List Int):Int×Int×Int:=(aV b3.toNat 1
 (tm r d b2 p2) (tk r d b2 p2) p3).snd.snd.fst
def vW(r:RB)(d:Int×Int×Int)(b2:Int)(p2:List Int)(b3:Int)(p3:List Int):RB:=(aV b3.toNat 1 (tm r d b2
 p2) (tk r d b2 p2) p3).snd.fst
abbrev Xl:Type:=Int×Int×Int×RB×(Int×Int×Int)×Int×(List Int)×Int×(List Int)×Int×(List Int)
abbrev atA(x:Xl):LV:=LV.one (VV.agg [SV.int i64 (SI.sym x.1),SV.int i64 (SI.sym x.2.1),SV.int IntKind.u8
 (SI.sym x.2.2.1)])
abbrev atB(x:Xl):List (Nat×Ev.Item):= [(0,IW.wr x.2.2.2.1),(1,kH.wr x.2.2.2.2.1),(2,Item.aW [SV.int i64
 (SI.sym x.2.2.2.2.2.1),SV.sl 3 1] 347),(3,Item.own 1 (Ty.int i64) x.2.2.2.2.2.2.1),(4,Item.aW [SV.int i64 (SI.sym
 x.2.2.2.2.2.2.2.1),SV.sl 5 1] 347),(5,Item.own 1 (Ty.int i64) x.2.2.2.2.2.2.2.2.1),(6,Item.aW [SV.int i64 (SI.sym
 x.2.2.2.2.2.2.2.2.2.1),SV.sl 7 1] 347),(7,Item.own 1 (Ty.int i64) x.2.2.2.2.2.2.2.2.2.2)]
def aiy(r:RB)(d:Int×Int×Int)(b1:Int)(p1:List Int)(b2:Int)(p2:List Int)(b3:Int)(p3:List Int):Tr (Xl):=
 (.need (0≤r.bW∧r.bW<2) (.need (rL ((List.take 2 (List.drop 0 r.cs)).getD r.bW.toNat 0) d) (.need (0≤r.bW∧r.bW<2) (.need (g9
 (xZ r d) (tj r d) b1 p1 b2 p2 b3 p3) (.ite ((oF r d).fst==0) (.need (z9 (jd r d) (jc r d) b1 p1 b2 p2 b3 p3) (.ret (0,0,
 IntKind.u8.wrap ((aV b1.toNat 1 (jd r d) (jc r d) p1).fst-2 ^ b1.toNat),(aV b1.toNat 1 (jd r d) (jc r d) p1).snd.fst,(aV
 b1.toNat 1 (jd r d) (jc r d) p1).snd.snd.fst,b1,(aV b1.toNat 1 (jd r d) (jc r d) p1).snd.snd.snd,b2,p2,b3,p3))) (.need
 (Ab (jd r d) (jc r d) b1 p1 b2 p2 b3 p3) (.need (Ad (tm r d b2 p2) (tk r d b2 p2) b1 p1 b2 (aV b2.toNat 1 (jd r d)
 (jc r d) p2).snd.snd.snd b3 p3) (.need (C5 (C6 r d b2 p2 b3 p3) 0 (vW r d b2 p2 b3 p3) (C7 r d b2 p2 b3 p3) b1 p1 b2 (aV
 b2.toNat 1 (jd r d) (jc r d) p2).snd.snd.snd b3 (aV b3.toNat 1 (tm r d b2 p2) (tk r d b2 p2) p3).snd.snd.snd 0 0 0 (Ta r d b2
 p2) 0 0) (.ret (Ta r d b2 p2,i64.wrap ((dm 6 (C6 r d b2 p2 b3 p3) (vW r d b2 p2 b3 p3) (C7 r d b2 p2 b3 p3)).fst+1),0,
 (dm 6 (C6 r d b2 p2 b3 p3) (vW r d b2 p2 b3 p3) (C7 r d b2 p2 b3 p3)).snd.fst,(dm 6 (C6 r d b2 p2 b3 p3) (vW r d b2 p2 b3
 p3) (C7 r d b2 p2 b3 p3)).snd.snd,b1,p1,b2,(aV b2.toNat 1 (jd r d) (jc r d) p2).snd.snd.snd,b3,(aV b3.toNat 1 (tm r d b2
 p2) (tk r d b2 p2) p3).snd.snd.snd))))))))))
theorem aa4(r:RB)(d:Dc)(b1:Int)(p1:List Int)(b2:Int)(p2:List Int)(b3:Int)(p3:List Int):aG Tryz.prog [(290,vA),(231,lL),(291,avZ),(292,Sf)] [(0,bZ C4 ((l5).wr (r,d,b1,p1,b2,p2,b3,p3,())) S5 (S9))] f232 ((gM).wr (())) ((l5).wr (r,d,b1,p1,b2,p2,b3,p3,())) [.one 3,.one 5,.one 7,.fr [.sym],.syms,.auto,.aE]=(aiy r d b1 p1 b2 p2 b3 p3).end atA atB ((l5).wr (r,d,b1,p1,b2,p2,b3,p3,())):=by kernel_rfl
theorem aiz(r:RB)(d:Dc)(b1:Int)(p1:List Int)(b2:Int)(p2:List Int)(b3:Int)(p3:List Int):aH Tryz.prog ((l5).wr (r,d,b1,p1,b2,p2,b3,p3,())) [(0,bZ C4 ((l5).wr (r,d,b1,p1,b2,p2,b3,p3,())) S5 (S9))] (aF f232):=(aH.bK (js (by kernel_rfl) (bP (hp:=(l5).wr (r,d,b1,p1,b2,p2,b3,p3,())) (aa3 r d b1 p1 b2 p2 b3 p3)) jt))
def mS(r:RB)(d:Dc):Int×RB×Dc:=
 let x:=a7 (r.cs.getD r.bW.toNat 0) d
 let m:=bB ⟨r.b,r.cs.set r.bW.toNat x.2.1,x.1,r.bad⟩ x.2.2
 (x.1,m.1,m.2)
def dI(r:RB)(d:Dc)(p1 p2 p3:List Int):cY×RB×Dc×List Int×List Int×List Int:=
 let m:=mS r d
 if m.1=0 then
  let y:=aV 8 1 m.2.1 m.2.2 p1
  ((0,0,y.1-256),y.2.1,y.2.2.1,y.2.2.2,p2,p3)
 else
  let y:=aV 8 1 m.2.1 m.2.2 p2
  let z:=aV 6 1 y.2.1 y.2.2.1 p3
  let h:=dm 6 (z.1-64) z.2.1 z.2.2.1
  ((y.1-256+2,h.1+1,0),h.2.1,h.2.2,p1,y.2.2.2,z.2.2.2)
structure KC (r:RB) (d:Dc) (p1 p2 p3:List Int):Prop where
 d:lJ d
 b:ay r.b
 n:r.b.length<1099511627776
 cs:r.cs.length=2
 bW:r.bW=0∨r.bW=1
 l1:p1.length=256
 l2:p2.length=256
 l3:p3.length=64
theorem je(r:RB)(d:Dc):(bB r d).1.cs=r.cs∧(bB r d).1.bW=r.bW:=by unfold bB;split<;>exact⟨rfl,rfl⟩
theorem MR:∀ (k:Nat) (n:Int) (r:RB) (d:Dc) (p:List Int),(aV k n r d p).2.1.cs=r.cs∧(aV k n r d p).2.1.bW=r.bW
 |0,_,_,_,_=>⟨rfl,rfl⟩
 |k+1,n,r,d,p=>by rw[aV];obtain⟨h1,h2⟩:=MR k (2*n+(a7 (ef p n) d).1) (bB r (a7 (ef p n) d).2.2).1 (bB r (a7 (ef p n) d).2.2).2 (b8 p n (a7 (ef p n) d).1);rw[(je _ _).1]at h1;rw[(je _ _).2]at h2;exact⟨h1,h2⟩
theorem MS:∀ (k:Nat) (n:Int) (r:RB) (d:Dc),(dm k n r d).2.1.cs=r.cs∧(dm k n r d).2.1.bW=r.bW
 |0,_,_,_=>⟨rfl,rfl⟩
 |k+1,n,r,d=>by rw[dm];obtain⟨h1,h2⟩:=MS k (2*n+(cz d).1) (bB r (cz d).2).1 (bB r (cz d).2).2;rw[(je _ _).1]at h1;rw[(je _ _).2]at h2;exact⟨h1,h2⟩
theorem Xm{r:RB}{d:Dc}{p1 p2 p3:List Int}(h:KC r d p1 p2 p3):KC (mS r d).2.1 (mS r d).2.2 p1 p2 p3∧0≤(mS r d).1∧(mS r d).1≤1:=by
 obtain⟨h1,h2,h3,h4,h5,h6,h7,h8⟩:=h;have hb:=ik (r.cs.getD r.bW.toNat 0) d;unfold mS;simp only;generalize hx:a7 (r.cs.getD r.bW.toNat 0) d=x at*;have hd:lJ x.2.2:=by rw[← hx];exact fa h1 _
 obtain⟨m1,m2,m3⟩:=ko (r:=⟨r.b,r.cs.set r.bW.toNat x.2.1,x.1,r.bad⟩) hd h2 h3;obtain⟨c1,c2⟩:=je ⟨r.b,r.cs.set r.bW.toNat x.2.1,x.1,r.bad⟩ x.2.2;simp only at m3;refine⟨⟨m1,m2,by omega,by rw[c1];simpa using h4,by rw[c2];simp only;omega,h6,h7,h8⟩,hb⟩
theorem nM{r:RB}{d:Dc}{p1 p2 p3:List Int}(h:KC r d p1 p2 p3)(k:Nat)(p:List Int):
  KC (aV k 1 r d p).2.1 (aV k 1 r d p).2.2.1 p1 p2 p3∧(aV k 1 r d p).2.2.2.length=p.length∧2 ^ k≤(aV k 1 r d p).1∧(aV k 1 r d p).1<2 ^ k*2:=by
 obtain⟨h1,h2,h3,h4,h5,h6,h7,h8⟩:=h;obtain⟨k1,k2,k3,k4,k5,k6⟩:=qD k 1 r d p h1 h2 h3 (by omega);obtain⟨c1,c2⟩:=MR k 1 r d p;exact⟨⟨k1,k2,by omega,by rw[c1];exact h4,by rw[c2];exact h5,h6,h7,h8⟩,k4,by omega,by simpa using k6⟩
theorem MT{r:RB}{d:Dc}{p1 p2 p3:List Int}(h:KC r d p1 p2 p3)(k:Nat)(di:Int):
  KC (dm k di r d).2.1 (dm k di r d).2.2 p1 p2 p3∧2 ^ k*di≤(dm k di r d).1∧(dm k di r d).1<2 ^ k*(di+1):=by
 obtain⟨h1,h2,h3,h4,h5,h6,h7,h8⟩:=h;obtain⟨k1,k2,k3,k5,k6⟩:=MQ k di r d h1 h2 h3;obtain⟨c1,c2⟩:=MS k di r d;exact⟨⟨k1,k2,by omega,by rw[c1];exact h4,by rw[c2];exact h5,h6,h7,h8⟩,k5,k6⟩
theorem KC.put{r:RB}{d:Dc}{p1 p2 p3 q1 q2 q3:List Int}(h:KC r d p1 p2 p3)(e1:q1.length=p1.length)(e2:q2.length=p2.length)(e3:q3.length=p3.length):KC r d q1 q2 q3:=
 ⟨h.d,h.b,h.n,h.cs,h.bW,e1▸h.l1,e2▸h.l2,e3▸h.l3⟩
theorem Xn{r:RB}{d:Dc}{p1 p2 p3:List Int}(h:KC r d p1 p2 p3):
  let x:=dI r d p1 p2 p3
  KC x.2.1 x.2.2.1 x.2.2.2.1 x.2.2.2.2.1 x.2.2.2.2.2∧0≤x.1.2.2∧x.1.2.2<256∧1≤b9 x.1∧b9 x.1≤257∧0≤x.1.2.1∧x.1.2.1≤4096:=by
 obtain⟨c1,c2,c3⟩:=Xm h;unfold dI;simp only
 split
 ·obtain⟨y1,y2,y3,y4⟩:=nM c1 8 p1;exact⟨y1.put y2 rfl rfl,by simp only;omega,by simp only;omega,by simp[b9],by simp[b9],by simp,by simp⟩
 ·obtain⟨y1,y2,y3,y4⟩:=nM c1 8 p2;obtain⟨z1,z2,z3,z4⟩:=nM y1 6 p3;obtain⟨w1,w3,w4⟩:=MT z1 6 ((aV 6 1 (aV 8 1 (mS r d).2.1 (mS r d).2.2 p2).2.1 (aV 8 1 (mS r d).2.1 (mS r d).2.2 p2).2.2.1 p3).1-64);refine⟨w1.put rfl y2 z2,by simp,by simp,?_,?_,by simp only;omega,by simp only;omega⟩<;>
  ·unfold b9;simp only;split<;>omega
abbrev Af(r:RB)(d:Dc)(b1:Int)(p1:List Int)(b2:Int)(p2:List Int)(b3:Int)(p3:List Int):Prop:=KC r d p1 p2 p3∧b1=8∧b2=8∧b3=6
abbrev aiA(r:RB)(d:Dc)(b1:Int)(p1:List Int)(b2:Int)(p2:List Int)(b3:Int)(p3:List Int):Xl:=((dI r d p1 p2 p3).1.1,(dI r d p1 p2 p3).1.2.1,(dI r d p1 p2 p3).1.2.2,(dI r d p1 p2 p3).2.1,(dI r d p1 p2 p3).2.2.1,b1,(dI r d p1 p2 p3).2.2.2.1,b2,(dI r d p1 p2 p3).2.2.2.2.1,b3,(dI r d p1 p2 p3).2.2.2.2.2)
def aiB:an:=cv [] (gM) (l5) (fun x_ y_=>Af y_.1 y_.2.1 y_.2.2.1 y_.2.2.2.1 y_.2.2.2.2.1 y_.2.2.2.2.2.1 y_.2.2.2.2.2.2.1 y_.2.2.2.2.2.2.2.1) (fun x_ y_=>aiA y_.1 y_.2.1 y_.2.2.1 y_.2.2.2.1 y_.2.2.2.2.1 y_.2.2.2.2.2.1 y_.2.2.2.2.2.2.1 y_.2.2.2.2.2.2.2.1) atA atB
theorem ao6(r:RB)(d:Dc)(b1:Int)(p1:List Int)(b2:Int)(p2:List Int)(b3:Int)(p3:List Int)(h_:Af r d b1 p1 b2 p2 b3 p3):(aiy r d b1 p1 b2 p2 b3 p3).Is (aiA r d b1 p1 b2 p2 b3 p3):=by
 delta aiA;obtain⟨h,rfl,rfl,rfl⟩:=h_;obtain⟨c1,c2,c3⟩:=Xm h;have hr:=h;obtain⟨h1,h2,h3,h4,h5,h6,h7,h8⟩:=h;have e0:(List.take 2 (List.drop 0 r.cs)).getD r.bW.toNat 0=r.cs.getD r.bW.toNat 0:=by rw[List.drop_zero,List.take_of_length_le (by omega)]
 have yZ:oF r d=a7 (r.cs.getD r.bW.toNat 0) d:=by unfold oF;rw[e0]
 have zk:xZ r d=⟨r.b,r.cs.set r.bW.toNat (oF r d).2.1,(oF r d).1,r.bad⟩:=by unfold xZ;rw[Nat.zero_add]
 have ec:(oF r d).1=(mS r d).1:=by rw[yZ];rfl
 have ea3:jc r d=(mS r d).2.2:=by unfold jc tj;rw[zk,yZ];rfl
 have ea4:jd r d=(mS r d).2.1:=by unfold jd tj;rw[zk,yZ];rfl
 have w0:0≤r.bW∧r.bW<2:=by omega
 have hm:g9 (xZ r d) (tj r d) 8 p1 8 p2 6 p3:=by
  refine⟨?_,?_,?_⟩
  ·unfold tj;rw[yZ];exact fa h1 _
  ·rw[zk];exact h2
  ·rw[zk];exact h3
 have n8:(8:Int).toNat=8:=rfl;have n6:(6:Int).toNat=6:=rfl;have p8:(2:Int) ^ 8=256:=by decide
 have p6:(2:Int) ^ 6=64:=by decide
 have pt:∀ {r d} {q1 q2 q3:List Int},KC r d q1 q2 q3→z9 r d 8 q1 8 q2 6 q3:=fun h=>⟨h.d,h.b,h.n,h.l1,by decide,by decide⟩;have pu:∀ {r d} {q1 q2 q3:List Int},KC r d q1 q2 q3→Ab r d 8 q1 8 q2 6 q3:=fun h=>⟨h.d,h.b,h.n,h.l2,by decide,by decide⟩;have pv:∀ {r d} {q1 q2 q3:List Int},KC r d q1 q2 q3→Ad r d 8 q1 8 q2 6 q3:=fun h=>⟨h.d,h.b,h.n,h.l3,by decide,by decide⟩;unfold dI;simp only[aiy,aq,eA,au,ec,ea3,ea4,Ta,tk,tm,C6,C7,vW,n8,n6,p8,p6];refine⟨w0,h1,w0,hm,fun e=>⟨pt c1,?_⟩,fun e=>⟨pu c1,?_⟩⟩
 ·obtain⟨y1,y2,y3,y4⟩:=nM c1 8 p1;rw[if_pos e,wrap_u8,Int.emod_eq_of_lt (by omega) (by omega)]
 ·rw[if_neg e];obtain⟨y1,y2,y3,y4⟩:=nM c1 8 p2;obtain⟨z1,z2,z3,z4⟩:=nM y1 6 p3;obtain⟨w1,w3,w4⟩:=MT z1 6 ((aV 6 1 (aV 8 1 (mS r d).2.1 (mS r d).2.2 p2).2.1 (aV 8 1 (mS r d).2.1 (mS r d).2.2 p2).2.2.1 p3).1-64);refine⟨pv (y1.put rfl y2 rfl),⟨z1.d,z1.b,z1.n,by decide,by decide,by omega,by rw[show(2:Int) ^ ((0:Int).toNat+6)=64 from by decide];omega⟩,?_⟩;rw[ao (by omega) (by omega),ao (by omega) (by omega)]
theorem Xo:aiB.Ok Tryz.prog 232:=
 br mixed ((aj mj (aj hS (aj aiu (aj Ml ax))))) func232 (by kernel_rfl) call232 (fun x_ y_=>aiz y_.1 y_.2.1 y_.2.2.1 y_.2.2.2.1 y_.2.2.2.2.1 y_.2.2.2.2.2.1 y_.2.2.2.2.2.2.1 y_.2.2.2.2.2.2.2.1) (fun x_ y_=>aa4 y_.1 y_.2.1 y_.2.2.1 y_.2.2.2.1 y_.2.2.2.2.1 y_.2.2.2.2.2.1 y_.2.2.2.2.2.2.1 y_.2.2.2.2.2.2.2.1) (fun x_ y_ h=>ao6 y_.1 y_.2.1 y_.2.2.1 y_.2.2.2.1 y_.2.2.2.2.1 y_.2.2.2.2.2.1 y_.2.2.2.2.2.2.1 y_.2.2.2.2.2.2.2.1 h)
def pI:Nat→Int→Int→RB→Dc→List Int→List Int→List Int→List cY→RB×Dc×List Int×List Int×List Int×List cY
 |0,_,_,r,d,p1,p2,p3,l=>(r,d,p1,p2,p3,l)
 |k+1,pl,n,r,d,p1,p2,p3,l=>
  if n<pl∧r.bad=false then
   let x:=dI r d p1 p2 p3
   pI k pl (n+b9 x.1) x.2.1 x.2.2.1 x.2.2.2.1 x.2.2.2.2.1 x.2.2.2.2.2 (l++ [x.1])
  else(r,d,p1,p2,p3,l)
theorem rP(b:List Int)(cs:List Int)(bW:Int)(d:Dc):
  (bB ⟨b,cs,bW,false⟩ d).1.bad= !(cT b d).1∧((cT b d).1=true→(cT b d).2.1=(bB ⟨b,cs,bW,false⟩ d).1.b∧(cT b d).2.2=(bB ⟨b,cs,bW,false⟩ d).2):=by
 unfold bB cT;rw[if_neg (by simp)]
 cases(cL b d).1<;>simp
theorem x5{r:RB}(h:r.bad=true)(d:Dc):bB r d=(r,d):=by unfold bB;rw[if_pos h]
theorem lC:∀ (k:Nat) (n:Int) {r:RB} (d:Dc) (p:List Int),r.bad=true→(aV k n r d p).2.1.bad=true
 |0,_,_,_,_,h=>h
 |k+1,n,r,d,p,h=>by rw[aV];exact lC k _ _ _ (by rw[x5 h];exact h)
theorem nN:∀ (k:Nat) (n:Int) {r:RB} (d:Dc),r.bad=true→(dm k n r d).2.1.bad=true
 |0,_,_,_,h=>h
 |k+1,n,r,d,h=>by rw[dm];exact nN k _ _ (by rw[x5 h];exact h)
theorem y6:∀ (k:Nat) (n m:Int) (r:RB) (d:Dc),dm k n r d=((dm k m r d).1+2 ^ k*(n-m),(dm k m r d).2)
 |0,n,m,r,d=>by simp[dm];omega
 |k+1,n,m,r,d=>by
  rw[dm,dm,y6 k _ (2*m+(cz d).1)]
  congr 1
  rw[Int.pow_succ,show 2*n+(cz d).1-(2*m+(cz d).1)=2*(n-m)from by omega,Int.mul_assoc]
abbrev Q3:Type:=List Int×List Int×List Int
def pF(part:Int)(q:Q3):List Int:=if part=1 then q.1 else if part=2 then q.2.1 else q.2.2
def vX(part:Int)(q:Q3)(p:List Int):Q3:=if part=1 then(p,q.2.1,q.2.2)else if part=2 then(q.1,p,q.2.2)else(q.1,q.2.1,p)
theorem ao7(part:Int)(q:Q3)(p:List Int):pF part (vX part q p)=p:=by
 unfold pF vX;split
 ·rfl
 ·split<;>rfl
theorem ao8(part:Int)(q:Q3)(p p':List Int):vX part (vX part q p) p'=vX part q p':=by
 unfold vX;split
 ·rfl
 ·split<;>rfl
def Eg(n:Nat)(pl made:Int)(b:List Int)(d:Dc)(r:RH)(q:Q3)(out:List cY):List cY×Bool:=dT n pl made b d r q.1 q.2.1 q.2.2 out
def tn(n:Nat)(pl made:Int)(b:List Int)(d:Dc)(r:RH)(v:Int)(q:Q3)(out:List cY):List cY×Bool:=
 let y:=iX r v
 if y.1=true then if k8 y.2.t made=true∧b9 y.2.t≤pl-made then Eg n pl (made+b9 y.2.t) b d y.2 q (out++ [y.2.t])else([],false)
 else Eg n pl made b d y.2 q out
theorem I9{n:Nat}{pl made:Int}{b:List Int}{d:Dc}{r:RH}{q:Q3}{out:List cY}(h:(cT b d).1=false):Eg (n+1) pl made b d r q out=([],false):=by
 unfold Eg;rw[dT];simp only;rw[if_neg (by rw[h];simp)]
theorem Ja{n:Nat}{pl made:Int}{b:List Int}{d:Dc}{r:RH}{q:Q3}{out:List cY}(h:(cT b d).1=true)(hm:made≠pl):
  Eg (n+1) pl made b d r q out=
   (let x:=g8 r q.1 q.2.1 q.2.2 (cT b d).2.2
    if 2*r.node+x.1<lK r.part then Eg n pl made (cT b d).2.1 x.2.2.2.2.2 ⟨x.2.1.cs,r.bh,r.part,2*r.node+x.1,r.t⟩ (x.2.2.1,x.2.2.2.1,x.2.2.2.2.1) out
    else tn n pl made (cT b d).2.1 x.2.2.2.2.2 ⟨x.2.1.cs,r.bh,r.part,1,r.t⟩ (2*r.node+x.1-lK r.part) (x.2.2.1,x.2.2.2.1,x.2.2.2.2.1) out):=by
 unfold Eg;rw[dT];simp only;rw[if_pos h,if_neg hm];unfold fQ;simp only
 split
 ·rw[if_neg (by simp)]
 ·unfold tn Eg;simp only
  split
  ·rw[if_pos rfl]
  ·rw[if_neg (by simp)]
theorem aiC{r:RH}(h:1≤r.part∧r.part≤3)(q:Q3)(d:Dc):
  g8 r q.1 q.2.1 q.2.2 d=((a7 (ef (pF r.part q) r.node) d).1,r,(vX r.part q (b8 (pF r.part q) r.node (a7 (ef (pF r.part q) r.node) d).1)).1,(vX r.part q (b8 (pF r.part q) r.node (a7 (ef (pF r.part q) r.node) d).1)).2.1,(vX r.part q (b8 (pF r.part q) r.node (a7 (ef (pF r.part q) r.node) d).1)).2.2,(a7 (ef (pF r.part q) r.node) d).2.2):=by
 unfold g8 pF vX;rw[if_neg (by omega),if_neg (by omega)]
 split
 ·rfl
 ·split<;>rfl
theorem vY{pl made:Int}(hm:made≠pl)(cs:List Int)(bW:Int)(out:List cY):∀ (k j n:Nat) (b:List Int) (d:Dc) (r:RH) (q:Q3),1≤r.part∧r.part≤3→lK r.part=2 ^ (j+(k+1))→2 ^ j≤r.node→r.node<2 ^ (j+1)→
  let m:=bB ⟨b,cs,bW,false⟩ d
  let T:=aV (k+1) r.node m.1 m.2 (pF r.part q)
  (T.2.1.bad=true∧Eg (n+(k+1)) pl made b d r q out=([],false))∨
  ∃b' d',bB ⟨b',cs,bW,false⟩ d'=(T.2.1,T.2.2.1)∧Eg (n+(k+1)) pl made b d r q out=tn n pl made b' d' ⟨r.cs,r.bh,r.part,1,r.t⟩ (T.1-lK r.part) (vX r.part q T.2.2.2) out
 |k,j,n,b,d,r,q,h1,h2,h3,h4=>by
  obtain⟨f1,f2⟩:=rP b cs bW d;obtain⟨c1,c2⟩:=je ⟨b,cs,bW,false⟩ d;generalize hmm:bB ⟨b,cs,bW,false⟩ d=m at*;simp only
  cases hf:(cT b d).1 with
  |false=>
   rw[hf]at f1;exact .inl ⟨lC _ _ _ _ f1,by rw[← Nat.add_assoc];exact I9 hf⟩
  |true=>
   obtain⟨f3,f4⟩:=f2 hf;rw[hf]at f1
   have em:m.1=⟨m.1.b,cs,bW,false⟩:=by
    obtain⟨⟨a1,a2,a3,a4⟩,a5⟩:=m;simp only at c1 c2 f1 ⊢;rw[c1,c2,f1];rfl
   have hb:=ik (ef (pF r.part q) r.node) m.2;rw[← Nat.add_assoc,Ja hf hm,f3,f4,aiC h1];simp only;rw[aV];generalize a7 (ef (pF r.part q) r.node) m.2=x at*
   cases k with
   |zero=>
    have hp:(2:Int) ^ (j+1)=2*2 ^ j:=(by rw[Int.pow_succ,Int.mul_comm]);rw[Nat.zero_add]at h2;rw[if_neg (by omega),aV];refine .inr ⟨m.1.b,x.2.2,?_,rfl⟩;rw[← em]
   |succ k=>
    have hp:(2:Int) ^ (j+1)=2*2 ^ j:=(by rw[Int.pow_succ,Int.mul_comm]);have Vy:(2:Int) ^ (j+1+1)=2*2 ^ (j+1):=(by rw[Int.pow_succ,Int.mul_comm]);have hp2:(2:Int) ^ (j+1+1)≤2 ^ (j+(k+1+1)):=fE (by omega);rw[if_pos (by omega)];have ih:=vY hm cs bW out k (j+1) n m.1.b x.2.2 ⟨r.cs,r.bh,r.part,2*r.node+x.1,r.t⟩ (vX r.part q (b8 (pF r.part q) r.node x.1)) h1 (by rw[h2];congr 1;omega) (by simp only;omega) (by simp only;omega);simp only[ao7,ao8]at ih;rw[← em]at ih;exact ih
theorem MU{pl made:Int}(hm:made≠pl)(cs:List Int)(bW:Int)(out:List cY):∀ (k j n:Nat) (b:List Int) (d:Dc) (r:RH) (q:Q3),r.part=4→lK r.part=2 ^ (j+(k+1))→2 ^ j≤r.node→r.node<2 ^ (j+1)→
  let m:=bB ⟨b,cs,bW,false⟩ d
  let T:=dm (k+1) r.node m.1 m.2
  (T.2.1.bad=true∧Eg (n+(k+1)) pl made b d r q out=([],false))∨
  ∃b' d',bB ⟨b',cs,bW,false⟩ d'=(T.2.1,T.2.2)∧Eg (n+(k+1)) pl made b d r q out=tn n pl made b' d' ⟨r.cs,r.bh,r.part,1,r.t⟩ (T.1-lK r.part) q out
 |k,j,n,b,d,r,q,h1,h2,h3,h4=>by
  obtain⟨f1,f2⟩:=rP b cs bW d;obtain⟨c1,c2⟩:=je ⟨b,cs,bW,false⟩ d;generalize hmm:bB ⟨b,cs,bW,false⟩ d=m at*;simp only
  cases hf:(cT b d).1 with
  |false=>
   rw[hf]at f1;exact .inl ⟨nN _ _ _ f1,by rw[← Nat.add_assoc];exact I9 hf⟩
  |true=>
   obtain⟨f3,f4⟩:=f2 hf;rw[hf]at f1
   have em:m.1=⟨m.1.b,cs,bW,false⟩:=by
    obtain⟨⟨a1,a2,a3,a4⟩,a5⟩:=m;simp only at c1 c2 f1 ⊢;rw[c1,c2,f1];rfl
   have hb:=vL m.2
   have av0:g8 r q.1 q.2.1 q.2.2 m.2=((cz m.2).1,r,q.1,q.2.1,q.2.2,(cz m.2).2):=by
    unfold g8;rw[if_neg (by omega),if_pos h1]
   rw[← Nat.add_assoc,Ja hf hm,f3,f4,av0];simp only;rw[dm];generalize cz m.2=x at*
   cases k with
   |zero=>
    have hp:(2:Int) ^ (j+1)=2*2 ^ j:=(by rw[Int.pow_succ,Int.mul_comm]);rw[Nat.zero_add]at h2;rw[if_neg (by omega),dm];refine .inr ⟨m.1.b,x.2,?_,rfl⟩;rw[← em]
   |succ k=>
    have hp:(2:Int) ^ (j+1)=2*2 ^ j:=(by rw[Int.pow_succ,Int.mul_comm]);have Vy:(2:Int) ^ (j+1+1)=2*2 ^ (j+1):=(by rw[Int.pow_succ,Int.mul_comm]);have hp2:(2:Int) ^ (j+1+1)≤2 ^ (j+(k+1+1)):=fE (by omega);rw[if_pos (by omega)];have ih:=MU hm cs bW out k (j+1) n m.1.b x.2 ⟨r.cs,r.bh,r.part,2*r.node+x.1,r.t⟩ q h1 (by rw[h2];congr 1;omega) (by simp only;omega) (by simp only;omega);simp only at ih;rw[← em]at ih;exact ih
theorem ao9{pl made:Int}(hm:made≠pl)(n:Nat)(b:List Int)(d:Dc)(r:RH)(q:Q3)(out:List cY)(h0:r.part=0)(h1:r.node=1)(hq:r.bh=0∨r.bh=1):
  let m:=bB ⟨b,r.cs,r.bh,false⟩ d
  let X:=dI m.1 m.2 q.1 q.2.1 q.2.2
  (X.2.1.bad=true∧Eg (n+21) pl made b d r q out=([],false))∨
  ∃n' b' d' r',n≤n'∧r'.part=0∧r'.node=1∧(r'.bh=0∨r'.bh=1)∧bB ⟨b',r'.cs,r'.bh,false⟩ d'=(X.2.1,X.2.2.1)∧
   Eg (n+21) pl made b d r q out=if k8 X.1 made=true∧b9 X.1≤pl-made then Eg n' pl (made+b9 X.1) b' d' r' X.2.2.2 (out++ [X.1])else([],false):=by
 obtain⟨f1,f2⟩:=rP b r.cs r.bh d;obtain⟨c1,c2⟩:=je ⟨b,r.cs,r.bh,false⟩ d;generalize hmm:bB ⟨b,r.cs,r.bh,false⟩ d=m at*;simp only;simp only at c1 c2
 cases hf:(cT b d).1 with
 |false=>
  rw[hf]at f1;have hc:(mS m.1 m.2).2.1.bad=true:=by unfold mS;simp only;rw[x5 (by exact f1)];exact f1
  refine .inl ⟨?_,I9 hf⟩;unfold dI;simp only
  split
  ·exact lC _ _ _ _ hc
  ·exact nN _ _ _ (lC _ _ _ _ (lC _ _ _ _ hc))
 |true=>
  obtain⟨f3,f4⟩:=f2 hf;rw[hf]at f1;have hb:=ik (r.cs.getD r.bh.toNat 0) m.2
  have av0:g8 r q.1 q.2.1 q.2.2 m.2=((a7 (r.cs.getD r.bh.toNat 0) m.2).1,⟨r.cs.set r.bh.toNat (a7 (r.cs.getD r.bh.toNat 0) m.2).2.1,r.bh,r.part,r.node,r.t⟩,q.1,q.2.1,q.2.2,(a7 (r.cs.getD r.bh.toNat 0) m.2).2.2):=by
   unfold g8;rw[if_pos h0]
  have aFe:mS m.1 m.2=((a7 (r.cs.getD r.bh.toNat 0) m.2).1,bB ⟨m.1.b,r.cs.set r.bh.toNat (a7 (r.cs.getD r.bh.toNat 0) m.2).2.1,(a7 (r.cs.getD r.bh.toNat 0) m.2).1,false⟩ (a7 (r.cs.getD r.bh.toNat 0) m.2).2.2):=by
   unfold mS;simp only;rw[c1,c2,f1];rfl
  generalize a7 (r.cs.getD r.bh.toNat 0) m.2=x at*;have aFf:lK r.part=2:=by rw[h0];rfl
  have erd:Eg (n+21) pl made b d r q out=Eg (n+20) pl made m.1.b x.2.2 ⟨r.cs.set r.bh.toNat x.2.1,x.1,if x.1=1 then 2 else 1,1,(0,0,0)⟩ q out:=by
   rw[show n+21=(n+20)+1 from rfl,Ja hf hm,f3,f4,av0];simp only;rw[aFf,h1,if_neg (by omega)];unfold tn iX;simp only;rw[if_pos h0];simp only;rw[if_neg (by simp),show 2*1+x.1-2=x.1 from by omega]
  rw[erd];generalize hcs:r.cs.set r.bh.toNat x.2.1=cs at*;unfold dI;rw[aFe];simp only
  by_cases hx:x.1=0
  ·simp only[hx,if_true];rw[if_neg (show ¬ (0:Int)=1 by omega)];have hs:=vY hm cs 0 out 7 0 (n+12) m.1.b x.2.2 ⟨cs,0,1,1,(0,0,0)⟩ q (by simp) (by simp only;decide) (by simp) (by simp);simp only[show pF 1 q=q.1 from rfl,Nat.reduceAdd]at hs;rw[show n+12+8=n+20 from rfl]at hs;generalize aV 8 1 (bB ⟨m.1.b,cs,0,false⟩ x.2.2).1 (bB ⟨m.1.b,cs,0,false⟩ x.2.2).2 q.1=T at*;rcases hs with⟨s1,s2⟩|⟨b',d',s1,s2⟩
   ·exact .inl ⟨s1,s2⟩
   ·refine .inr ⟨n+12,b',d',⟨cs,0,0,1,(0,0,T.1-256)⟩,by omega,rfl,rfl,.inl rfl,s1,?_⟩;rw[s2];rfl
  ·have Gz:x.1=1:=(by omega);simp only[Gz,if_true];rw[if_neg (show ¬ (1:Int)=0 by omega)];have hs:=vY hm cs 1 out 7 0 (n+12) m.1.b x.2.2 ⟨cs,1,2,1,(0,0,0)⟩ q (by simp) (by simp only;decide) (by simp) (by simp);simp only[show pF 2 q=q.2.1 from rfl,Nat.reduceAdd]at hs;rw[show n+12+8=n+20 from rfl]at hs;simp only[Gz,if_neg (show ¬ (1:Int)=0 by omega)];generalize aV 8 1 (bB ⟨m.1.b,cs,1,false⟩ x.2.2).1 (bB ⟨m.1.b,cs,1,false⟩ x.2.2).2 q.2.1=T at*;rcases hs with⟨s1,s2⟩|⟨b',d',s1,s2⟩
   ·exact .inl ⟨nN _ _ _ (lC _ _ _ _ s1),s2⟩
   ·have e2:tn (n+12) pl made b' d' ⟨cs,1,2,1,(0,0,0)⟩ (T.1-lK 2) (vX 2 q T.2.2.2) out=Eg (n+12) pl made b' d' ⟨cs,1,3,1,(T.1-256+2,0,0)⟩ (q.1,T.2.2.2,q.2.2) out:=rfl;rw[e2]at s2;have hs:=vY hm cs 1 out 5 0 (n+6) b' d' ⟨cs,1,3,1,(T.1-256+2,0,0)⟩ (q.1,T.2.2.2,q.2.2) (by simp) (by simp only;decide) (by simp) (by simp);simp only[show pF 3 (q.1,T.2.2.2,q.2.2)=q.2.2 from rfl,Nat.reduceAdd,s1]at hs;rw[show n+6+6=n+12 from rfl]at hs;generalize aV 6 1 T.2.1 T.2.2.1 q.2.2=U at*;rcases hs with⟨u1,u2⟩|⟨b2,d2,u1,u2⟩
    ·exact .inl ⟨nN _ _ _ u1,s2.trans u2⟩
    ·have e3:tn (n+6) pl made b2 d2 ⟨cs,1,3,1,(T.1-256+2,0,0)⟩ (U.1-lK 3) (vX 3 (q.1,T.2.2.2,q.2.2) U.2.2.2) out=Eg (n+6) pl made b2 d2 ⟨cs,1,4,1,(T.1-256+2,(U.1-64)*64,0)⟩ (q.1,T.2.2.2,U.2.2.2) out:=rfl;rw[e3]at u2;have hs:=MU hm cs 1 out 5 0 n b2 d2 ⟨cs,1,4,1,(T.1-256+2,(U.1-64)*64,0)⟩ (q.1,T.2.2.2,U.2.2.2) rfl (by simp only;decide) (by simp) (by simp);simp only[Nat.reduceAdd,u1]at hs;rw[y6 6 (U.1-64) 1];generalize dm 6 1 U.2.1 U.2.2.1=V at*;rcases hs with⟨v1,v2⟩|⟨b3,d3,v1,v2⟩
     ·exact .inl ⟨v1,s2.trans (u2.trans v2)⟩
     ·refine .inr ⟨n,b3,d3,⟨cs,1,0,1,(T.1-256+2,(U.1-64)*64+(V.1-64+1),0)⟩,Nat.le_refl _,rfl,rfl,.inr rfl,v1,?_⟩;rw[s2,u2,v2]
      have et:V.1+2 ^ 6*(U.1-64-1)+1=(U.1-64)*64+(V.1-64+1):=by
       rw[show(2:Int) ^ 6=64 from by decide];omega
      simp only[et];rfl
def fR:List cY→Int
 | []=>0
 |t::l=>b9 t+fR l
theorem lb:∀ (l m:List cY),fR (l++m)=fR l+fR m
 | [],m=>by simp[fR]
 |t::l,m=>by rw[List.cons_append,fR,fR,lb l m];omega
theorem ld:∀ (l m:List cY) (made:Int),bq made (l++m)=(bq made l&&bq (made+fR l) m)
 | [],m,made=>by simp[fR,bq]
 |t::l,m,made=>by
  rw[List.cons_append,bq,bq,fR,ld l m,Int.add_assoc];simp only[Bool.and_assoc]
theorem C8:∀ (l:List cY) (made:Int) (o:List Int),bq made l=true→(o.length:Int)=made→((jL o l).length:Int)=made+fR l
 | [],made,o,_,h=>by rw[jL,fR,h,Int.add_zero]
 |t::l,made,o,hr,h=>by
  rw[bq,Bool.and_eq_true,Bool.and_eq_true]at hr;have:=B1 (o:=o) hr.1.1;rw[jL,fR,C8 l (made+b9 t) (EC o t) hr.2 (by omega)];omega
theorem C9{l:List cY}(h:bq 0 l=true):((kG l).length:Int)=fR l:=by
 unfold kG;rw[if_pos h,C8 l 0 [] h rfl,Int.zero_add]
def x6(u:RB×Dc×List Int×List Int×List Int×List cY):List cY:=u.2.2.2.2.2
theorem vZ{k:Nat}{pl n:Int}{r:RB}{d:Dc}{p1 p2 p3:List Int}{l:List cY}(h:¬ (n<pl∧r.bad=false)):pI k pl n r d p1 p2 p3 l=(r,d,p1,p2,p3,l):=by
 cases k with
 |zero=>rfl
 |succ k=>rw[pI,if_neg h]
theorem Xp:∀ (k:Nat) (pl n:Int) (r:RB) (d:Dc) (p1 p2 p3:List Int) (l:List cY),∃m,x6 (pI k pl n r d p1 p2 p3 l)=l++m
 |0,_,_,_,_,_,_,_,l=>⟨[],by simp[pI,x6]⟩
 |k+1,pl,n,r,d,p1,p2,p3,l=>by
  rw[pI];simp only
  split
  ·obtain⟨m,hm⟩:=Xp k pl (n+b9 (dI r d p1 p2 p3).1) (dI r d p1 p2 p3).2.1 (dI r d p1 p2 p3).2.2.1 (dI r d p1 p2 p3).2.2.2.1 (dI r d p1 p2 p3).2.2.2.2.1 (dI r d p1 p2 p3).2.2.2.2.2 (l++ [(dI r d p1 p2 p3).1]);exact⟨(dI r d p1 p2 p3).1::m,by rw[hm];simp⟩
  ·exact⟨[],by simp[x6]⟩
theorem aiD{pl:Int}(hpl:pl≤8192):∀ (m k n:Nat) (made:Int) (b:List Int) (d:Dc) (r:RH) (q:Q3) (out:List cY),(pl-made).toNat≤m→m<k→21*m+1≤n→r.part=0→r.node=1→(r.bh=0∨r.bh=1)→made≤pl→bq 0 out=true→fR out=made→
  let M:=bB ⟨b,r.cs,r.bh,false⟩ d
  let U:=pI k pl made M.1 M.2 q.1 q.2.1 q.2.2 out
  Eg n pl made b d r q out=if U.1.bad=false∧bq 0 (x6 U)=true∧fR (x6 U)=pl then(x6 U,true)else([],false)
 |m,k,n,made,b,d,r,q,out,h1,h2,h3,h4,h5,h6,h7,h8,h9=>by
  have hts:=fun hm n0=>ao9 (pl:=pl) (made:=made) hm n0 b d r q out h4 h5 h6;obtain⟨f1,f2⟩:=rP b r.cs r.bh d;simp only at hts ⊢;generalize bB ⟨b,r.cs,r.bh,false⟩ d=M at*;obtain⟨n,rfl⟩:∃n0,n=n0+1:=⟨n-1,by omega⟩
  cases hf:(cT b d).1 with
  |false=>
   rw[hf]at f1;have f1:M.1.bad=true:=f1;rw[I9 hf,vZ (by rw[f1];simp),if_neg (by simp[f1])]
  |true=>
   rw[hf]at f1;have f1:M.1.bad=false:=f1
   by_cases hm:made=pl
   ·rw[vZ (by omega)];rw[if_pos ⟨f1,h8,h9.trans hm⟩];unfold Eg;rw[dT];simp only;rw[if_pos hf,if_pos hm];rfl
   ·obtain⟨m,rfl⟩:∃m0,m=m0+1:=⟨m-1,by omega⟩;obtain⟨k,rfl⟩:∃k0,k=k0+1:=⟨k-1,by omega⟩;obtain⟨n,rfl⟩:∃n0,n=n0+20:=⟨n-20,by omega⟩;have hs:=hts hm n
    have eU:pI (k+1) pl made M.1 M.2 q.1 q.2.1 q.2.2 out=(let x:=dI M.1 M.2 q.1 q.2.1 q.2.2
      pI k pl (made+b9 x.1) x.2.1 x.2.2.1 x.2.2.2.1 x.2.2.2.2.1 x.2.2.2.2.2 (out++ [x.1])):=by
     rw[pI,if_pos ⟨by omega,f1⟩]
    rw[eU,show n+20+1=n+21 from rfl];simp only;generalize dI M.1 M.2 q.1 q.2.1 q.2.2=X at*;rcases hs with⟨s1,s2⟩|⟨n',b',d',r',s1,s2,s3,s4,s5,s6⟩
    ·rw[s2,vZ (by rw[s1];simp),if_neg (by simp[s1])]
    ·rw[s6]
     by_cases hc:k8 X.1 made=true∧b9 X.1≤pl-made
     ·rw[if_pos hc];have hl:=kg hc.1
      have ih:=aiD hpl m k n' (made+b9 X.1) b' d' r' X.2.2.2 (out++ [X.1]) (by omega) (by omega) (by omega) s2 s3 s4 (by omega)
       (by rw[ld,h8,h9,Int.zero_add,bq,bq,hc.1];simp;omega) (by rw[lb,h9];simp[fR])
      simp only[s5]at ih;exact ih
     ·rw[if_neg hc,if_neg]
      rintro⟨u1,u2,u3⟩
      obtain⟨z,hz⟩:=Xp k pl (made+b9 X.1) X.2.1 X.2.2.1 X.2.2.2.1 X.2.2.2.2.1 X.2.2.2.2.2 (out++ [X.1])
      have aFg:k8 X.1 made=true:=by
       rw[hz,List.append_assoc,ld,h9,Int.zero_add,List.cons_append,bq]at u2;simp only[Bool.and_eq_true]at u2;exact u2.2.1.1
      have aJQ:pl<made+b9 X.1:=Int.not_le.1 fun hh=>hc ⟨aFg,by omega⟩;rw[vZ (by omega)]at u3;simp only[x6,lb,fR]at u3;omega
end Go.Proofs.YtnbkagglkajbkaaGreat
end
