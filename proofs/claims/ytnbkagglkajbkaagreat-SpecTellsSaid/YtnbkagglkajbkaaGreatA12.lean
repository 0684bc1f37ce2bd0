/- What the laws lean on, part 12: a reader of code, plain facts, and what each function gives; no conditions. -/
import Derived.Test.YtnbkagglkajbkaaGreatA11
set_option linter.unusedVariables false
set_option linter.unusedSimpArgs false
noncomputable section
namespace Go.Proofs.YtnbkagglkajbkaaGreat
open Go Go.Ev Go.Proofs.Tryz
open Go.IntKind (i64 signed u16 u64 wrap)
set_option maxRecDepth 1000000
theorem Ag:∀ (k:Nat) (n:Int) (r:RB) (d:Dc) (p:List Int) (x:Int),1≤n→aV k n r d (p.set 0 x)=((aV k n r d p).1,(aV k n r d p).2.1,(aV k n r d p).2.2.1,(aV k n r d p).2.2.2.set 0 x)
 |0,_,_,_,_,_,_=>rfl
 |k+1,n,r,d,p,x,h=>by
  have hb:=ik (ef p n) d;rw[aV,aV];simp only[aAq p x h,agz p x _ h];exact Ag k _ _ _ _ x (by omega)
theorem av1(r:RB)(d:Dc)(p1 p2 p3:List Int)(x:Int):
  dI r d (p1.set 0 x) (p2.set 0 x) (p3.set 0 x)=((dI r d p1 p2 p3).1,(dI r d p1 p2 p3).2.1,(dI r d p1 p2 p3).2.2.1,(dI r d p1 p2 p3).2.2.2.1.set 0 x,(dI r d p1 p2 p3).2.2.2.2.1.set 0 x,(dI r d p1 p2 p3).2.2.2.2.2.set 0 x):=by
 unfold dI;simp only
 split
 ·rw[Ag 8 1 _ _ p1 x (by omega)]
 ·rw[Ag 8 1 _ _ p2 x (by omega),Ag 6 1 _ _ p3 x (by omega)]
theorem atC:∀ (k:Nat) (pl n:Int) (r:RB) (d:Dc) (p1 p2 p3:List Int) (l:List cY) (x:Int),
  (pI k pl n r d (p1.set 0 x) (p2.set 0 x) (p3.set 0 x) l).1=(pI k pl n r d p1 p2 p3 l).1∧x6 (pI k pl n r d (p1.set 0 x) (p2.set 0 x) (p3.set 0 x) l)=x6 (pI k pl n r d p1 p2 p3 l)
 |0,_,_,_,_,_,_,_,_,_=>⟨rfl,rfl⟩
 |k+1,pl,n,r,d,p1,p2,p3,l,x=>by
  rw[pI,pI];simp only[av1]
  split
  ·exact atC k _ _ _ _ _ _ _ _ x
  ·exact⟨rfl,rfl⟩
theorem aiE:∀ (k:Nat) (pl n:Int) (r:RB) (d:Dc) (p1 p2 p3:List Int) (l:List cY),KC r d p1 p2 p3→sH l→
  sH (x6 (pI k pl n r d p1 p2 p3 l))∧(x6 (pI k pl n r d p1 p2 p3 l)).length≤l.length+k
 |0,_,_,_,_,_,_,_,_,_,h=>⟨h,Nat.le_refl _⟩
 |k+1,pl,n,r,d,p1,p2,p3,l,h1,h2=>by
  rw[pI];simp only
  split
  ·obtain⟨t1,t2,t3,t4,t5,t6,t7⟩:=Xn h1;generalize dI r d p1 p2 p3=X at*
   obtain⟨k1,k2⟩:=aiE k pl (n+b9 X.1) X.2.1 X.2.2.1 X.2.2.2.1 X.2.2.2.2.1 X.2.2.2.2.2 (l++ [X.1]) t1 (by
    intro t ht;rw[List.mem_append]at ht;rcases ht with ht|ht
    ·exact h2 t ht
    ·have:t=X.1:=(by simpa using ht);rw[this];exact⟨t2,t3⟩)
   refine⟨k1,Nat.le_trans k2 (by simp;omega)⟩
  ·exact⟨h2,by simp[x6]⟩
abbrev av2:an:=lL.or (lL.ae5 0 5 2 .i64)
theorem aiF:av2.Ok Tryz.prog 231:=hS.or (hS.ae5 0 5 2 .i64)
abbrev MV:Type:=(List Int)×Int×Int×RB×(Int×Int×Int)×Int×(List Int)×Int×(List Int)×Int×(List Int)×(List (Int×Int×
 Int))
abbrev MW:aM St MV:=(aS (ae (ah (fh false false (Ty.int IntKind.u8))) (ae (ah (aA i64)) (jk 4 (ai
 (ah (aC (0) (0))) (ai (ah (ke (8) (0))) (ae (ah (aA i64)) (jk 67 ag))))))) (ae (bp IW) (ae (bp kH) (ae
 (bp Ic) (ae (bS (0) (Ty.int i64)) (ae (bp Ie) (ae (bS (0) (Ty.int i64)) (ae (bp Ig) (ae (bS (0)
 (Ty.int i64)) (ae (bS (0) ((Ty.int i64).pair ((Ty.int i64).pair (Ty.int IntKind.u8)))) ag)))))))))).kE (fun y=>
 (y.1.1,y.1.2.1,y.1.2.2.1,y.2.1,y.2.2.1,y.2.2.2.1,y.2.2.2.2.1,y.2.2.2.2.2.1,y.2.2.2.2.2.2.1,y.2.2.2.2.2.2.2.1,y.2.2.2.2.2.2.2.2.1,
 y.2.2.2.2.2.2.2.2.2.1)) (fun x=>((x.1,(x.2.1,(x.2.2.1,()))),(x.2.2.2.1,(x.2.2.2.2.1,(x.2.2.2.2.2.1,(x.2.2.2.2.2.2.1,(x.2.2.2.2.2.2.2.1,
 (x.2.2.2.2.2.2.2.2.1,(x.2.2.2.2.2.2.2.2.2.1,(x.2.2.2.2.2.2.2.2.2.2.1,(x.2.2.2.2.2.2.2.2.2.2.2,()))))))))))) (fun _=>rfl)
abbrev aiG:List Wk:= [.dh 4 kF,.dh 7 kF,.fr (cu 76 [(0,.al),(1,.al),(6,.al),(7,.al),(8,.al)]),.syms,.auto,.aE]
abbrev atD:Exit→List Wk:=xz aiG 0 [.dh 4 kF,.dh 7 kF,.fr (cu 76 [(0,.al),(1,.al),(6,.al),(7,.al)]),.syms,.auto,
 .aE] [.dh 4 kF,.dh 7 kF,.fr (cu 76 [(4,.al),(5,.al)]),.syms,.auto,.aE]
abbrev aiH:Type:=(List Int)×Int×RB×(Int×Int×Int)×Int×(List Int)×Int×(List Int)×Int×(List Int)×(List (Int×Int×Int))
abbrev atE(x:aiH):Exit×St:=(Exit.exit 0,⟨(LV.one (VV.sc (SV.rd false false (Ty.int IntKind.u8) x.1))::(LV.one (VV.sc
 (SV.int i64 (SI.sym x.2.1)))::(iE 4 (LV.one (VV.sc (SV.ptr 0 0))::(LV.one (VV.sc (SV.sl 8 0))::(iE 68 [])))))),[some (IW.wr x.2.2.1),
 some (kH.wr x.2.2.2.1),some (Ic.wr x.2.2.2.2.1),some (Item.own 0 (Ty.int i64) x.2.2.2.2.2.1),some (Ie.wr x.2.2.2.2.2.2.1),some
 (Item.own 0 (Ty.int i64) x.2.2.2.2.2.2.2.1),some (Ig.wr x.2.2.2.2.2.2.2.2.1),some (Item.own 0 (Ty.int i64) x.2.2.2.2.2.2.2.2.2.1),
 some (Item.own 0 ((Ty.int i64).pair ((Ty.int i64).pair (Ty.int IntKind.u8))) x.2.2.2.2.2.2.2.2.2.2)]⟩)
def Xq(b':List Int)(pl:Int)(n:Int)(r:RB)(d:Int×Int×Int)(b1:Int)(p1:List Int)(b2:Int)(p2:List Int)(b3:
 Int) (p3:List Int) (l:List (Int×Int×Int)):Tr (MV⊕(aiH)):=(.ite (decide (n<pl)==true) (.ite (!r.bad) (.need (Af r d b1 p1 b2
 p2 b3 p3) (.need ((l.length+1)*24≤70368744177664∧l.length+1≤70368744177664) (.ite ((dI r d p1 p2 p3).fst.fst==0) (.ret (.inl (b',pl,
 i64.wrap (i64.wrap (n+1)+(dI r d p1 p2 p3).fst.fst),(dI r d p1 p2 p3).snd.fst,(dI r d p1 p2 p3).snd.snd.fst,b1,(dI r d
 p1 p2 p3).snd.snd.snd.fst,b2,(dI r d p1 p2 p3).snd.snd.snd.snd.fst,b3,(dI r d p1 p2 p3).snd.snd.snd.snd.snd,l++ [(dI r d p1 p2 p3).fst])))
 (.ret (.inl (b',pl,i64.wrap (n+(dI r d p1 p2 p3).fst.fst),(dI r d p1 p2 p3).snd.fst,(dI r d p1 p2 p3).snd.snd.fst,b1,(dI r d p1
 p2 p3).snd.snd.snd.fst,b2,(dI r d p1 p2 p3).snd.snd.snd.snd.fst,b3,(dI r d p1 p2 p3).snd.snd.snd.snd.snd,l++ [(dI r d p1 p2 p3).fst]))))))
 (.ret (.inr (b',pl,r,d,b1,p1,b2,p2,b3,p3,l)))) (.ret (.inr (b',pl,r,d,b1,p1,b2,p2,b3,p3,l))))
theorem aa5(b:List Int)(plain:Int)(b':List Int)(pl:Int)(n:Int)(r:RB)(d:Int×Int×Int)(b1:Int)(p1:List Int)(b2:Int)(p2:List Int)(b3:Int)(p3:List Int)(l:List (Int×Int×Int)):cO Tryz.prog [(230,ag6),(204,xF),(231,av2),(232,aiB),(202,k9),(160,zM),(140,RJ)] [] f159 0 ((ag).wr (())) atD (MW.wr (b',pl,n,r,d,b1,p1,b2,p2,b3,p3,l))=(Xq b' pl n r d b1 p1 b2 p2 b3 p3 l).res MW.wr atE:=by kernel_rfl
abbrev Ah(b':List Int)(pl:Int)(n:Int)(r:RB)(d:Int×Int×Int)(b1:Int)(p1:List Int)(b2:Int)(p2:List Int)(b3:Int)(p3:List Int)(l:List (Int×Int×Int)):Prop:=KC r d p1 p2 p3∧b1=8∧b2=8∧b3=6∧0≤n∧pl≤8192∧n≤9000∧l.length≤n
abbrev aiI(b':List Int)(pl:Int)(n:Int)(r:RB)(d:Int×Int×Int)(b1:Int)(p1:List Int)(b2:Int)(p2:List Int)(b3:Int)(p3:List Int)(l:List (Int×Int×Int)):aiH:=(b',pl,(pI 9000 pl n r d p1 p2 p3 l).1,(pI 9000 pl n r d p1 p2 p3 l).2.1,b1,(pI 9000 pl n r d p1 p2 p3 l).2.2.1,b2,(pI 9000 pl n r d p1 p2 p3 l).2.2.2.1,b3,(pI 9000 pl n r d p1 p2 p3 l).2.2.2.2.1,(pI 9000 pl n r d p1 p2 p3 l).2.2.2.2.2)
abbrev aiJ:MV→aK:=eB (fun x_=>Ah x_.1 x_.2.1 x_.2.2.1 x_.2.2.2.1 x_.2.2.2.2.1 x_.2.2.2.2.2.1 x_.2.2.2.2.2.2.1 x_.2.2.2.2.2.2.2.1 x_.2.2.2.2.2.2.2.2.1 x_.2.2.2.2.2.2.2.2.2.1 x_.2.2.2.2.2.2.2.2.2.2.1 x_.2.2.2.2.2.2.2.2.2.2.2) (fun x_=>aiI x_.1 x_.2.1 x_.2.2.1 x_.2.2.2.1 x_.2.2.2.2.1 x_.2.2.2.2.2.1 x_.2.2.2.2.2.2.1 x_.2.2.2.2.2.2.2.1 x_.2.2.2.2.2.2.2.2.1 x_.2.2.2.2.2.2.2.2.2.1 x_.2.2.2.2.2.2.2.2.2.2.1 x_.2.2.2.2.2.2.2.2.2.2.2) atE
theorem apa(b':List Int)(pl:Int)(n:Int)(r:RB)(d:Int×Int×Int)(b1:Int)(p1:List Int)(b2:Int)(p2:List Int)(b3:Int)(p3:List Int)(l:List (Int×Int×Int))(h_:Ah b' pl n r d b1 p1 b2 p2 b3 p3 l):cX (fun x_:MV=>Xq x_.1 x_.2.1 x_.2.2.1 x_.2.2.2.1 x_.2.2.2.2.1 x_.2.2.2.2.2.1 x_.2.2.2.2.2.2.1 x_.2.2.2.2.2.2.2.1 x_.2.2.2.2.2.2.2.2.1 x_.2.2.2.2.2.2.2.2.2.1 x_.2.2.2.2.2.2.2.2.2.2.1 x_.2.2.2.2.2.2.2.2.2.2.2) (b',pl,n,r,d,b1,p1,b2,p2,b3,p3,l) (aiI b' pl n r d b1 p1 b2 p2 b3 p3 l):=by
 delta aiI;obtain⟨h1,rfl,rfl,rfl,h2,h3,h4,h5⟩:=h_;obtain⟨f,hf1,hf2⟩:∃f:Nat,f=9000∧(pl-n).toNat<f:=⟨9000,rfl,by omega⟩;rw[← hf1];clear hf1 h4
 induction f generalizing n r d p1 p2 p3 l with
 |zero=>omega
 |succ f ih=>
  by_cases hc:n<pl∧r.bad=false
  ·obtain⟨t1,t2,t3,t4,t5,t6,t7⟩:=Xn h1;rw[pI,if_pos hc];have hk:Af r d 8 p1 8 p2 6 p3:=⟨h1,rfl,rfl,rfl⟩;generalize hx:dI r d p1 p2 p3=x at*;have lA:=ih (n+b9 x.1) x.2.1 x.2.2.1 x.2.2.2.1 x.2.2.2.2.1 x.2.2.2.2.2 (l++ [x.1]) t1 (by omega) (by simp;omega) (by omega);refine .go ?_ lA;have e1:(decide (n<pl)==true)=true:=(by simpa using hc.1);have e2:(!r.bad)=true:=(by rw[hc.2];rfl);simp only[Xq,e1,e2,dP,aq,eA,au,hx];refine⟨hk,⟨by omega,by omega⟩,fun e=>?_,fun e=>?_⟩
   ·rw[ao (n:=n+1) (by omega) (by omega),e,ao (by omega) (by omega)];unfold b9;rw[if_pos e,Int.add_zero]
   ·have hl:b9 x.1=x.1.1:=(by unfold b9;rw[if_neg e]);rw[hl]at t4 t5 ⊢;rw[ao (by omega) (by omega)]
  ·rw[pI,if_neg hc];refine .stop ?_;simp only[Xq,bE,au,aP];grind
theorem aiK(b:List Int)(plain:Int):∀x:MV,Ex Tryz.prog ((ag).wr (())) (.loop (aO f159 0)) (MW.wr x) (aiJ x):=
 cy mixed ((aj WZ (aj qh (aj aiF (aj Xo (aj iH (aj xL (aj Mg ax)))))))) (ws:=atD) (aH.nil _) (fun x_=>aa5 b plain x_.1 x_.2.1 x_.2.2.1 x_.2.2.2.1 x_.2.2.2.2.1 x_.2.2.2.2.2.1 x_.2.2.2.2.2.2.1 x_.2.2.2.2.2.2.2.1 x_.2.2.2.2.2.2.2.2.1 x_.2.2.2.2.2.2.2.2.2.1 x_.2.2.2.2.2.2.2.2.2.2.1 x_.2.2.2.2.2.2.2.2.2.2.2) (fun z e=>by cases e) eV (fun x_ h=>apa x_.1 x_.2.1 x_.2.2.1 x_.2.2.2.1 x_.2.2.2.2.1 x_.2.2.2.2.2.1 x_.2.2.2.2.2.2.1 x_.2.2.2.2.2.2.2.1 x_.2.2.2.2.2.2.2.2.1 x_.2.2.2.2.2.2.2.2.2.1 x_.2.2.2.2.2.2.2.2.2.2.1 x_.2.2.2.2.2.2.2.2.2.2.2 h)
def lM(b:List Int):RB:= {b:=(cL b (0,4294967295,4)).snd.fst,cs:= [1024,1024],bW:=0,bad:= !(cL b (0,4294967295,4)).fst||mi (cL b (0,4294967295,4)).snd.snd}
def lN(b:List Int):Int×Int×Int:=(cL b (0,4294967295,4)).snd.snd
abbrev Xr:Type:=Int
abbrev atG(x:Xr):LV:=LV.cj [VV.sc (SV.iM (Value.slice none 0 0)),VV.sc (SV.int i64 (SI.sym x))]
abbrev atH(x:Xr):List (Nat×Ev.Item):= []
abbrev Xs:Type:=Int×(List (Int×Int×Int))
abbrev atI(x:Xs):LV:=LV.cj [VV.sc (SV.sl 0 0),VV.sc (SV.int i64 (SI.sym x.1))]
abbrev atJ(x:Xs):List (Nat×Ev.Item):= [(0,Item.own 0 ((Ty.int i64).pair ((Ty.int i64).pair (Ty.int
 IntKind.u8))) x.2)]
def aiL(b:List Int)(plain:Int):Tr (Xr⊕Xs):=(.ite (decide (plain<0)==false) (.ite (decide (8192<plain)) (.ret
 (.inl (1))) (.need (Iz) (.need (g7 8) (.need (g7 8) (.need (g7 6) (.need (g9 {b:=b,cs:= [1024,1024],bW:=0,bad:=false}
 (0,4294967295,4) 8 (bI 8) 8 (bI 8) 6 (bI 6)) (.need (Ah b plain 0 (lM b) (lN b) 8 (bI 8) 8 (bI 8) 6 (bI 6) []) (.ite
 ((pI 9000 plain 0 (lM b) (lN b) (bI 8) (bI 8) (bI 6) []).fst.bad==false) (.need (lB (pI 9000 plain 0 (lM b) (lN b)
 (bI 8) (bI 8) (bI 6) []).snd.snd.snd.snd.snd) (.ite ((!bq 0 (pI 9000 plain 0 (lM b) (lN b) (bI 8) (bI 8) (bI 6)
 []).snd.snd.snd.snd.snd)==false) (.need (jO (pI 9000 plain 0 (lM b) (lN b) (bI 8) (bI 8) (bI 6) []).snd.snd.snd.snd.snd) (.ite
 (((↑(kG (pI 9000 plain 0 (lM b) (lN b) (bI 8) (bI 8) (bI 6) []).snd.snd.snd.snd.snd).length:Int)!=plain)==false) (.need
 (vq (pI 9000 plain 0 (lM b) (lN b) (bI 8) (bI 8) (bI 6) []).snd.snd.snd.snd.snd) (.ite (!cV (pj (pI 9000 plain 0 (lM b)
 (lN b) (bI 8) (bI 8) (bI 6) []).snd.snd.snd.snd.snd) b) (.ret (.inl (11))) (.ret (.inr (0,(pI 9000 plain 0 (lM b) (lN b) (bI 8)
 (bI 8) (bI 6) []).snd.snd.snd.snd.snd))))) (.ret (.inl (11))))) (.ret (.inl (11))))) (.ret (.inl (11))))))))))) (.ret (.inl (1))))
theorem aiM(b:List Int)(plain:Int):aG Tryz.prog [(230,ag6),(204,xF),(231,av2),(232,aiB),(202,k9),(160,zM),(140,RJ)] [(0,bZ MW ((ag).wr (())) aiG (aiJ))] f159 (((ae (ah (fh false false u8)) (ae (ah (aA .i64)) ag))).wr (b,plain,())) ((ag).wr (())) [.dh 4 kF,.dh 7 kF,.fr [.sym],.syms,.auto,.aE]=(aiL b plain).end (Sum.elim atG atI) (Sum.elim atH atJ) ((ag).wr (())):=by kernel_rfl
theorem apb(b:List Int)(plain:Int):aH Tryz.prog ((ag).wr (())) [(0,bZ MW ((ag).wr (())) aiG (aiJ))] (aF f159):=(aH.bK (js (by kernel_rfl) (bP (hp:=(ag).wr (())) (aiK b plain)) jt))
abbrev Da(b:List Int)(plain:Int):Prop:=ay b∧b.length<1099511627776
abbrev apc(b:List Int)(plain:Int):Bool:=decide ((bC b plain).1≠0)
abbrev av3(b:List Int)(plain:Int):Xr:=(bC b plain).1
abbrev av4(b:List Int)(plain:Int):Xs:=(0,(bC b plain).2)
def aAw:an:=Lx [some u8,none] ((ae (ah (fh false false u8)) (ae (ah (aA .i64)) ag))) (ag) (fun x_ y_=>Da x_.1 x_.2.1) (fun x_ y_=>apc x_.1 x_.2.1) (fun x_ y_=>av3 x_.1 x_.2.1) (fun x_ y_=>av4 x_.1 x_.2.1) atG atH atI atJ
theorem av5(b:List Int)(plain:Int)(h_:Da b plain):(apc b plain=true→(aiL b plain).Is (.inl (av3 b plain)))∧(apc b plain=false→(aiL b plain).Is (.inr (av4 b plain))):=by
 delta apc av3 av4;obtain⟨h1,h2⟩:=h_
 by_cases hp:plain<0∨8192<plain
 ·have e:bC b plain=(1,[]):=by unfold bC;rw[if_pos hp]
  simp only[e,aiL,bE,aP,au];grind
 ·have d1:(decide (plain<0)==false)=true:=by simp;omega
  have d2:decide (8192<plain)=false:=by simp;omega
  obtain⟨m1,m2,m3⟩:=ko (r:=⟨b,[1024,1024],0,false⟩) avX h1 h2;obtain⟨c1,c2⟩:=je ⟨b,[1024,1024],0,false⟩ (0,4294967295,4);have yZ:lM b=(bB ⟨b,[1024,1024],0,false⟩ (0,4294967295,4)).1:=rfl;have zk:lN b=(bB ⟨b,[1024,1024],0,false⟩ (0,4294967295,4)).2:=rfl;have hus:=aiD (pl:=plain) (by omega) 8192 9000 200000 0 b (0,4294967295,4) r0H (cI 8,cI 8,cI 6) [] (by omega) (by omega) (by omega) rfl rfl (.inl rfl) (by omega) rfl rfl;have pJ:Eg 200000 plain 0 b (0,4294967295,4) r0H (cI 8,cI 8,cI 6) []=iJ b plain:=rfl;rw[pJ]at hus;simp only[show r0H.cs= [1024,1024]from rfl,show r0H.bh=0 from rfl,← yZ,← zk]at hus
  have hk:KC (lM b) (lN b) (bI 8) (bI 8) (bI 6):=by
   rw[yZ,zk];refine⟨m1,m2,by simp only at m3;omega,by rw[c1];rfl,by rw[c2];exact .inl rfl,?_,?_,?_⟩<;>(unfold bI;simp)
  obtain⟨z1,z2⟩:=atC 9000 plain 0 (lM b) (lN b) (cI 8) (cI 8) (cI 6) [] 0;rw[← vp,← vp]at z1 z2;rw[← z1,← z2]at hus;obtain⟨k1,k2⟩:=aiE 9000 plain 0 (lM b) (lN b) (bI 8) (bI 8) (bI 6) [] hk (fun x h=>by simp at h);have aiN:Ah b plain 0 (lM b) (lN b) 8 (bI 8) 8 (bI 8) 6 (bI 6) []:=⟨hk,rfl,rfl,rfl,by omega,by omega,by omega,by simp⟩;have hm:g9 ⟨b,[1024,1024],0,false⟩ (0,4294967295,4) 8 (bI 8) 8 (bI 8) 6 (bI 6):=⟨avX,h1,h2⟩;simp only[aiL,d1,d2,dP,e9,aq];have t8:g7 8:=by decide
  have t6:g7 6:=by decide
  unfold x6 at*;generalize pI 9000 plain 0 (lM b) (lN b) (bI 8) (bI 8) (bI 6) []=U at*;obtain⟨ur,ud,u1,u2,u3,l⟩:=U;simp only at hus k1 k2 ⊢;have l1:lB l:=by show _<_;simp only[List.length_nil]at k2;omega
  have l2:jO l:=by show _<_;simp only[List.length_nil]at k2;omega
  have l3:vq l:=⟨by simp only[List.length_nil]at k2;omega,k1⟩;have no:(iJ b plain).2=false→bC b plain=(11,[]):=fun h=>by unfold bC;rw[if_neg hp,h];simp
  cases hb:ur.bad with
  |true=>
   have e:=no (by rw[hus,hb];simp);simp only[e,bE,au];simp;exact⟨t8,t6,hm,aiN⟩
  |false=>
   cases hr:bq 0 l with
   |false=>
    have e:=no (by rw[hus,hr];simp);simp only[e,bE,aq,au];simp;exact⟨t8,t6,hm,aiN,l1⟩
   |true=>
    rw[C9 hr]
    by_cases hl:fR l=plain
    ·rw[if_pos ⟨hb,hr,hl⟩]at hus;have e3:(fR l !=plain)=false:=by simpa using hl
     cases hs:cV (pj l) b with
     |true=>
      have e:bC b plain=(0,l):=(by unfold bC;rw[if_neg hp,hus,if_pos ⟨rfl,hs⟩]);simp only[e,e3,bE,aq,au];simp;exact⟨t8,t6,hm,aiN,l1,l3⟩
     |false=>
      have e:bC b plain=(11,[]):=(by unfold bC;rw[if_neg hp,hus,if_neg (by rw[hs];simp)]);simp only[e,e3,bE,aq,au];simp;exact⟨t8,t6,hm,aiN,l1,l3⟩
    ·have e:=no (by rw[hus,if_neg (fun h=>hl h.2.2)]);have e3:(fR l !=plain)=true:=(by simpa using hl);simp only[e,e3,bE,aq,au];simp;exact⟨t8,t6,hm,aiN,l1⟩
theorem av6:aAw.Ok Tryz.prog 159:=
 G9 mixed ((aj WZ (aj qh (aj aiF (aj Xo (aj iH (aj xL (aj Mg ax)))))))) func159 (by kernel_rfl) call159 (fun x_ y_=>apb x_.1 x_.2.1) (fun x_ y_=>aiM x_.1 x_.2.1) (fun x_ y_ h=>av5 x_.1 x_.2.1 h)
def two(l:List Int)(i:Nat):Int:=bn .i64 (i64.wrap (l.getD i 0)) (shl .i64 (i64.wrap (l.getD (i+1) 0)) 8)
def gO(l:List Int):Bool:=decide (1≤two l 0∧two l 0≤4096∧1≤two l 2∧two l 2≤8192)
def Xt:an:=an.cl [some u8] bA ag fun x _=>.leaf (some (4≤x.1.length)) (.cj [.sc (.int .i64 (.sym (two x.1 0))),.sc (.int .i64 (.sym (two x.1 2))),.sc (.bool (.sym (gO x.1)))]) []
theorem MX(l:List Int):aG Tryz.prog [] [] f156 (bA.wr (l,())) [] [.fr [.sym],.auto]=
 End.need ((0:Int)≤(0:Int)∧(0:Int)<(↑l.length:Int)) (End.need ((0:Int)≤(1:Int)∧(1:Int)<(↑l.length:Int)) (End.need ((0:Int)
 ≤(2:Int)∧(2:Int)<(↑l.length:Int)) (End.need ((0:Int)≤(3:Int)∧(3:Int)<(↑l.length:Int)) (End.ite (decide ((1:Int)≤bn
 i64 (i64.wrap (l.getD (0:Nat) (0:Int))) (shl i64 (i64.wrap (l.getD (1:Nat) (0:Int))) (8:Int)))==true)
 (End.ite (decide (bn i64 (i64.wrap (l.getD (0:Nat) (0:Int))) (shl i64 (i64.wrap (l.getD (1:Nat) (0:Int))) (8
 :Int))≤(4096:Int))==true) (End.ite (decide ((1:Int)≤bn i64 (i64.wrap (l.getD (2:Nat) (0:Int))) (shl i64
 (i64.wrap (l.getD (3:Nat) (0:Int))) (8:Int)))==true) (End.leaf (LV.cj [VV.sc (SV.int i64 (SI.sym (bn i64
 (i64.wrap (l.getD (0:Nat) (0:Int))) (shl i64 (i64.wrap (l.getD (1:Nat) (0:Int))) (8:Int))))),VV.sc (SV.int
 i64 (SI.sym (bn i64 (i64.wrap (l.getD (2:Nat) (0:Int))) (shl i64 (i64.wrap (l.getD (3:Nat) (0:Int)))
 (8:Int))))),VV.sc (SV.bool (SB.sym (decide (bn i64 (i64.wrap (l.getD (2:Nat) (0:Int))) (shl i64 (i64.wrap
 (l.getD (3:Nat) (0:Int))) (8:Int))≤(8192:Int)))))]) []) (End.leaf (LV.cj [VV.sc (SV.int i64 (SI.sym (bn i64
 (i64.wrap (l.getD (0:Nat) (0:Int))) (shl i64 (i64.wrap (l.getD (1:Nat) (0:Int))) (8:Int))))),VV.sc (SV.int
 i64 (SI.sym (bn i64 (i64.wrap (l.getD (2:Nat) (0:Int))) (shl i64 (i64.wrap (l.getD (3:Nat) (0:Int)))
 (8:Int))))),VV.sc (SV.bool (SB.sym false))]) [])) (End.leaf (LV.cj [VV.sc (SV.int i64 (SI.sym (bn i64 (i64.wrap (l.getD
 (0:Nat) (0:Int))) (shl i64 (i64.wrap (l.getD (1:Nat) (0:Int))) (8:Int))))),VV.sc (SV.int i64 (SI.sym (bn
 i64 (i64.wrap (l.getD (2:Nat) (0:Int))) (shl i64 (i64.wrap (l.getD (3:Nat) (0:Int))) (8:Int))))),VV.sc
 (SV.bool (SB.sym false))]) [])) (End.leaf (LV.cj [VV.sc (SV.int i64 (SI.sym (bn i64 (i64.wrap (l.getD (0:Nat) (0:Int)))
 (shl i64 (i64.wrap (l.getD (1:Nat) (0:Int))) (8:Int))))),VV.sc (SV.int i64 (SI.sym (bn i64 (i64.wrap
 (l.getD (2:Nat) (0:Int))) (shl i64 (i64.wrap (l.getD (3:Nat) (0:Int))) (8:Int))))),VV.sc (SV.bool (SB.sym false))]) []))))):=by kernel_rfl
theorem aa6:Xt.Ok Tryz.prog 156:=by
 refine(an.aN call156 fun x y Q h=>?_).sym;obtain⟨l,_⟩:=x;obtain⟨hl,hq⟩:=h;have hl:4≤l.length:=hl;refine(ar mixed ax func156 rfl (LT:= []) (ks:= [.fr [.sym],.auto]) (aH.nil _)).use (D:= []) ?_ hq;show(aG _ _ _ _ (bA.wr (l,())) [] _).sat _;rw[MX];have key:∀ {b:Bool},b=gO l→LV.cj [.sc (.int .i64 (.sym (two l 0))),.sc (.int .i64 (.sym (two l 2))),.sc (.bool (.sym b))]=LV.cj [.sc (.int .i64 (.sym (two l 0))),.sc (.int .i64 (.sym (two l 2))),.sc (.bool (.sym (gO l)))]:=fun h=>by rw[h]
 have e0:two l 0=bn .i64 (i64.wrap (l.getD 0 0)) (shl .i64 (i64.wrap (l.getD 1 0)) 8):=rfl;have e2:two l 2=bn .i64 (i64.wrap (l.getD 2 0)) (shl .i64 (i64.wrap (l.getD 3 0)) 8):=rfl;rw[← e0,← e2];refine⟨by omega,by omega,by omega,by omega,fun h1=>⟨fun h2=>⟨fun h3=>⟨key ?_,rfl⟩,fun h3=>⟨key ?_,rfl⟩⟩,fun h2=>⟨key ?_,rfl⟩⟩,fun h1=>⟨key ?_,rfl⟩⟩<;>simp_all[gO]<;>omega
def atK(n:Nat):List Int:=List.replicate n 0
def bJ:List Int→Int
 | []=>0
 |x::l=>u64.wrap (u64.wrap (bJ l*256)+u64.wrap x)
abbrev nbC:aM (List LV) (List Int×Int×Int×Unit):=ae (ah (fh false false u8)) (jk 2 (ae (ah (aA .u64)) (ae (ah (aA .i64)) (jk 16 ag))))
abbrev nbE:aM (List LV) (Int×Unit):=jk 3 (ae (ah (aA .u64)) (jk 17 ag))
abbrev nbK:List Wk:= [.fr (cu 21 [(0,.al),(3,.sym),(4,.sym)])]
abbrev nbX:List Wk:= [.fr (cu 21 [(3,.sym)])]
abbrev av7:Func:=f158
theorem av8(l:List Int)(n i:Int):cO Tryz.prog [] [] av7 0 [] (wsE nbK 0 nbX) ((aS nbC ag).wr ((l,n,i,()),()))=
 aK.ite (decide ((0:Int)≤i)) (aK.need ((0:Int)≤i∧i<(↑l.length:Int)) (aK.leaf Exit.normal {fr:= [LV.one (VV.sc (SV.rd false false (Ty.int IntKind.u8) l)),LV.bd,LV.bd,LV.one (VV.sc (SV.int u64 (SI.sym (u64.wrap (u64.wrap (n*(256:Int))+u64.wrap (l.getD i.toNat (0:Int))))))),LV.one (VV.sc (SV.int i64 (SI.sym (i64.wrap (i-(1:Int)))))),LV.bd,LV.bd,LV.bd,LV.bd,LV.bd,LV.bd,LV.bd,LV.bd,LV.bd,LV.bd,LV.bd,LV.bd,LV.bd,LV.bd,LV.bd,LV.bd],hp:= []}))
 (aK.leaf (Exit.exit (0:Nat)) {fr:= [LV.bd,LV.bd,LV.bd,LV.one (VV.sc (SV.int u64 (SI.sym n))),LV.bd,LV.bd,LV.bd,LV.bd,LV.bd,LV.bd,LV.bd,LV.bd,LV.bd,LV.bd,LV.bd,LV.bd,LV.bd,LV.bd,LV.bd,LV.bd,LV.bd],hp:= []}):=by kernel_rfl
def nbF(x:(List Int×Int×Int×Unit)×Unit):aK:=
 .need (x.1.2.1=0∧x.1.2.2.1=i64.wrap (x.1.1.length-1)∧x.1.1.length≤70368744177664) (.leaf (.exit 0) ((aS nbE ag).wr ((bJ x.1.1,()),())))
theorem apd(x):Ex Tryz.prog [] (.loop (aO av7 0)) ((aS nbC ag).wr x) (nbF x):=by
 obtain⟨⟨l,n,i,_⟩,_⟩:=x;refine Ex.need fun⟨h1,h2,h3⟩=>?_;simp only at h1 h2 h3;rw[ao (by omega) (by omega)]at h2;subst h1 h2
 have key:=yY mixed ax (aH.nil _) (fun j=>j) (fun j:Nat=>(aS nbC ag).wr ((l,bJ (l.drop j),(j:Int)-1,()),())) (fun j=>j≤l.length)
  (fun j=>.leaf (.exit 0) ((aS nbE ag).wr ((bJ l,()),()))) (fun j _=>av8 l _ _) (fun j R hj hs=>?_) l.length (Nat.le_refl _)
 ·simp only[List.drop_length]at key;exact key
 ·refine⟨fun hb=>?_,fun hb=>?_⟩
  ·have dL:0<j:=(by simp at hb;omega);obtain⟨k,rfl⟩:∃k,j=k+1:=⟨j-1,by omega⟩;refine⟨⟨by omega,by omega⟩,.inl ⟨rfl,k,?_,by omega,by omega,hs⟩⟩;have e1:i64.wrap (((k+1:Nat):Int)-1-1)=(k:Int)-1:=(by rw[ao (by omega) (by omega)];omega);have e2:(((k+1:Nat):Int)-1).toNat=k:=(by omega);rw[e1,e2,rv (show k<l.length by omega)];rfl
  ·have:j=0:=(by simp at hb;omega);subst this;exact .inr ⟨by simp,hs⟩
abbrev aAx:dG:= [(0,dc (aS nbC ag) 0 nbK nbF)]
def aiO:an:=an.cl [some u8] bA ag fun x _=>.leaf (some (x.1.length≤70368744177664)) (nU (bJ x.1)) []
theorem ape(l:List Int):aG Tryz.prog [] aAx av7 (bA.wr (l,())) [] [.auto]=
 End.need ((0:Int)=(0:Int)∧i64.wrap ((↑l.length:Int)-(1:Int))=i64.wrap ((↑l.length:Int)-(1:Int))∧l.length≤
 (70368744177664:Nat)) (End.leaf (LV.one (VV.sc (SV.int u64 (SI.sym (bJ l))))) []):=by kernel_rfl
theorem atL:aiO.Ok Tryz.prog 158:=by
 refine(an.aN call158 fun x y Q h=>?_).sym;obtain⟨l,_⟩:=x;obtain⟨hl,hq⟩:=h;have hl:l.length≤70368744177664:=hl;refine(ar mixed ax func158 rfl (LT:=aAx) (ks:= [.auto]) (aH.bK (js rfl (bD (hp:= []) apd) jt))).use (D:= []) ?_ hq;show(aG _ _ _ _ (bA.wr (l,())) [] _).sat _;rw[ape];exact⟨⟨rfl,rfl,hl⟩,rfl,rfl⟩
theorem apf(bs:ByteArray):∀ (k i:Nat) (r:List UInt8),bs.size-i=k→ByteArray.toList.loop bs i r=r.reverse++bs.data.toList.drop i:=by
 intro k
 induction k with
 |zero=>
  intro i r h;unfold ByteArray.toList.loop;rw[if_neg (by omega),List.drop_eq_nil_of_le (by simp;exact Nat.sub_eq_zero_iff_le.1 h)];simp
 |succ k ih=>
  intro i r h;unfold ByteArray.toList.loop;have hi:i<bs.size:=by omega
  have zq:i<bs.data.toList.length:=by simpa using hi
  rw[if_pos hi,ih (i+1) _ (by omega),List.drop_eq_getElem_cons zq]
  have:bs.get! i=bs.data.toList[i]:=by
   cases bs with|mk d=>simp[ByteArray.get!,ByteArray.size]at*;exact getElem!_pos d i hi
  rw[this];simp
theorem aa7(bs:ByteArray):bs.toList=bs.data.toList:=by
 unfold ByteArray.toList;rw[apf bs _ 0 [] rfl];simp
theorem y7(l:List Int):(strOf l).toList.length=l.length:=by
 rw[aa7];simp[strOf]
theorem nO{l m:List Int}(h:cV l m=true):l.length=m.length:=by
 unfold cV at h;have:=congrArg List.length (beq_iff_eq.1 h);rwa [y7,y7]at this
theorem fF:∀ {l:List Int},ay l→l.length≤8→0≤bJ l∧bJ l<256 ^ l.length∧∀c,By c→l.length<8→bJ (c::l)=bJ l*256+c
 | [],_,_=>⟨by simp[bJ],by simp[bJ],fun c hc _=>by
  obtain⟨h0,h1⟩:=hc;simp only[bJ];rw[wrap_u64 (n:=0*256) (by omega) (by omega),wrap_u64 (n:=c) (by omega) (by omega),wrap_u64 (by omega) (by omega)]⟩
 |x::l,hb,hl=>by
  simp only[List.length_cons]at hl;have hx:By x:=hb x (by simp);have gV:ay l:=fun z hz=>hb z (by simp[hz]);obtain⟨h1,h2,h3⟩:=fF gV (by omega);have e:=h3 x hx (by omega);obtain⟨xh,Gz⟩:=hx;have hp:(256:Int) ^ (l.length+1)=256 ^ l.length*256:=Int.pow_succ _ _;have dL:bJ (x::l)<256 ^ (l.length+1):=by rw[e,hp];omega
  refine⟨by rw[e];omega,dL,fun c hc h8=>?_⟩;simp only[List.length_cons]at h8;obtain⟨hc0,hc1⟩:=hc
  have hle:(256:Int) ^ (l.length+1)≤256 ^ 7:=by
   have:(256:Nat) ^ (l.length+1)≤256 ^ 7:=Nat.pow_le_pow_right (by omega) (by omega)
   exact_mod_cast this
  have h7:(256:Int) ^ 7=72057594037927936:=by decide
  have h0:0≤bJ (x::l):=by rw[e];omega
  have hd:bJ (c::x::l)=u64.wrap (u64.wrap (bJ (x::l)*256)+u64.wrap c):=rfl;rw[hd,wrap_u64 (n:=bJ (x::l)*256) (by omega) (by omega),wrap_u64 (n:=c) (by omega) (by omega),wrap_u64 (by omega) (by omega)]
theorem Fw:∀ {l:List Int} {c:Int},ay l→By c→l.length<8→bJ (l++ [c])=bJ l+c*256 ^ l.length
 | [],c,hb,hc,_=>by
  have:=(fF (l:= []) (fun _ h=>by simp at h) (by simp)).2.2 c hc (by simp);simp only[List.nil_append,List.length_nil,Int.pow_zero];rw[this];simp[bJ]
 |x::l,c,hb,hc,h8=>by
  simp only[List.length_cons]at h8;have hx:By x:=hb x (by simp);have gV:ay l:=fun z hz=>hb z (by simp[hz])
  have uc:ay (l++ [c]):=fun z hz=>by
   rcases List.mem_append.1 hz with h|h
   ·exact gV z h
   ·simp at h;subst h;exact hc
  have e1:=(fF uc (by simp;omega)).2.2 x hx (by simp;omega);have e2:=(fF gV (by omega)).2.2 x hx (by omega);rw[List.cons_append,e1,Fw gV hc (by omega),e2,List.length_cons,Int.pow_succ,Int.add_mul,Int.mul_assoc];omega
theorem lf{l:List Int}(h:ay l)(i:Nat):By (l.getD i 0):=by
 rw[List.getD_eq_getElem?_getD]
 cases he:l[i]? with
 |none=>exact⟨by simp,by simp⟩
 |some z=>exact h z (List.mem_of_getElem? he)
theorem hY{l:List Int}{j n:Nat}(h:j+n≤l.length):(List.range n).map (fun i=>l.getD (j+i) 0)=(l.drop j).take n:=by
 apply List.ext_getElem?
 intro i;simp only[List.getElem?_map,List.getElem?_take,List.getElem?_drop];rcases Nat.lt_or_ge i n with h1|h1
 ·rw[List.getElem?_range h1];simp[List.getD_eq_getElem?_getD,h1,List.getElem?_eq_getElem (show j+i<l.length by omega)]
 ·rw[List.getElem?_eq_none (by simpa using h1)];simp[show ¬i<n by omega]
abbrev atM:an:=aiO
theorem apg:atM.Ok Tryz.prog 158:=atL
def gv(l:List Int)(i:Nat):Int:=i64.wrap (bJ ((l.drop i).take 2))
theorem MY(l:List Int):aG Tryz.prog [(158,aiO)] [] f101 (bA.wr (l,())) [] [.fr [.sym],.auto]=
 End.need ((0:Int)≤(0:Int)∧(0:Int)≤(2:Int)∧(2:Int)≤(↑l.length:Int)) (End.need ((List.take (2:Nat) (List.drop (0:Nat)
 l)).length≤(70368744177664:Nat)) (End.need ((0:Int)≤(2:Int)∧(2:Int)≤(4:Int)∧(4:Int)≤(↑l.length:Int)) (End.need ((List.take (2
 :Nat) (List.drop (2:Nat) l)).length≤(70368744177664:Nat)) (End.ite (decide ((1:Int)≤i64.wrap (bJ (List.take (2:Nat) (List.drop
 (0:Nat) l))))==true) (End.ite (decide (i64.wrap (bJ (List.take (2:Nat) (List.drop (0:Nat) l)))≤(4096:Int))==true) (End.ite
 (decide ((1:Int)≤i64.wrap (bJ (List.take (2:Nat) (List.drop (2:Nat) l))))==true) (End.leaf (LV.cj [VV.sc (SV.int i64
 (SI.sym (i64.wrap (bJ (List.take (2:Nat) (List.drop (0:Nat) l)))))),VV.sc (SV.int i64 (SI.sym (i64.wrap (bJ (List.take
 (2:Nat) (List.drop (2:Nat) l)))))),VV.sc (SV.bool (SB.sym (decide (i64.wrap (bJ (List.take (2:Nat) (List.drop (2:Nat) l)))≤(8192:
 Int)))))]) []) (End.leaf (LV.cj [VV.sc (SV.int i64 (SI.sym (i64.wrap (bJ (List.take (2:Nat) (List.drop (0:Nat) l)))))),VV.sc
 (SV.int i64 (SI.sym (i64.wrap (bJ (List.take (2:Nat) (List.drop (2:Nat) l)))))),VV.sc (SV.bool (SB.sym false))]) [])) (End.leaf
 (LV.cj [VV.sc (SV.int i64 (SI.sym (i64.wrap (bJ (List.take (2:Nat) (List.drop (0:Nat) l)))))),VV.sc (SV.int i64 (SI.sym
 (i64.wrap (bJ (List.take (2:Nat) (List.drop (2:Nat) l)))))),VV.sc (SV.bool (SB.sym false))]) [])) (End.leaf (LV.cj [VV.sc (SV.int
 i64 (SI.sym (i64.wrap (bJ (List.take (2:Nat) (List.drop (0:Nat) l)))))),VV.sc (SV.int i64 (SI.sym (i64.wrap
 (bJ (List.take (2:Nat) (List.drop (2:Nat) l)))))),VV.sc (SV.bool (SB.sym false))]) []))))):=by kernel_rfl
def mn(l:List Int):Bool:=decide (1≤gv l 0∧gv l 0≤4096∧1≤gv l 2∧gv l 2≤8192)
def Jb:an:=an.cl [some u8] bA ag fun x _=>.leaf (some (4≤x.1.length)) (.cj [.sc (.int .i64 (.sym (gv x.1 0))),.sc (.int .i64 (.sym (gv x.1 2))),.sc (.bool (.sym (mn x.1)))]) []
theorem Fx:Jb.Ok Tryz.prog 101:=by
 refine(an.aN call101 fun x y Q h=>?_).sym;obtain⟨l,_⟩:=x;obtain⟨hl,hq⟩:=h;have hl:4≤l.length:=hl;refine(ar mixed (aj atL ax) func101 rfl (LT:= []) (ks:= [.fr [.sym],.auto]) (aH.nil _)).use (D:= []) ?_ hq;show(aG _ _ _ _ (bA.wr (l,())) [] _).sat _;rw[MY];have key:∀ {b:Bool},b=mn l→LV.cj [.sc (.int .i64 (.sym (gv l 0))),.sc (.int .i64 (.sym (gv l 2))),.sc (.bool (.sym b))]=LV.cj [.sc (.int .i64 (.sym (gv l 0))),.sc (.int .i64 (.sym (gv l 2))),.sc (.bool (.sym (mn l)))]:=fun h=>by rw[h]
 have e0:gv l 0=i64.wrap (bJ ((l.drop 0).take 2)):=rfl;have e2:gv l 2=i64.wrap (bJ ((l.drop 2).take 2)):=rfl;rw[← e0,← e2];refine⟨by omega,by simp;omega,by omega,by simp;omega,fun h1=>⟨fun h2=>⟨fun h3=>⟨key ?_,rfl⟩,fun h3=>⟨key ?_,rfl⟩⟩,fun h2=>⟨key ?_,rfl⟩⟩,fun h1=>⟨key ?_,rfl⟩⟩<;>simp_all[mn]<;>omega
theorem av9{m:Nat}{x y:Int}(xh:0≤x)(hx:x%(2 ^ m:Nat)=0)(AX:0≤y)(hy:y<(2 ^ m:Nat))(h64:x+y<9223372036854775808):bn .i64 x y=x+y:=by
 unfold bn;have e:(2 ^ 64:Nat)=18446744073709551616:=by decide
 have h:=Qk (n:=64) xh (by omega) hx AX hy (by omega);show i64.wrap ((BitVec.ofInt 64 x|||BitVec.ofInt 64 y).toNat:Int)=_;rw[h];exact ao (by omega) (by omega)
theorem head_range{l:List Int}(h:(aD l).2=true):1≤(aD l).1.2∧(aD l).1.2≤16:=by
 unfold aD at h ⊢
 split at h
 ·rename_i hc;rw[if_pos hc];have hlen:=nO hc.2;rw[hc.1]at hlen;simp only;unfold nK at hlen
  split at hlen
  ·rename_i hr;exact⟨hr.2.2.1,hr.2.2.2⟩
  ·simp at hlen
 ·cases h
theorem Tb{l:List Int}{i:Nat}(h0:By (l.getD i 0))(h1:By (l.getD (i+1) 0)):two l i=l.getD i 0+256*l.getD (i+1) 0:=by
 unfold two;unfold By at h0 h1;generalize l.getD i 0=a at*;generalize l.getD (i+1) 0=b at*;rw[ao (by omega) (by omega),ao (by omega) (by omega)]
 have e1:shl .i64 b 8=b*256:=by
  have:=gd .i64 b 8 (by simp[IntKind.bits]);rw[show((8:Nat):Int)=8 from rfl]at this;rw[this,ao (by omega) (by omega)];rfl
 rw[e1,gY,av9 (m:=8) (by omega) (by omega) (by omega) (by omega) (by omega)];omega
theorem Jc{l:List Int}{i:Nat}(hl:i+1<l.length)(h0:By (l.getD i 0))(h1:By (l.getD (i+1) 0)):gv l i=l.getD i 0+256*l.getD (i+1) 0:=by
 unfold gv;rw[rv (show i<l.length by omega),rv hl];unfold By at h0 h1;generalize l.getD i 0=a at*;generalize l.getD (i+1) 0=b at*;simp only[List.take_succ_cons,List.take_zero,bJ];have e0:u64.wrap (0*256)=0:=rfl;rw[e0,Int.zero_add,wrap_u64 (n:=b) (by omega) (by omega),wrap_u64 (n:=b) (by omega) (by omega),wrap_u64 (n:=b*256) (by omega) (by omega),wrap_u64 (n:=a) (by omega) (by omega),wrap_u64 (by omega) (by omega),ao (by omega) (by omega)];omega
theorem MZ{l:List Int}(h:∀z∈l,By z)(hl:4≤l.length):gv l 0=two l 0∧mn l=gO l:=by
 have e0:gv l 0=two l 0:=by rw[Jc (by omega) (lf h 0) (lf h 1),Tb (lf h 0) (lf h 1)]
 have e2:gv l 2=two l 2:=by rw[Jc (by omega) (lf h 2) (lf h 3),Tb (lf h 2) (lf h 3)]
 exact⟨e0,by unfold mn gO;rw[e0,e2]⟩
def fG(b:List Int)(plain:Int):Int×List Int:=if(bC b plain).1≠0 then((bC b plain).1,[])else(0,kG (bC b plain).2)
theorem v5{b:List Int}{plain:Int}:(bC b plain).2.length<1099511627776:=by
 unfold bC
 by_cases hp:plain<0∨8192<plain
 ·rw[if_pos hp];simp
 ·rw[if_neg hp];have k:=(gW 200000 plain 0 b (0,4294967295,4) r0H (cI 8) (cI 8) (cI 6) [] avY (fun x h=>by simp at h) (by omega) (by simp)).2;have k:((iJ b plain).1.length:Int)≤max plain 0:=k
  split
  ·simp only;omega
  ·simp
def hZ(b:List Int):Int×List Int×Int:=
 if b.length<4 then(16,[],0)
 else if gO b=false then(6,[],0)
 else if(b.length:Int)<4+two b 0 then(16,[],0)
 else if(fG ((b.drop 4).take (two b 0).toNat) (two b 2)).1≠0 then((fG ((b.drop 4).take (two b 0).toNat) (two b 2)).1,[],0)
 else(0,(fG ((b.drop 4).take (two b 0).toNat) (two b 2)).2,4+two b 0)
theorem Ai{b:List Int}(h:ay b)(n m:Nat):ay ((b.drop n).take m):=fun z hz=>h z (List.mem_of_mem_drop (List.mem_of_mem_take hz))
theorem v7{b:List Int}(h:gO b=true):1≤two b 0∧two b 0≤4096:=by
 have:=of_decide_eq_true h;omega
theorem M0{b:List Int}(h:∀z∈b,By z)(hl:4≤b.length):gv b 2=two b 2:=by
 have hb:∀i,By (b.getD i 0):=fun i=>ay.getD h i;rw[Jc (by omega) (hb 2) (hb 3),Tb (hb 2) (hb 3)]
abbrev uiC:aM (List LV) (Int×Int×Unit):=ae (ah (aA .u64)) (ae (ah (aA .i64)) ag)
abbrev u3C:aM (List LV) (Int×Int×Int×Unit):=ae (ah (aA .u64)) (ae (ah (aA .u64)) (ae (ah (aA .u64)) ag))
abbrev aa8:aM (List LV) (Int×Int×Int×Int×Unit):=ae (ah (aA .u64)) (ae (ah (aA .i64)) (ae (ah (aA .i64)) (ae (ah (aA .i64)) ag)))
def Xu(x k:Int):Int:=bn .u64 (shl .u64 x (aI .u64 (u64.wrap k) 63)) (shr .u64 x (u64.wrap (64-aI .u64 (u64.wrap k) 63)))
theorem atN(k:Int):aI .u64 (u64.wrap k) 63=k%64:=by
 rw[ry (m:=6) (by decide) _ _ (by decide),ly];exact Int.emod_emod_of_dvd _ (by decide)
def jP(x n:Int):Int:=bn .u64 (shl .u64 x (64-n)) (shr .u64 x n)
theorem aiP{x n:Int}(h0:0<n)(h1:n<64):Xu x (i64.wrap (0-n))=jP x n:=by
 unfold Xu jP
 have e:aI .u64 (u64.wrap (i64.wrap (0-n))) 63=64-n:=by
  rw[atN,wrap_i64 (by omega) (by omega)];omega
 rw[e,wrap_u64 (by omega) (by omega),show(64:Int)-(64-n)=n from by omega]
def atO:an:=an.cl [] (uiC) (ag) fun x_ y_=>(fun(x k:Int)=>.leaf none (nU (Xu x k)) []) x_.1 x_.2.1
theorem aa9(x k:Int):aG Tryz.prog [] [] f320 ((uiC).wr (x,k,())) ((ag).wr ()) [.fr [.sym],.auto]=
 End.need ((0:Int)≤aI u64 (u64.wrap k) (63:Int)) (End.need ((0:Int)≤u64.wrap ((64:Int)-aI u64
 (u64.wrap k) (63:Int))) (End.leaf (LV.one (VV.sc (SV.int u64 (SI.sym (bn u64 (shl u64 x (aI u64
 (u64.wrap k) (63:Int))) (shr u64 x (u64.wrap ((64:Int)-aI u64 (u64.wrap k) (63:Int))))))))) [])):=by kernel_rfl
theorem api:atO.Ok Tryz.prog 320:=by
 refine(an.aN call320 fun x_ y_ Q H_=>?_).sym;obtain⟨x,k,_⟩:=x_;have hq:=H_.2;refine(ar mixed ax func320 rfl (LT:= []) (ks:= [.fr [.sym],.auto]) (aH.nil _)).use (D:= []) ?_ hq;show(aG _ _ _ _ ((uiC).wr (x,k,())) ((ag).wr ()) _).sat _;rw[aa9];have e:=atN k;refine⟨by omega,by rw[e,wrap_u64 (by omega) (by omega)];omega,rfl,rfl⟩
def aiQ:an:=an.cl [] (uiC) (ag) fun x_ y_=>(fun(x k:Int)=>.leaf (some (0<k∧k<64)) (nU (jP x k)) []) x_.1 x_.2.1
theorem aba(x k:Int):aG Tryz.prog [(320,atO)] [] f294 ((uiC).wr (x,k,())) ((ag).wr ()) [.fr [.sym],.auto]=
 End.leaf (LV.one (VV.sc (SV.int u64 (SI.sym (Xu x (i64.wrap ((0:Int)-k.tmod (64:Int)))))))) []:=by kernel_rfl
theorem Xv:aiQ.Ok Tryz.prog 294:=by
 refine(an.aN call294 fun x_ y_ Q H_=>?_).sym;obtain⟨x,k,_⟩:=x_;obtain⟨hn,hq⟩:=H_;have hn:0<k∧k<64:=hn;refine(ar mixed ((aj api ax)) func294 rfl (LT:= []) (ks:= [.fr [.sym],.auto]) (aH.nil _)).use (D:= []) ?_ hq;show(aG _ _ _ _ ((uiC).wr (x,k,())) ((ag).wr ()) _).sat _;rw[aba];have e:k.tmod 64=k:=by rw[Int.tmod_eq_emod_of_nonneg (by omega)];omega
 rw[e,aiP hn.1 hn.2];exact⟨rfl,rfl⟩
def chF(x y z:Int):Int:=cx .u64 (aI .u64 x y) (aI .u64 (cx .u64 18446744073709551615 x) z)
def aiR(x y z:Int):Int:=cx .u64 (cx .u64 (aI .u64 x y) (aI .u64 x z)) (aI .u64 y z)
def chE:an:=an.cl [] (u3C) (ag) fun x_ y_=>(fun(x y z:Int)=>.leaf none (nU (chF x y z)) []) x_.1 x_.2.1 x_.2.2.1
theorem apj(x y z:Int):aG Tryz.prog [] [] f236 ((u3C).wr (x,y,z,())) ((ag).wr ()) [.fr [.sym],.auto]=
 End.leaf (LV.one (VV.sc (SV.int u64 (SI.sym (cx u64 (aI u64 x y) (aI u64 (cx u64
 (18446744073709551615:Int) x) z)))))) []:=by kernel_rfl
theorem aAy:chE.Ok Tryz.prog 236:=by
 refine(an.aN call236 fun x_ y_ Q H_=>?_).sym;obtain⟨x,y,z,_⟩:=x_;have hq:=H_.2;refine(ar mixed ax func236 rfl (LT:= []) (ks:= [.fr [.sym],.auto]) (aH.nil _)).use (D:= []) ?_ hq;show(aG _ _ _ _ ((u3C).wr (x,y,z,())) ((ag).wr ()) _).sat _;rw[apj];exact⟨rfl,rfl⟩
def aAz:an:=an.cl [] (u3C) (ag) fun x_ y_=>(fun(x y z:Int)=>.leaf none (nU (aiR x y z)) []) x_.1 x_.2.1 x_.2.2.1
theorem aiS(x y z:Int):aG Tryz.prog [] [] f237 ((u3C).wr (x,y,z,())) ((ag).wr ()) [.fr [.sym],.auto]=
 End.leaf (LV.one (VV.sc (SV.int u64 (SI.sym (cx u64 (cx u64 (aI u64 x y) (aI u64 x z)) (aI
 u64 y z)))))) []:=by kernel_rfl
theorem awa:aAz.Ok Tryz.prog 237:=by
 refine(an.aN call237 fun x_ y_ Q H_=>?_).sym;obtain⟨x,y,z,_⟩:=x_;have hq:=H_.2;refine(ar mixed ax func237 rfl (LT:= []) (ks:= [.fr [.sym],.auto]) (aH.nil _)).use (D:= []) ?_ hq;show(aG _ _ _ _ ((u3C).wr (x,y,z,())) ((ag).wr ()) _).sat _;rw[aiS];exact⟨rfl,rfl⟩
def Db(x a b d:Int):Int:=cx .u64 (cx .u64 (jP x a) (jP x b)) (shr .u64 x d)
def x7(x a b d:Int):Int:=cx .u64 (cx .u64 (jP x a) (jP x b)) (jP x d)
def aiT:an:=an.cl [] (aa8) (ag) fun x_ y_=>(fun(x a b d:Int)=>.leaf (some (0<a∧a<64∧0<b∧b<64∧0≤d)) (nU (Db x a b d)) []) x_.1 x_.2.1 x_.2.2.1 x_.2.2.2.1
theorem Tc(x a b d:Int):aG Tryz.prog [(294,aiQ)] [] f293 ((aa8).wr (x,a,b,d,())) ((ag).wr ()) [.fr [.sym],.auto]=
 End.need ((0:Int)<a∧a<(64:Int)) (End.need ((0:Int)<b∧b<(64:Int)) (End.need ((0:Int)≤d) (End.leaf (LV.one (VV.sc (SV.int
 u64 (SI.sym (cx u64 (cx u64 (jP x a) (jP x b)) (shr u64 x d)))))) []))):=by kernel_rfl
theorem aiU:aiT.Ok Tryz.prog 293:=by
 refine(an.aN call293 fun x_ y_ Q H_=>?_).sym;obtain⟨x,a,b,d,_⟩:=x_;obtain⟨hn,hq⟩:=H_;have hn:0<a∧a<64∧0<b∧b<64∧0≤d:=hn;refine(ar mixed ((aj Xv ax)) func293 rfl (LT:= []) (ks:= [.fr [.sym],.auto]) (aH.nil _)).use (D:= []) ?_ hq;show(aG _ _ _ _ ((aa8).wr (x,a,b,d,())) ((ag).wr ()) _).sat _;rw[Tc];exact⟨⟨hn.1,hn.2.1⟩,⟨hn.2.2.1,hn.2.2.2.1⟩,hn.2.2.2.2,rfl,rfl⟩
def aiV:an:=an.cl [] (aa8) (ag) fun x_ y_=>(fun(x a b d:Int)=>.leaf (some (0<a∧a<64∧0<b∧b<64∧0<d∧d<64)) (nU (x7 x a b d)) []) x_.1 x_.2.1 x_.2.2.1 x_.2.2.2.1
theorem Td(x a b d:Int):aG Tryz.prog [(294,aiQ)] [] f235 ((aa8).wr (x,a,b,d,())) ((ag).wr ()) [.fr [.sym],.auto]=
 End.need ((0:Int)<a∧a<(64:Int)) (End.need ((0:Int)<b∧b<(64:Int)) (End.need ((0:Int)<d∧d<(64:Int)) (End.leaf (LV.one
 (VV.sc (SV.int u64 (SI.sym (cx u64 (cx u64 (jP x a) (jP x b)) (jP x d)))))) []))):=by kernel_rfl
theorem aiW:aiV.Ok Tryz.prog 235:=by
 refine(an.aN call235 fun x_ y_ Q H_=>?_).sym;obtain⟨x,a,b,d,_⟩:=x_;obtain⟨hn,hq⟩:=H_;have hn:0<a∧a<64∧0<b∧b<64∧0<d∧d<64:=hn;refine(ar mixed ((aj Xv ax)) func235 rfl (LT:= []) (ks:= [.fr [.sym],.auto]) (aH.nil _)).use (D:= []) ?_ hq;show(aG _ _ _ _ ((aa8).wr (x,a,b,d,())) ((ag).wr ()) _).sat _;rw[Td];exact⟨⟨hn.1,hn.2.1⟩,⟨hn.2.2.1,hn.2.2.2.1⟩,hn.2.2.2.2,rfl,rfl⟩
def fH:List Int:= [4794697086780616226,8158064640168781261,13096744586834688815,16840607885511220156,4131703408338449720,6480981068601479193,10538285296894168987,12329834152419229976,15566598209576043074,1334009975649890238,2608012711638119052,6128411473006802146,8268148722764581231,9286055187155687089,11230858885718282805,13951009754708518548,16472876342353939154,17275323862435702243,1135362057144423861,2597628984639134821,3308224258029322869,5365058923640841347,6679025012923562964,8573033837759648693,10970295158949994411,12119686244451234320,12683024718118986047,13788192230050041572,14330467153632333762,15395433587784984357,489312712824947311,1452737877330783856,2861767655752347644,3322285676063803686,5560940570517711597,5996557281743188959,7280758554555802590,8532644243296465576,9350256976987008742,10552545826968843579,11727347734174303076,12113106623233404929,14000437183269869457,14369950271660146224,15101387698204529176,15463397548674623760,17586052441742319658,1182934255886127544,1847814050463011016,2177327727835720531,2830643537854262169,3796741975233480872,4115178125766777443,5681478168544905931,6601373596472566643,7507060721942968483,8399075790359081724,8693463985226723168,9568029438360202098,10144078919501101548,10430055236837252648,11840083180663258601,13761210420658862357,14299343276471374635,14566680578165727644,15097957966210449927,16922976911328602910,17689382322260857208,500013540394364858,748580250866718886,1242879168328830382,1977374033974150939,2944078676154940804,3659926193048069267,4368137639120453308,4836135668995329356,5532061633213252278,6448918945643986474,6902733635092675308,7801388544844847127]
def oG:List Int:= [7640891576956012808,13503953896175478587,4354685564936845355,11912009170470909681,5840696475078001361,11170449401992604703,2270897969802886507,6620516959819538809]
def aiX:an:=an.cl [] ag ag fun _ _=>.leaf none (dO .u64 8 oG) []
def Xw:an:=an.cl [] ag ag fun _ _=>.leaf none (dO .u64 80 fH) []
theorem Te:aG Tryz.prog [] [] f104 (ag.wr ()) (ag.wr ()) [.fr [.sym],.gK 0 0 8 .u64,.auto]= .leaf (dO .u64 8 oG) []:=by kernel_rfl
theorem M1:aG Tryz.prog [] [] f233 (ag.wr ()) (ag.wr ()) [.fr [.sym],.auto]= .leaf (dO .u64 80 fH) []:=by kernel_rfl
theorem aiY:aiX.Ok Tryz.prog 104:=by
 refine(an.aN call104 fun x_ y_ Q h=>?_).sym;refine(ar mixed ax func104 rfl (LT:= []) (ks:= [.fr [.sym],.gK 0 0 8 .u64,.auto]) (aH.nil _)).use (D:= []) ?_ h.2;show(aG _ _ _ _ (ag.wr ()) (ag.wr ()) _).sat _;rw[Te];exact⟨rfl,rfl⟩
theorem abb:Xw.Ok Tryz.prog 233:=by
 refine(an.aN call233 fun x_ y_ Q h=>?_).sym;refine(ar mixed ax func233 rfl (LT:= []) (ks:= [.fr [.sym],.auto]) (aH.nil _)).use (D:= []) ?_ h.2;show(aG _ _ _ _ (ag.wr ()) (ag.wr ()) _).sat _;rw[M1];exact⟨rfl,rfl⟩
def M3(b:List Int)(k:Nat)(m:List Int):List Int:=m.set (k/8) (bn .u64 (shl .u64 (m.getD (k/8) 0) 8) (u64.wrap (b.getD k 0)))
def jf(b:List Int):List Int:=upto (M3 b) 0 128 (List.replicate 16 0)
theorem v8(b:List Int)(k:Nat)(m:List Int):(M3 b k m).length=m.length:=by simp[M3]
abbrev aAA:Func:=f161
abbrev woC:aM (List LV) (List Int×Int×Int×Unit):=(jk 2 (ai (ah (aC 0 0)) (jk 1 (ai (ah (aC 1 0)) (jk 6 (ae (ah (fh false false u8)) (ae (ah (aA .i64)) (ae (ah (aA .i64)) (jk 17 ag)))))))))
abbrev aAC:Wk:=.fr (cu 31 [(2,.al),(4,.al),(11,.al),(12,.sym),(13,.sym)])
abbrev woX:aM (List LV) (Unit):=(jk 2 (ai (ah (aC 0 0)) (jk 1 (ai (ah (aC 1 0)) (jk 26 ag)))))
abbrev aFi:Wk:=.fr (cu 31 [(2,.al),(4,.al)])
abbrev PF:aM Hp (List Int×List Int×Unit):=ae (gL 213 .u64 16) (ae (gL 213 .u64 16) ag)
def woW:Exit→List Wk
 | .normal=> [aAC,.eG 0 0 16 .u64,.eG 1 0 16 .u64,.auto]
 | .exit 0=> [aFi,.auto]
 |_=> []
theorem awb(b:List Int)(n i:Int)(r m:List Int):cO Tryz.prog [] [] aAA 0 [] woW ((aS woC PF).wr ((b,n,i,()),(r,m,())))=
 aK.ite (decide (i<n)) (aK.need ((0:Int)≤i∧i<(↑b.length:Int)) (aK.need ((0:Int)≤i64.wrap (i.tdiv (8:Int))∧
 i64.wrap (i.tdiv (8:Int))<(16:Int)) (aK.need ((0:Int)≤i64.wrap (i.tdiv (8:Int))∧i64.wrap (i.tdiv (8:Int))<
 (16:Int)) (aK.leaf Exit.normal ((aS woC PF).wr ((b,n,i64.wrap (i+(1:Int)),PUnit.unit),r,m.set ((0:Nat)+(i64.wrap
 (i.tdiv (8:Int))).toNat) (bn u64 (shl u64 ((List.take (16:Nat) (List.drop (0:Nat) m)).getD (i64.wrap (i.tdiv (8:
 Int))).toNat (0:Int)) (8:Int)) (u64.wrap (b.getD i.toNat (0:Int)))),PUnit.unit)))))) (aK.leaf (Exit.exit (0:Nat)) ((aS woX PF).wr
 (PUnit.unit,r,m,PUnit.unit))):=by kernel_rfl
def woF(x:(List Int×Int×Int×Unit)×List Int×List Int×Unit):aK:=
 .need (x.1.1.length=128∧x.1.2.1=128∧x.1.2.2.1=0∧x.2.2.1=List.replicate 16 0) (.leaf (.exit 0) ((aS woX PF).wr ((),(x.2.1,jf x.1.1,()))))
theorem apk(x):Ex Tryz.prog [] (.loop (aO aAA 0)) ((aS woC PF).wr x) (woF x):=by
 obtain⟨⟨b,n,i,_⟩,r,m,_⟩:=x;refine Ex.need fun⟨h1,h2,h3,h4⟩=>?_;simp only at h1 h2 h3 h4;subst h2 h3 h4
 refine dN (ws:=woW) (hp:= []) mixed ax (aH.nil _) 128 (fun k m=>(aS woC PF).wr ((b,128,(k:Int),()),(r,m,()))) (fun m=>(aS woX PF).wr ((),(r,m,()))) (M3 b) (fun _ m=>m.length=16)
  (fun k m R hk hm hn hx=>?_) (fun k m _ hm=>by rw[v8];exact hm) 0 (List.replicate 16 0) (by omega) (by simp)
 rw[awb];refine⟨fun hb=>?_,fun hb=>?_⟩
 ·have dL:k<128:=by have:=of_decide_eq_true hb;omega
  have e:i64.wrap ((k:Int).tdiv 8)=((k/8:Nat):Int):=fP k 8 (by omega);rw[e,aY hm,cJ k (by omega)];simp only[Int.toNat_natCast,Nat.zero_add];exact⟨by omega,by omega,by omega,hn dL⟩
 ·have:k=128:=by have:=of_decide_eq_false hb;omega
  exact hx this
abbrev aAD:dG:= [(0,dc (aS woC PF) 0 [aAC,.eG 0 0 16 .u64,.eG 1 0 16 .u64,.auto] woF)]
def aiZ:an:=an.cl [some u8] (bA) (ag) fun x_ y_=>(fun(b:List Int)=>.leaf (some (b.length=128)) (.cj [.agg [.arr (.int .u64) 16 (jf b)],.sc (.bool (.sym true))]) []) x_.1
theorem Tf(b:List Int):aG Tryz.prog [] aAD f161 ((bA).wr (b,())) ((ag).wr ()) [.fr [.sym],.gK 0 0 16 .u64,.auto]=
 End.ite ((↑b.length:Int)!=(128:Int)) (End.leaf (LV.cj [VV.agg [SV.arr (Ty.int u64) (16:Nat) [(0:Int),(0:Int),(0:Int),(0:
 Int),(0:Int),(0:Int),(0:Int),(0:Int),(0:Int),(0:Int),(0:Int),(0:Int),(0:Int),(0:Int),(0:Int),(0:Int)]],VV.sc
 (SV.bool (SB.sym false))]) []) (End.need (b.length=(128:Nat)∧(↑b.length:Int)=(128:Int)∧(0:Int)=(0:Int)∧ [(0:Int),(0:Int),(0
 :Int),(0:Int),(0:Int),(0:Int),(0:Int),(0:Int),(0:Int),(0:Int),(0:Int),(0:Int),(0:Int),(0:Int),(0:Int),(0:Int)]
 =List.replicate (16:Nat) (0:Int)) (End.leaf (LV.cj [VV.agg [SV.arr (Ty.int u64) (16:Nat) (jf b)],VV.sc (SV.bool (SB.sym true))])
 [])):=by kernel_rfl
theorem ai0:aiZ.Ok Tryz.prog 161:=by
 refine(an.aN call161 fun x_ y_ Q H_=>?_).sym;obtain⟨b,_⟩:=x_;obtain⟨hn,hq⟩:=H_;have hn:b.length=128:=hn;refine(ar mixed ax func161 rfl (LT:=aAD) (ks:= [.fr [.sym],.gK 0 0 16 .u64,.auto]) (aH.bK (js rfl (bD (hp:= []) apk) jt))).use (D:= []) ?_ hq;show(aG _ _ _ _ ((bA).wr (b,())) ((ag).wr ()) _).sat _;rw[Tf];refine⟨fun h=>?_,fun h=>⟨⟨hn,by omega,rfl,rfl⟩,rfl,rfl⟩⟩;simp[hn]at h
def Jd(t:Nat)(w:List Int):List Int:=w.set t (u64.wrap (u64.wrap (u64.wrap (Db (w.getD (t-2) 0) 19 61 6+w.getD (t-7) 0)+Db (w.getD (t-15) 0) 1 8 7)+w.getD (t-16) 0))
def du(m:List Int):List Int:=upto Jd 16 64 (m++List.replicate 64 0)
abbrev aAE:Func:=f234
abbrev scA:aM (List LV) (List Int×Unit):=ae (uA .u64 16) ag
abbrev scC:aM (List LV) (Int×Unit):=(jk 2 (ai (ah (aC 0 0)) (ai (ah (aC 1 0)) (ae (ah (aA .i64)) (jk 31 ag)))))
abbrev aAG:Wk:=.fr (cu 36 [(2,.al),(3,.al),(4,.sym)])
abbrev scX:aM (List LV) (Unit):=(jk 2 (ai (ah (aC 0 0)) (ai (ah (aC 1 0)) (jk 32 ag))))
abbrev aFk:Wk:=.fr (cu 36 [(2,.al),(3,.al)])
abbrev scH:aM Hp (List Int×List Int×Unit):=ae (gL 278 .u64 80) (ae (gL 278 .u64 80) ag)
abbrev ai2:List (FuncId×an):= [(293,aiT)]
theorem M4:∀p∈ai2,p.2.Ok Tryz.prog p.1:=aj aiU ax
def scW:Exit→List Wk
 | .normal=> [aAG,.auto]
 | .exit 0=> [aFk,.auto]
 |_=> []
theorem awc(t:Int)(r w:List Int):cO Tryz.prog ai2 [] aAE 0 [] scW ((aS scC scH).wr ((t,()),(r,w,())))=
 aK.ite (decide (t<(80:Int))) (aK.need ((0:Int)≤i64.wrap (t-(2:Int))∧i64.wrap (t-(2:Int))<(80:Int)) (aK.need
 ((0:Int)<(19:Int)∧(19:Int)<(64:Int)∧(0:Int)<(61:Int)∧(61:Int)<(64:Int)∧(0:Int)≤(6:Int)) (aK.need ((0:Int)≤
 i64.wrap (t-(7:Int))∧i64.wrap (t-(7:Int))<(80:Int)) (aK.need ((0:Int)≤i64.wrap (t-(15:Int))∧
 i64.wrap (t-(15:Int))<(80:Int)) (aK.need ((0:Int)<(1:Int)∧(1:Int)<(64:Int)∧(0:Int)<(8:Int)∧(8:Int)<(64:
 Int)∧(0:Int)≤(7:Int)) (aK.need ((0:Int)≤i64.wrap (t-(16:Int))∧i64.wrap (t-(16:Int))<(80:Int)) (aK.need ((0
 :Int)≤t∧t<(80:Int)) (aK.leaf Exit.normal ((aS scC scH).wr ((i64.wrap (t+(1:Int)),PUnit.unit),r,w.set ((0:Nat)+t.toNat)
 (u64.wrap (u64.wrap (u64.wrap (Db ((List.take (80:Nat) (List.drop (0:Nat) w)).getD (i64.wrap (t-(2:
 Int))).toNat (0:Int)) (19:Int) (61:Int) (6:Int)+(List.take (80:Nat) (List.drop (0:Nat) w)).getD (i64.wrap (t-(7:Int))).toNat
 (0:Int))+Db ((List.take (80:Nat) (List.drop (0:Nat) w)).getD (i64.wrap (t-(15:Int))).toNat (0:Int)) (1:Int) (8:Int) (7:
 Int))+(List.take (80:Nat) (List.drop (0:Nat) w)).getD (i64.wrap (t-(16:Int))).toNat (0:Int))),PUnit.unit)))))))))) (aK.leaf
 (Exit.exit (0:Nat)) ((aS scX scH).wr (PUnit.unit,r,w,PUnit.unit))):=by kernel_rfl
def scF(x:(Int×Unit)×List Int×List Int×Unit):aK:=
 .need (x.1.1=16∧x.2.2.1.length=80) (.leaf (.exit 0) ((aS scX scH).wr ((),(x.2.1,upto Jd 16 64 x.2.2.1,()))))
theorem y8(t:Nat)(w:List Int):(Jd t w).length=w.length:=by simp[Jd]
theorem apl(x):Ex Tryz.prog [] (.loop (aO aAE 0)) ((aS scC scH).wr x) (scF x):=by
 obtain⟨⟨i,_⟩,r,w,_⟩:=x;refine Ex.need fun⟨h1,h2⟩=>?_;simp only at h1 h2;subst h1
 refine dN (ws:=scW) (hp:= []) mixed M4 (aH.nil _) 80 (fun k w=>(aS scC scH).wr (((k:Int),()),(r,w,()))) (fun w=>(aS scX scH).wr ((),(r,w,()))) Jd (fun k w=>16≤k∧w.length=80)
  (fun k w R hk hm hn hx=>?_) (fun k m _ hm=>⟨by omega,by rw[y8];exact hm.2⟩) 16 w (by omega) ⟨by omega,h2⟩
 obtain⟨h16,hm⟩:=hm;rw[awc];refine⟨fun hb=>?_,fun hb=>?_⟩
 ·have dL:k<80:=by have:=of_decide_eq_true hb;omega
  have e2:i64.wrap ((k:Int)-2)=((k-2:Nat):Int):=kf k 2 (by omega) (by omega);have e7:i64.wrap ((k:Int)-7)=((k-7:Nat):Int):=kf k 7 (by omega) (by omega);have e15:i64.wrap ((k:Int)-15)=((k-15:Nat):Int):=kf k 15 (by omega) (by omega);have e16:i64.wrap ((k:Int)-16)=((k-16:Nat):Int):=kf k 16 (by omega) (by omega);rw[e2,e7,e15,e16,aY hm,cJ k (by omega)];simp only[Int.toNat_natCast,Nat.zero_add];exact⟨by omega,by decide,by omega,by omega,by decide,by omega,by omega,hn dL⟩
 ·have:k=80:=by have:=of_decide_eq_false hb;omega
  exact hx this
abbrev aAI:dG:= [(0,dc (aS scC scH) 0 [aAG,.auto] scF)]
def ai3:an:=an.cl [] (scA) (ag) fun x_ y_=>(fun(m:List Int)=>.leaf (some (m.length=16)) (dO .u64 80 (du m)) []) x_.1
theorem Tg(m:List Int):aG Tryz.prog ai2 aAI f234 ((scA).wr (m,())) ((ag).wr ()) [.fr [.sym],.auto]=
 End.need ((0:Int)≤(0:Int)∧(0:Int)≤(80:Int)∧(80:Int)≤(80:Int)) (End.need ((0:Int)≤(0:Int)∧(0:Int)≤(16:Int)∧(16:
 Int)≤(16:Int)) (End.need ((16:Int)=(16:Int)∧(List.take (0:Nat) (List.replicate (80:Nat) (0:Int))++(List.take (80:Nat) (List.take
 (16:Nat) (List.drop (0:Nat) m))++List.drop ((0:Nat)+if(80:Nat)≤(List.take (16:Nat) (List.drop (0:Nat) m)).length then(80:Nat)
 else(List.take (16:Nat) (List.drop (0:Nat) m)).length) (List.replicate (80:Nat) (0:Int)))).length=(80:Nat)) (End.leaf (LV.one (VV.agg
 [SV.arr (Ty.int u64) (80:Nat) (upto Jd (16:Nat) (64:Nat) (List.take (0:Nat) (List.replicate (80:Nat) (0:Int))++(List.take (80:
 Nat) (List.take (16:Nat) (List.drop (0:Nat) m))++List.drop ((0:Nat)+if(80:Nat)≤(List.take (16:Nat) (List.drop (0:Nat) m)).length
 then(80:Nat)else(List.take (16:Nat) (List.drop (0:Nat) m)).length) (List.replicate (80:Nat) (0:Int)))))])) []))):=by kernel_rfl
theorem ai4:ai3.Ok Tryz.prog 234:=by
 refine(an.aN call234 fun x_ y_ Q H_=>?_).sym;obtain⟨m,_⟩:=x_;obtain⟨hn,hq⟩:=H_;have hn:m.length=16:=hn;refine(ar mixed M4 func234 rfl (LT:=aAI) (ks:= [.fr [.sym],.auto]) (aH.bK (js rfl (bD (hp:= []) apl) jt))).use (D:= []) ?_ hq;show(aG _ _ _ _ ((scA).wr (m,())) ((ag).wr ()) _).sat _;rw[Tg]
 have e:List.take 0 (List.replicate 80 (0:Int))++(List.take 80 (List.take 16 (List.drop 0 m))++List.drop (0+if 80≤(List.take 16 (List.drop 0 m)).length then 80 else(List.take 16 (List.drop 0 m)).length) (List.replicate 80 0))=m++List.replicate 64 0:=by
  rw[aY hn,hn];simp[List.take_of_length_le (show m.length≤80 by omega)]
 rw[e];refine⟨by omega,by omega,⟨rfl,by simp[hn]⟩,rfl,rfl⟩
def aAJ(w:List Int)(t:Nat)(x:List Int):Int:=
 u64.wrap (u64.wrap (u64.wrap (u64.wrap (x.getD 7 0+x7 (x.getD 4 0) 14 18 41)+chF (x.getD 4 0) (x.getD 5 0) (x.getD 6 0))+fH.getD t 0)+w.getD t 0)
def aFm(x:List Int):Int:=u64.wrap (x7 (x.getD 0 0) 28 34 39+aiR (x.getD 0 0) (x.getD 1 0) (x.getD 2 0))
def awd(w:List Int)(t:Nat)(x:List Int):List Int:=
 [u64.wrap (aAJ w t x+aFm x),x.getD 0 0,x.getD 1 0,x.getD 2 0,u64.wrap (x.getD 3 0+aAJ w t x),x.getD 4 0,x.getD 5 0,x.getD 6 0]
def aFn(x s:List Int):List Int:=(List.range 8).map fun i=>u64.wrap (x.getD i 0+s.getD i 0)
def oH(w x:List Int):List Int:=upto (awd w) 0 80 x
def qE(s m:List Int):List Int:=aFn (oH (du m) s) s
theorem v9{m:List Int}(h:m.length=16):(du m).length=80:=by
 unfold du;exact uz (f:=Jd) (n:=80) (fun(_:Nat) (w:List Int)=>w.length=80) (fun t w _ h=>by rw[y8];exact h) 64 16 (m++List.replicate 64 0) (by omega) (by simp[h])
abbrev aAK:Func:=f162
abbrev spC:aM (List LV) (Int×Unit):=(jk 2 (ai (ah (aC 0 0)) (jk 1 (ai (ah (aC 1 0)) (ai (ah (aC 2 0)) (ai (ah (aC 3 0)) (ai (ah (aC 4 0)) (jk 8 (ae (ah (aA .i64)) (jk 69 ag))))))))))
abbrev aAM:Wk:=.fr (cu 86 [(2,.al),(4,.al),(5,.al),(6,.al),(7,.al),(16,.sym)])
abbrev spX:aM (List LV) (Unit):=(jk 2 (ai (ah (aC 0 0)) (jk 1 (ai (ah (aC 1 0)) (jk 2 (ai (ah (aC 2 0)) (jk 78 ag)))))))
abbrev aFp:Wk:=.fr (cu 86 [(2,.al),(4,.al),(7,.al)])
abbrev abc:aM Hp (List Int×List Int×List Int×Unit):=ae (gL 118 .u64 8) (ae (aeR 118 .u64 8) (ae (aeR 118 .u64 8) ag))
abbrev spH:aM Hp (List Int×List Int×List Int×List Int×List Int×Unit):=ae (gL 118 .u64 8) (ae (gL 118 .u64 8) (ae (gL 278 .u64 80) (ae (gL 278 .u64 80) (ae (gL 118 .u64 8) ag))))
abbrev ai5:List (FuncId×an):= [(233,Xw),(234,ai3),(235,aiV),(236,chE),(237,aAz)]
theorem M5:∀p∈ai5,p.2.Ok Tryz.prog p.1:=aj abb (aj ai4 (aj aiW (aj aAy (aj awa ax))))
def spW:Exit→List Wk
 | .normal=> [aAM,.eG 4 0 8 .u64,.auto]
 | .exit 0=> [aFp,.auto,.E5 1,.E5 2]
 |_=> []
theorem awe(t:Int)(s r k w x:List Int):cO Tryz.prog ai5 [] aAK 0 [] spW ((aS spC spH).wr ((t,()),(s,r,k,w,x,())))=
 aK.ite (decide (t<(80:Int))) (aK.need ((0:Int)<(14:Int)∧(14:Int)<(64:Int)∧(0:Int)<(18:Int)∧(18:Int)<(64:Int)∧(0:
 Int)<(41:Int)∧(41:Int)<(64:Int)) (aK.need ((0:Int)≤t∧t<(80:Int)) (aK.need ((0:Int)≤t∧t<(80:Int)) (aK.need ((0:Int)
 <(28:Int)∧(28:Int)<(64:Int)∧(0:Int)<(34:Int)∧(34:Int)<(64:Int)∧(0:Int)<(39:Int)∧(39:Int)<(64:Int)) (aK.leaf
 Exit.normal ((aS spC spH).wr ((i64.wrap (t+(1:Int)),PUnit.unit),s,r,k,w,[u64.wrap (u64.wrap (u64.wrap
 (u64.wrap (u64.wrap (x.getD (7:Nat) (0:Int)+x7 (x.getD (4:Nat) (0:Int)) (14:Int) (18:Int) (41:Int))+chF (x.getD
 (4:Nat) (0:Int)) (x.getD (5:Nat) (0:Int)) (x.getD (6:Nat) (0:Int)))+(List.take (80:Nat) (List.drop (0:Nat) k)).getD t.toNat (0:
 Int))+(List.take (80:Nat) (List.drop (0:Nat) w)).getD t.toNat (0:Int))+u64.wrap (x7 (x.getD (0:Nat) (0:Int)) (28:Int) (34:
 Int) (39:Int)+aiR (x.getD (0:Nat) (0:Int)) (x.getD (1:Nat) (0:Int)) (x.getD (2:Nat) (0:Int)))),x.getD (0:Nat) (0:Int),x.getD (1
 :Nat) (0:Int),x.getD (2:Nat) (0:Int),u64.wrap (x.getD (3:Nat) (0:Int)+u64.wrap (u64.wrap (u64.wrap
 (u64.wrap (x.getD (7:Nat) (0:Int)+x7 (x.getD (4:Nat) (0:Int)) (14:Int) (18:Int) (41:Int))+chF (x.getD (4:Nat) (0:
 Int)) (x.getD (5:Nat) (0:Int)) (x.getD (6:Nat) (0:Int)))+(List.take (80:Nat) (List.drop (0:Nat) k)).getD t.toNat (0:Int))+(List.take
 (80:Nat) (List.drop (0:Nat) w)).getD t.toNat (0:Int))),x.getD (4:Nat) (0:Int),x.getD (5:Nat) (0:Int),x.getD (6:Nat) (0:Int)],
 PUnit.unit))))))) (aK.leaf (Exit.exit (0:Nat)) ((aS spX abc).wr (PUnit.unit,s,[r.getD (nat_lit 0) (0:Int),r.getD (nat_lit 1) (0:Int),
 r.getD (nat_lit 2) (0:Int),r.getD (nat_lit 3) (0:Int),r.getD (nat_lit 4) (0:Int),r.getD (nat_lit 5) (0:Int),r.getD (nat_lit 6) (0:Int),
 r.getD (nat_lit 7) (0:Int)],[x.getD (nat_lit 0) (0:Int),x.getD (nat_lit 1) (0:Int),x.getD (nat_lit 2) (0:Int),x.getD (nat_lit 3) (0:Int),
 x.getD (nat_lit 4) (0:Int),x.getD (nat_lit 5) (0:Int),x.getD (nat_lit 6) (0:Int),x.getD (nat_lit 7) (0:Int)],PUnit.unit))):=by kernel_rfl
def spF(x:(Int×Unit)×List Int×List Int×List Int×List Int×List Int×Unit):aK:=
 .need (x.1.1=0∧x.2.2.2.1=fH∧x.2.2.2.2.1.length=80∧x.2.2.2.2.2.1.length=8) (.leaf (.exit 0) ((aS spX abc).wr ((),(x.2.1,x.2.2.1,oH x.2.2.2.2.1 x.2.2.2.2.2.1,()))))
theorem apm(x):Ex Tryz.prog [] (.loop (aO aAK 0)) ((aS spC spH).wr x) (spF x):=by
 obtain⟨⟨i,_⟩,s,r,k,w,x,_⟩:=x;refine Ex.need fun⟨h1,h2,h3,h4⟩=>?_;simp only at h1 h2 h3 h4;subst h1 h2
 refine dN (ws:=spW) (hp:= []) mixed M5 (aH.nil _) 80 (fun j x=>(aS spC spH).wr (((j:Int),()),(s,r,fH,w,x,()))) (fun x=>(aS spX abc).wr ((),(s,r,x,()))) (awd w) (fun _ x=>x.length=8)
  (fun j x R hk hm hn hx=>?_) (fun k m _ hm=>rfl) 0 x (by omega) h4
 rw[awe];refine⟨fun hb=>?_,fun hb=>?_⟩
 ·have dL:j<80:=by have:=of_decide_eq_true hb;omega
  rw[aY h3,aY (l:=fH) (n:=80) rfl,cJ j (by omega)];simp only[Int.toNat_natCast];exact⟨by decide,by omega,by omega,by decide,hn dL⟩
 ·have:j=80:=by have:=of_decide_eq_false hb;omega
  exact hx this
abbrev aAN:dG:= [(0,dc (aS spC spH) 0 [aAM,.auto,.eG 1 0 8 .u64,.eG 4 0 8 .u64] spF)]
abbrev stA:aM (List LV) (List Int×List Int×Unit):=ae (uA .u64 8) (ae (uA .u64 16) ag)
def atP:an:=an.cl [] (stA) (ag) fun x_ y_=>(fun(s m:List Int)=>.leaf (some (s.length=8∧m.length=16)) (dO .u64 8 (qE s m)) []) x_.1 x_.2.1
theorem abd(s m:List Int):aG Tryz.prog ai5 aAN f162 ((stA).wr (s,m,())) ((ag).wr ()) [.fr [.sym],.gK 0 0 8 .u64,.auto]=
 End.need (m.length=(16:Nat)) (End.need ((0:Int)=(0:Int)∧fH=fH∧(du m).length=(80:Nat)∧s.length=(8:Nat))
 (End.leaf (LV.one (VV.agg [SV.arr (Ty.int u64) (8:Nat) [u64.wrap ((oH (du m) s).getD (nat_lit 0) (0:Int)+s.getD (0:Nat)
 (0:Int)),u64.wrap ((oH (du m) s).getD (nat_lit 1) (0:Int)+s.getD (1:Nat) (0:Int)),u64.wrap ((oH (du m) s).getD
 (nat_lit 2) (0:Int)+s.getD (2:Nat) (0:Int)),u64.wrap ((oH (du m) s).getD (nat_lit 3) (0:Int)+s.getD (3:Nat) (0:Int)),
 u64.wrap ((oH (du m) s).getD (nat_lit 4) (0:Int)+s.getD (4:Nat) (0:Int)),u64.wrap ((oH (du m) s).getD (nat_lit 5)
 (0:Int)+s.getD (5:Nat) (0:Int)),u64.wrap ((oH (du m) s).getD (nat_lit 6) (0:Int)+s.getD (6:Nat) (0:Int)),
 u64.wrap ((oH (du m) s).getD (nat_lit 7) (0:Int)+s.getD (7:Nat) (0:Int))]])) [])):=by kernel_rfl
theorem apn:atP.Ok Tryz.prog 162:=by
 refine(an.aN call162 fun x_ y_ Q H_=>?_).sym;obtain⟨s,m,_⟩:=x_;obtain⟨hn,hq⟩:=H_;have hn:s.length=8∧m.length=16:=hn;refine(ar mixed M5 func162 rfl (LT:=aAN) (ks:= [.fr [.sym],.gK 0 0 8 .u64,.auto]) (aH.bK (js rfl (bD (hp:= []) apm) jt))).use (D:= []) ?_ hq;show(aG _ _ _ _ ((stA).wr (s,m,())) ((ag).wr ()) _).sat _;rw[abd];exact⟨hn.2,⟨rfl,rfl,v9 hn.2,hn.1⟩,rfl,rfl⟩
theorem y9(s m:List Int):(qE s m).length=8:=rfl
def Xx:an:=an.cl [] ag ag fun _ _=>.leaf none (dO .u64 8 oG) []
def M6:an:=an.cl [] ag ag fun _ _=>.leaf none (dO .u64 80 fH) []
theorem M7:aG Tryz.prog [] [] f91 (ag.wr ()) (ag.wr ()) [.fr [.sym],.gK 0 0 8 .u64,.auto]= .leaf (dO .u64 8 oG) []:=by kernel_rfl
theorem Je:aG Tryz.prog [] [] f210 (ag.wr ()) (ag.wr ()) [.fr [.sym],.auto]= .leaf (dO .u64 80 fH) []:=by kernel_rfl
theorem abe:Xx.Ok Tryz.prog 91:=by
 refine(an.aN call91 fun x_ y_ Q h=>?_).sym;refine(ar mixed ax func91 rfl (LT:= []) (ks:= [.fr [.sym],.gK 0 0 8 .u64,.auto]) (aH.nil _)).use (D:= []) ?_ h.2;show(aG _ _ _ _ (ag.wr ()) (ag.wr ()) _).sat _;rw[M7];exact⟨rfl,rfl⟩
theorem Th:M6.Ok Tryz.prog 210:=by
 refine(an.aN call210 fun x_ y_ Q h=>?_).sym;refine(ar mixed ax func210 rfl (LT:= []) (ks:= [.fr [.sym],.auto]) (aH.nil _)).use (D:= []) ?_ h.2;show(aG _ _ _ _ (ag.wr ()) (ag.wr ()) _).sat _;rw[Je];exact⟨rfl,rfl⟩
def Ti:an:=an.cl [] (uiC) (ag) fun x_ y_=>(fun(x n:Int)=>.leaf (some (0<n∧n<64)) (nU (jP x n)) []) x_.1 x_.2.1
theorem Tj(x n:Int):aG Tryz.prog [] [] f211 ((uiC).wr (x,n,())) ((ag).wr ()) [.fr [.sym],.auto]=
 End.ite (u64.wrap ((i64.wrap (n.tmod (64:Int)+(64:Int))).tmod (64:Int))==(0:Int)) (End.leaf (LV.one (VV.sc (SV.int
 u64 (SI.sym x)))) []) (End.need ((0:Int)≤u64.wrap ((i64.wrap (n.tmod (64:Int)+(64:Int))).tmod (64:Int))) (End.need
 ((0:Int)≤u64.wrap ((64:Int)-u64.wrap ((i64.wrap (n.tmod (64:Int)+(64:Int))).tmod (64:Int)))) (End.leaf (LV.one
 (VV.sc (SV.int u64 (SI.sym (bn u64 (shr u64 x (u64.wrap ((i64.wrap (n.tmod (64:Int)+(64:Int))).tmod
 (64:Int)))) (shl u64 x (u64.wrap ((64:Int)-u64.wrap ((i64.wrap (n.tmod (64:Int)+(64:Int))).tmod (64:
 Int)))))))))) []))):=by kernel_rfl
theorem M8:Ti.Ok Tryz.prog 211:=by
 refine(an.aN call211 fun x_ y_ Q H_=>?_).sym;obtain⟨x,n,_⟩:=x_;obtain⟨hn,hq⟩:=H_;have hn:0<n∧n<64:=hn;refine(ar mixed ax func211 rfl (LT:= []) (ks:= [.fr [.sym],.auto]) (aH.nil _)).use (D:= []) ?_ hq;show(aG _ _ _ _ ((uiC).wr (x,n,())) ((ag).wr ()) _).sat _;rw[Tj];obtain⟨h0,h1⟩:=hn
 have e:u64.wrap ((i64.wrap (n.tmod 64+64)).tmod 64)=n:=by
  have a1:n.tmod 64=n:=by rw[Int.tmod_eq_emod_of_nonneg (by omega)];omega
  rw[a1,wrap_i64 (by omega) (by omega)];have a2:(n+64).tmod 64=n:=by rw[Int.tmod_eq_emod_of_nonneg (by omega)];omega
  rw[a2,wrap_u64 (by omega) (by omega)]
 have e2:u64.wrap (64-n)=64-n:=wrap_u64 (by omega) (by omega);rw[e,e2,gY];exact⟨fun h=>by simp at h;omega,fun _=>⟨by omega,by omega,rfl,rfl⟩⟩
theorem Tk(b:BitVec 64):BitVec.ofInt 64 (u64.wrap (b.toNat:Int))=b:=by
 have h:=b.isLt;rw[wrap_u64 (by omega) (by omega)];simp
theorem awf(x y z:Int):bn .u64 (bn .u64 (aI .u64 x y) (aI .u64 x z)) (aI .u64 y z)=aiR x y z:=by
 unfold aiR bn cx aI
 show u64.wrap ((BitVec.ofInt 64 (u64.wrap ((BitVec.ofInt 64 (u64.wrap ((BitVec.ofInt 64 x&&& BitVec.ofInt 64 y).toNat:Int))|||BitVec.ofInt 64 (u64.wrap ((BitVec.ofInt 64 x&&& BitVec.ofInt 64 z).toNat:Int))).toNat:Int))|||BitVec.ofInt 64 (u64.wrap ((BitVec.ofInt 64 y&&& BitVec.ofInt 64 z).toNat:Int))).toNat:Int)=
  u64.wrap ((BitVec.ofInt 64 (u64.wrap ((BitVec.ofInt 64 (u64.wrap ((BitVec.ofInt 64 x&&& BitVec.ofInt 64 y).toNat:Int)) ^^^ BitVec.ofInt 64 (u64.wrap ((BitVec.ofInt 64 x&&& BitVec.ofInt 64 z).toNat:Int))).toNat:Int)) ^^^ BitVec.ofInt 64 (u64.wrap ((BitVec.ofInt 64 y&&& BitVec.ofInt 64 z).toNat:Int))).toNat:Int)
 simp only[Tk]
 congr 3
 apply BitVec.eq_of_getLsbD_eq
 intro i _;simp only[BitVec.getLsbD_or,BitVec.getLsbD_and,BitVec.getLsbD_xor]
 cases(BitVec.ofInt 64 x).getLsbD i<;>cases(BitVec.ofInt 64 y).getLsbD i<;>cases(BitVec.ofInt 64 z).getLsbD i<;>rfl
abbrev aAO:Func:=f143
abbrev rwC:aM (List LV) (List Int×Int×Unit):=(ae (ah (fh false false u8)) (jk 1 (ai (ah (aC 0 0)) (jk 1 (ai (ah (aC 1 0)) (ae (ah (aA .i64)) (jk 24 ag)))))))
abbrev aAQ:Wk:=.fr (cu 30 [(0,.al),(2,.al),(4,.al),(5,.sym)])
abbrev rwX:aM (List LV) (Unit):=(jk 2 (ai (ah (aC 0 0)) (jk 1 (ai (ah (aC 1 0)) (jk 25 ag)))))
abbrev aFr:Wk:=.fr (cu 30 [(2,.al),(4,.al)])
def rwW:Exit→List Wk
 | .normal=> [aAQ,.eG 0 0 16 .u64,.eG 1 0 16 .u64,.auto]
 | .exit 0=> [aFr,.auto]
 |_=> []
theorem awg(b:List Int)(i:Int)(r m:List Int):cO Tryz.prog [] [] aAO 0 [] rwW ((aS rwC PF).wr ((b,i,()),(r,m,())))=
 aK.ite (decide (i<(128:Int))) (aK.need ((0:Int)≤i64.wrap (i.tdiv (8:Int))∧i64.wrap (i.tdiv (8:Int))<(16:Int))
 (aK.need ((0:Int)≤i∧i<(↑b.length:Int)) (aK.need ((0:Int)≤i64.wrap (i.tdiv (8:Int))∧i64.wrap (i.tdiv (8:Int))<
 (16:Int)) (aK.leaf Exit.normal ((aS rwC PF).wr ((b,i64.wrap (i+(1:Int)),PUnit.unit),r,m.set ((0:Nat)+(i64.wrap (i.tdiv
 (8:Int))).toNat) (bn u64 (shl u64 ((List.take (16:Nat) (List.drop (0:Nat) m)).getD (i64.wrap (i.tdiv (8:Int))).toNat
 (0:Int)) (8:Int)) (u64.wrap (b.getD i.toNat (0:Int)))),PUnit.unit)))))) (aK.leaf (Exit.exit (0:Nat)) ((aS rwX PF).wr (PUnit.unit,
 r,m,PUnit.unit))):=by kernel_rfl
def rwF(x:(List Int×Int×Unit)×List Int×List Int×Unit):aK:=
 .need (x.1.1.length=128∧x.1.2.1=0∧x.2.2.1=List.replicate 16 0) (.leaf (.exit 0) ((aS rwX PF).wr ((),(x.2.1,jf x.1.1,()))))
theorem apo(x):Ex Tryz.prog [] (.loop (aO aAO 0)) ((aS rwC PF).wr x) (rwF x):=by
 obtain⟨⟨b,i,_⟩,r,m,_⟩:=x;refine Ex.need fun⟨h1,h3,h4⟩=>?_;simp only at h1 h3 h4;subst h3 h4
 refine dN (ws:=rwW) (hp:= []) mixed ax (aH.nil _) 128 (fun k m=>(aS rwC PF).wr ((b,(k:Int),()),(r,m,()))) (fun m=>(aS rwX PF).wr ((),(r,m,()))) (M3 b) (fun _ m=>m.length=16)
  (fun k m R hk hm hn hx=>?_) (fun k m _ hm=>by rw[v8];exact hm) 0 (List.replicate 16 0) (by omega) (by simp)
 rw[awg];refine⟨fun hb=>?_,fun hb=>?_⟩
 ·have dL:k<128:=by have:=of_decide_eq_true hb;omega
  have e:i64.wrap ((k:Int).tdiv 8)=((k/8:Nat):Int):=fP k 8 (by omega);rw[e,aY hm,cJ k (by omega)];simp only[Int.toNat_natCast,Nat.zero_add];exact⟨by omega,by omega,by omega,hn dL⟩
 ·have:k=128:=by have:=of_decide_eq_false hb;omega
  exact hx this
abbrev aAR:dG:= [(0,dc (aS rwC PF) 0 [aAQ,.auto,.eG 0 0 16 .u64,.eG 1 0 16 .u64] rwF)]
def Xy:an:=an.cl [some u8] (bA) (ag) fun x_ y_=>(fun(b:List Int)=>.leaf (some (b.length=128)) (.cj [.agg [.arr (.int .u64) 16 (jf b)],.sc (.bool (.sym true))]) []) x_.1
theorem M9(b:List Int):aG Tryz.prog [] aAR f143 ((bA).wr (b,())) ((ag).wr ()) [.fr [.sym],.gK 0 0 16 .u64,.auto]=
 End.ite ((↑b.length:Int)!=(128:Int)) (End.leaf (LV.cj [VV.agg [SV.arr (Ty.int u64) (16:Nat) [(0:Int),(0:Int),(0:Int),(0:
 Int),(0:Int),(0:Int),(0:Int),(0:Int),(0:Int),(0:Int),(0:Int),(0:Int),(0:Int),(0:Int),(0:Int),(0:Int)]],VV.sc
 (SV.bool (SB.sym false))]) []) (End.need (b.length=(128:Nat)∧(0:Int)=(0:Int)∧ [(0:Int),(0:Int),(0:Int),(0:Int),(0:Int),(0:
 Int),(0:Int),(0:Int),(0:Int),(0:Int),(0:Int),(0:Int),(0:Int),(0:Int),(0:Int),(0:Int)]=List.replicate (16:Nat) (0:
 Int)) (End.leaf (LV.cj [VV.agg [SV.arr (Ty.int u64) (16:Nat) (jf b)],VV.sc (SV.bool (SB.sym true))]) [])):=by kernel_rfl
theorem abf:Xy.Ok Tryz.prog 143:=by
 refine(an.aN call143 fun x_ y_ Q H_=>?_).sym;obtain⟨b,_⟩:=x_;obtain⟨hn,hq⟩:=H_;have hn:b.length=128:=hn;refine(ar mixed ax func143 rfl (LT:=aAR) (ks:= [.fr [.sym],.gK 0 0 16 .u64,.auto]) (aH.bK (js rfl (bD (hp:= []) apo) jt))).use (D:= []) ?_ hq;show(aG _ _ _ _ ((bA).wr (b,())) ((ag).wr ()) _).sat _;rw[M9];refine⟨fun h=>?_,fun h=>⟨⟨hn,rfl,rfl⟩,rfl,rfl⟩⟩;simp[hn]at h
def po(m:List Int)(t:Nat)(w:List Int):List Int:=if t<16 then w.set t (m.getD t 0)else Jd t w
theorem Jf(m:List Int)(t:Nat)(w:List Int):(po m t w).length=w.length:=by unfold po;split<;>simp[Jd]
theorem Dd(m:List Int):∀ (j k:Nat),k+j≤16→m.length=16→upto (po m) k j (m.take k++List.replicate (80-k) 0)=m.take (k+j)++List.replicate (80-(k+j)) 0
 |0,_,_,_=>rfl
 |j+1,k,h,hm=>by
  have e:po m k (m.take k++List.replicate (80-k) 0)=m.take (k+1)++List.replicate (80-(k+1)) 0:=by
   unfold po;have hl:(m.take k).length=k:=(by simp;omega);rw[if_pos (by omega),List.set_append_right _ _ (by omega),hl,Nat.sub_self,show 80-k=(80-(k+1))+1 from by omega,List.replicate_succ,List.set_cons_zero,← List.take_append_getElem (by omega:k<m.length),List.append_assoc];simp[List.getD_eq_getElem?_getD,List.getElem?_eq_getElem (show k<m.length by omega)]
  show upto (po m) (k+1) j (po m k _)=_;rw[e,Dd m j (k+1) (by omega) hm,show k+1+j=k+(j+1)from by omega]
theorem abg{m:List Int}(hm:m.length=16):upto (po m) 0 80 (List.replicate 80 0)=du m:=by
 have h:=Dd m 16 0 (by omega) hm;rw[show(80:Nat)=16+64 from rfl,Lo];simp only[List.take_zero,List.nil_append,Nat.zero_add,Nat.sub_zero]at h;rw[Nat.zero_add,show List.replicate (16+64) (0:Int)=List.replicate 80 0 from rfl,h,List.take_of_length_le (by omega)];exact Bq (n:=80) (fun k (_:List Int)=>16≤k) (fun k _ _ h=>by omega) (fun k w _ h=>by unfold po;rw[if_neg (by omega)]) 64 16 _ (by omega) (by omega)
abbrev ai6:Func:=f209
abbrev rsC:aM (List LV) (Int×Unit):=(jk 1 (ai (ah (aC 0 0)) (ai (ah (aC 1 0)) (ai (ah (aC 2 0)) (ae (ah (aA .i64)) (jk 52 ag))))))
abbrev aAS:Wk:=.fr (cu 57 [(1,.al),(2,.al),(3,.al),(4,.sym)])
abbrev rsX:aM (List LV) (Unit):=(jk 2 (ai (ah (aC 0 0)) (ai (ah (aC 1 0)) (jk 53 ag))))
abbrev aFt:Wk:=.fr (cu 57 [(2,.al),(3,.al)])
abbrev rsH:aM Hp (List Int×List Int×List Int×Unit):=ae (gL 213 .u64 16) (ae (gL 278 .u64 80) (ae (gL 278 .u64 80) ag))
abbrev ai7:List (FuncId×an):= [(211,Ti)]
theorem Na:∀p∈ai7,p.2.Ok Tryz.prog p.1:=aj M8 ax
def rsW:Exit→List Wk
 | .normal=> [aAS,.auto]
 | .exit 0=> [aFt,.auto]
 |_=> []
theorem awh(t:Int)(m r w:List Int):cO Tryz.prog ai7 [] ai6 0 [] rsW ((aS rsC rsH).wr ((t,()),(m,r,w,())))=
 aK.ite (decide (t<(80:Int))) (aK.ite (decide (t<(16:Int))) (aK.need ((0:Int)≤t∧t<(16:Int)) (aK.need ((0:Int)≤t∧t<(80:
 Int)) (aK.leaf Exit.normal ((aS rsC rsH).wr ((i64.wrap (t+(1:Int)),PUnit.unit),m,r,w.set ((0:Nat)+t.toNat) ((List.take (16:Nat)
 (List.drop (0:Nat) m)).getD t.toNat (0:Int)),PUnit.unit))))) (aK.need ((0:Int)≤i64.wrap (t-(15:Int))∧i64.wrap (t-(15
 :Int))<(80:Int)) (aK.need ((0:Int)≤i64.wrap (t-(2:Int))∧i64.wrap (t-(2:Int))<(80:Int)) (aK.need ((0:Int)<
 (19:Int)∧(19:Int)<(64:Int)) (aK.need ((0:Int)<(61:Int)∧(61:Int)<(64:Int)) (aK.need ((0:Int)≤i64.wrap (t-(7:
 Int))∧i64.wrap (t-(7:Int))<(80:Int)) (aK.need ((0:Int)<(1:Int)∧(1:Int)<(64:Int)) (aK.need ((0:Int)<(8:Int)∧(8
 :Int)<(64:Int)) (aK.need ((0:Int)≤i64.wrap (t-(16:Int))∧i64.wrap (t-(16:Int))<(80:Int)) (aK.need ((0:Int)≤
 t∧t<(80:Int)) (aK.leaf Exit.normal ((aS rsC rsH).wr ((i64.wrap (t+(1:Int)),PUnit.unit),m,r,w.set ((0:Nat)+t.toNat)
 (u64.wrap (u64.wrap (u64.wrap (cx u64 (cx u64 (jP ((List.take (80:Nat) (List.drop (0:Nat)
 w)).getD (i64.wrap (t-(2:Int))).toNat (0:Int)) (19:Int)) (jP ((List.take (80:Nat) (List.drop (0:Nat) w)).getD (i64.wrap
 (t-(2:Int))).toNat (0:Int)) (61:Int))) (shr u64 ((List.take (80:Nat) (List.drop (0:Nat) w)).getD (i64.wrap (t-(2:
 Int))).toNat (0:Int)) (6:Int))+(List.take (80:Nat) (List.drop (0:Nat) w)).getD (i64.wrap (t-(7:Int))).toNat (0:Int))+cx
 u64 (cx u64 (jP ((List.take (80:Nat) (List.drop (0:Nat) w)).getD (i64.wrap (t-(15:Int))).toNat (0:Int)) (1:
 Int)) (jP ((List.take (80:Nat) (List.drop (0:Nat) w)).getD (i64.wrap (t-(15:Int))).toNat (0:Int)) (8:Int))) (shr u64
 ((List.take (80:Nat) (List.drop (0:Nat) w)).getD (i64.wrap (t-(15:Int))).toNat (0:Int)) (7:Int)))+(List.take (80:Nat)
 (List.drop (0:Nat) w)).getD (i64.wrap (t-(16:Int))).toNat (0:Int))),PUnit.unit))))))))))))) (aK.leaf (Exit.exit (0:Nat)) ((aS rsX
 scH).wr (PUnit.unit,r,w,PUnit.unit))):=by kernel_rfl
def rsF(x:(Int×Unit)×List Int×List Int×List Int×Unit):aK:=
 .need (x.1.1=0∧x.2.1.length=16∧x.2.2.2.1=List.replicate 80 0) (.leaf (.exit 0) ((aS rsX scH).wr ((),(x.2.2.1,du x.2.1,()))))
theorem apq(x):Ex Tryz.prog [] (.loop (aO ai6 0)) ((aS rsC rsH).wr x) (rsF x):=by
 obtain⟨⟨i,_⟩,m,r,w,_⟩:=x;refine Ex.need fun⟨h1,h2,h3⟩=>?_;simp only at h1 h2 h3;subst h1 h3
 have key:=dN (fn:=ai6) (id:=0) (j:=0) (ws:=rsW) (hp:= []) mixed Na (aH.nil _) 80 (fun k w=>(aS rsC rsH).wr (((k:Int),()),(m,r,w,()))) (fun w=>(aS rsX scH).wr ((),(r,w,()))) (po m) (fun _ w=>w.length=80)
  (fun k w R hk hm hn hx=>?_) (fun k w _ hw=>by rw[Jf];exact hw) 0 (List.replicate 80 0) (by omega) (by simp)
 ·rw[abg h2]at key;exact key
 rw[awh];refine⟨fun hb=>?_,fun hb=>?_⟩
 ·have dL:k<80:=by have:=of_decide_eq_true hb;omega
  rw[aY hm,aY h2,cJ k (by omega)];refine⟨fun h16=>?_,fun h16=>?_⟩
  ·have h16:k<16:=(by have:=of_decide_eq_true h16;omega);have:=hn dL;unfold po at this;rw[if_pos h16]at this;simp only[Int.toNat_natCast,Nat.zero_add];exact⟨by omega,by omega,this⟩
  ·have h16:16≤k:=(by have:=of_decide_eq_false h16;omega);have:=hn dL;unfold po at this;rw[if_neg (by omega)]at this;have e2:i64.wrap ((k:Int)-2)=((k-2:Nat):Int):=kf k 2 (by omega) (by omega);have e7:i64.wrap ((k:Int)-7)=((k-7:Nat):Int):=kf k 7 (by omega) (by omega);have e15:i64.wrap ((k:Int)-15)=((k-15:Nat):Int):=kf k 15 (by omega) (by omega);have e16:i64.wrap ((k:Int)-16)=((k-16:Nat):Int):=kf k 16 (by omega) (by omega);rw[e2,e7,e15,e16];simp only[Int.toNat_natCast,Nat.zero_add];exact⟨by omega,by omega,by decide,by decide,by omega,by decide,by decide,by omega,by omega,this⟩
 ·have:k=80:=by have:=of_decide_eq_false hb;omega
  exact hx this
abbrev aAT:dG:= [(0,dc (aS rsC rsH) 0 [aAS,.auto] rsF)]
def Xz:an:=an.cl [] (scA) (ag) fun x_ y_=>(fun(m:List Int)=>.leaf (some (m.length=16)) (dO .u64 80 (du m)) []) x_.1
theorem Nb(m:List Int):aG Tryz.prog ai7 aAT f209 ((scA).wr (m,())) ((ag).wr ()) [.fr [.sym],.auto]=
 End.need ((0:Int)=(0:Int)∧m.length=(16:Nat)∧List.replicate (80:Nat) (0:Int)=List.replicate (80:Nat) (0:Int)) (End.leaf (LV.one
 (VV.agg [SV.arr (Ty.int u64) (80:Nat) (du m)])) []):=by kernel_rfl
theorem abh:Xz.Ok Tryz.prog 209:=by
 refine(an.aN call209 fun x_ y_ Q H_=>?_).sym;obtain⟨m,_⟩:=x_;obtain⟨hn,hq⟩:=H_;have hn:m.length=16:=hn;refine(ar mixed Na func209 rfl (LT:=aAT) (ks:= [.fr [.sym],.auto]) (aH.bK (js rfl (bD (hp:= []) apq) jt))).use (D:= []) ?_ hq;show(aG _ _ _ _ ((scA).wr (m,())) ((ag).wr ()) _).sat _;rw[Nb];exact⟨⟨rfl,hn,rfl⟩,rfl,rfl⟩
abbrev atQ:Func:=f144
abbrev rpC:aM (List LV) (Int×Unit):=(jk 2 (ai (ah (aC 0 0)) (jk 1 (ai (ah (aC 1 0)) (ai (ah (aC 2 0)) (ai (ah (aC 3 0)) (ai (ah (aC 4 0)) (ae (ah (aA .i64)) (jk 105 ag)))))))))
abbrev aAV:Wk:=.fr (cu 114 [(2,.al),(4,.al),(5,.al),(6,.al),(7,.al),(8,.sym)])
abbrev rpX:aM (List LV) (Unit):=(jk 2 (ai (ah (aC 0 0)) (jk 1 (ai (ah (aC 1 0)) (jk 2 (ai (ah (aC 2 0)) (jk 106 ag)))))))
abbrev aFv:Wk:=.fr (cu 114 [(2,.al),(4,.al),(7,.al)])
abbrev ai8:List (FuncId×an):= [(210,M6),(211,Ti),(209,Xz)]
theorem Nc:∀p∈ai8,p.2.Ok Tryz.prog p.1:=aj Th (aj M8 (aj abh ax))
def rpW:Exit→List Wk
 | .normal=> [aAV,.eG 4 0 8 .u64,.auto]
 | .exit 0=> [aFv,.auto,.E5 1,.E5 2]
 |_=> []
theorem awi(t:Int)(s r w k x:List Int):cO Tryz.prog ai8 [] atQ 0 [] rpW ((aS rpC spH).wr ((t,()),(s,r,w,k,x,())))=
 aK.ite (decide (t<(80:Int))) (aK.need ((0:Int)<(14:Int)∧(14:Int)<(64:Int)) (aK.need ((0:Int)<(18:Int)∧(18:Int)<(64:
 Int)) (aK.need ((0:Int)<(41:Int)∧(41:Int)<(64:Int)) (aK.need ((0:Int)≤t∧t<(80:Int)) (aK.need ((0:Int)≤t∧t<(80:
 Int)) (aK.need ((0:Int)<(28:Int)∧(28:Int)<(64:Int)) (aK.need ((0:Int)<(34:Int)∧(34:Int)<(64:Int)) (aK.need ((0:Int)<
 (39:Int)∧(39:Int)<(64:Int)) (aK.leaf Exit.normal ((aS rpC spH).wr ((i64.wrap (t+(1:Int)),PUnit.unit),s,r,w,k,
 [u64.wrap (u64.wrap (u64.wrap (u64.wrap (u64.wrap (x.getD (7:Nat) (0:Int)+cx u64 (cx
 u64 (jP (x.getD (4:Nat) (0:Int)) (14:Int)) (jP (x.getD (4:Nat) (0:Int)) (18:Int))) (jP (x.getD (4:Nat) (0:Int)) (41:
 Int)))+cx u64 (aI u64 (x.getD (4:Nat) (0:Int)) (x.getD (5:Nat) (0:Int))) (aI u64 (cx u64
 (18446744073709551615:Int) (x.getD (4:Nat) (0:Int))) (x.getD (6:Nat) (0:Int))))+(List.take (80:Nat) (List.drop (0:Nat) k)).getD t.toNat
 (0:Int))+(List.take (80:Nat) (List.drop (0:Nat) w)).getD t.toNat (0:Int))+u64.wrap (cx u64 (cx u64 (jP
 (x.getD (0:Nat) (0:Int)) (28:Int)) (jP (x.getD (0:Nat) (0:Int)) (34:Int))) (jP (x.getD (0:Nat) (0:Int)) (39:Int))+bn
 u64 (bn u64 (aI u64 (x.getD (0:Nat) (0:Int)) (x.getD (1:Nat) (0:Int))) (aI u64 (x.getD (0:Nat) (0
 :Int)) (x.getD (2:Nat) (0:Int)))) (aI u64 (x.getD (1:Nat) (0:Int)) (x.getD (2:Nat) (0:Int))))),x.getD (0:Nat) (0:Int),
 x.getD (1:Nat) (0:Int),x.getD (2:Nat) (0:Int),u64.wrap (x.getD (3:Nat) (0:Int)+u64.wrap (u64.wrap
 (u64.wrap (u64.wrap (x.getD (7:Nat) (0:Int)+cx u64 (cx u64 (jP (x.getD (4:Nat) (0:Int)) (14:Int))
 (jP (x.getD (4:Nat) (0:Int)) (18:Int))) (jP (x.getD (4:Nat) (0:Int)) (41:Int)))+cx u64 (aI u64 (x.getD (4:
 Nat) (0:Int)) (x.getD (5:Nat) (0:Int))) (aI u64 (cx u64 (18446744073709551615:Int) (x.getD (4:Nat) (0:Int)))
 (x.getD (6:Nat) (0:Int))))+(List.take (80:Nat) (List.drop (0:Nat) k)).getD t.toNat (0:Int))+(List.take (80:Nat) (List.drop (0:Nat)
 w)).getD t.toNat (0:Int))),x.getD (4:Nat) (0:Int),x.getD (5:Nat) (0:Int),x.getD (6:Nat) (0:Int)],PUnit.unit))))))))))) (aK.leaf
 (Exit.exit (0:Nat)) ((aS rpX abc).wr (PUnit.unit,s,[r.getD (nat_lit 0) (0:Int),r.getD (nat_lit 1) (0:Int),r.getD (nat_lit 2) (0:Int),
 r.getD (nat_lit 3) (0:Int),r.getD (nat_lit 4) (0:Int),r.getD (nat_lit 5) (0:Int),r.getD (nat_lit 6) (0:Int),r.getD (nat_lit 7) (0:Int)],
 [x.getD (nat_lit 0) (0:Int),x.getD (nat_lit 1) (0:Int),x.getD (nat_lit 2) (0:Int),x.getD (nat_lit 3) (0:Int),x.getD (nat_lit 4) (0:Int),
 x.getD (nat_lit 5) (0:Int),x.getD (nat_lit 6) (0:Int),x.getD (nat_lit 7) (0:Int)],PUnit.unit))):=by kernel_rfl
def rpF(x:(Int×Unit)×List Int×List Int×List Int×List Int×List Int×Unit):aK:=
 .need (x.1.1=0∧x.2.2.2.2.1=fH∧x.2.2.2.1.length=80∧x.2.2.2.2.2.1.length=8) (.leaf (.exit 0) ((aS rpX abc).wr ((),(x.2.1,x.2.2.1,oH x.2.2.2.1 x.2.2.2.2.2.1,()))))
theorem apr(x):Ex Tryz.prog [] (.loop (aO atQ 0)) ((aS rpC spH).wr x) (rpF x):=by
 obtain⟨⟨i,_⟩,s,r,w,k,x,_⟩:=x;refine Ex.need fun⟨h1,h2,h3,h4⟩=>?_;simp only at h1 h2 h3 h4;subst h1 h2
 refine dN (ws:=rpW) (hp:= []) mixed Nc (aH.nil _) 80 (fun j x=>(aS rpC spH).wr (((j:Int),()),(s,r,w,fH,x,()))) (fun x=>(aS rpX abc).wr ((),(s,r,x,()))) (awd w) (fun _ x=>x.length=8)
  (fun j x R hk hm hn hx=>?_) (fun k m _ hm=>rfl) 0 x (by omega) h4
 rw[awi];refine⟨fun hb=>?_,fun hb=>?_⟩
 ·have dL:j<80:=by have:=of_decide_eq_true hb;omega
  rw[aY h3,aY (l:=fH) (n:=80) rfl,cJ j (by omega),awf];simp only[Int.toNat_natCast];exact⟨by decide,by decide,by decide,by omega,by omega,by decide,by decide,by decide,hn dL⟩
 ·have:j=80:=by have:=of_decide_eq_false hb;omega
  exact hx this
abbrev aAW:dG:= [(0,dc (aS rpC spH) 0 [aAV,.auto,.eG 1 0 8 .u64,.eG 4 0 8 .u64] rpF)]
def ai9:an:=an.cl [] (stA) (ag) fun x_ y_=>(fun(s m:List Int)=>.leaf (some (s.length=8∧m.length=16)) (dO .u64 8 (qE s m)) []) x_.1 x_.2.1
theorem Tl(s m:List Int):aG Tryz.prog ai8 aAW f144 ((stA).wr (s,m,())) ((ag).wr ()) [.fr [.sym],.gK 0 0 8 .u64,.auto]=
 End.need (m.length=(16:Nat)) (End.need ((0:Int)=(0:Int)∧fH=fH∧(du m).length=(80:Nat)∧s.length=(8:Nat))
 (End.leaf (LV.one (VV.agg [SV.arr (Ty.int u64) (8:Nat) [u64.wrap ((oH (du m) s).getD (nat_lit 0) (0:Int)+s.getD (0:Nat)
 (0:Int)),u64.wrap ((oH (du m) s).getD (nat_lit 1) (0:Int)+s.getD (1:Nat) (0:Int)),u64.wrap ((oH (du m) s).getD
 (nat_lit 2) (0:Int)+s.getD (2:Nat) (0:Int)),u64.wrap ((oH (du m) s).getD (nat_lit 3) (0:Int)+s.getD (3:Nat) (0:Int)),
 u64.wrap ((oH (du m) s).getD (nat_lit 4) (0:Int)+s.getD (4:Nat) (0:Int)),u64.wrap ((oH (du m) s).getD (nat_lit 5)
 (0:Int)+s.getD (5:Nat) (0:Int)),u64.wrap ((oH (du m) s).getD (nat_lit 6) (0:Int)+s.getD (6:Nat) (0:Int)),
 u64.wrap ((oH (du m) s).getD (nat_lit 7) (0:Int)+s.getD (7:Nat) (0:Int))]])) [])):=by kernel_rfl
theorem aja:ai9.Ok Tryz.prog 144:=by
 refine(an.aN call144 fun x_ y_ Q H_=>?_).sym;obtain⟨s,m,_⟩:=x_;obtain⟨hn,hq⟩:=H_;have hn:s.length=8∧m.length=16:=hn;refine(ar mixed Nc func144 rfl (LT:=aAW) (ks:= [.fr [.sym],.gK 0 0 8 .u64,.auto]) (aH.bK (js rfl (bD (hp:= []) apr) jt))).use (D:= []) ?_ hq;show(aG _ _ _ _ ((stA).wr (s,m,())) ((ag).wr ()) _).sat _;rw[Tl];exact⟨hn.2,⟨rfl,rfl,v9 hn.2,hn.1⟩,rfl,rfl⟩
end Go.Proofs.YtnbkagglkajbkaaGreat
end
