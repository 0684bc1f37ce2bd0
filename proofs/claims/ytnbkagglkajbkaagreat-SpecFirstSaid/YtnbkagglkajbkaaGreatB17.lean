/- What the laws lean on, part 17: a reader of code, plain facts, and what each function gives; no conditions. -/
import Derived.Test.YtnbkagglkajbkaaGreatB16
set_option linter.unusedVariables false
set_option linter.unusedSimpArgs false
noncomputable section
namespace Go.Proofs.YtnbkagglkajbkaaGreat
open Go Go.Ev Go.Proofs.Tryz
open Go.IntKind (i64 signed u16 u64 wrap)
set_option maxRecDepth 1000000
abbrev afy:ar:=Xd aH
theorem Ua:afy.Ok Tryz.prog 51:=ad7
abbrev vO:Type:=Bool
abbrev L2(x:vO):LV:=LV.one (VV.sc (SV.bool (SB.sym x)))
abbrev L3(x:vO):List (Nat×Ev.Item):= []
def Cj(p:Int×Int×Int×List Int)(d:List Int):Tr (vO):=(.ite (decide ((↑p.snd.snd.snd.length:Int)≤16)==
 true) (.ret (decide ((↑d.length:Int)≤700))) (.ret (false)))
theorem HI(p:cH)(d:List Int):aT Tryz.prog [] [] f19 ((ajG).wr (p,d,())) ((ag).wr (())) [.fr [.sym],.syms,.auto,.aN]=(Cj p d).end L2 L3 ((ag).wr (())):=by kernel_rfl
theorem L4(p:cH)(d:List Int):aO Tryz.prog ((ag).wr (())) [] (aG f19):=(aO.nil _)
abbrev oq(p:cH)(d:List Int):Prop:=True
abbrev Ck(p:cH)(d:List Int):vO:=decide (p.2.2.2.length≤16∧d.length≤700)
def vP:ar:=dm [some (.int .i64),some u8] (ajG) (ag) (fun x_ y_=>oq x_.1 x_.2.1) (fun x_ y_=>Ck x_.1 x_.2.1) L2 L3
theorem QE(p:cH)(d:List Int)(h_:oq p d):(Cj p d).Is (Ck p d):=by
 delta Ck;simp only[Cj,cO,aq];simp;grind
theorem sX:vP.Ok Tryz.prog 19:=
 bY mixed aE func19 (by kernel_rfl) call19 (fun x_ y_=>L4 x_.1 x_.2.1) (fun x_ y_=>HI x_.1 x_.2.1) (fun x_ y_ h=>QE x_.1 x_.2.1 h)
abbrev Cl:Type:=Int×(List Int)×(List (List Int))
abbrev Cm:aW St Cl:=(bD (jk 1 (ak (ah (aP (0) (0))) (jk 1 (ak (ah (tJ (1) (0))) (ae (ah (ay
 i64)) (jk 11 ag)))))) (ae (iF (22) ((ae (se (Ty.int IntKind.u8) (32)) ag))) (ae (eG (0) ((Ty.int IntKind.u8).arr 32))
 ag))).nH (fun y=>(y.1.1,y.2.1.1,y.2.2.1)) (fun x=>((x.1,()),((x.2.1,()),(x.2.2,())))) (fun _=>rfl)
abbrev QF:List Wk:= [.fr (dK 16 [(1,.an),(3,.an),(4,.an)]),.syms,.auto,.aN]
abbrev afz:Exit→List Wk:=Di QF 0 [.fr (dK 16 [(3,.an)]),.syms,.auto,.aN] [.fr (dK 16 [(2,.an)]),.syms,.auto,.aN]
abbrev QG:Type:=List (List Int)
abbrev afA(x:QG):Exit×St:=(Exit.exit 0,⟨(jK 3 (LV.one (VV.sc (SV.sl 0 0))::(jK 12 []))),[some (Item.own 0 ((Ty.int
 IntKind.u8).arr 32) x)]⟩)
def HJ(i:Int)(s:List Int)(k:List (List Int)):Tr (Cl⊕(QG)):=(.ite (decide (i<8)) (.need (s.length=32)
 (.need (0≤i∧i<(↑k.length:Int)) (.ret (.inl (i64.wrap (i+1),s,k.set i.toNat (aH s)))))) (.ret (.inr (k))))
theorem QH(s':List Int)(i:Int)(s:List Int)(k:List (List Int)):ee Tryz.prog [(51,afy)] [] f21 0 ((ag).wr (())) afz (Cm.wr (i,s,k))=(HJ i s k).res Cm.wr afA:=by kernel_rfl
abbrev Cn(i:Int)(s:List Int)(k:List (List Int)):Prop:=0≤i∧i≤8∧s.length=32∧k.length=8∧∀m:Nat,m<i→k.getD m []=aH s
abbrev QI(i:Int)(s:List Int)(k:List (List Int)):QG:=aC (aH s)
abbrev QJ:Cl→aZ:=hY (fun x_=>Cn x_.1 x_.2.1 x_.2.2) (fun x_=>QI x_.1 x_.2.1 x_.2.2) afA
theorem afB(i:Int)(s:List Int)(k:List (List Int))(h_:Cn i s k):dO (fun x_:Cl=>HJ x_.1 x_.2.1 x_.2.2) (i,s,k) (QI i s k):=by
 delta QI;obtain⟨h1,h2,h3,h4,h5⟩:=h_;obtain⟨n,hn⟩:∃n:Nat,8-i=n:=⟨(8-i).toNat,by omega⟩
 induction n generalizing i k with
 |zero=>
  refine .stop ?_;have e1:decide (i<8)=false:=decide_eq_false (by omega);simp only[HJ,e1,cf,aq];refine congrArg _ (List.ext_getElem (by simp[aC,h4]) fun m hm hm2=>?_);have:=h5 m (by omega);rw[List.getD_eq_getElem?_getD,List.getElem?_eq_getElem hm]at this;rw[show k[m]=aH s from this];exact(List.getElem_replicate (a:=aH s) (n:=8) _).symm
 |succ n ih=>
  have e1:decide (i<8)=true:=decide_eq_true (by omega);refine .go (y:=(i+1,s,k.set i.toNat (aH s))) ?_ (ih (i+1) (k.set i.toNat (aH s)) (by omega) (by omega) (by simpa using h4) (fun m hm=>?_) (by omega))
  ·simp only[HJ,e1,bx,ao,aq];rw[ax (by omega) (by omega)];exact⟨h3,⟨h1,by omega⟩,rfl⟩
  ·rw[List.getD_eq_getElem?_getD,List.getElem?_set]
   by_cases c:i.toNat=m
   ·rw[if_pos c,if_pos (by omega)];rfl
   ·rw[if_neg c,← List.getD_eq_getElem?_getD];exact h5 m (by omega)
theorem XF(s':List Int):∀x:Cl,Ex Tryz.prog ((ag).wr (())) (.loop (aV f21 0)) (Cm.wr x) (QJ x):=
 du mixed ((aj Ua aE)) (ws:=afz) (aO.nil _) (fun x_=>QH s' x_.1 x_.2.1 x_.2.2) (fun z e=>by cases e) iH (fun x_ h=>afB x_.1 x_.2.1 x_.2.2 h)
abbrev zb:Type:=List (List Int)
abbrev Ub(x:zb):LV:=LV.one (VV.sc (SV.sl 0 0))
abbrev Uc(x:zb):List (Nat×Ev.Item):= [(0,Item.own 0 ((Ty.int IntKind.u8).arr 32) x)]
def HK(s:List Int):Tr (zb):=(.need ((8:Int)=8∧(0:Int)≤8∧(256:Int)≤70368744177664∧(8:Int)≤
 70368744177664) (.need (Cn 0 s (List.replicate 8 [0,0,0,0,0,0,0,0,0,0,0,0,0,0,0,0,0,0,0,0,0,0,0,0,0,0,0,0,0,0,0,
 0])) (.ret (aC (aH s)))))
theorem L5(s:List Int):aT Tryz.prog [(51,afy)] [(0,cV Cm ((ag).wr (())) QF (QJ))] f21 (((ae cB ag)).wr (s,())) ((ag).wr (())) [.fr [.sym],.syms,.auto,.aN]=(HK s).end Ub Uc ((ag).wr (())):=by kernel_rfl
theorem QK(s:List Int):aO Tryz.prog ((ag).wr (())) [(0,cV Cm ((ag).wr (())) QF (QJ))] (aG f21):=(aO.cU (nJ (by kernel_rfl) (cJ (hp:=(ag).wr (())) (XF s)) oI))
abbrev bK(s:List Int):Prop:=s.length=32
abbrev HL(s:List Int):zb:=aC (aH s)
def rz:ar:=dm [] ((ae cB ag)) (ag) (fun x_ y_=>bK x_.1) (fun x_ y_=>HL x_.1) Ub Uc
theorem XG(s:List Int)(h_:bK s):(HK s).Is (HL s):=by
 delta HL;simp only[HK,ao,aq];exact⟨⟨by decide,by decide⟩,⟨by omega,by omega,h_,by simp,fun m hm=>by omega⟩,trivial⟩
theorem ny:rz.Ok Tryz.prog 21:=
 bY mixed ((aj Ua aE)) func21 (by kernel_rfl) call21 (fun x_ y_=>QK x_.1) (fun x_ y_=>L5 x_.1) (fun x_ y_ h=>XG x_.1 h)
theorem Co(k:List Int)(h:k.length=32):Qf (aC k):=fun n hn=>by
 unfold aC at hn ⊢;rw[List.length_replicate]at hn;rw[List.getD_eq_getElem?_getD,List.getElem?_replicate,if_pos hn];exact h
def c8(p:Int×Int×Int×List Int):Int×Int×Int×List Int:=p
def QL(s:List Int)(p:Int×Int×Int×List Int)(d:List Int)(fl:Int)(rm:Int):Int:=(↑d.length:Int)
def QM(s:List Int)(p:Int×Int×Int×List Int)(d:List Int)(fl:Int)(rm:Int):List Int:= [cG (bO (aC (aH
 s)) fl rm (au s (c8 p) d).snd).oO.cC.ver (bO (aC (aH s)) fl rm (au s (c8 p) d).snd).oO.cC.gM (bO (aC (aH s)) fl rm
 (au s (c8 p) d).snd).oO.cC.len (bO (aC (aH s)) fl rm (au s (c8 p) d).snd).oO.cC.list (bO (aC (aH s)) fl rm (au s
 (c8 p) d).snd).oO.cC.plain,d].flatten
abbrev Ud:Type:=Bool
abbrev al4(x:Ud):LV:=LV.one (VV.sc (SV.bool (SB.sym x)))
abbrev al5(x:Ud):List (Nat×Ev.Item):= []
def afC(s:List Int)(p:Int×Int×Int×List Int)(d:List Int)(fl:Int)(rm:Int):Tr (Ud):=(.need (jA) (.ite
 ((!true)==false) (.need (oq (c8 p) d) (.ite (!decide (p.snd.snd.snd.length≤16∧d.length≤700)) (.ret (true)) (.need (lq s (c8
 p) d) (.need (a7 (au s (c8 p) d).fst) (.ite ((au s (c8 p) d).fst !=0) (.ret (true)) (.need (bK s) (.need (bS (aC
 (aH s)) fl rm (au s (c8 p) d).snd) (.ite (decide (rm<QL s p d fl rm)) (.need (a7 (bO (aC (aH s)) fl rm (au s (c8 p)
 d).snd).err) (.ret ((bO (aC (aH s)) fl rm (au s (c8 p) d).snd).err==10))) (.ite (decide (p.snd.fst<fl)) (.need (a7 (bO (aC
 (aH s)) fl rm (au s (c8 p) d).snd).err) (.ret ((bO (aC (aH s)) fl rm (au s (c8 p) d).snd).err==9))) (.need (a7 (bO
 (aC (aH s)) fl rm (au s (c8 p) d).snd).err) (.ite (((bO (aC (aH s)) fl rm (au s (c8 p) d).snd).err==0)==true) (.ite
 (fD (bO (aC (aH s)) fl rm (au s (c8 p) d).snd).data d==true) (.ite (((bO (aC (aH s)) fl rm (au s (c8 p)
 d).snd).oO.cC.ver==p.snd.fst)==true) (.ite (((bO (aC (aH s)) fl rm (au s (c8 p) d).snd).oO.cC.gM==p.snd.snd.fst)==true)
 (.ite (((bO (aC (aH s)) fl rm (au s (c8 p) d).snd).oO.cC.len==QL s p d fl rm)==true) (.ite (((bO (aC (aH s)) fl rm
 (au s (c8 p) d).snd).oO.key==p.fst)==true) (.need (0≤(bO (aC (aH s)) fl rm (au s (c8 p) d).snd).oO.cC.ver∧(bO (aC
 (aH s)) fl rm (au s (c8 p) d).snd).oO.cC.ver<18446744073709551616∧0≤(bO (aC (aH s)) fl rm (au s (c8 p)
 d).snd).oO.cC.gM∧(bO (aC (aH s)) fl rm (au s (c8 p) d).snd).oO.cC.gM<18446744073709551616) (.need (2<2305843009213693952∧
 (QM s p d fl rm).length<1152921504606846976) (.ret (decide ((bO (aC (aH s)) fl rm (au s (c8 p) d).snd).mea=aJ (QM s p d fl
 rm)))))) (.ret (false))) (.ret (false))) (.ret (false))) (.ret (false))) (.ret (false))) (.ret (false))))))))))))) (.ret (true))))
theorem XH(s:List Int)(p:cH)(d:List Int)(fl rm:Int):aT Tryz.prog [(15,nx),(19,vP),(12,Qt),(21,rz),(17,Ch),(20,sW),(23,VH),(22,CQ)] [] f5 (((ae cB (ae (si vG) (ae (ah (e9 false false u8)) (ae (ah (ay .u64)) (ae (ah (ay .i64)) ag)))))).wr (s,p,d,fl,rm,())) ((ag).wr (())) [.fr [.sym],.syms,.auto,.aN]=(afC s p d fl rm).end al4 al5 ((ag).wr (())):=by kernel_rfl
theorem afD(s:List Int)(p:cH)(d:List Int)(fl rm:Int):aO Tryz.prog ((ag).wr (())) [] (aG f5):=(aO.nil _)
abbrev Ue(s:List Int)(p:cH)(d:List Int)(fl rm:Int):Prop:=s.length=32∧al d∧xt p
abbrev afE(s:List Int)(p:cH)(d:List Int)(fl rm:Int):Ud:=true
def as4:ar:=dm [none,some (.int .i64),some u8] ((ae cB (ae (si vG) (ae (ah (e9 false false u8)) (ae (ah (ay .u64)) (ae (ah (ay .i64)) ag)))))) (ag) (fun x_ y_=>Ue x_.1 x_.2.1 x_.2.2.1 x_.2.2.2.1 x_.2.2.2.2.1) (fun x_ y_=>afE x_.1 x_.2.1 x_.2.2.1 x_.2.2.2.1 x_.2.2.2.2.1) al4 al5
theorem aj2(s:List Int)(p:cH)(d:List Int)(fl rm:Int)(h_:Ue s p d fl rm):(afC s p d fl rm).Is (afE s p d fl rm):=by
 delta afE;obtain⟨h1,h2,h3⟩:=h_;have e0:c8 p=p:=rfl;have e5:QL s p d fl rm=d.length:=rfl;have e1:((!true)==false)=true:=rfl;simp only[afC,ao,e1,bx,e0,e5];refine⟨trivial,trivial,?_⟩
 by_cases hsm:p.2.2.2.length≤16∧d.length≤700
 ·rw[decide_eq_true hsm];simp only[Bool.not_true,cf,ao];have p1:lq s p d:=⟨h1,h2,by omega,by omega,h3⟩;refine⟨p1,trivial,?_⟩
  by_cases hm:(au s p d).1=0
  ·have d2:((au s p d).1!=0)=false:=(by rw[hm];rfl);have M:Made s p d:=⟨hm,h1,h3,h2⟩;have hj:=qn (more:= []) (fl:=fl) (rm:=rm) M;rw[List.append_nil]at hj;obtain⟨b1,b2⟩:=yY M;have p2:bS (aC (aH s)) fl rm (au s p d).2:=⟨b1,by omega,Co _ (iP s)⟩;have e7:QM s p d fl rm= [cG (bO (aC (aH s)) fl rm (au s p d).2).oO.cC.ver (bO (aC (aH s)) fl rm (au s p d).2).oO.cC.gM (bO (aC (aH s)) fl rm (au s p d).2).oO.cC.len (bO (aC (aH s)) fl rm (au s p d).2).oO.cC.list (bO (aC (aH s)) fl rm (au s p d).2).oO.cC.plain,d].flatten:=rfl;simp only[d2,cf,ao,bl,aq];refine⟨h1,p2,fun c=>?_,fun c=>⟨fun c2=>?_,fun c2=>?_⟩⟩
   ·rw[if_pos c]at hj;rw[hj];exact⟨trivial,rfl⟩
   ·rw[if_neg c,if_pos c2]at hj;rw[hj];exact⟨trivial,rfl⟩
   ·rw[if_neg c,if_neg c2,if_neg (by simp)]at hj;have hms:=Cg p.2.1 p.2.2.1 d.length (yd p d).list (yd p d).plain;rw[hj]at e7;rw[e7,hj];simp only[AZ,bx,beq_self_eq_true,ao,aq,kC,yd,List.flatten_cons,List.flatten_nil,List.append_nil,decide_true];exact⟨trivial,h3,⟨by decide,by rw[List.length_append];have:=hms;simp only[yd]at this;omega⟩,trivial⟩
  ·have d2:((au s p d).1!=0)=true:=(by simpa using hm);simp only[d2,bx,aq]
 ·rw[decide_eq_false hsm];simp only[Bool.not_false,bx,aq]
theorem aj3:as4.Ok Tryz.prog 5:=
 bY mixed ((aj lr (aj sX (aj xr (aj ny (aj ry (aj nw (aj AW (aj om aE))))))))) func5 (by kernel_rfl) call5 (fun x_ y_=>afD x_.1 x_.2.1 x_.2.2.1 x_.2.2.2.1 x_.2.2.2.2.1) (fun x_ y_=>XH x_.1 x_.2.1 x_.2.2.1 x_.2.2.2.1 x_.2.2.2.2.1) (fun x_ y_ h=>aj2 x_.1 x_.2.1 x_.2.2.1 x_.2.2.2.1 x_.2.2.2.2.1 h)
def fV(p:Int×Int×Int×List Int):Int×Int×Int×List Int:=p
def qo(s:List Int)(p:Int×Int×Int×List Int)(d:List Int)(cut:Int)(more:List Int):Int:=(↑d.length:Int)
def QN(s:List Int)(p:Int×Int×Int×List Int)(d:List Int)(cut:Int)(more:List Int):Int:=(↑more.length:Int)
def rA(s:List Int)(p:Int×Int×Int×List Int)(d:List Int)(cut:Int)(more:List Int):Int:=(↑(au s (fV p)
 d).snd.length:Int)
def gF(s:List Int)(p:Int×Int×Int×List Int)(d:List Int)(cut:Int)(more:List Int):Vd:=bO (aC (aH s)) 0
 (qo s p d cut more) (List.take (cut.tmod (rA s p d cut more)-0).toNat (List.drop 0 (au s (fV p) d).snd))
abbrev Uf:Type:=Bool
abbrev al6(x:Uf):LV:=LV.one (VV.sc (SV.bool (SB.sym x)))
abbrev al7(x:Uf):List (Nat×Ev.Item):= []
def afF(s:List Int)(p:Int×Int×Int×List Int)(d:List Int)(cut:Int)(more:List Int):Tr (Uf):=(.need
 (jA) (.ite ((!true)==false) (.need (oq (fV p) d) (.ite ((!decide (p.snd.snd.snd.length≤16∧d.length≤700))==false) (.ite
 (decide (cut<0)==false) (.ite (decide (QN s p d cut more<1)==false) (.ite (decide (50<QN s p d cut more)) (.ret (true)) (.need
 (lq s (fV p) d) (.need (a7 (au s (fV p) d).fst) (.ite ((au s (fV p) d).fst !=0) (.ret (true)) (.need (bK s) (.need
 (¬rA s p d cut more=0) (.need ((0:Int)≤0∧0≤cut.tmod (rA s p d cut more)∧cut.tmod (rA s p d cut more)≤(↑(au s (fV p)
 d).snd.length:Int)) (.need (bS (aC (aH s)) 0 (qo s p d cut more) (List.take (cut.tmod (rA s p d cut more)-0).toNat (List.drop 0
 (au s (fV p) d).snd))) (.need ((au s (fV p) d).snd.length*1≤70368744177664∧(au s (fV p) d).snd.length≤70368744177664)
 (.need (((au s (fV p) d).snd.length+more.length)*1≤70368744177664∧(au s (fV p) d).snd.length+more.length≤70368744177664)
 (.need (bS (aC (aH s)) 0 (qo s p d cut more) ((au s (fV p) d).snd++more)) (.need (a7 (gF s p d cut more).err) (.ite
 (((gF s p d cut more).err==16)==true) (.need (a7 (bO (aC (aH s)) 0 (qo s p d cut more) ((au s (fV p) d).snd++
 more)).err) (.ite (((bO (aC (aH s)) 0 (qo s p d cut more) ((au s (fV p) d).snd++more)).err==6)==true) (.ite (((↑(gF s p d
 cut more).data.length:Int)==0)==true) (.ite (((↑(bO (aC (aH s)) 0 (qo s p d cut more) ((au s (fV p) d).snd++
 more)).data.length:Int)==0)==true) (.ite (((gF s p d cut more).oO.key==0&&((gF s p d cut more).oO.blocks==0&&true)&&
 ((gF s p d cut more).oO.cC.ver==0&&((gF s p d cut more).oO.cC.gM==0&&((gF s p d cut more).oO.cC.len==0&&(decide
 ((gF s p d cut more).oO.cC.list=List.replicate 64 (0:Int))&&(decide ((gF s p d cut more).oO.cC.plain=List.replicate 64 (0:Int))
 &&true))))&&(decide ((gF s p d cut more).oO.sign=List.replicate 64 (0:Int))&&true)))==true) (.ret (decide ((bO (aC (aH s)) 0
 (qo s p d cut more) ((au s (fV p) d).snd++more)).mea=List.replicate 64 (0:Int)))) (.ret (false))) (.ret (false))) (.ret (false)))
 (.ret (false)))) (.ret (false))))))))))))))) (.ret (true))) (.ret (true))) (.ret (true)))) (.ret (true))))
theorem XI(s:List Int)(p:cH)(d:List Int)(cut:Int)(more:List Int):aT Tryz.prog [(15,nx),(19,vP),(12,Qt),(21,rz),(17,Ch),(20,sW),(23,VH),(22,CQ)] [] f6 (((ae cB (ae (si vG) (ae (ah (e9 false false u8)) (ae (ah (ay .i64)) (ae (ah (e9 false false u8)) ag)))))).wr (s,p,d,cut,more,())) ((ag).wr (())) [.fr [.sym],.syms,.auto,.aN]=(afF s p d cut more).end al6 al7 ((ag).wr (())):=by kernel_rfl
theorem afG(s:List Int)(p:cH)(d:List Int)(cut:Int)(more:List Int):aO Tryz.prog ((ag).wr (())) [] (aG f6):=(aO.nil _)
abbrev Ug(s:List Int)(p:cH)(d:List Int)(cut:Int)(more:List Int):Prop:=s.length=32∧al d∧xt p∧al more
abbrev afH(s:List Int)(p:cH)(d:List Int)(cut:Int)(more:List Int):Uf:=true
def as5:ar:=dm [none,some (.int .i64),some u8] ((ae cB (ae (si vG) (ae (ah (e9 false false u8)) (ae (ah (ay .i64)) (ae (ah (e9 false false u8)) ag)))))) (ag) (fun x_ y_=>Ug x_.1 x_.2.1 x_.2.2.1 x_.2.2.2.1 x_.2.2.2.2.1) (fun x_ y_=>afH x_.1 x_.2.1 x_.2.2.1 x_.2.2.2.1 x_.2.2.2.2.1) al6 al7
theorem aj4(s:List Int)(p:cH)(d:List Int)(cut:Int)(more:List Int)(h_:Ug s p d cut more):(afF s p d cut more).Is (afH s p d cut more):=by
 delta afH;obtain⟨h1,h2,h3,h4⟩:=h_;have e0:fV p=p:=rfl;have e3:qo s p d cut more=d.length:=rfl;have e4:QN s p d cut more=more.length:=rfl;have e11:rA s p d cut more=(au s p d).2.length:=rfl;have e1:((!true)==false)=true:=rfl;have eb:∀b:Bool,(b==false)= !b:=fun b=>by cases b<;>rfl
 simp only[afF,ao,e1,bx,e0,e3,e4,e11,eb,fU,bl,aq,decide_eq_true_eq,decide_eq_false_iff_not,Bool.not_not];refine⟨trivial,trivial,fun hsm=>⟨fun _=>trivial,fun hc=>⟨fun _=>trivial,fun H0=>⟨fun _=>trivial,fun hm5=>?_⟩⟩⟩,fun _=>trivial⟩;have p1:lq s p d:=⟨h1,h2,by omega,by omega,h3⟩;refine⟨p1,trivial,?_⟩
 by_cases hm:(au s p d).1=0
 ·have d2:((au s p d).1!=0)=false:=by rw[hm];rfl
  have M:Made s p d:=⟨hm,h1,h3,h2⟩;obtain⟨b1,b2⟩:=yY M;have hl:=vK hm;have m1:cut.tmod ((au s p d).2.length:Int)=cut%((au s p d).2.length:Int):=Int.tmod_eq_emod_of_nonneg (by omega);have m3:=Int.emod_nonneg cut (show((au s p d).2.length:Int)≠0 by omega);have m4:=Int.emod_lt_of_pos cut (show 0<((au s p d).2.length:Int) by omega);have hj1:=ajP (rm:=d.length) (k:=(cut%((au s p d).2.length:Int)).toNat) M (Int.le_refl _) (by omega);have hj2:=qn (more:=more) (fl:=0) (rm:=d.length) M;rw[if_neg (by omega),if_neg (by have:=h3.1;omega),if_pos (by omega)]at hj2;have p2:bS (aC (aH s)) 0 d.length ((au s p d).2.take (cut%((au s p d).2.length:Int)).toNat):=⟨fun z hz=>b1 z (List.mem_of_mem_take hz),by rw[List.length_take];omega,Co _ (iP s)⟩;have p3:bS (aC (aH s)) 0 d.length ((au s p d).2++more):=⟨b1.append h4,by rw[List.length_append];omega,Co _ (iP s)⟩
  have e12:gF s p d cut more=vL 16:=by
   unfold gF;rw[e0,e3,e11,m1,Int.sub_zero,List.drop_zero];exact hj1
  simp only[d2,cf,ao,m1,Int.sub_zero,List.drop_zero,e12,hj2];refine⟨h1,by omega,⟨by omega,by omega,by omega⟩,p2,⟨by omega,by omega⟩,⟨by omega,by omega⟩,p3,trivial,?_⟩;simp[cO,ao,aq,vL,gd,mm0]
 ·have d2:((au s p d).1!=0)=true:=by simpa using hm
  simp only[d2,bx,aq]
theorem aj5:as5.Ok Tryz.prog 6:=
 bY mixed ((aj lr (aj sX (aj xr (aj ny (aj ry (aj nw (aj AW (aj om aE))))))))) func6 (by kernel_rfl) call6 (fun x_ y_=>afG x_.1 x_.2.1 x_.2.2.1 x_.2.2.2.1 x_.2.2.2.2.1) (fun x_ y_=>XI x_.1 x_.2.1 x_.2.2.1 x_.2.2.2.1 x_.2.2.2.2.1) (fun x_ y_ h=>aj4 x_.1 x_.2.1 x_.2.2.1 x_.2.2.2.1 x_.2.2.2.2.1 h)
def g8(s:List Int)(ver:Int)(fl:Int)(d:List Int)(rm:Int):Int:=(↑d.length:Int)
def jD(s:List Int)(ver:Int)(fl:Int)(d:List Int)(rm:Int):Int:=(bO (aC (aH s)) fl rm (au s (0,ver,0,
 [g8 s ver fl d rm]) d).snd).err
def rB(s:List Int)(ver:Int)(fl:Int)(d:List Int)(rm:Int):Bool:=((au s (0,ver,0,[g8 s ver fl d rm])
 d).fst==0)==true
def HM(s:List Int)(ver:Int)(fl:Int)(d:List Int)(rm:Int):Bool:=decide (rm<g8 s ver fl d rm)
abbrev HN:Type:=Bool
abbrev afI(x:HN):LV:=LV.one (VV.sc (SV.bool (SB.sym x)))
abbrev afJ(x:HN):List (Nat×Ev.Item):= []
def QO(s:List Int)(ver:Int)(fl:Int)(d:List Int)(rm:Int):Tr (HN):=(.need (jA) (.ite ((!true)==false)
 (.ite (decide (g8 s ver fl d rm<1)==false) (.ite (decide (300<g8 s ver fl d rm)) (.ret (true)) (.need (lq s (0,ver,0,[g8 s
 ver fl d rm]) d) (.need (bK s) (.need (bS (aC (aH s)) fl rm (au s (0,ver,0,[g8 s ver fl d rm]) d).snd) (.ite (decide (ver<
 fl)) (.ite (HM s ver fl d rm) (.need (a7 (au s (0,ver,0,[g8 s ver fl d rm]) d).fst) (.ite (rB s ver fl d rm) (.need
 (a7 (jD s ver fl d rm)) (.ret (jD s ver fl d rm==10))) (.ret (false)))) (.need (a7 (au s (0,ver,0,[g8 s ver fl d
 rm]) d).fst) (.ite (rB s ver fl d rm) (.need (a7 (jD s ver fl d rm)) (.ret (jD s ver fl d rm==9))) (.ret (false))))) (.ite
 (HM s ver fl d rm) (.need (a7 (au s (0,ver,0,[g8 s ver fl d rm]) d).fst) (.ite (rB s ver fl d rm) (.need (a7 (jD
 s ver fl d rm)) (.ret (jD s ver fl d rm==10))) (.ret (false)))) (.need (a7 (au s (0,ver,0,[g8 s ver fl d rm]) d).fst) (.ite
 (rB s ver fl d rm) (.need (a7 (jD s ver fl d rm)) (.ret (jD s ver fl d rm==0))) (.ret (false)))))))))) (.ret (true))) (.ret
 (true))))
theorem QP(s:List Int)(ver fl:Int)(d:List Int)(rm:Int):aT Tryz.prog [(15,nx),(19,vP),(12,Qt),(21,rz),(17,Ch),(20,sW),(23,VH),(22,CQ)] [] f8 (((ae cB (ae (ah (ay .u64)) (ae (ah (ay .u64)) (ae (ah (e9 false false u8)) (ae (ah (ay .i64)) ag)))))).wr (s,ver,fl,d,rm,())) ((ag).wr (())) [.fr [.sym],.syms,.auto,.aN]=(QO s ver fl d rm).end afI afJ ((ag).wr (())):=by kernel_rfl
theorem XJ(s:List Int)(ver fl:Int)(d:List Int)(rm:Int):aO Tryz.prog ((ag).wr (())) [] (aG f8):=(aO.nil _)
abbrev L6(s:List Int)(ver fl:Int)(d:List Int)(rm:Int):Prop:=s.length=32∧al d∧0≤ver∧ver<18446744073709551616
abbrev QQ(s:List Int)(ver fl:Int)(d:List Int)(rm:Int):HN:=true
def ao5:ar:=dm [] ((ae cB (ae (ah (ay .u64)) (ae (ah (ay .u64)) (ae (ah (e9 false false u8)) (ae (ah (ay .i64)) ag)))))) (ag) (fun x_ y_=>L6 x_.1 x_.2.1 x_.2.2.1 x_.2.2.2.1 x_.2.2.2.2.1) (fun x_ y_=>QQ x_.1 x_.2.1 x_.2.2.1 x_.2.2.2.1 x_.2.2.2.2.1) afI afJ
theorem afK(s:List Int)(ver fl:Int)(d:List Int)(rm:Int)(h_:L6 s ver fl d rm):(QO s ver fl d rm).Is (QQ s ver fl d rm):=by
 delta QQ;obtain⟨h1,h2,h3,h4⟩:=h_;have e1:((!true)==false)=true:=rfl;have e0:g8 s ver fl d rm=d.length:=rfl;have eb:∀b:Bool,(b==false)= !b:=fun b=>by cases b<;>rfl
 simp only[QO,ao,e1,bx,e0,eb,fU,bl,aq,decide_eq_true_eq,decide_eq_false_iff_not];refine⟨trivial,fun _=>trivial,fun c1=>⟨fun _=>trivial,fun c2=>?_⟩⟩
 have OB:oM (0,ver,0,[(d.length:Int)]) d.length=true:=by
  simp[oM,oh,dT];omega
 have hm:(au s (0,ver,0,[(d.length:Int)]) d).1=0:=Cb OB h2 (by omega);have M:Made s (0,ver,0,[(d.length:Int)]) d:=⟨hm,h1,⟨h3,h4,(by decide:(0:Int)≤0),(by decide:(0:Int)<18446744073709551616)⟩,h2⟩;obtain⟨b1,b2⟩:=yY M;have hj:=qn (more:= []) (fl:=fl) (rm:=rm) M;rw[List.append_nil]at hj;have p1:lq s (0,ver,0,[(d.length:Int)]) d:=⟨h1,h2,by omega,(by decide:(1:Nat)<1099511627776),h3,h4,(by decide:(0:Int)≤0),(by decide:(0:Int)<18446744073709551616)⟩;have p2:bS (aC (aH s)) fl rm (au s (0,ver,0,[(d.length:Int)]) d).2:=⟨b1,by omega,Co _ (iP s)⟩;have e3:rB s ver fl d rm=true:=by unfold rB;rw[e0,hm];rfl
 have e2:jD s ver fl d rm=(bO (aC (aH s)) fl rm (au s (0,ver,0,[(d.length:Int)]) d).2).err:=by unfold jD;rw[e0]
 have e4:HM s ver fl d rm=decide (rm<(d.length:Int)):=rfl;rw[e3,e2,e4,hj];simp only[bx,ao,bl,aq];refine⟨p1,h1,p2,fun c3=>⟨fun c4=>?_,fun c4=>?_⟩,fun c3=>⟨fun c4=>?_,fun c4=>?_⟩⟩
 ·rw[if_pos c4];exact⟨trivial,trivial,rfl⟩
 ·rw[if_neg c4,if_pos c3];exact⟨trivial,trivial,rfl⟩
 ·rw[if_pos c4];exact⟨trivial,trivial,rfl⟩
 ·rw[if_neg c4,if_neg c3,if_neg (by simp)];exact⟨trivial,trivial,rfl⟩
theorem afL:ao5.Ok Tryz.prog 8:=
 bY mixed ((aj lr (aj sX (aj xr (aj ny (aj ry (aj nw (aj AW (aj om aE))))))))) func8 (by kernel_rfl) call8 (fun x_ y_=>XJ x_.1 x_.2.1 x_.2.2.1 x_.2.2.2.1 x_.2.2.2.2.1) (fun x_ y_=>QP x_.1 x_.2.1 x_.2.2.1 x_.2.2.2.1 x_.2.2.2.2.1) (fun x_ y_ h=>afK x_.1 x_.2.1 x_.2.2.1 x_.2.2.2.1 x_.2.2.2.2.1 h)
end Go.Proofs.YtnbkagglkajbkaaGreat
end
noncomputable section
namespace Go.Proofs.YtnbkagglkajbkaaGreat
open Go Go.Ev BJ Go.Proofs.Tryz
open Go.IntKind (i64 signed u16 u64 wrap)
set_option maxRecDepth 1000000
def vQ(p:Int×Int×Int×List Int):Int×Int×Int×List Int:=p
abbrev zd:Type:=List Int
abbrev Uh(x:zd):LV:=LV.one (VV.sc (SV.rd true false (Ty.int IntKind.u8) x))
abbrev Ui(x:zd):List (Nat×Ev.Item):= []
def HO(s:List Int)(p:Int×Int×Int×List Int)(d:List Int):Tr (zd):=(.need (lq s (vQ p) d) (.need ((0
 :Int)≤224∧(224:Int)≤352∧352≤(↑(au s (vQ p) d).snd.length:Int)) (.ret (List.take 128 (List.drop 224 (au s (vQ p)
 d).snd)))))
theorem L7(s:List Int)(p:cH)(d:List Int):aT Tryz.prog [(12,Qt)] [] f24 ((TH).wr (s,p,d,())) ((ag).wr (())) [.MP,.fr [.rd true u8],.fr [.sym],.syms,.auto,.aN]=(HO s p d).end Uh Ui ((ag).wr (())):=by kernel_rfl
theorem QR(s:List Int)(p:cH)(d:List Int):aO Tryz.prog ((ag).wr (())) [] (aG f24):=(aO.nil _)
abbrev iw(s:List Int)(p:cH)(d:List Int):Prop:=s.length=32∧al d∧d.length<1099511627776∧p.2.2.2.length<1099511627776∧xt p∧352≤(au s p d).2.length
abbrev HQ(s:List Int)(p:cH)(d:List Int):zd:=((au s p d).2.drop 224).take 128
def HR:ar:=dm [none,some (.int .i64),some u8] (TH) (ag) (fun x_ y_=>iw x_.1 x_.2.1 x_.2.2.1) (fun x_ y_=>HQ x_.1 x_.2.1 x_.2.2.1) Uh Ui
theorem XK(s:List Int)(p:cH)(d:List Int)(h_:iw s p d):(HO s p d).Is (HQ s p d):=by
 delta HQ;obtain⟨h1,h2,h3,h4,h5,h6⟩:=h_;have e0:vQ p=p:=rfl;simp only[HO,ao,aq,e0];exact⟨⟨h1,h2,h3,h4,h5⟩,⟨by omega,by omega,by omega⟩,trivial⟩
theorem Eh:HR.Ok Tryz.prog 24:=
 bY mixed ((aj xr aE)) func24 (by kernel_rfl) call24 (fun x_ y_=>QR x_.1 x_.2.1 x_.2.2.1) (fun x_ y_=>L7 x_.1 x_.2.1 x_.2.2.1) (fun x_ y_ h=>XK x_.1 x_.2.1 x_.2.2.1 h)
def gu:Nat→Nat→List Int→List Int
 |0,_,b=>b
 |n+1,i,b=>gu n (i+1) (b.set (288+i) (b.getD (224+i) 0))
theorem Uj:∀ (n i:Nat) (b:List Int),al b→(gu n i b).length=b.length∧al (gu n i b)∧(gu n i b).take 224=b.take 224
 |0,_,b,h=>⟨rfl,h,rfl⟩
 |n+1,i,b,h=>by
  obtain⟨h1,h2,h3⟩:=Uj n (i+1) (b.set (288+i) (b.getD (224+i) 0)) (h.set _ (al.getD h _));rw[gu];refine⟨by rw[h1,List.length_set],h2,by rw[h3,List.take_set_of_le (by omega)]⟩
theorem aj6{b:List Int}(h:al b)(hl:b.length=32)(ht:b.getD 31 0=255):sP b=false:=by
 unfold sP;rw[decide_eq_false_iff_not];intro eV;have h1:=Tj (B:=256) (by decide) (l:=b) h (k:=31) (by omega);rw[ht]at h1;have h0:=eS (B:=256) (by decide) (l:=b) h;have h2:vd 256 b/256 ^ 31≤ll/256 ^ 31:=Int.ediv_le_ediv (by decide) (Int.le_of_lt eV);have h3:ll/256 ^ 31=16:=by decide
 have h4:0≤vd 256 b/256 ^ 31:=Int.ediv_nonneg h0 (by decide);generalize vd 256 b/256 ^ 31=z at*;omega
theorem aj7{p c m g:List Int}(h:al g)(hl:g.length=64)(ht:g.getD 63 0=255):ky p c m g=false:=by
 have hc:sP (g.drop 32)=false:=aj6 (h.drop 32) (by rw[List.length_drop];omega) (by
  rw[List.getD_eq_getElem?_getD,List.getElem?_drop,← List.getD_eq_getElem?_getD];exact ht)
 rw[Hf,hc,Bool.false_and,Bool.and_false,Bool.and_false]
theorem aj8{s:List Int}{p:cH}{d b:List Int}{fl rm:Int}(M:Made s p d)(h1:224≤b.length)(h2:al b)(h3:b.take 8=(gE s p d).take 8)(h4:b.getD 223 0=255):bO (aC (aH s)) fl rm b=vL 8:=by
 obtain⟨k1,k2,k3⟩:=g7 M.code;obtain⟨m1,m2,m3,m4,m5,m6,m7⟩:=kB k1;obtain⟨l1,l2⟩:=head_take (s:=s) k1
 have hc:Qn (aC (aH s)) (b.take 224)=(gd,8):=by
  rw[← LJ];unfold cS;have t8:(b.take 224).take 8=(gE s p d).take 8:=by rw[List.take_take,show min 8 224=8 from rfl,h3]
  have hv:∀k m,ky k kA m ((b.take 224).drop 160)=false:=fun k m=>aj7 ((h2.take 224).drop 160) (by rw[List.length_drop,List.length_take];omega) (by
   rw[List.getD_eq_getElem?_getD,List.getElem?_drop,List.getElem?_take,if_pos (by decide),← List.getD_eq_getElem?_getD];exact h4)
  rw[t8,l2,if_pos ⟨by rw[List.length_take];omega,rfl⟩,if_neg (by simp only[aC,List.length_replicate];omega),hv,if_neg (by decide)]
 apply sV (by decide)
 have hf:(aS (aC (aH s)) fl rm b).1=8:=by
  unfold aS;rw[if_neg (by omega),h3,l2,if_neg (by simp),if_neg (by simp only[aC,List.length_replicate];omega),if_neg (by omega),hc,if_pos (by decide)]
 unfold dD;rw[hf,if_pos (by decide)]
theorem Ei{s:List Int}{p:cH}{d b:List Int}{fl rm:Int}(M:Made s p d)(h1:224≤b.length)(h3:b.take 224=gE s p d)(hr:(d.length:Int)≤rm)(hf:fl≤p.2.1):aS (aC (aH s)) fl rm b=(0,b.drop 224,kC s p d):=by
 have h:=sU (s:=s) (d:=d) (more:=b.drop 224) (fl:=fl) (rm:=rm) (g7 M.code).1 M.hs M.hp;rw[if_neg (by omega),if_neg (by omega),← h3,List.take_append_drop]at h;exact h
theorem afM{s:List Int}{p:cH}{d b:List Int}{fl rm:Int}(M:Made s p d)(h1:224+64*p.2.2.2.length≤b.length)(h3:b.take 224=gE s p d)(hr:(d.length:Int)≤rm)(hf:fl≤p.2.1)
  (h:aJ ((b.drop 224).take (64*p.2.2.2.length))≠(yd p d).list):bO (aC (aH s)) fl rm b=vL 7:=by
 apply sV (by decide)
 have hl:(b.drop 224).length=b.length-224:=List.length_drop
 have hs:(cK (b.drop 224) (kC s p d)).1=7:=by
  unfold cK;rw[show(kC s p d).blocks=(p.2.2.2.length:Int)from rfl,if_neg (by omega),show(64*(p.2.2.2.length:Int)).toNat=64*p.2.2.2.length by omega,if_pos (show aJ _≠(kC s p d).cC.list from h)]
 unfold dD;rw[Ei M (by omega) h3 hr hf,if_neg (by simp)];simp only;rw[hs,if_pos (by decide)]
theorem XM{s:List Int}{p:cH}{d b:List Int}{fl rm:Int}(M:Made s p d)(h1:228+64*p.2.2.2.length≤b.length)(h3:b.take 224=gE s p d)(hr:(d.length:Int)≤rm)(hf:fl≤p.2.1)
  (h:(b.drop 224).take (64*p.2.2.2.length)=((fO p.2.2.2 d).map aJ).flatten) (hz:eQ (b.drop (224+64*p.2.2.2.length))=false):bO (aC (aH s)) fl rm b=vL 6:=by
 obtain⟨m1,m2,m3,m4,m5,m6,m7⟩:=kB (g7 M.code).1
 apply sV (by decide)
 have hl:(b.drop 224).length=b.length-224:=List.length_drop
 have hs:cK (b.drop 224) (kC s p d)=(0,b.drop (224+64*p.2.2.2.length),((fO p.2.2.2 d).map aJ).flatten):=by
  unfold cK;rw[show(kC s p d).blocks=(p.2.2.2.length:Int)from rfl,if_neg (by omega),show(64*(p.2.2.2.length:Int)).toNat=64*p.2.2.2.length by omega,h,if_neg (by show ¬aJ _≠aJ _;simp),List.drop_drop]
 have ho:∀left sum,(jz (b.drop (224+64*p.2.2.2.length)) left sum).1=6:=fun left sum=>by
  unfold jz;rw[if_neg (by rw[List.length_drop];omega),if_pos hz]
 unfold dD;rw[Ei M (by omega) h3 hr hf,if_neg (by simp)];simp only;rw[hs,if_neg (by simp)];simp only;obtain⟨n,hn⟩:∃n,p.2.2.2.length=n+1:=⟨p.2.2.2.length-1,by omega⟩;rw[show(kC s p d).blocks.toNat=n+1 by rw[show(kC s p d).blocks=(p.2.2.2.length:Int)from rfl];omega,lp,ho,if_pos (show(6:Int)≠0 by decide)];rfl
abbrev dH(d:List Int):cH:=(0,3,2,[1,(d.length:Int)-1])
theorem as6{s d:List Int}(h1:s.length=32)(h2:al d)(h3:2≤d.length)(h4:d.length≤300):Made s (dH d) d∧360≤(au s (dH d) d).2.length:=by
 have OB:oM (dH d) d.length=true:=by simp[oM,oh,dT];omega
 have hm:(au s (dH d) d).1=0:=Cb OB h2 (by omega);refine⟨⟨hm,h1,⟨show(0:Int)≤3 by decide,show(3:Int)<18446744073709551616 by decide,show(0:Int)≤2 by decide,show(2:Int)<18446744073709551616 by decide⟩,h2⟩,?_⟩;rw[vK hm];obtain⟨k1,k2,k3⟩:=g7 hm;have hk:=yX (x:=1) (l:= [(d.length:Int)-1]) (rest:=d) k2;obtain⟨f1,f2,f3⟩:=jZ (fun z hz=>h2 z (List.mem_of_mem_take hz)) hk.1;have hk2:=yX (x:=(d.length:Int)-1) (l:= []) (rest:=d.drop (1:Int).toNat) hk.2;obtain⟨g1,g2,g3⟩:=jZ (fun z hz=>h2 z (List.mem_of_mem_drop (List.mem_of_mem_take hz))) hk2.1;show 360≤224+64*2+((aK (d.take (1:Int).toNat)).2++((aK ((d.drop (1:Int).toNat).take ((d.length:Int)-1).toNat)).2++ [])).length;rw[f3,g3];simp only[List.length_append,List.length_cons,List.length_nil];omega
structure kD (s d b:List Int):Prop where
 len:360≤b.length
 mx:b.length≤70000
 rD:al b
 tk:b.take 352=(au s (dH d) d).2.take 352
theorem kD.t224{s d b:List Int}(M:Made s (dH d) d)(h:kD s d b):b.take 224=gE s (dH d) d:=by
 have e:=congrArg (List.take 224) h.tk;rw[List.take_take,List.take_take,show min 224 352=224 from rfl]at e;rw[e,(g7 M.code).2.2];exact List.take_left' (head_take (s:=s) (g7 M.code).1).1
theorem kD.as7{s d b:List Int}(M:Made s (dH d) d)(h:kD s d b):(b.drop 224).take 128=((fO (dH d).2.2.2 d).map aJ).flatten:=by
 have e:=congrArg (List.drop 224) h.tk;rw[List.drop_take,List.drop_take,show 352-224=128 from rfl]at e;rw[e,(g7 M.code).2.2];show List.take 128 (List.drop 224 (gE s (dH d) d++_))=_;rw[List.drop_left' (head_take (s:=s) (g7 M.code).1).1];exact List.take_left' (by rw[qk,vJ];rfl)
theorem kD.set{s d b:List Int}(h:kD s d b){k:Nat}(hk:352≤k){z:Int}(hz:By z):kD s d (b.set k z):=
 ⟨by rw[List.length_set];exact h.len,by rw[List.length_set];exact h.mx,h.rD.set k hz,by rw[List.take_set_of_le hk];exact h.tk⟩
theorem kD.oO{s d b:List Int}(M:Made s (dH d) d)(h1:360≤b.length)(h2:al b)(h3:b.take 224=gE s (dH d) d):bO (aC (aH s)) 0 1000 (b.set 223 255)=vL 8:=by
 refine aj8 M (by rw[List.length_set];omega) (h2.set 223 ⟨by decide,by decide⟩) ?_ ?_
 ·rw[List.take_set_of_le (by decide)];have e:=congrArg (List.take 8) h3;rw[List.take_take,show min 8 224=8 from rfl]at e;exact e
 ·rw[List.getD_eq_getElem?_getD,List.getElem?_set_self (by omega)];rfl
theorem kD.list{s d b:List Int}(M:Made s (dH d) d)(hd:d.length≤300)(h1:360≤b.length)(h3:b.take 224=gE s (dH d) d)(h:aJ ((b.drop 224).take 128)≠aJ (((fO (dH d).2.2.2 d).map aJ).flatten)):bO (aC (aH s)) 0 1000 b=vL 7:=
 afM M (by show 224+64*2≤_;omega) h3 (by omega) (show(0:Int)≤3 by decide) h
theorem kD.frame{s d b:List Int}(M:Made s (dH d) d)(hd:d.length≤300)(h:kD s d b):bO (aC (aH s)) 0 1000 ((b.set 352 0).set 353 0)=vL 6:=by
 have h':=(h.set (k:=352) (by decide) (z:=0) ⟨by decide,by decide⟩).set (k:=353) (by decide) (z:=0) ⟨by decide,by decide⟩;have hl:=h.len;refine XM M (by have:=h'.len;show 228+64*2≤_;omega) (h'.t224 M) (by omega) (show(0:Int)≤3 by decide) (h'.as7 M) ?_
 have e:∀i:Nat,i<2→(((b.set 352 0).set 353 0).drop 352).getD i 0=0:=fun i hi=>by
  rw[List.getD_eq_getElem?_getD,List.getElem?_drop];rcases(by omega:i=0∨i=1)with rfl|rfl
  ·rw[List.getElem?_set_ne (by decide),List.getElem?_set_self (by omega)];rfl
  ·rw[List.getElem?_set_self (by rw[List.length_set];omega)];rfl
 have t0:two (((b.set 352 0).set 353 0).drop 352) 0=0:=by unfold two;rw[e 0 (by decide),e 1 (by decide)];decide
 show eQ (((b.set 352 0).set 353 0).drop 352)=false;unfold eQ;rw[t0];exact decide_eq_false (by omega)
abbrev Cp:Type:=(List Int)×Bool×Int×(List Int)×Int×Int×Int×(List Int)×(List Int)
abbrev Cq:aW St Cp:=(bD (jk 1 (ae (ah (e9 false false (Ty.int IntKind.u8))) (ae (ah (ja)) (jk 3 (ak (ah
 (aP (0) (0))) (jk 7 (ak (ah (aP (1) (0))) (ak (ah (tJ (3) (0))) (jk 2 (ae (ah (ay i64)) (jk 83 ag))))))))))) (ae
 (iF (22) ((ae (se (Ty.int IntKind.u8) (32)) ag))) (ae (iF (26) ((ae (ay i64) (ae (ay u64) (ae (ay
 u64) (ak (tJ (2) (0)) ag)))))) (ae (eG (0) (Ty.int i64)) (ae (eG (0) (Ty.int IntKind.u8)) ag))))).nH (fun y=>
 (y.1.1,y.1.2.1,y.1.2.2.1,y.2.1.1,y.2.2.1.1,y.2.2.1.2.1,y.2.2.1.2.2.1,y.2.2.2.1,y.2.2.2.2.1)) (fun x=>((x.1,(x.2.1,(x.2.2.1,()))),
 ((x.2.2.2.1,()),((x.2.2.2.2.1,(x.2.2.2.2.2.1,(x.2.2.2.2.2.2.1,()))),(x.2.2.2.2.2.2.2.1,(x.2.2.2.2.2.2.2.2,())))))) (fun _=>rfl)
abbrev QS:List Wk:= [.fr (dK 102 [(1,.an),(2,.an),(6,.an),(14,.an),(15,.an),(18,.an)]),.syms,.auto,.aN]
abbrev afN:Exit→List Wk:=Di QS 0 [.fr (dK 102 [(1,.an),(2,.an),(6,.an),(14,.an),(15,.an)]),.syms,.auto,.aN] [.fr
 (dK 102 [(12,.an)]),.syms,.auto,.aN]
abbrev QT:Type:=(List Int)×Bool×(List Int)×Int×Int×Int×(List Int)×(List Int)
abbrev afO(x:QT):Exit×St:=(Exit.exit 0,⟨(jK 1 (LV.one (VV.sc (SV.rd false false (Ty.int IntKind.u8) x.1))::(LV.one
 (VV.sc (SV.bool (SB.sym x.2.1)))::(jK 3 (LV.one (VV.sc (SV.ptr 0 0))::(jK 7 (LV.one (VV.sc (SV.ptr 1 0))::(LV.one (VV.sc (SV.sl 3 0))::(jK
 86 []))))))))),[some (Item.bm [SV.arr (Ty.int IntKind.u8) 32 x.2.2.1] 22),some (Item.bm [SV.int i64 (SI.sym x.2.2.2.1),SV.int u64
 (SI.sym x.2.2.2.2.1),SV.int u64 (SI.sym x.2.2.2.2.2.1),SV.sl 2 0] 26),some (Item.own 0 (Ty.int i64) x.2.2.2.2.2.2.1),some (Item.own
 0 (Ty.int IntKind.u8) x.2.2.2.2.2.2.2)]⟩)
def HS(d:List Int)(lb:Bool)(i:Int)(s:List Int)(key:Int)(ver:Int)(gM:Int)(sz:List Int)(b:List Int):Tr
 (Cp⊕(QT)):=(.ite (decide (i<64)) (.need (0≤i64.wrap (224+i)∧i64.wrap (224+i)<(↑b.length:Int)) (.need (0≤
 i64.wrap (288+i)∧i64.wrap (288+i)<(↑b.length:Int)) (.ret (.inl (d,lb,i64.wrap (i+1),s,key,ver,gM,sz,b.set
 (i64.wrap (288+i)).toNat (b.getD (i64.wrap (224+i)).toNat 0)))))) (.ret (.inr (d,lb,s,key,ver,gM,sz,b))))
theorem QU(s':List Int)(d':List Int)(label list frame more:Bool)(d:List Int)(lb:Bool)(i:Int)(s:List Int)(key:Int)(ver:Int)(gM:Int)(sz:List Int)(b:List Int):ee Tryz.prog [(15,nx),(12,Qt),(21,rz),(17,Ch),(20,sW),(22,CQ),(24,HR)] [] f7 0 ((ag).wr (())) afN (Cq.wr (d,lb,i,s,key,ver,gM,sz,b))=(HS d lb i s key ver gM sz b).res Cq.wr afO:=by kernel_rfl
abbrev lu(d:List Int)(lb:Bool)(i:Int)(s:List Int)(key:Int)(ver:Int)(gM:Int)(sz:List Int)(b:List Int):Prop:=0≤i∧i≤64∧352≤b.length∧b.length<1099511627776
abbrev QV(d:List Int)(lb:Bool)(i:Int)(s:List Int)(key:Int)(ver:Int)(gM:Int)(sz:List Int)(b:List Int):QT:=(d,lb,s,key,ver,gM,sz,gu (64-i).toNat i.toNat b)
abbrev QW:Cp→aZ:=hY (fun x_=>lu x_.1 x_.2.1 x_.2.2.1 x_.2.2.2.1 x_.2.2.2.2.1 x_.2.2.2.2.2.1 x_.2.2.2.2.2.2.1 x_.2.2.2.2.2.2.2.1 x_.2.2.2.2.2.2.2.2) (fun x_=>QV x_.1 x_.2.1 x_.2.2.1 x_.2.2.2.1 x_.2.2.2.2.1 x_.2.2.2.2.2.1 x_.2.2.2.2.2.2.1 x_.2.2.2.2.2.2.2.1 x_.2.2.2.2.2.2.2.2) afO
theorem afP(d:List Int)(lb:Bool)(i:Int)(s:List Int)(key:Int)(ver:Int)(gM:Int)(sz:List Int)(b:List Int)(h_:lu d lb i s key ver gM sz b):dO (fun x_:Cp=>HS x_.1 x_.2.1 x_.2.2.1 x_.2.2.2.1 x_.2.2.2.2.1 x_.2.2.2.2.2.1 x_.2.2.2.2.2.2.1 x_.2.2.2.2.2.2.2.1 x_.2.2.2.2.2.2.2.2) (d,lb,i,s,key,ver,gM,sz,b) (QV d lb i s key ver gM sz b):=by
 delta QV;obtain⟨h1,h2,h3,h4⟩:=h_;obtain⟨k,rfl⟩:∃m:Nat,i=m:=⟨i.toNat,by omega⟩;obtain⟨n,hn⟩:∃m:Nat,64-(k:Int)=m:=⟨(64-(k:Int)).toNat,by omega⟩;rw[hn,Int.toNat_natCast,Int.toNat_natCast]
 induction n generalizing k b with
 |zero=>
  refine .stop ?_;have e1:decide ((k:Int)<64)=false:=decide_eq_false (by omega);simp only[HS,e1,cf,aq,gu]
 |succ n ih=>
  have e1:decide ((k:Int)<64)=true:=decide_eq_true (by omega);have w1:i64.wrap (224+(k:Int))=224+k:=ax (by omega) (by omega);have w2:i64.wrap (288+(k:Int))=288+k:=ax (by omega) (by omega);refine .go (y:=(d,lb,((k+1:Nat):Int),s,key,ver,gM,sz,b.set (288+k) (b.getD (224+k) 0))) ?_ ?_
  ·simp only[HS,e1,bx,ao,aq,w1,w2];rw[ax (by omega) (by omega),show(288+(k:Int)).toNat=288+k by omega,show(224+(k:Int)).toNat=224+k by omega];exact⟨by omega,by omega,rfl⟩
  ·apply ih<;>first|omega|(rw[List.length_set];omega)
theorem XN(s':List Int)(d':List Int)(label list frame more:Bool):∀x:Cp,Ex Tryz.prog ((ag).wr (())) (.loop (aV f7 0)) (Cq.wr x) (QW x):=
 du mixed ((aj lr (aj xr (aj ny (aj ry (aj nw (aj om (aj Eh aE)))))))) (ws:=afN) (aO.nil _) (fun x_=>QU s' d' label list frame more x_.1 x_.2.1 x_.2.2.1 x_.2.2.2.1 x_.2.2.2.2.1 x_.2.2.2.2.2.1 x_.2.2.2.2.2.2.1 x_.2.2.2.2.2.2.2.1 x_.2.2.2.2.2.2.2.2) (fun z e=>by cases e) iH (fun x_ h=>afP x_.1 x_.2.1 x_.2.2.1 x_.2.2.2.1 x_.2.2.2.2.1 x_.2.2.2.2.2.1 x_.2.2.2.2.2.2.1 x_.2.2.2.2.2.2.2.1 x_.2.2.2.2.2.2.2.2 h)
def qp(s:List Int)(d:List Int)(label:Bool)(list:Bool)(frame:Bool)(more:Bool):Int:=(↑d.length:Int)
def bo(s:List Int)(d:List Int)(label:Bool)(list:Bool)(frame:Bool)(more:Bool):Int×Int×Int×List Int:=(0,3,
 2,[1,i64.wrap (qp s d label list frame more-1)])
def QX(s:List Int)(d:List Int)(label:Bool)(list:Bool)(frame:Bool)(more:Bool):List Int:= [List.take 128
 (List.drop 224 (gu 64 0 (au s (bo s d label list frame more) d).snd))].flatten
def ly(s:List Int)(d:List Int)(label:Bool)(list:Bool)(frame:Bool)(more:Bool):List Int:=gu 64 0 (((au s
 (bo s d label list frame more) d).snd.set 352 0).set 353 0)
def QY(s:List Int)(d:List Int)(label:Bool)(list:Bool)(frame:Bool)(more:Bool):Int:=(bO (aC (aH s)) 0 1000
 ((gu 64 0 (au s (bo s d label list frame more) d).snd).set 223 255)).err
def QZ(s:List Int)(d:List Int)(label:Bool)(list:Bool)(frame:Bool)(more:Bool):Int:=(↑((au s (bo s d label
 list frame more) d).snd++ [0]).length:Int)
def HT(s:List Int)(d:List Int)(label:Bool)(list:Bool)(frame:Bool)(more:Bool):List Int:=(((au s (bo s d
 label list frame more) d).snd.set 352 0).set 353 0).set 223 255
def HU(s:List Int)(d:List Int)(label:Bool)(list:Bool)(frame:Bool)(more:Bool):Int:=(bO (aC (aH s)) 0
 1000 (((au s (bo s d label list frame more) d).snd.set 352 0).set 353 0)).err
def iR(s:List Int)(d:List Int)(label:Bool)(list:Bool)(frame:Bool)(more:Bool):List Int:=gu 64 0 ((au s
 (bo s d label list frame more) d).snd++ [0])
def ze(s:List Int)(d:List Int)(label:Bool)(list:Bool)(frame:Bool)(more:Bool):List Int:=((au s (bo s d
 label list frame more) d).snd++ [0]).set 223 255
def dS(s:List Int)(d:List Int)(label:Bool)(list:Bool)(frame:Bool)(more:Bool):List Int:=((au s (bo s d
 label list frame more) d).snd++ [0]).set 352 0
def HV(s:List Int)(d:List Int)(label:Bool)(list:Bool)(frame:Bool)(more:Bool):Int:=(bO (aC (aH s)) 0
 1000 ((au s (bo s d label list frame more) d).snd++ [0])).err
def HW(s:List Int)(d:List Int)(label:Bool)(list:Bool)(frame:Bool)(more:Bool):List Int:= [List.take 128
 (List.drop 224 (gu 64 0 ((dS s d label list frame more).set 353 0)))].flatten
def HX(s:List Int)(d:List Int)(label:Bool)(list:Bool)(frame:Bool)(more:Bool):Int:=(bO (aC (aH s)) 0
 1000 ((gu 64 0 ((dS s d label list frame more).set 353 0)).set 223 255)).err
abbrev Uk:Type:=Bool
abbrev al8(x:Uk):LV:=LV.one (VV.sc (SV.bool (SB.sym x)))
abbrev al9(x:Uk):List (Nat×Ev.Item):= []
def afQ(s:List Int)(d:List Int)(label:Bool)(list:Bool)(frame:Bool)(more:Bool):Tr (Uk):=(.need (jA)
 (.ite ((!true)==false) (.ite (decide (qp s d label list frame more<2)==false) (.ite (decide (300<qp s d label list frame more)) (.ret
 (true)) (.need (lq s (bo s d label list frame more) d) (.need (a7 (au s (bo s d label list frame more) d).fst) (.ite (((au s
 (bo s d label list frame more) d).fst !=0)==false) (.ite (decide ((↑(au s (bo s d label list frame more) d).snd.length:Int)<360))
 (.ret (false)) (.need ((au s (bo s d label list frame more) d).snd.length*1≤70368744177664∧(au s (bo s d label list frame more)
 d).snd.length≤70368744177664) (.ite (more) (.need (((au s (bo s d label list frame more) d).snd.length+1)*1≤70368744177664∧(au s
 (bo s d label list frame more) d).snd.length+1≤70368744177664) (.ite (frame) (.need ((0:Int)≤352∧352<QZ s d label list frame more)
 (.need ((0:Int)≤353∧353<(↑(dS s d label list frame more).length:Int)) (.ite (list) (.need (lu d label 0 s 0 3 2 [1,
 i64.wrap (qp s d label list frame more-1)] ((dS s d label list frame more).set 353 0)) (.need ((0:Int)≤224∧(224:Int)≤352∧
 352≤(↑(gu 64 0 ((dS s d label list frame more).set 353 0)).length:Int)) (.need (1<2305843009213693952∧(HW s d label list frame
 more).length<1152921504606846976) (.need (iw s (bo s d label list frame more) d) (.need (1<2305843009213693952∧ [List.take 128
 (List.drop 224 (au s (bo s d label list frame more) d).snd)].flatten.length<1152921504606846976) (.ite (decide (aJ (HW s d label list
 frame more)=aJ [List.take 128 (List.drop 224 (au s (bo s d label list frame more) d).snd)].flatten)) (.ret (true)) (.ite (label) (.need ((0
 :Int)≤223∧223<(↑(gu 64 0 ((dS s d label list frame more).set 353 0)).length:Int)) (.need (bK s) (.need (bS (aC (aH s))
 0 1000 ((gu 64 0 ((dS s d label list frame more).set 353 0)).set 223 255)) (.need (a7 (HX s d label list frame more)) (.ret (HX
 s d label list frame more==8)))))) (.need (bK s) (.need (bS (aC (aH s)) 0 1000 (gu 64 0 ((dS s d label list frame more).set
 353 0))) (.need (a7 (bO (aC (aH s)) 0 1000 (gu 64 0 ((dS s d label list frame more).set 353 0))).err) (.ret ((bO (aC (aH s))
 0 1000 (gu 64 0 ((dS s d label list frame more).set 353 0))).err==7)))))))))))) (.ite (label) (.need ((0:Int)≤223∧223<(↑((dS s d
 label list frame more).set 353 0).length:Int)) (.need (bK s) (.need (bS (aC (aH s)) 0 1000 (((dS s d label list frame more).set
 353 0).set 223 255)) (.need (a7 (bO (aC (aH s)) 0 1000 (((dS s d label list frame more).set 353 0).set 223 255)).err) (.ret ((bO
 (aC (aH s)) 0 1000 (((dS s d label list frame more).set 353 0).set 223 255)).err==8)))))) (.need (bK s) (.need (bS (aC (aH
 s)) 0 1000 ((dS s d label list frame more).set 353 0)) (.need (a7 (bO (aC (aH s)) 0 1000 ((dS s d label list frame more).set 353
 0)).err) (.ret ((bO (aC (aH s)) 0 1000 ((dS s d label list frame more).set 353 0)).err==6))))))))) (.ite (list) (.need (lu d label
 0 s 0 3 2 [1,i64.wrap (qp s d label list frame more-1)] ((au s (bo s d label list frame more) d).snd++ [0])) (.need ((0:Int)≤
 224∧(224:Int)≤352∧352≤(↑(iR s d label list frame more).length:Int)) (.need (1<2305843009213693952∧ [List.take 128 (List.drop 224
 (iR s d label list frame more))].flatten.length<1152921504606846976) (.need (iw s (bo s d label list frame more) d) (.need (1<
 2305843009213693952∧ [List.take 128 (List.drop 224 (au s (bo s d label list frame more) d).snd)].flatten.length<1152921504606846976) (.ite
 (decide (aJ [List.take 128 (List.drop 224 (iR s d label list frame more))].flatten=aJ [List.take 128 (List.drop 224 (au s (bo s d
 label list frame more) d).snd)].flatten)) (.ret (true)) (.ite (label) (.need ((0:Int)≤223∧223<(↑(iR s d label list frame more).length:
 Int)) (.need (bK s) (.need (bS (aC (aH s)) 0 1000 ((iR s d label list frame more).set 223 255)) (.need (a7 (bO (aC
 (aH s)) 0 1000 ((iR s d label list frame more).set 223 255)).err) (.ret ((bO (aC (aH s)) 0 1000 ((iR s d label list frame more).set
 223 255)).err==8)))))) (.need (bK s) (.need (bS (aC (aH s)) 0 1000 (iR s d label list frame more)) (.need (a7 (bO
 (aC (aH s)) 0 1000 (iR s d label list frame more)).err) (.ret ((bO (aC (aH s)) 0 1000 (iR s d label list frame more)).err==
 7)))))))))))) (.ite (label) (.need ((0:Int)≤223∧223<QZ s d label list frame more) (.need (bK s) (.need (bS (aC (aH s)) 0
 1000 (ze s d label list frame more)) (.need (a7 (bO (aC (aH s)) 0 1000 (ze s d label list frame more)).err) (.ret ((bO (aC
 (aH s)) 0 1000 (ze s d label list frame more)).err==8)))))) (.need (bK s) (.need (bS (aC (aH s)) 0 1000 ((au s (bo s d
 label list frame more) d).snd++ [0])) (.need (a7 (HV s d label list frame more)) (.ret (HV s d label list frame more==6)))))))))
 (.ite (frame) (.need ((0:Int)≤352∧352<(↑(au s (bo s d label list frame more) d).snd.length:Int)) (.need ((0:Int)≤353∧353<
 (↑((au s (bo s d label list frame more) d).snd.set 352 0).length:Int)) (.ite (list) (.need (lu d label 0 s 0 3 2 [1,i64.wrap
 (qp s d label list frame more-1)] (((au s (bo s d label list frame more) d).snd.set 352 0).set 353 0)) (.need ((0:Int)≤224∧(224:
 Int)≤352∧352≤(↑(ly s d label list frame more).length:Int)) (.need (1<2305843009213693952∧ [List.take 128 (List.drop 224 (ly s d
 label list frame more))].flatten.length<1152921504606846976) (.need (iw s (bo s d label list frame more) d) (.need (1<
 2305843009213693952∧ [List.take 128 (List.drop 224 (au s (bo s d label list frame more) d).snd)].flatten.length<1152921504606846976) (.ite
 (decide (aJ [List.take 128 (List.drop 224 (ly s d label list frame more))].flatten=aJ [List.take 128 (List.drop 224 (au s (bo s d
 label list frame more) d).snd)].flatten)) (.ret (true)) (.ite (label) (.need ((0:Int)≤223∧223<(↑(ly s d label list frame more).length:
 Int)) (.need (bK s) (.need (bS (aC (aH s)) 0 1000 ((ly s d label list frame more).set 223 255)) (.need (a7 (bO (aC
 (aH s)) 0 1000 ((ly s d label list frame more).set 223 255)).err) (.ret ((bO (aC (aH s)) 0 1000 ((ly s d label list frame more).set
 223 255)).err==8)))))) (.need (bK s) (.need (bS (aC (aH s)) 0 1000 (ly s d label list frame more)) (.need (a7 (bO (aC
 (aH s)) 0 1000 (ly s d label list frame more)).err) (.ret ((bO (aC (aH s)) 0 1000 (ly s d label list frame more)).err==7))))))))))))
 (.ite (label) (.need ((0:Int)≤223∧223<(↑(((au s (bo s d label list frame more) d).snd.set 352 0).set 353 0).length:Int)) (.need
 (bK s) (.need (bS (aC (aH s)) 0 1000 (HT s d label list frame more)) (.need (a7 (bO (aC (aH s)) 0 1000 (HT s d
 label list frame more)).err) (.ret ((bO (aC (aH s)) 0 1000 (HT s d label list frame more)).err==8)))))) (.need (bK s) (.need
 (bS (aC (aH s)) 0 1000 (((au s (bo s d label list frame more) d).snd.set 352 0).set 353 0)) (.need (a7 (HU s d label list
 frame more)) (.ret (HU s d label list frame more==6))))))))) (.ite (list) (.need (lu d label 0 s 0 3 2 [1,i64.wrap (qp s d
 label list frame more-1)] (au s (bo s d label list frame more) d).snd) (.need ((0:Int)≤224∧(224:Int)≤352∧352≤(↑(gu 64 0 (au
 s (bo s d label list frame more) d).snd).length:Int)) (.need (1<2305843009213693952∧(QX s d label list frame more).length<
 1152921504606846976) (.need (iw s (bo s d label list frame more) d) (.need (1<2305843009213693952∧ [List.take 128 (List.drop 224 (au s
 (bo s d label list frame more) d).snd)].flatten.length<1152921504606846976) (.ite (decide (aJ (QX s d label list frame more)=aJ
 [List.take 128 (List.drop 224 (au s (bo s d label list frame more) d).snd)].flatten)) (.ret (true)) (.ite (label) (.need ((0:Int)≤223∧223
 <(↑(gu 64 0 (au s (bo s d label list frame more) d).snd).length:Int)) (.need (bK s) (.need (bS (aC (aH s)) 0 1000 ((gu
 64 0 (au s (bo s d label list frame more) d).snd).set 223 255)) (.need (a7 (QY s d label list frame more)) (.ret (QY s d label
 list frame more==8)))))) (.need (bK s) (.need (bS (aC (aH s)) 0 1000 (gu 64 0 (au s (bo s d label list frame more) d).snd))
 (.need (a7 (bO (aC (aH s)) 0 1000 (gu 64 0 (au s (bo s d label list frame more) d).snd)).err) (.ret ((bO (aC (aH s)) 0
 1000 (gu 64 0 (au s (bo s d label list frame more) d).snd)).err==7)))))))))))) (.ite (label) (.need ((0:Int)≤223∧223<(↑(au s
 (bo s d label list frame more) d).snd.length:Int)) (.need (bK s) (.need (bS (aC (aH s)) 0 1000 ((au s (bo s d label list
 frame more) d).snd.set 223 255)) (.need (a7 (bO (aC (aH s)) 0 1000 ((au s (bo s d label list frame more) d).snd.set 223 255)).err)
 (.ret ((bO (aC (aH s)) 0 1000 ((au s (bo s d label list frame more) d).snd.set 223 255)).err==8)))))) (.need (bK s) (.need
 (bS (aC (aH s)) 0 1000 (au s (bo s d label list frame more) d).snd) (.need (a7 (bO (aC (aH s)) 0 1000 (au s (bo s
 d label list frame more) d).snd).err) (.ret ((bO (aC (aH s)) 0 1000 (au s (bo s d label list frame more) d).snd).err==0)))))))))))
 (.ret (false)))))) (.ret (true))) (.ret (true))))
theorem XO(s:List Int)(d:List Int)(label list frame more:Bool):aT Tryz.prog [(15,nx),(12,Qt),(21,rz),(17,Ch),(20,sW),(22,CQ),(24,HR)] [(0,cV Cq ((ag).wr (())) QS (QW))] f7 (((ae cB (ae (ah (e9 false false u8)) (ae (ah ja) (ae (ah ja) (ae (ah ja) (ae (ah ja) ag))))))).wr (s,d,label,list,frame,more,())) ((ag).wr (())) [.fr [.sym],.syms,.auto,.aN]=(afQ s d label list frame more).end al8 al9 ((ag).wr (())):=by kernel_rfl
theorem afR(s:List Int)(d:List Int)(label list frame more:Bool):aO Tryz.prog ((ag).wr (())) [(0,cV Cq ((ag).wr (())) QS (QW))] (aG f7):=(aO.cU (nJ (by kernel_rfl) (cJ (hp:=(ag).wr (())) (XN s d label list frame more)) oI))
abbrev Ul(s:List Int)(d:List Int)(label list frame more:Bool):Prop:=s.length=32∧al d
abbrev afS(s:List Int)(d:List Int)(label list frame more:Bool):Uk:=true
def as8:ar:=dm [] ((ae cB (ae (ah (e9 false false u8)) (ae (ah ja) (ae (ah ja) (ae (ah ja) (ae (ah ja) ag))))))) (ag) (fun x_ y_=>Ul x_.1 x_.2.1 x_.2.2.1 x_.2.2.2.1 x_.2.2.2.2.1 x_.2.2.2.2.2.1) (fun x_ y_=>afS x_.1 x_.2.1 x_.2.2.1 x_.2.2.2.1 x_.2.2.2.2.1 x_.2.2.2.2.2.1) al8 al9
theorem aj9(s:List Int)(d:List Int)(label list frame more:Bool)(h_:Ul s d label list frame more):(afQ s d label list frame more).Is (afS s d label list frame more):=by
 delta afS;obtain⟨h1,h2⟩:=h_;have e1:((!true)==false)=true:=rfl;have q1:qp s d label list frame more=d.length:=rfl;have eb:∀b:Bool,(b==false)= !b:=fun b=>by cases b<;>rfl
 simp only[afQ,ao,e1,bx,q1,eb,fU,bl,decide_eq_true_eq,decide_eq_false_iff_not];refine⟨trivial,fun _=>rfl,fun c1=>⟨fun _=>rfl,fun c2=>?_⟩⟩;obtain⟨M,ml⟩:=as6 h1 h2 (by omega) (by omega);have q3:bo s d label list frame more=dH d:=by unfold bo;rw[q1,ax (by omega) (by omega)]
 have w1:i64.wrap ((d.length:Int)-1)=d.length-1:=ax (by omega) (by omega);obtain⟨b1,b2⟩:=yY M;have B0:kD s d (au s (dH d) d).2:=⟨ml,by omega,b1,rfl⟩;have B1:kD s d ((au s (dH d) d).2++ [0]):=⟨by rw[List.length_append];omega,by rw[List.length_append];exact Nat.le_trans (Nat.add_le_add_right b2 _) (by decide),b1.append (al.cons ⟨by decide,by decide⟩ al.nil),by rw[List.take_append_of_le_length (by omega)]⟩;have p1:lq s (dH d) d:=⟨h1,h2,by omega,(show 2<1099511627776 by decide),M.hp⟩;have p2:iw s (dH d) d:=⟨h1,h2,by omega,(show 2<1099511627776 by decide),M.hp,by omega⟩;have aeN:=B0.as7 M
 have j0:(bO (aC (aH s)) 0 1000 (au s (dH d) d).2).err=0:=by
  have h:=qn (more:= []) (fl:=0) (rm:=1000) M;rw[List.append_nil,if_neg (by omega),if_neg (show ¬ (3:Int)<0 by decide),if_neg (by simp)]at h;rw[h]
 have J1:bO (aC (aH s)) 0 1000 ((au s (dH d) d).2++ [0])=vL 6:=by
  have h:=qn (more:= [0]) (fl:=0) (rm:=1000) M;rw[if_neg (by omega),if_neg (show ¬ (3:Int)<0 by decide),if_pos (by simp)]at h;exact h
 have C1:((au s (dH d) d).1!=0)=false:=by rw[M.code];rfl
 have awj:∀b,kD s d b→bS (aC (aH s)) 0 1000 b:=fun b h=>⟨h.rD,by have:=h.mx;omega,Co _ (iP s)⟩
 have h8:∀b,360≤b.length→b.length≤70000→al b→b.take 224=gE s (dH d) d→bS (aC (aH s)) 0 1000 (b.set 223 255)∧(bO (aC (aH s)) 0 1000 (b.set 223 255)).err=8:=fun b x1 x2 x3 x4=>
  ⟨⟨x3.set 223 ⟨by decide,by decide⟩,by rw[List.length_set];omega,Co _ (iP s)⟩,by rw[kD.oO M x1 x3 x4];rfl⟩
 have gI:∀b,kD s d b→360≤(gu 64 0 b).length∧(gu 64 0 b).length≤70000∧al (gu 64 0 b)∧(gu 64 0 b).take 224=gE s (dH d) d:=fun b h=>by
  obtain⟨r1,r2,r3⟩:=Uj 64 0 b h.rD;exact⟨by rw[r1];exact h.len,by rw[r1];exact h.mx,r2,by rw[r3];exact h.t224 M⟩
 have T8:∀b:List Int,(360≤b.length∧b.length≤70000∧al b∧b.take 224=gE s (dH d) d)→((0:Int)≤223∧223<(b.length:Int))∧bK s∧bS (aC (aH s)) 0 1000 (b.set 223 255)∧a7 (bO (aC (aH s)) 0 1000 (b.set 223 255)).err∧((bO (aC (aH s)) 0 1000 (b.set 223 255)).err==8)=true:=fun b ⟨x1,x2,x3,x4⟩=>by
  obtain⟨y1,y2⟩:=h8 b x1 x2 x3 x4;exact⟨by omega,h1,y1,trivial,by rw[y2];rfl⟩
 have TL:∀b,kD s d b→lu d label 0 s 0 3 2 [1,(d.length:Int)-1] b∧((0:Int)≤224∧(224:Int)≤352∧352≤((gu 64 0 b).length:Int))∧(1<2305843009213693952∧(List.take 128 (List.drop 224 (gu 64 0 b))).length<1152921504606846976)∧iw s (dH d) d∧(1<2305843009213693952∧(List.take 128 (List.drop 224 (au s (dH d) d).2)).length<1152921504606846976):=fun b h=>by
  have x1:=h.len;have x2:=h.mx;obtain⟨y1,y2,y3,y4⟩:=gI b h;exact⟨⟨by omega,by omega,by omega,by omega⟩,by omega,⟨by decide,by rw[List.length_take];omega⟩,p2,⟨by decide,by rw[List.length_take];omega⟩⟩
 have T7:∀b,kD s d b→¬aJ (List.take 128 (List.drop 224 (gu 64 0 b)))=aJ (List.take 128 (List.drop 224 (au s (dH d) d).2))→bK s∧bS (aC (aH s)) 0 1000 (gu 64 0 b)∧a7 (bO (aC (aH s)) 0 1000 (gu 64 0 b)).err∧((bO (aC (aH s)) 0 1000 (gu 64 0 b)).err==7)=true:=fun b h gv=>by
  obtain⟨y1,y2,y3,y4⟩:=gI b h;rw[aeN]at gv;rw[kD.list M (by omega) y1 y4 gv];exact⟨h1,⟨y3,by omega,Co _ (iP s)⟩,trivial,rfl⟩
 have TE:∀b (e:Int),kD s d b→(bO (aC (aH s)) 0 1000 b).err=e→bK s∧bS (aC (aH s)) 0 1000 b∧a7 (bO (aC (aH s)) 0 1000 b).err∧((bO (aC (aH s)) 0 1000 b).err==e)=true:=fun b e h he=>by
  rw[he];exact⟨h1,awj b h,trivial,by simp⟩
 have TF:∀b,kD s d b→kD s d ((b.set 352 0).set 353 0)∧((0:Int)≤352∧352<(b.length:Int))∧((0:Int)≤353∧353<((b.set 352 0).length:Int))∧(bO (aC (aH s)) 0 1000 ((b.set 352 0).set 353 0)).err=6:=fun b h=>by
  have x1:=h.len;exact⟨(h.set (k:=352) (by decide) (z:=0) ⟨by decide,by decide⟩).set (k:=353) (by decide) (z:=0) ⟨by decide,by decide⟩,by omega,by rw[List.length_set];omega,by rw[kD.frame M (by omega) h];rfl⟩
 have hb:∀b,kD s d b→360≤b.length∧b.length≤70000∧al b∧b.take 224=gE s (dH d) d:=fun b h=>⟨h.len,h.mx,h.rD,h.t224 M⟩;unfold QX ly QY QZ HT HU iR ze HV HW HX;unfold dS;simp only[q3,w1,List.flatten_cons,List.flatten_nil,List.append_nil];refine⟨p1,trivial,fun h=>absurd h (by rw[C1];decide),fun _=>⟨fun h=>absurd h (by omega),fun _=>⟨⟨by omega,by omega⟩,?_⟩⟩⟩;obtain⟨F0,f1,f2,f3⟩:=TF _ B0;obtain⟨F1,g1,g2,g3⟩:=TF _ B1;have j1:(bO (aC (aH s)) 0 1000 ((au s (dH d) d).2++ [0])).err=6:=by rw[J1];rfl
 have rt:∀ {p:Prop},p→(Tr.ret true).Is true:=fun _=>rfl
 cases more<;>cases frame<;>cases list<;>simp only[bx,cf,ao,aq]<;>simp only[bl,cO,ao,aq]
 ·exact⟨fun _=>T8 _ (hb _ B0),fun _=>TE _ 0 B0 j0⟩
 ·obtain⟨l1,l2,l3,l4,l5⟩:=TL _ B0;exact⟨l1,l2,l3,l4,l5,fun _=>trivial,fun c=>⟨fun _=>T8 _ (gI _ B0),fun _=>T7 _ B0 (of_decide_eq_false c)⟩⟩
 ·exact⟨f1,f2,fun _=>T8 _ (hb _ F0),fun _=>TE _ 6 F0 f3⟩
 ·obtain⟨l1,l2,l3,l4,l5⟩:=TL _ F0;exact⟨f1,f2,l1,l2,l3,l4,l5,fun _=>trivial,fun c=>⟨fun _=>T8 _ (gI _ F0),fun _=>T7 _ F0 (of_decide_eq_false c)⟩⟩
 ·exact⟨⟨by omega,by omega⟩,fun _=>T8 _ (hb _ B1),fun _=>TE _ 6 B1 j1⟩
 ·obtain⟨l1,l2,l3,l4,l5⟩:=TL _ B1;exact⟨⟨by omega,by omega⟩,l1,l2,l3,l4,l5,fun _=>trivial,fun c=>⟨fun _=>T8 _ (gI _ B1),fun _=>T7 _ B1 (of_decide_eq_false c)⟩⟩
 ·exact⟨⟨by omega,by omega⟩,g1,g2,fun _=>T8 _ (hb _ F1),fun _=>TE _ 6 F1 g3⟩
 ·obtain⟨l1,l2,l3,l4,l5⟩:=TL _ F1;exact⟨⟨by omega,by omega⟩,g1,g2,l1,l2,l3,l4,l5,fun _=>trivial,fun c=>⟨fun _=>T8 _ (gI _ F1),fun _=>T7 _ F1 (of_decide_eq_false c)⟩⟩
theorem aka:as8.Ok Tryz.prog 7:=
 bY mixed ((aj lr (aj xr (aj ny (aj ry (aj nw (aj om (aj Eh aE)))))))) func7 (by kernel_rfl) call7 (fun x_ y_=>afR x_.1 x_.2.1 x_.2.2.1 x_.2.2.2.1 x_.2.2.2.2.1 x_.2.2.2.2.2.1) (fun x_ y_=>XO x_.1 x_.2.1 x_.2.2.1 x_.2.2.2.1 x_.2.2.2.2.1 x_.2.2.2.2.2.1) (fun x_ y_ h=>aj9 x_.1 x_.2.1 x_.2.2.1 x_.2.2.2.1 x_.2.2.2.2.1 x_.2.2.2.2.2.1 h)
end Go.Proofs.YtnbkagglkajbkaaGreat
end
