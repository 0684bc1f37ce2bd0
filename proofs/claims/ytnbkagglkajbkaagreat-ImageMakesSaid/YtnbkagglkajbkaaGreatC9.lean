/- What the laws lean on, part 9: a reader of code, plain facts, and what each function gives; no conditions. -/
import Derived.WalkKit
import Derived.Lib.Walk
import Derived.Lib.SliceRun
import Derived.Lib.AppendZerosOnto
import Derived.Test.YtnbkagglkajbkaaGreatC8
set_option linter.unusedVariables false
set_option linter.unusedSimpArgs false
noncomputable section
namespace Go.Proofs.YtnbkagglkajbkaaGreat
open Go Go.Ev Go.Proofs.Tryz
open Go.IntKind (i64 signed u16 u64 wrap)
set_option maxRecDepth 1000000
abbrev Dc:Type:=Int×Int×Int
abbrev cDc:aQ (List SV) Dc:=(ae (aA .u64) (ae (aA .u64) (ae (aA .i64) ag))).lV (fun x=>(x.1,x.2.1,x.2.2.1)) (fun y=>(y.1,y.2.1,y.2.2,())) (fun _=>rfl)
abbrev OK:aQ Ev.Item Dc:=xd 383 cDc
abbrev mA:aQ Hp (Dc×Unit):=ae (cx OK) ag
abbrev awa:aQ (List LV) (Int×Unit):=ai (ah (aD 0 0)) (ae (ah (aA .u8)) ag)
abbrev ao1:aQ (List LV) (Int×Int×Unit):=ai (ah (aD 0 0)) (ae (ah (aA .u64)) (ae (ah (aA .u64)) ag))
def wU(d:Dc):Prop:=0≤d.1∧16777216≤d.2.1∧d.2.1<4294967296∧
 ((d.2.2=0∧d.1<4294967296)∨(d.2.2=1∧d.1<16777216)∨(d.2.2=2∧d.1<65536)∨(d.2.2=3∧d.1<256)∨(d.2.2=4∧d.1=0))
def wV(d:Dc)(b:Int):Dc:=if d.2.2=0 then d else(d.1*256+b,d.2.1,d.2.2-1)
def Tx(d:Dc):Bool:=decide (d.2.2=0∧d.2.1≤d.1)
def Ju(d:Dc):Bool:=decide (d.2.2=0∧d.1<d.2.1)
def Jv(c w:Int):Dc:=if w<16777216 then(c,w*256,1)else(c,w,0)
def jK(d:Dc)(bound jy:Int):Int×Dc:=if d.1<bound then(0,Jv d.1 bound)else(1,Jv (d.1-bound) jy)
def gq(p:Int)(d:Dc):Int×Int×Dc:=
 if Ju d=true then
  let r:=jK d (d.2.1/2048*aW p) (d.2.1-d.2.1/2048*aW p)
  (r.1,cH p r.1,r.2)
 else(0,aW p,d)
def kt(d:Dc):Int×Dc:=if Ju d=true then jK d (d.2.1/2) (d.2.1/2)else(0,d)
abbrev Tz:Type:=Int×Int×Int
abbrev ao2(x:Tz):LV:=LV.one (VV.sc (SV.ptr 0 0))
abbrev ao3(x:Tz):List (Nat×Ev.Item):= [(0,OK.wr x)]
def ao4:Tr (Tz):=(.ret ((0,4294967295,4)))
theorem WG:aH Tryz.prog [] [] f315 ((ag).wr (())) ((ag).wr (())) [.fr [.sym],.syms,.auto,.aF]=(ao4).end ao2 ao3 ((ag).wr (())):=by kernel_rfl
theorem acN:aK Tryz.prog ((ag).wr (())) [] (aJ f315):=(aK.nil _)
abbrev FK:Prop:=True
abbrev acO:Tz:=(0,4294967295,4)
def acP:an:=cQ [] (ag) (ag) (fun _ _=>FK) (fun _ _=>acO) ao2 ao3
theorem akq(h_:FK):(ao4).Is (acO):=by
 delta acO;exact rfl
theorem TA:acP.Ok Tryz.prog 315:=
 bJ mixed aw func315 (by kernel_rfl) call315 (fun x_ y_=>acN) (fun x_ y_=>WG) (fun x_ y_ h=>akq h)
abbrev FL:Type:=Bool
abbrev acQ(x:FL):LV:=LV.one (VV.sc (SV.bool (SB.sym x)))
abbrev acR(x:FL):List (Nat×Ev.Item):= []
def acS(d:Int×Int×Int):Tr (FL):=(.ret (decide (0<d.snd.snd)))
theorem OL(d:Dc):aH Tryz.prog [] [] f332 ((ko).wr (())) ((mA).wr (d,())) [.fr [.sym],.syms,.auto,.aF]=(acS d).end acQ acR ((mA).wr (d,())):=by kernel_rfl
theorem WH(d:Dc):aK Tryz.prog ((mA).wr (d,())) [] (aJ f332):=(aK.nil _)
abbrev tn(d:Dc):Prop:=True
abbrev OM(d:Dc):FL:=decide (0<d.2.2)
def FN:an:=cQ [] (ko) (mA) (fun x_ y_=>tn y_.1) (fun x_ y_=>OM y_.1) acQ acR
theorem acT(d:Dc)(h_:tn d):(acS d).Is (OM d):=by
 delta OM;exact rfl
theorem zV:FN.Ok Tryz.prog 332:=
 bJ mixed aw func332 (by kernel_rfl) call332 (fun x_ y_=>WH y_.1) (fun x_ y_=>OL y_.1) (fun x_ y_ h=>acT y_.1 h)
abbrev FO:Type:=Bool×(Int×Int×Int)
abbrev acU(x:FO):LV:=LV.one (VV.sc (SV.bool (SB.sym x.1)))
abbrev acV(x:FO):List (Nat×Ev.Item):= [(0,OK.wr x.2)]
def ON(b:Int)(d:Int×Int×Int):Tr (FO):=(.need (tn d) (.ite (!decide (0<d.snd.snd)) (.ret (false,d)) (.ret
 (true,(bC u64 (shl u64 d.fst 8) (u64.wrap b),d.snd.fst,i64.wrap (d.snd.snd-1))))))
theorem OO(b:Int)(d:Dc):aH Tryz.prog [(332,FN)] [] f333 ((awa).wr (b,())) ((mA).wr (d,())) [.fr [.sym],.syms,.auto,.aF]=(ON b d).end acU acV ((mA).wr (d,())):=by kernel_rfl
theorem WI(b:Int)(d:Dc):aK Tryz.prog ((mA).wr (d,())) [] (aJ f333):=(aK.nil _)
abbrev zW(b:Int)(d:Dc):Prop:=wU d∧By b
abbrev OP(b:Int)(d:Dc):FO:=(decide (0<d.2.2),wV d b)
def OQ:an:=cQ [] (awa) (mA) (fun x_ y_=>zW x_.1 y_.1) (fun x_ y_=>OP x_.1 y_.1) acU acV
theorem acW(b:Int)(d:Dc)(h_:zW b d):(ON b d).Is (OP b d):=by
 delta OP;obtain⟨⟨h1,h2,h3,h4⟩,h5,h6⟩:=h_;have e0:u64.wrap b=b:=wrap_u64 h5 (by omega)
 have e1:shl .u64 d.1 8=d.1*256:=by
  have:=gL .u64 d.1 8 (by decide);rw[show((8:Nat):Int)=8 from rfl]at this;rw[this,wrap_u64]<;>omega
 have e2:bC .u64 (d.1*256) b=d.1*256+b:=ow (m:=8) (by omega) (by omega) h5 (by omega) (by omega);have e3:i64.wrap (d.2.2-1)=d.2.2-1:=au (by omega) (by omega);simp only[ON,wV,aq,km,ao,e0,e1,e2,e3,decide_eq_true_eq,decide_eq_false_iff_not];refine⟨trivial,fun h=>?_,fun h=>?_⟩
 ·rw[if_neg (by omega),decide_eq_true h]
 ·rw[if_pos (by omega),decide_eq_false h]
theorem Jw:OQ.Ok Tryz.prog 333:=
 bJ mixed ((al zV aw)) func333 (by kernel_rfl) call333 (fun x_ y_=>WI x_.1 y_.1) (fun x_ y_=>OO x_.1 y_.1) (fun x_ y_ h=>acW x_.1 y_.1 h)
abbrev FQ:Type:=Bool
abbrev acX(x:FQ):LV:=LV.one (VV.sc (SV.bool (SB.sym x)))
abbrev acY(x:FQ):List (Nat×Ev.Item):= []
def OR(d:Int×Int×Int):Tr (FQ):=(.ite ((d.snd.snd==0)==true) (.ret (decide (d.snd.fst≤d.fst))) (.ret (false)))
theorem OS(d:Dc):aH Tryz.prog [] [] f334 ((ko).wr (())) ((mA).wr (d,())) [.fr [.sym],.syms,.auto,.aF]=(OR d).end acX acY ((mA).wr (d,())):=by kernel_rfl
theorem WJ(d:Dc):aK Tryz.prog ((mA).wr (d,())) [] (aJ f334):=(aK.nil _)
abbrev zX(d:Dc):Prop:=True
abbrev OT(d:Dc):FQ:=Tx d
def OU:an:=cQ [] (ko) (mA) (fun x_ y_=>zX y_.1) (fun x_ y_=>OT y_.1) acX acY
theorem acZ(d:Dc)(h_:zX d):(OR d).Is (OT d):=by
 delta OT;simp only[OR,Tx,cu,ao,iR,beq_iff_eq,beq_eq_false_iff_ne];exact⟨fun h=>decide_eq_decide.2 (by omega),fun h=>(decide_eq_false (by omega)).symm⟩
theorem Jx:OU.Ok Tryz.prog 334:=
 bJ mixed aw func334 (by kernel_rfl) call334 (fun x_ y_=>WJ y_.1) (fun x_ y_=>OS y_.1) (fun x_ y_ h=>acZ y_.1 h)
abbrev TB:Type:=Bool
abbrev ao5(x:TB):LV:=LV.one (VV.sc (SV.bool (SB.sym x)))
abbrev ao6(x:TB):List (Nat×Ev.Item):= []
def ac0(d:Int×Int×Int):Tr (TB):=(.ite ((d.snd.snd==0)==true) (.ret (decide (d.fst<d.snd.fst))) (.ret (false)))
theorem WK(d:Dc):aH Tryz.prog [] [] f351 ((ko).wr (())) ((mA).wr (d,())) [.fr [.sym],.syms,.auto,.aF]=(ac0 d).end ao5 ao6 ((mA).wr (d,())):=by kernel_rfl
theorem ac1(d:Dc):aK Tryz.prog ((mA).wr (d,())) [] (aJ f351):=(aK.nil _)
abbrev xM(d:Dc):Prop:=True
abbrev ac2(d:Dc):TB:=Ju d
def ac3:an:=cQ [] (ko) (mA) (fun x_ y_=>xM y_.1) (fun x_ y_=>ac2 y_.1) ao5 ao6
theorem akr(d:Dc)(h_:xM d):(ac0 d).Is (ac2 d):=by
 delta ac2;simp only[ac0,Ju,cu,ao,iR,beq_iff_eq,beq_eq_false_iff_ne];exact⟨fun h=>decide_eq_decide.2 (by omega),fun h=>(decide_eq_false (by omega)).symm⟩
theorem TC:ac3.Ok Tryz.prog 351:=
 bJ mixed aw func351 (by kernel_rfl) call351 (fun x_ y_=>ac1 y_.1) (fun x_ y_=>WK y_.1) (fun x_ y_ h=>akr y_.1 h)
abbrev TD:Type:=Int×Int×Int
abbrev ao7(x:TD):LV:=LV.c6 []
abbrev ao8(x:TD):List (Nat×Ev.Item):= [(0,OK.wr x)]
def ac4(d:Int×Int×Int):Tr (TD):=(.ite (decide (d.snd.fst<16777216)) (.ret ((d.fst,shl u64 d.snd.fst 8,1)))
 (.ret (d)))
theorem WL(d:Dc):aH Tryz.prog [] [] f354 ((ko).wr (())) ((mA).wr (d,())) [.fr [.sym],.syms,.auto,.aF]=(ac4 d).end ao7 ao8 ((mA).wr (d,())):=by kernel_rfl
theorem ac5(d:Dc):aK Tryz.prog ((mA).wr (d,())) [] (aJ f354):=(aK.nil _)
abbrev xN(d:Dc):Prop:=0≤d.2.1∧d.2.1<4294967296∧d.2.2=0
abbrev ac6(d:Dc):TD:=Jv d.1 d.2.1
def ao9:an:=cQ [] (ko) (mA) (fun x_ y_=>xN y_.1) (fun x_ y_=>ac6 y_.1) ao7 ao8
theorem aks(d:Dc)(h_:xN d):(ac4 d).Is (ac6 d):=by
 delta ac6;obtain⟨h1,h2,h3⟩:=h_;obtain⟨c,w,n⟩:=d;simp only at h1 h2 h3;subst h3;simp only[ac4,Jv,a5,ao];refine⟨fun h=>?_,fun h=>by rw[if_neg h]⟩;have:=gL .u64 w 8 (by decide);rw[show((8:Nat):Int)=8 from rfl]at this;rw[this,wrap_u64 (by omega) (by omega),if_pos h];rfl
theorem akt:ao9.Ok Tryz.prog 354:=
 bJ mixed aw func354 (by kernel_rfl) call354 (fun x_ y_=>ac5 y_.1) (fun x_ y_=>WL y_.1) (fun x_ y_ h=>aks y_.1 h)
abbrev xO:Type:=Int×(Int×Int×Int)
abbrev TE(x:xO):LV:=LV.one (VV.sc (SV.int i64 (SI.sym x.1)))
abbrev TF(x:xO):List (Nat×Ev.Item):= [(0,OK.wr x.2)]
def FR(bound:Int)(jy:Int)(d:Int×Int×Int):Tr (xO):=(.ite (decide (d.fst<bound)) (.need (xN (d.fst,
 bound,d.snd.snd)) (.ret (0,Jv d.fst bound))) (.need (xN (u64.wrap (d.fst-bound),jy,d.snd.snd)) (.ret (1,Jv (u64.wrap
 (d.fst-bound)) jy))))
theorem Jy(bound jy:Int)(d:Dc):aH Tryz.prog [(354,ao9)] [] f352 ((ao1).wr (bound,jy,())) ((mA).wr (d,())) [.fr [.sym],.syms,.auto,.aF]=(FR bound jy d).end TE TF ((mA).wr (d,())):=by kernel_rfl
theorem OV(bound jy:Int)(d:Dc):aK Tryz.prog ((mA).wr (d,())) [] (aJ f352):=(aK.nil _)
abbrev pY(bound jy:Int)(d:Dc):Prop:=wU d∧d.2.2=0∧65536≤bound∧bound<4294967296∧65536≤jy∧jy<4294967296
abbrev FT(bound jy:Int)(d:Dc):xO:=jK d bound jy
def FU:an:=cQ [] (ao1) (mA) (fun x_ y_=>pY x_.1 x_.2.1 y_.1) (fun x_ y_=>FT x_.1 x_.2.1 y_.1) TE TF
theorem WM(bound jy:Int)(d:Dc)(h_:pY bound jy d):(FR bound jy d).Is (FT bound jy d):=by
 delta FT;obtain⟨⟨h1,h2,h3,h4⟩,h5,h6,h7,h8,h9⟩:=h_;simp only[FR,jK,a5,aq,ao];refine⟨fun h=>⟨⟨by simp only;omega,h7,h5⟩,by rw[if_pos h]⟩,fun h=>?_⟩;have e:u64.wrap (d.1-bound)=d.1-bound:=wrap_u64 (by omega) (by omega);rw[e];exact⟨⟨by simp only;omega,h9,h5⟩,by rw[if_neg h]⟩
theorem CL:FU.Ok Tryz.prog 352:=
 bJ mixed ((al akt aw)) func352 (by kernel_rfl) call352 (fun x_ y_=>OV x_.1 x_.2.1 y_.1) (fun x_ y_=>Jy x_.1 x_.2.1 y_.1) (fun x_ y_ h=>WM x_.1 x_.2.1 y_.1 h)
theorem WN(p:Int):aW (aW p)=aW p:=by
 have:=fW p;rw[aW,if_neg (by omega),if_neg (by omega)]
theorem OW(p b:Int):cH (aW p) b=cH p b:=by unfold cH;rw[WN]
theorem xP(d:Dc):Ju d=true↔d.2.2=0∧d.1<d.2.1:=by unfold Ju;simp
def zY(p:Int)(d:Int×Int×Int):Int×Int×Int×Int:=jK d (u64.wrap (shr u64 d.snd.fst 11*
 u64.wrap (aW p))) (u64.wrap (d.snd.fst-u64.wrap (shr u64 d.snd.fst 11*u64.wrap (aW p))))
abbrev TG:Type:=Int×Int×(Int×Int×Int)
abbrev apa(x:TG):LV:=LV.c6 [VV.sc (SV.int i64 (SI.sym x.1)),VV.sc (SV.int i64 (SI.sym x.2.1))]
abbrev apb(x:TG):List (Nat×Ev.Item):= [(0,OK.wr x.2.2)]
def ac7(p:Int)(d:Int×Int×Int):Tr (TG):=(.need (xM d) (.ite (!Ju d) (.ret (0,aW p,d)) (.need (pY
 (u64.wrap (shr u64 d.snd.fst 11*u64.wrap (aW p))) (u64.wrap (d.snd.fst-u64.wrap (shr u64
 d.snd.fst 11*u64.wrap (aW p)))) d) (.ret ((zY p d).fst,cH (aW p) (zY p d).fst,(zY p d).snd)))))
theorem WO(p:Int)(d:Dc):aH Tryz.prog [(351,ac3),(352,FU),(257,Et),(260,sL)] [] f346 ((sN).wr (p,())) ((mA).wr (d,())) [.fr [.sym],.syms,.auto,.aF]=(ac7 p d).end apa apb ((mA).wr (d,())):=by kernel_rfl
theorem ac8(p:Int)(d:Dc):aK Tryz.prog ((mA).wr (d,())) [] (aJ f346):=(aK.nil _)
abbrev pZ(p:Int)(d:Dc):Prop:=wU d
abbrev ac9(p:Int)(d:Dc):TG:=gq p d
def apc:an:=cQ [] (sN) (mA) (fun x_ y_=>pZ x_.1 y_.1) (fun x_ y_=>ac9 x_.1 y_.1) apa apb
theorem aku(p:Int)(d:Dc)(h_:pZ p d):(ac7 p d).Is (ac9 p d):=by
 delta ac9;obtain⟨h1,h2,h3,h4⟩:=h_;have hb:=js p h2 h3;have hh:=fW p;have e0:u64.wrap (aW p)=aW p:=wrap_u64 (by omega) (by omega);have e1:shr .u64 d.2.1 11=d.2.1/2048:=cz .u64 d.2.1 11 (by decide);have e2:u64.wrap (d.2.1/2048*aW p)=d.2.1/2048*aW p:=wrap_u64 (by omega) (by omega);have e3:u64.wrap (d.2.1-d.2.1/2048*aW p)=d.2.1-d.2.1/2048*aW p:=wrap_u64 (by omega) (by omega);have ea:zY p d=jK d (d.2.1/2048*aW p) (d.2.1-d.2.1/2048*aW p):=by unfold zY;rw[e0,e1,e2,e3]
 simp only[ac7,gq,aq,km,ao,e0,e1,e2,e3,ea,OW];refine⟨trivial,fun h=>⟨⟨⟨h1,h2,h3,h4⟩,((xP d).1 h).1,by omega,by omega,by omega,by omega⟩,by rw[if_pos h]⟩,fun h=>by rw[if_neg (by simp[h])]⟩
theorem akv:apc.Ok Tryz.prog 346:=
 bJ mixed ((al TC (al CL (al sK (al pP aw))))) func346 (by kernel_rfl) call346 (fun x_ y_=>ac8 x_.1 y_.1) (fun x_ y_=>WO x_.1 y_.1) (fun x_ y_ h=>aku x_.1 y_.1 h)
def xQ(d:Int×Int×Int):Int×Int×Int×Int:=jK d (u64.wrap (d.snd.fst.tdiv 2)) (u64.wrap
 (d.snd.fst.tdiv 2))
abbrev FV:Type:=Int×(Int×Int×Int)
abbrev ada(x:FV):LV:=LV.one (VV.sc (SV.int i64 (SI.sym x.1)))
abbrev adb(x:FV):List (Nat×Ev.Item):= [(0,OK.wr x.2)]
def OX(d:Int×Int×Int):Tr (FV):=(.need (xM d) (.ite (!Ju d) (.ret (0,d)) (.need (pY (u64.wrap
 (d.snd.fst.tdiv 2)) (u64.wrap (d.snd.fst.tdiv 2)) d) (.ret ((xQ d).fst,(xQ d).snd)))))
theorem OY(d:Dc):aH Tryz.prog [(351,ac3),(352,FU)] [] f347 ((ko).wr (())) ((mA).wr (d,())) [.fr [.sym],.syms,.auto,.aF]=(OX d).end ada adb ((mA).wr (d,())):=by kernel_rfl
theorem WQ(d:Dc):aK Tryz.prog ((mA).wr (d,())) [] (aJ f347):=(aK.nil _)
abbrev zZ(d:Dc):Prop:=wU d
abbrev OZ(d:Dc):FV:=kt d
def ade:an:=cQ [] (ko) (mA) (fun x_ y_=>zZ y_.1) (fun x_ y_=>OZ y_.1) ada adb
theorem adf(d:Dc)(h_:zZ d):(OX d).Is (OZ d):=by
 delta OZ;obtain⟨h1,h2,h3,h4⟩:=h_;have e1:d.2.1.tdiv 2=d.2.1/2:=Int.tdiv_eq_ediv_of_nonneg (by omega);have e2:u64.wrap (d.2.1/2)=d.2.1/2:=wrap_u64 (by omega) (by omega);have ea:xQ d=jK d (d.2.1/2) (d.2.1/2):=by unfold xQ;rw[e1,e2]
 simp only[OX,kt,aq,km,ao,e1,e2,ea];refine⟨trivial,fun h=>⟨⟨⟨h1,h2,h3,h4⟩,((xP d).1 h).1,by omega,by omega,by omega,by omega⟩,by rw[if_pos h]⟩,fun h=>by rw[if_neg (by simp[h])]⟩
theorem adg:ade.Ok Tryz.prog 347:=
 bJ mixed ((al TC (al CL aw))) func347 (by kernel_rfl) call347 (fun x_ y_=>WQ y_.1) (fun x_ y_=>OY y_.1) (fun x_ y_ h=>adf y_.1 h)
structure RH where
 cs:List Int
 bh:Int
 part:Int
 node:Int
 t:eP
abbrev cRH(a b c:Nat):aQ (List SV) RH:=(ae (sF (.int .i64) 2) (ae (aA .i64) (ai (aD a 0) (ai (aD b 0) (ai (aD c 0) (ae (aA .i64) (ae (aA .i64) (ae (aA .i64) (ae (aA .i64) (ae (aA .u8) ag)))))))))).lV
 (fun x=>⟨x.1,x.2.1,x.2.2.1,x.2.2.2.1,(x.2.2.2.2.1,x.2.2.2.2.2.1,x.2.2.2.2.2.2.1)⟩) (fun y=>(y.cs,y.bh,y.part,y.node,y.t.1,y.t.2.1,y.t.2.2,())) (fun _=>rfl)
abbrev jRd:aQ Ev.Item RH:=xd 385 (cRH 1 3 5)
abbrev WR:aQ Hp (RH×List Int×List Int×List Int×Unit):=
 ae (cx jRd) (ai (cx jT2) (ae (cE 0 (.int .u16)) (ai (cx jT4) (ae (cE 0 (.int .u16)) (ai (cx jT6) (ae (cE 0 (.int .u16)) ag))))))
abbrev Jz:aQ Hp (RH×List Int×List Int×List Int×Dc×Unit):=
 ae (cx jRd) (ai (cx jT2) (ae (cE 0 (.int .u16)) (ai (cx jT4) (ae (cE 0 (.int .u16)) (ai (cx jT6) (ae (cE 0 (.int .u16)) (ae (cx OK) ag)))))))
def tq(part:Int):Int:=if part=0 then 1 else if part=1∨part=2 then 8 else 6
def jL(r:RH)(v:Int):Bool×RH:=
 if r.part=0 then(false,⟨r.cs,v,if v=1 then 2 else 1,r.node,(0,0,0)⟩)
 else if r.part=1 then(true,⟨r.cs,r.bh,0,r.node,(r.t.1,r.t.2.1,v)⟩)
 else if r.part=2 then(false,⟨r.cs,r.bh,3,r.node,(v+2,r.t.2)⟩)
 else if r.part=3 then(false,⟨r.cs,r.bh,4,r.node,(r.t.1,v*64,r.t.2.2)⟩)
 else(true,⟨r.cs,r.bh,0,r.node,(r.t.1,r.t.2.1+(v+1),r.t.2.2)⟩)
abbrev z4:Type:=Unit
abbrev tr(x:z4):LV:=LV.one (VV.sc (SV.ptr 1 0))
abbrev tu(x:z4):List (Nat×Ev.Item):= []
abbrev z5:Type:=Unit
abbrev tv(x:z5):LV:=LV.one (VV.sc (SV.ptr 3 0))
abbrev tw(x:z5):List (Nat×Ev.Item):= []
abbrev z6:Type:=Unit
abbrev tx(x:z6):LV:=LV.one (VV.sc (SV.ptr 5 0))
abbrev tz(x:z6):List (Nat×Ev.Item):= []
def p9(r:RH)(p1:List Int)(p2:List Int)(p3:List Int):Tr (z4⊕z5⊕z6):=(.ite (r.part==1) (.ret
 (.inl ())) (.ite (r.part==2) (.ret (.inr (.inl ()))) (.ret (.inr (.inr ())))))
theorem JA(r:RH)(p1:List Int)(p2:List Int)(p3:List Int):aH Tryz.prog [] [] f348 ((ko).wr (())) ((WR).wr (r,p1,p2,p3,())) [.fr [.sym],.syms,.auto,.aF]=(p9 r p1 p2 p3).end (Sum.elim tr (Sum.elim tv tx)) (Sum.elim tu (Sum.elim tw tz)) ((WR).wr (r,p1,p2,p3,())):=by kernel_rfl
theorem O0(r:RH)(p1:List Int)(p2:List Int)(p3:List Int):aK Tryz.prog ((WR).wr (r,p1,p2,p3,())) [] (aJ f348):=(aK.nil _)
abbrev fE(r:RH)(p1:List Int)(p2:List Int)(p3:List Int):Prop:=True
def TH:an:=an.cm [] (ko) (WR) fun x_ y_=>.ite ((fun(r:RH) (p1:List Int) (p2:List Int) (p3:List Int)=>decide (r.part=1)) y_.1 y_.2.1 y_.2.2.1 y_.2.2.2.1) (.leaf (some ((fun(r:RH) (p1:List Int) (p2:List Int) (p3:List Int)=>fE r p1 p2 p3) y_.1 y_.2.1 y_.2.2.1 y_.2.2.2.1)) (tr ((fun(r:RH) (p1:List Int) (p2:List Int) (p3:List Int)=>()) y_.1 y_.2.1 y_.2.2.1 y_.2.2.2.1)) (tu ((fun(r:RH) (p1:List Int) (p2:List Int) (p3:List Int)=>()) y_.1 y_.2.1 y_.2.2.1 y_.2.2.2.1))) (.ite ((fun(r:RH) (p1:List Int) (p2:List Int) (p3:List Int)=>decide (r.part=2)) y_.1 y_.2.1 y_.2.2.1 y_.2.2.2.1) (.leaf (some ((fun(r:RH) (p1:List Int) (p2:List Int) (p3:List Int)=>fE r p1 p2 p3) y_.1 y_.2.1 y_.2.2.1 y_.2.2.2.1)) (tv ((fun(r:RH) (p1:List Int) (p2:List Int) (p3:List Int)=>()) y_.1 y_.2.1 y_.2.2.1 y_.2.2.2.1)) (tw ((fun(r:RH) (p1:List Int) (p2:List Int) (p3:List Int)=>()) y_.1 y_.2.1 y_.2.2.1 y_.2.2.2.1))) (.leaf (some ((fun(r:RH) (p1:List Int) (p2:List Int) (p3:List Int)=>fE r p1 p2 p3) y_.1 y_.2.1 y_.2.2.1 y_.2.2.2.1)) (tx ((fun(r:RH) (p1:List Int) (p2:List Int) (p3:List Int)=>()) y_.1 y_.2.1 y_.2.2.1 y_.2.2.2.1)) (tz ((fun(r:RH) (p1:List Int) (p2:List Int) (p3:List Int)=>()) y_.1 y_.2.1 y_.2.2.1 y_.2.2.2.1))))
theorem vN(r:RH)(p1:List Int)(p2:List Int)(p3:List Int)(h_:fE r p1 p2 p3):((decide (r.part=1))=true→(p9 r p1 p2 p3).Is (.inl (())))∧((decide (r.part=1))=false→(decide (r.part=2))=true→(p9 r p1 p2 p3).Is (.inr (.inl (()))))∧((decide (r.part=1))=false→(decide (r.part=2))=false→(p9 r p1 p2 p3).Is (.inr (.inr (())))):=by
 simp only[p9,dV,ao,decide_eq_true_eq,decide_eq_false_iff_not];grind
theorem WS:TH.Ok Tryz.prog 348:=by
 refine arb (tys:= []) (A:=ko) (H:=WR) (LT:=fun x_ y_=>(fun(r:RH) (p1:List Int) (p2:List Int) (p3:List Int)=> []) y_.1 y_.2.1 y_.2.2.1 y_.2.2.2.1) (ks:= [.fr [.sym],.syms,.auto,.aF]) (V:=Sum.elim tr (Sum.elim tv tx)) (D:=Sum.elim tu (Sum.elim tw tz)) (T:=fun x_ y_=>p9 y_.1 y_.2.1 y_.2.2.1 y_.2.2.2.1) (out:=fun x_ y_=>.ite ((fun(r:RH) (p1:List Int) (p2:List Int) (p3:List Int)=>decide (r.part=1)) y_.1 y_.2.1 y_.2.2.1 y_.2.2.2.1) (.leaf (some ((fun(r:RH) (p1:List Int) (p2:List Int) (p3:List Int)=>fE r p1 p2 p3) y_.1 y_.2.1 y_.2.2.1 y_.2.2.2.1)) (tr ((fun(r:RH) (p1:List Int) (p2:List Int) (p3:List Int)=>()) y_.1 y_.2.1 y_.2.2.1 y_.2.2.2.1)) (tu ((fun(r:RH) (p1:List Int) (p2:List Int) (p3:List Int)=>()) y_.1 y_.2.1 y_.2.2.1 y_.2.2.2.1))) (.ite ((fun(r:RH) (p1:List Int) (p2:List Int) (p3:List Int)=>decide (r.part=2)) y_.1 y_.2.1 y_.2.2.1 y_.2.2.2.1) (.leaf (some ((fun(r:RH) (p1:List Int) (p2:List Int) (p3:List Int)=>fE r p1 p2 p3) y_.1 y_.2.1 y_.2.2.1 y_.2.2.2.1)) (tv ((fun(r:RH) (p1:List Int) (p2:List Int) (p3:List Int)=>()) y_.1 y_.2.1 y_.2.2.1 y_.2.2.2.1)) (tw ((fun(r:RH) (p1:List Int) (p2:List Int) (p3:List Int)=>()) y_.1 y_.2.1 y_.2.2.1 y_.2.2.2.1))) (.leaf (some ((fun(r:RH) (p1:List Int) (p2:List Int) (p3:List Int)=>fE r p1 p2 p3) y_.1 y_.2.1 y_.2.2.1 y_.2.2.2.1)) (tx ((fun(r:RH) (p1:List Int) (p2:List Int) (p3:List Int)=>()) y_.1 y_.2.1 y_.2.2.1 y_.2.2.2.1)) (tz ((fun(r:RH) (p1:List Int) (p2:List Int) (p3:List Int)=>()) y_.1 y_.2.1 y_.2.2.1 y_.2.2.2.1))))) mixed aw func348 (by kernel_rfl) call348 (fun x_ y_=>O0 y_.1 y_.2.1 y_.2.2.1 y_.2.2.2.1) (fun x_ y_=>JA y_.1 y_.2.1 y_.2.2.1 y_.2.2.2.1) (fun x_ y_ Q_ h_=>?_)
 cases hc_:(fun(r:RH) (p1:List Int) (p2:List Int) (p3:List Int)=>decide (r.part=1)) y_.1 y_.2.1 y_.2.2.1 y_.2.2.2.1 with
 |true=>exact⟨_,(vN y_.1 y_.2.1 y_.2.2.1 y_.2.2.2.1 (h_.1 hc_).1).1 hc_,(h_.1 hc_).2⟩
 |false=>
  have h2_:=h_.2 hc_
  cases hd_:(fun(r:RH) (p1:List Int) (p2:List Int) (p3:List Int)=>decide (r.part=2)) y_.1 y_.2.1 y_.2.2.1 y_.2.2.2.1 with
  |true=>exact⟨_,(vN y_.1 y_.2.1 y_.2.2.1 y_.2.2.2.1 (h2_.1 hd_).1).2.1 hc_ hd_,(h2_.1 hd_).2⟩
  |false=>exact⟨_,(vN y_.1 y_.2.1 y_.2.2.1 y_.2.2.2.1 (h2_.2 hd_).1).2.2 hc_ hd_,(h2_.2 hd_).2⟩
abbrev xR:Type:=Int
abbrev TI(x:xR):LV:=LV.one (VV.sc (SV.int i64 (SI.sym x)))
abbrev TJ(x:xR):List (Nat×Ev.Item):= []
def FW(r:RH)(p1:List Int)(p2:List Int)(p3:List Int):Tr (xR):=(.ite (r.part==0) (.ret (1)) (.ite (r.part==1)
 (.ite (r.part==1) (.ret (8)) (.ite (r.part==3) (.ret (6)) (.ret (6)))) (.ite (r.part==2) (.ret (8)) (.ite (r.part==3) (.ret (6)) (.ret (6))))))
theorem JB(r:RH)(p1:List Int)(p2:List Int)(p3:List Int):aH Tryz.prog [] [] f336 ((ko).wr (())) ((WR).wr (r,p1,p2,p3,())) [.fr [.sym],.syms,.auto,.aF]=(FW r p1 p2 p3).end TI TJ ((WR).wr (r,p1,p2,p3,())):=by kernel_rfl
theorem O1(r:RH)(p1:List Int)(p2:List Int)(p3:List Int):aK Tryz.prog ((WR).wr (r,p1,p2,p3,())) [] (aJ f336):=(aK.nil _)
abbrev vO(r:RH)(p1:List Int)(p2:List Int)(p3:List Int):Prop:=True
abbrev FY(r:RH)(p1:List Int)(p2:List Int)(p3:List Int):xR:=tq r.part
def TK:an:=cQ [] (ko) (WR) (fun x_ y_=>vO y_.1 y_.2.1 y_.2.2.1 y_.2.2.2.1) (fun x_ y_=>FY y_.1 y_.2.1 y_.2.2.1 y_.2.2.2.1) TI TJ
theorem WT(r:RH)(p1:List Int)(p2:List Int)(p3:List Int)(h_:vO r p1 p2 p3):(FW r p1 p2 p3).Is (FY r p1 p2 p3):=by
 delta FY;simp only[FW,tq,dV,ao];grind
theorem WU:TK.Ok Tryz.prog 336:=
 bJ mixed aw func336 (by kernel_rfl) call336 (fun x_ y_=>O1 y_.1 y_.2.1 y_.2.2.1 y_.2.2.2.1) (fun x_ y_=>JB y_.1 y_.2.1 y_.2.2.1 y_.2.2.2.1) (fun x_ y_ h=>WT y_.1 y_.2.1 y_.2.2.1 y_.2.2.2.1 h)
abbrev tA:Type:=Bool×RH
abbrev JD(x:tA):LV:=LV.one (VV.sc (SV.bool (SB.sym x.1)))
abbrev JE(x:tA):List (Nat×Ev.Item):= [(0,jRd.wr x.2)]
def z7(v:Int)(r:RH)(p1:List Int)(p2:List Int)(p3:List Int):Tr (tA):=(.ite (r.part==0) (.ite (v==1)
 (.ret (false,{cs:=r.cs,bh:=v,part:=2,node:=r.node,t:=(0,0,0)})) (.ret (false,{cs:=r.cs,bh:=v,part:=1,node:=r.node,t:=(0,0,0)})))
 (.ite (r.part==1) (.ret (true,{cs:=r.cs,bh:=r.bh,part:=0,node:=r.node,t:=(r.t.fst,r.t.snd.fst,IntKind.u8.wrap v)})) (.ite (r.part
 ==2) (.ret (false,{cs:=r.cs,bh:=r.bh,part:=3,node:=r.node,t:=(i64.wrap (v+2),r.t.snd)})) (.ite (r.part==3) (.ret (false,
 {cs:=r.cs,bh:=r.bh,part:=4,node:=r.node,t:=(r.t.fst,shl i64 v 6,r.t.snd.snd)})) (.ite (r.part==4) (.ret (true,{cs:=r.cs,bh:=r.bh,part:=0,node:=r.node,t:=(r.t.fst,i64.wrap (r.t.snd.fst+i64.wrap (v+1)),r.t.snd.snd)}))
 (.ret (true,{cs:=r.cs,bh:=r.bh,part:=0,node:=r.node,t:=r.t})))))))
theorem FZ(v:Int)(r:RH)(p1:List Int)(p2:List Int)(p3:List Int):aH Tryz.prog [] [] f337 ((sN).wr (v,())) ((WR).wr (r,p1,p2,p3,())) [.fr [.sym],.syms,.auto,.aF]=(z7 v r p1 p2 p3).end JD JE ((WR).wr (r,p1,p2,p3,())):=by kernel_rfl
theorem JF(v:Int)(r:RH)(p1:List Int)(p2:List Int)(p3:List Int):aK Tryz.prog ((WR).wr (r,p1,p2,p3,())) [] (aJ f337):=(aK.nil _)
abbrev rr(v:Int)(r:RH)(p1:List Int)(p2:List Int)(p3:List Int):Prop:=0≤v∧v<256∧0≤r.part∧r.part≤4∧0≤r.t.2.1∧r.t.2.1<1000000
abbrev z8(v:Int)(r:RH)(p1:List Int)(p2:List Int)(p3:List Int):tA:=jL r v
def JG:an:=cQ [] (sN) (WR) (fun x_ y_=>rr x_.1 y_.1 y_.2.1 y_.2.2.1 y_.2.2.2.1) (fun x_ y_=>z8 x_.1 y_.1 y_.2.1 y_.2.2.1 y_.2.2.2.1) JD JE
theorem O2(v:Int)(r:RH)(p1:List Int)(p2:List Int)(p3:List Int)(h_:rr v r p1 p2 p3):(z7 v r p1 p2 p3).Is (z8 v r p1 p2 p3):=by
 delta z8;obtain⟨h1,h2,h3,h4,h5,h6⟩:=h_;have e1:IntKind.u8.wrap v=v:=by rw[wrap_u8];omega
 have e2:i64.wrap (v+2)=v+2:=au (by omega) (by omega);have e3:i64.wrap (v+1)=v+1:=au (by omega) (by omega);have e4:i64.wrap (r.t.2.1+(v+1))=r.t.2.1+(v+1):=au (by omega) (by omega)
 have e5:shl .i64 v 6=v*64:=by
  have:=gL .i64 v 6 (by decide);rw[show((6:Nat):Int)=6 from rfl]at this;rw[this];exact au (by omega) (by omega)
 simp only[z7,jL,dV,ao,e1,e2,e3,e4,e5];grind
theorem O3:JG.Ok Tryz.prog 337:=
 bJ mixed aw func337 (by kernel_rfl) call337 (fun x_ y_=>JF x_.1 y_.1 y_.2.1 y_.2.2.1 y_.2.2.2.1) (fun x_ y_=>FZ x_.1 y_.1 y_.2.1 y_.2.2.1 y_.2.2.2.1) (fun x_ y_ h=>O2 x_.1 y_.1 y_.2.1 y_.2.2.1 y_.2.2.2.1 h)
def tB(r:RH)(d:Int×Int×Int):Int×Int×Int×Int×Int:=gq ((List.take 2 (List.drop 0 r.cs)).getD r.bh.toNat 0) d
abbrev F1:Type:=Int×RH×(List Int)×(List Int)×(List Int)×(Int×Int×Int)
abbrev adh(x:F1):LV:=LV.one (VV.sc (SV.int i64 (SI.sym x.1)))
abbrev adi(x:F1):List (Nat×Ev.Item):= [(0,jRd.wr x.2.1),(1,Item.ba [SV.sl 2 1] 332),(2,Item.own 1 (Ty.int
 u16) x.2.2.1),(3,Item.ba [SV.sl 4 1] 332),(4,Item.own 1 (Ty.int u16) x.2.2.2.1),(5,Item.ba [SV.sl 6 1] 332),(6,Item.own 1
 (Ty.int u16) x.2.2.2.2.1),(7,OK.wr x.2.2.2.2.2)]
def O4(r:RH)(p1:List Int)(p2:List Int)(p3:List Int)(d:Int×Int×Int):Tr (F1):=(.ite (r.part==0) (.need (0
 ≤r.bh∧r.bh<2) (.need (pZ ((List.take 2 (List.drop 0 r.cs)).getD r.bh.toNat 0) d) (.need (0≤r.bh∧r.bh<2) (.ret ((tB r d).fst,{cs:=r.cs.set (0+r.bh.toNat) (tB r d).snd.fst,bh:=r.bh,part:=r.part,node:=r.node,t:=r.t},
 p1,p2,p3,(tB r d).snd.snd))))) (.ite (r.part==4) (.need (zZ d) (.ret ((kt d).fst,r,p1,p2,p3,(kt d).snd))) (.ite (decide
 (r.part=1)) (.need (fE r p1 p2 p3) (.need (gD p1) (.need (pZ (kj p1 r.node) d) (.need (gD p1) (.ret ((gq (kj p1 r.node) d).fst,
 r,c9 p1 r.node (gq (kj p1 r.node) d).fst,p2,p3,(gq (kj p1 r.node) d).snd.snd)))))) (.ite (decide (r.part=2)) (.need (fE r p1 p2
 p3) (.need (gD p2) (.need (pZ (kj p2 r.node) d) (.need (gD p2) (.ret ((gq (kj p2 r.node) d).fst,r,p1,c9 p2 r.node (gq (kj p2
 r.node) d).fst,p3,(gq (kj p2 r.node) d).snd.snd)))))) (.need (fE r p1 p2 p3) (.need (gD p3) (.need (pZ (kj p3 r.node) d) (.need
 (gD p3) (.ret ((gq (kj p3 r.node) d).fst,r,p1,p2,c9 p3 r.node (gq (kj p3 r.node) d).fst,(gq (kj p3 r.node) d).snd.snd))))))))))
theorem O5(r:RH)(p1:List Int)(p2:List Int)(p3:List Int)(d:Dc):aH Tryz.prog [(348,TH),(346,apc),(347,ade),(262,V3),(263,Ew)] [] f335 (((ai (ah (aD 0 0)) (ai (ah (aD 7 0)) ag))).wr (())) ((Jz).wr (r,p1,p2,p3,d,())) [.one 2,.one 4,.one 6,.fr [.sym],.syms,.auto,.aF]=(O4 r p1 p2 p3 d).end adh adi ((Jz).wr (r,p1,p2,p3,d,())):=by kernel_rfl
theorem WV(r:RH)(p1:List Int)(p2:List Int)(p3:List Int)(d:Dc):aK Tryz.prog ((Jz).wr (r,p1,p2,p3,d,())) [] (aJ f335):=(aK.nil _)
def jM(r:RH)(p1 p2 p3:List Int)(d:Dc):Int×RH×List Int×List Int×List Int×Dc:=
 if r.part=0 then
  let x:=gq (r.cs.getD r.bh.toNat 0) d
  (x.1,⟨r.cs.set r.bh.toNat x.2.1,r.bh,r.part,r.node,r.t⟩,p1,p2,p3,x.2.2)
 else if r.part=4 then((kt d).1,r,p1,p2,p3,(kt d).2)
 else if r.part=1 then
  let x:=gq (kj p1 r.node) d
  (x.1,r,c9 p1 r.node x.1,p2,p3,x.2.2)
 else if r.part=2 then
  let x:=gq (kj p2 r.node) d
  (x.1,r,p1,c9 p2 r.node x.1,p3,x.2.2)
 else
  let x:=gq (kj p3 r.node) d
  (x.1,r,p1,p2,c9 p3 r.node x.1,x.2.2)
abbrev z9(r:RH)(p1:List Int)(p2:List Int)(p3:List Int)(d:Dc):Prop:=r.cs.length=2∧(r.bh=0∨r.bh=1)∧gD p1∧gD p2∧gD p3∧wU d
abbrev O6(r:RH)(p1:List Int)(p2:List Int)(p3:List Int)(d:Dc):F1:=jM r p1 p2 p3 d
def adj:an:=cQ [] ((ai (ah (aD 0 0)) (ai (ah (aD 7 0)) ag))) (Jz) (fun x_ y_=>z9 y_.1 y_.2.1 y_.2.2.1 y_.2.2.2.1 y_.2.2.2.2.1) (fun x_ y_=>O6 y_.1 y_.2.1 y_.2.2.1 y_.2.2.2.1 y_.2.2.2.2.1) adh adi
theorem adk(r:RH)(p1:List Int)(p2:List Int)(p3:List Int)(d:Dc)(h_:z9 r p1 p2 p3 d):(O4 r p1 p2 p3 d).Is (O6 r p1 p2 p3 d):=by
 delta O6;obtain⟨h1,h2,h3,h4,h5,h6⟩:=h_;have e1:(List.take 2 (List.drop 0 r.cs)).getD r.bh.toNat 0=r.cs.getD r.bh.toNat 0:=by rw[List.drop_zero,List.take_of_length_le (by omega)]
 have ea:tB r d=gq (r.cs.getD r.bh.toNat 0) d:=by unfold tB;rw[e1]
 have hb:0≤r.bh∧r.bh<2:=by omega
 simp only[O4,jM,dV,a5,aq,ao,e1,ea,Nat.zero_add];refine⟨fun e=>⟨hb,h6,hb,by rw[if_pos e]⟩,fun e=>?_⟩;rw[if_neg e];refine⟨fun e2=>⟨h6,by rw[if_pos e2]⟩,fun e2=>?_⟩;rw[if_neg e2];refine⟨fun e3=>⟨trivial,h3,h6,h3,by rw[if_pos e3]⟩,fun e3=>?_⟩;rw[if_neg e3];refine⟨fun e4=>⟨trivial,h4,h6,h4,by rw[if_pos e4]⟩,fun e4=>?_⟩;rw[if_neg e4];exact⟨trivial,h5,h6,h5,rfl⟩
theorem adl:adj.Ok Tryz.prog 335:=
 bJ mixed ((al WS (al akv (al adg (al y8 (al y9 aw)))))) func335 (by kernel_rfl) call335 (fun x_ y_=>WV y_.1 y_.2.1 y_.2.2.1 y_.2.2.2.1 y_.2.2.2.2.1) (fun x_ y_=>O5 y_.1 y_.2.1 y_.2.2.1 y_.2.2.2.1 y_.2.2.2.2.1) (fun x_ y_ h=>adk y_.1 y_.2.1 y_.2.2.1 y_.2.2.2.1 y_.2.2.2.2.1 h)
def fx:List Int→Dc→Bool×List Int×Dc
 | [],d=>(decide (d.2.2≤0),[],d)
 |x::r,d=>if 0<d.2.2 then fx r (wV d x)else(true,x::r,d)
theorem JH{d:Dc}(h:wU d){b:Int}(hb:By b):wU (wV d b):=by
 obtain⟨h1,h2,h3,h4⟩:=h;obtain⟨h5,h6⟩:=hb;unfold wV
 split
 ·exact⟨h1,h2,h3,h4⟩
 ·exact⟨by simp only;omega,h2,h3,by simp only;omega⟩
theorem JI:∀ (b:List Int) (d:Dc),wU d→aN b→wU (fx b d).2.2∧aN (fx b d).2.1∧(fx b d).2.1.length≤b.length∧((fx b d).1=true→(fx b d).2.2.2.2=0)
 | [],d,h,hb=>by
  refine⟨h,hb,Nat.le_refl _,fun e=>?_⟩;have:=h.2.2.2;simp only[fx,decide_eq_true_eq]at e ⊢;omega
 |x::r,d,h,hb=>by
  have hr:aN r:=fun z hz=>hb z (by simp[hz]);unfold fx
  split
  ·have:=JI r (wV d x) (JH h (hb x (by simp))) hr;exact⟨this.1,this.2.1,by rw[List.length_cons];omega,this.2.2.2⟩
  ·have:=h.2.2.2;exact⟨h,hb,Nat.le_refl _,fun _=>by simp only;omega⟩
def fO(b:List Int)(d:Dc):Bool×List Int×Dc:=if(fx b d).1=true then(!Tx (fx b d).2.2,(fx b d).2.1,(fx b d).2.2)else(false,[],(fx b d).2.2)
abbrev Aa:Type:=(List Int)×(Int×Int×Int)
abbrev Ab:aQ St Aa:=(aT (ai (ah (aD (0) (0))) (ae (ah (gg false false (Ty.int IntKind.u8))) (jk 20 ag)))
 (ae (cx OK) ag)).lV (fun y=>(y.1.1,y.2.1)) (fun x=>((x.1,()),(x.2,()))) (fun _=>rfl)
abbrev O7:List Wk:= [.fr (cb 22 [(0,.ak),(1,.ak)]),.syms,.auto,.aF]
abbrev adm:Exit→List Wk:=wT O7 0 [.fr (cb 22 [(0,.ak),(1,.ak)]),.syms,.auto,.aF] [.fr (cb 22 [(4,.ak),(5,.ak)]),
 .syms,.auto,.aF]
abbrev F2:Type:=Bool×(Int×Int×Int)
abbrev TL(x:F2):Exit×St:=(Exit.ret,⟨(gA 4 (LV.one (VV.sc (SV.gY (Value.slice none 0 0)))::(LV.one (VV.sc (SV.bool
 (SB.sym x.1)))::(gA 16 [])))),[some (OK.wr x.2)]⟩)
abbrev F3:Type:=(List Int)×(Int×Int×Int)
abbrev TM(x:F3):Exit×St:=(Exit.exit 0,⟨(LV.one (VV.sc (SV.ptr 0 0))::(LV.one (VV.sc (SV.rd false false (Ty.int
 IntKind.u8) x.1))::(gA 20 []))),[some (OK.wr x.2)]⟩)
def Ac(b':List Int)(d':Int×Int×Int):Tr (Aa⊕(F2⊕F3)):=(.need (tn d') (.ite (decide (0<
 d'.snd.snd)) (.ite ((↑b'.length:Int)==0) (.ret (.inr (.inl (false,d')))) (.need ((0:Int)≤0∧0<(↑b'.length:Int)) (.need (zW (b'.getD
 0 0) d') (.need ((0:Int)≤1∧1≤(↑b'.length:Int)∧(↑b'.length:Int)≤(↑b'.length:Int)) (.ret (.inl (List.take ((↑b'.length:Int)-
 1).toNat (List.drop 1 b'),wV d' (b'.getD 0 0)))))))) (.ret (.inr (.inr (b',d'))))))
theorem O8(b:List Int)(d:Dc)(b':List Int)(d':Int×Int×Int):ct Tryz.prog [(332,FN),(333,OQ),(334,OU)] [] f317 0 ((mA).wr (d,())) adm (Ab.wr (b',d'))=(Ac b' d').res Ab.wr (Sum.elim TL TM):=by kernel_rfl
abbrev Ad(b':List Int)(d':Int×Int×Int):Prop:=wU d'∧aN b'∧b'.length<1099511627776
abbrev O9(b':List Int)(d':Int×Int×Int):Bool:= !(fx b' d').1
abbrev Pa(b':List Int)(d':Int×Int×Int):F2:=(false,(fx b' d').2.2)
abbrev Pb(b':List Int)(d':Int×Int×Int):F3:=((fx b' d').2.1,(fx b' d').2.2)
abbrev Pc:Aa→aG:=mW (fun x_=>Ad x_.1 x_.2) (fun x_=>O9 x_.1 x_.2) (fun x_=>Pa x_.1 x_.2) (fun x_=>Pb x_.1 x_.2) TL TM
theorem adn(b':List Int)(d':Int×Int×Int)(h_:Ad b' d'):cK (fun x_:Aa=>Ac x_.1 x_.2) (b',d') (bif O9 b' d' then .inl (Pa b' d')else .inr (Pb b' d')):=by
 delta O9 Pa Pb;obtain⟨h1,h2,h3⟩:=h_
 induction b' generalizing d' with
 |nil=>
  refine .stop ?_;simp only[Ac,a5,aq,ao,dV,fx,List.length_nil];refine⟨trivial,fun h=>⟨fun _=>?_,fun h=>absurd rfl h⟩,fun h=>?_⟩
  ·rw[decide_eq_false (by omega)];rfl
  ·rw[decide_eq_true (by omega)];rfl
 |cons x r ih=>
  have hr:aN r:=fun z hz=>h2 z (by simp[hz]);have hx:By x:=h2 x (by simp);rw[List.length_cons]at h3
  by_cases hn:0<d'.2.2
  ·have sP:=ih (wV d' x) (JH h1 hx) hr (by omega);rw[fx,if_pos hn];refine .go ?_ sP;simp only[Ac,a5,aq,ao,dV,List.length_cons];refine⟨trivial,fun h=>⟨fun h=>by omega,fun _=>⟨⟨by omega,by omega⟩,⟨h1,hx⟩,⟨by omega,by omega,by omega⟩,?_⟩⟩,fun h=>absurd hn h⟩;have e:(((r.length+1:Nat):Int)-1).toNat=r.length:=(by omega);rw[e];simp
  ·rw[fx,if_neg hn];refine .stop ?_;simp only[Ac,a5,aq,ao,dV];exact⟨trivial,fun h=>absurd h hn,fun _=>rfl⟩
theorem WW(b:List Int)(d:Dc):∀x:Aa,Ex Tryz.prog ((mA).wr (d,())) (.loop (aP f317 0)) (Ab.wr x) (Pc x):=
 cn mixed ((al zV (al Jw (al Jx aw)))) (ws:=adm) (aK.nil _) (fun x_=>O8 b d x_.1 x_.2) (fun z=>by cases z<;>(intro e;cases e)) oA (fun x_ h=>adn x_.1 x_.2 h)
def ado(b:List Int)(d:Int×Int×Int):Int×Int×Int:=(fx b d).snd.snd
abbrev TN:Type:=(List Int)×Bool×(Int×Int×Int)
abbrev apd(x:TN):LV:=LV.c6 [VV.sc (SV.rd false false (Ty.int IntKind.u8) x.1),VV.sc (SV.bool (SB.sym x.2.1))]
abbrev ape(x:TN):List (Nat×Ev.Item):= [(0,OK.wr x.2.2)]
def adp(b:List Int)(d:Int×Int×Int):Tr (TN):=(.need (Ad b d) (.ite (!(fx b d).fst) (.ret ([],false,(fx b
 d).snd.snd)) (.need (zX (ado b d)) (.ret ((fx b d).snd.fst,!Tx (ado b d),(fx b d).snd.snd)))))
theorem WX(b:List Int)(d:Dc):aH Tryz.prog [(332,FN),(333,OQ),(334,OU)] [(0,bU Ab ((mA).wr (d,())) O7 (Pc))] f317 (((ai (ah (aD 0 0)) (ae (ah (gg false false u8)) ag))).wr (b,())) ((mA).wr (d,())) [.fr [.rd false u8],.fr [.sym],.syms,.auto,.aF]=(adp b d).end apd ape ((mA).wr (d,())):=by kernel_rfl
theorem adq(b:List Int)(d:Dc):aK Tryz.prog ((mA).wr (d,())) [(0,bU Ab ((mA).wr (d,())) O7 (Pc))] (aJ f317):=(aK.bI (iu (by kernel_rfl) (bM (hp:=(mA).wr (d,())) (WW b d)) iE))
abbrev F4(b:List Int)(d:Dc):Prop:=wU d∧aN b∧b.length<1099511627776
abbrev adr(b:List Int)(d:Dc):TN:=((fO b d).2.1,(fO b d).1,(fO b d).2.2)
def apf:an:=cQ [] ((ai (ah (aD 0 0)) (ae (ah (gg false false u8)) ag))) (mA) (fun x_ y_=>F4 x_.1 y_.1) (fun x_ y_=>adr x_.1 y_.1) apd ape
theorem akx(b:List Int)(d:Dc)(h_:F4 b d):(adp b d).Is (adr b d):=by
 delta adr;simp only[adp,fO,aq,km,ao];refine⟨h_,fun h=>?_,fun h=>?_⟩
 ·rw[if_pos h];exact⟨trivial,rfl⟩
 ·rw[if_neg (by simp[h])]
theorem aky:apf.Ok Tryz.prog 317:=
 bJ mixed ((al zV (al Jw (al Jx aw)))) func317 (by kernel_rfl) call317 (fun x_ y_=>adq x_.1 y_.1) (fun x_ y_=>WX x_.1 y_.1) (fun x_ y_ h=>akx x_.1 y_.1 h)
def tC(part:Int):Int:=if part=0 then 2 else if part=1∨part=2 then 256 else 64
theorem JJ(part:Int):shl .i64 1 (tq part)=tC part:=by
 unfold tq tC
 split
 ·exact k9 1 (by omega)
 ·split
  ·exact k9 8 (by omega)
  ·exact k9 6 (by omega)
theorem size_pos(part:Int):0≤tq part:=by unfold tq;split<;>(try split)<;>omega
structure ROk (r:RH):Prop where
 len:r.cs.length=2
 bh:r.bh=0∨r.bh=1
 part:0≤r.part∧r.part≤4
 node:1≤r.node∧r.node<tC r.part
 aGd:0≤r.t.2.1∧r.t.2.1≤4096
 tb:0≤r.t.2.2∧r.t.2.2<256
 p4:r.part=4→r.t.2.1≤4032
theorem xS(p:Int)(d:Dc):0≤(gq p d).1∧(gq p d).1≤1:=by
 unfold gq jK
 split
 ·simp only;split<;>simp
 ·simp
theorem ads(d:Dc):0≤(kt d).1∧(kt d).1≤1:=by
 unfold kt jK
 split
 ·split<;>simp
 ·simp
theorem vP(r:RH)(p1 p2 p3:List Int)(d:Dc):(jM r p1 p2 p3 d).2.1.bh=r.bh∧(jM r p1 p2 p3 d).2.1.part=r.part∧(jM r p1 p2 p3 d).2.1.node=r.node∧(jM r p1 p2 p3 d).2.1.t=r.t∧(jM r p1 p2 p3 d).2.1.cs.length=r.cs.length∧0≤(jM r p1 p2 p3 d).1∧(jM r p1 p2 p3 d).1≤1:=by
 have h:=ads d;unfold jM
 split
 ·have:=xS (r.cs.getD r.bh.toNat 0) d;exact⟨rfl,rfl,rfl,rfl,by simp,this⟩
 ·split
  ·exact⟨rfl,rfl,rfl,rfl,rfl,h⟩
  ·split
   ·exact⟨rfl,rfl,rfl,rfl,rfl,xS _ d⟩
   ·split
    ·exact⟨rfl,rfl,rfl,rfl,rfl,xS _ d⟩
    ·exact⟨rfl,rfl,rfl,rfl,rfl,xS _ d⟩
def fX(r:RH)(p1 p2 p3:List Int)(d:Dc):(eP×Bool)×RH×List Int×List Int×List Int×Dc:=
 let x:=jM r p1 p2 p3 d
 let n:=2*r.node+x.1
 if n<tC r.part then(((0,0,0),false),⟨x.2.1.cs,r.bh,r.part,n,r.t⟩,x.2.2)
 else
  let y:=jL ⟨x.2.1.cs,r.bh,r.part,1,r.t⟩ (n-tC r.part)
  if y.1=true then((y.2.t,true),y.2,x.2.2)else(((0,0,0),false),y.2,x.2.2)
theorem CM(part:Int):2≤tC part∧tC part≤256:=by unfold tC;split<;>(try split)<;>omega
theorem WY{r:RH}(h:ROk r){v:Int}(h0:0≤v)(h1:v<tC r.part)(hn:r.node=1):ROk (jL r v).2:=by
 obtain⟨k1,k2,k3,k4,k5,k6,k7⟩:=h;unfold jL
 split
 ·rename_i e;rw[e]at h1;have h1:v<2:=h1;refine⟨k1,by simp only;omega,by simp only;split<;>omega,?_,by simp,by simp,by simp⟩;simp only
  split<;>(rw[hn];decide)
 ·split
  ·rename_i e;rw[e]at h1;have h1:v<256:=h1;exact⟨k1,k2,by simp,by simp only[hn];decide,k5,⟨h0,h1⟩,by simp⟩
  ·split
   ·rename_i e;exact⟨k1,k2,by simp,by simp only[hn];decide,k5,k6,by simp⟩
   ·split
    ·rename_i e;rw[e]at h1;have h1:v<64:=h1;exact⟨k1,k2,by simp,by simp only[hn];decide,by simp only;omega,k6,by simp only;omega⟩
    ·rename_i e1 e2 e3 e4;have e5:r.part=4:=(by omega);rw[e5]at h1;have h1:v<64:=h1;have:=k7 e5;exact⟨k1,k2,by simp,by simp only[hn];decide,by simp only;omega,k6,by simp⟩
theorem JK{r:RH}(h:ROk r)(p1 p2 p3:List Int)(d:Dc):ROk (fX r p1 p2 p3 d).2.1:=by
 obtain⟨h1,h2,h3,h4,h5,h6,h7⟩:=vP r p1 p2 p3 d;have hc:=CM r.part;have hr:=h;obtain⟨k1,k2,k3,k4,k5,k6,k7⟩:=h;unfold fX;simp only
 split
 ·rename_i e;exact⟨by simp only;omega,k2,k3,by simp only;omega,k5,k6,k7⟩
 ·have:=WY (r:=⟨(jM r p1 p2 p3 d).2.1.cs,r.bh,r.part,1,r.t⟩) ⟨by simp only;omega,k2,k3,by simp only;omega,k5,k6,k7⟩ (v:=2*r.node+(jM r p1 p2 p3 d).1-tC r.part) (by omega) (by simp only;omega) rfl
  split<;>exact this
def bb(r:RH)(p1:List Int)(p2:List Int)(p3:List Int)(d:Int×Int×Int):Int×RH×List Int×List Int×List Int×
 Int×Int×Int:=jM r p1 p2 p3 d
def hY(r:RH)(p1:List Int)(p2:List Int)(p3:List Int)(d:Int×Int×Int):Int:=i64.wrap (i64.wrap
 (i64.wrap (2*r.node)+(bb r p1 p2 p3 d).fst)-shl i64 1 (tq (bb r p1 p2 p3 d).snd.fst.part))
def tD(r:RH)(p1:List Int)(p2:List Int)(p3:List Int)(d:Int×Int×Int):Int×Int×Int:=(bb r p1 p2 p3
 d).snd.fst.t
def hZ(r:RH)(p1:List Int)(p2:List Int)(p3:List Int)(d:Int×Int×Int):RH:= {cs:=(bb r p1 p2 p3 d).snd.fst.cs,bh:=(bb r p1 p2 p3 d).snd.fst.bh,part:=(bb r p1 p2 p3 d).snd.fst.part,node:=1,t:=tD r p1 p2 p3 d}
abbrev xT:Type:=Int×Int×Int×Bool×RH×(List Int)×(List Int)×(List Int)×(Int×Int×Int)
abbrev TO(x:xT):LV:=LV.c6 [VV.agg [SV.int i64 (SI.sym x.1),SV.int i64 (SI.sym x.2.1),SV.int
 IntKind.u8 (SI.sym x.2.2.1)],VV.sc (SV.bool (SB.sym x.2.2.2.1))]
abbrev TP(x:xT):List (Nat×Ev.Item):= [(0,jRd.wr x.2.2.2.2.1),(1,Item.ba [SV.sl 2 1] 332),(2,Item.own 1 (Ty.int
 u16) x.2.2.2.2.2.1),(3,Item.ba [SV.sl 4 1] 332),(4,Item.own 1 (Ty.int u16) x.2.2.2.2.2.2.1),(5,Item.ba [SV.sl 6 1] 332),(6,
 Item.own 1 (Ty.int u16) x.2.2.2.2.2.2.2.1),(7,OK.wr x.2.2.2.2.2.2.2.2)]
def F5(r:RH)(p1:List Int)(p2:List Int)(p3:List Int)(d:Int×Int×Int):Tr (xT):=(.need (z9 r p1 p2 p3
 d) (.need ((Out.leaf none (LV.one (VV.sc (SV.int i64 (SI.sym (bb r p1 p2 p3 d).snd.fst.node)))) [],[0])=(Out.leaf none (LV.one (VV.sc
 (SV.int i64 (SI.sym r.node)))) [],[0])) (.need (vO {cs:=(bb r p1 p2 p3 d).snd.fst.cs,bh:=(bb r p1 p2 p3 d).snd.fst.bh,part:=(bb r p1 p2 p3 d).snd.fst.part,node:=i64.wrap (i64.wrap (2*r.node)+(bb r p1 p2 p3 d).fst),t:=tD r p1 p2 p3 d}
 (bb r p1 p2 p3 d).snd.snd.fst (bb r p1 p2 p3 d).snd.snd.snd.fst (bb r p1 p2 p3 d).snd.snd.snd.snd.fst) (.need (0≤tq (bb r
 p1 p2 p3 d).snd.fst.part) (.ite (decide (i64.wrap (i64.wrap (2*r.node)+(bb r p1 p2 p3 d).fst)<shl i64 1 (tq
 (bb r p1 p2 p3 d).snd.fst.part))) (.ret (0,0,0,false,{cs:=(bb r p1 p2 p3 d).snd.fst.cs,bh:=(bb r p1 p2 p3 d).snd.fst.bh,part:=(bb r p1 p2 p3 d).snd.fst.part,node:=i64.wrap (i64.wrap (2*r.node)+(bb r p1 p2 p3 d).fst),t:=(bb r p1 p2 p3 d).snd.fst.t},
 (bb r p1 p2 p3 d).snd.snd.fst,(bb r p1 p2 p3 d).snd.snd.snd.fst,(bb r p1 p2 p3 d).snd.snd.snd.snd.fst,(bb r p1 p2 p3
 d).snd.snd.snd.snd.snd)) (.need (rr (hY r p1 p2 p3 d) (hZ r p1 p2 p3 d) (bb r p1 p2 p3 d).snd.snd.fst (bb r p1 p2 p3
 d).snd.snd.snd.fst (bb r p1 p2 p3 d).snd.snd.snd.snd.fst) (.ite (!(jL (hZ r p1 p2 p3 d) (hY r p1 p2 p3 d)).fst) (.ret (0,0,0,
 false,(jL (hZ r p1 p2 p3 d) (hY r p1 p2 p3 d)).snd,(bb r p1 p2 p3 d).snd.snd.fst,(bb r p1 p2 p3 d).snd.snd.snd.fst,
 (bb r p1 p2 p3 d).snd.snd.snd.snd.fst,(bb r p1 p2 p3 d).snd.snd.snd.snd.snd)) (.ret ((jL (hZ r p1 p2 p3 d) (hY r p1 p2 p3
 d)).snd.t.fst,(jL (hZ r p1 p2 p3 d) (hY r p1 p2 p3 d)).snd.t.snd.fst,(jL (hZ r p1 p2 p3 d) (hY r p1 p2 p3
 d)).snd.t.snd.snd,true,(jL (hZ r p1 p2 p3 d) (hY r p1 p2 p3 d)).snd,(bb r p1 p2 p3 d).snd.snd.fst,(bb r p1 p2 p3
 d).snd.snd.snd.fst,(bb r p1 p2 p3 d).snd.snd.snd.snd.fst,(bb r p1 p2 p3 d).snd.snd.snd.snd.snd)))))))))
theorem JL(r:RH)(p1:List Int)(p2:List Int)(p3:List Int)(d:Dc):aH Tryz.prog [(335,adj),(336,TK),(337,JG)] [] f318 (((ai (ah (aD 0 0)) (ai (ah (aD 7 0)) ag))).wr (())) ((Jz).wr (r,p1,p2,p3,d,())) [.one 2,.one 4,.one 6,.fr [.sym],.syms,.auto,.aF]=(F5 r p1 p2 p3 d).end TO TP ((Jz).wr (r,p1,p2,p3,d,())):=by kernel_rfl
theorem Pd(r:RH)(p1:List Int)(p2:List Int)(p3:List Int)(d:Dc):aK Tryz.prog ((Jz).wr (r,p1,p2,p3,d,())) [] (aJ f318):=(aK.nil _)
abbrev vQ(r:RH)(p1:List Int)(p2:List Int)(p3:List Int)(d:Dc):Prop:=ROk r∧gD p1∧gD p2∧gD p3∧wU d
abbrev F6(r:RH)(p1:List Int)(p2:List Int)(p3:List Int)(d:Dc):xT:=((fX r p1 p2 p3 d).1.1.1,(fX r p1 p2 p3 d).1.1.2.1,(fX r p1 p2 p3 d).1.1.2.2,(fX r p1 p2 p3 d).1.2,(fX r p1 p2 p3 d).2)
def TQ:an:=cQ [] ((ai (ah (aD 0 0)) (ai (ah (aD 7 0)) ag))) (Jz) (fun x_ y_=>vQ y_.1 y_.2.1 y_.2.2.1 y_.2.2.2.1 y_.2.2.2.2.1) (fun x_ y_=>F6 y_.1 y_.2.1 y_.2.2.1 y_.2.2.2.1 y_.2.2.2.2.1) TO TP
theorem WZ(r:RH)(p1:List Int)(p2:List Int)(p3:List Int)(d:Dc)(h_:vQ r p1 p2 p3 d):(F5 r p1 p2 p3 d).Is (F6 r p1 p2 p3 d):=by
 delta F6;obtain⟨hr,h3,h4,h5,h6⟩:=h_;obtain⟨b1,b2,b3,b4,b5,b6,b7⟩:=vP r p1 p2 p3 d;obtain⟨k1,k2,k3,k4,k5,k6,k7⟩:=hr;have hc:=CM r.part;have ea:bb r p1 p2 p3 d=jM r p1 p2 p3 d:=rfl;have w1:i64.wrap (2*r.node)=2*r.node:=au (by omega) (by omega);have w2:i64.wrap (2*r.node+(jM r p1 p2 p3 d).1)=2*r.node+(jM r p1 p2 p3 d).1:=au (by omega) (by omega);have w3:i64.wrap (2*r.node+(jM r p1 p2 p3 d).1-tC r.part)=2*r.node+(jM r p1 p2 p3 d).1-tC r.part:=au (by omega) (by omega)
 have B0:hY r p1 p2 p3 d=2*r.node+(jM r p1 p2 p3 d).1-tC r.part:=by
  unfold hY;rw[ea,b2,JJ,w1,w2,w3]
 have ZU:tD r p1 p2 p3 d=r.t:=by unfold tD;rw[ea,b4]
 have ea3:hZ r p1 p2 p3 d=⟨(jM r p1 p2 p3 d).2.1.cs,r.bh,r.part,1,r.t⟩:=by
  unfold hZ;rw[ea,b1,b2,ZU]
 simp only[F5,fX,aq,a5,km,ao,ea,B0,ZU,ea3,b1,b2,b3,b4,w1,w2,JJ];refine⟨⟨k1,k2,h3,h4,h5,h6⟩,trivial,trivial,size_pos _,fun h=>by rw[if_pos h],fun h=>?_⟩;rw[if_neg h];refine⟨⟨by omega,by omega,k3.1,k3.2,by simp only;omega,by simp only;omega⟩,fun h1=>by rw[if_pos h1],fun h1=>by rw[if_neg (by simp[h1])]⟩
theorem W0:TQ.Ok Tryz.prog 318:=
 bJ mixed ((al adl (al WU (al O3 aw)))) func318 (by kernel_rfl) call318 (fun x_ y_=>Pd y_.1 y_.2.1 y_.2.2.1 y_.2.2.2.1 y_.2.2.2.2.1) (fun x_ y_=>JL y_.1 y_.2.1 y_.2.2.1 y_.2.2.2.1 y_.2.2.2.2.1) (fun x_ y_ h=>WZ y_.1 y_.2.1 y_.2.2.1 y_.2.2.2.1 y_.2.2.2.2.1 h)
end Go.Proofs.YtnbkagglkajbkaaGreat
end
noncomputable section
namespace Go.Proofs.YtnbkagglkajbkaaGreat
open Go Go.Ev Go.Lib Go.RowKit Go.Proofs.Tryz
open Go.IntKind (i64 signed u16 u64 wrap)
set_option maxHeartbeats 4000000
theorem W1(w:World):Calls Tryz.prog 85 #[.slice none 0 0,.int .i64 0] w fun e w'=>e= .returned (.slice none 0 0)∧w'=w:=by
 go_enter func85,ntmps85
 go_wp2
 go_ret
 exact⟨rfl,rfl⟩
theorem W2(n:Nat)(w:World)(h0:0<n)(h1:n≤140737488355328):Calls Tryz.prog 85 #[.slice none 0 0,.int .i64 n] w fun e w'=>
  e= .returned (.slice (some ⟨w.heap.size,0,none⟩) 0 (grownCap w n 0 5))∧
   w'=w.drew.alloc (.cells (#[]++Builtin.zeroCells (Value.int .u8 0).cells n++Builtin.zeroCells (Value.int .u8 0).cells (grownCap w n 0 5-n)) 5):=by
 have h2:¬ ((n:Int)<0):=by omega
 have h3:wrap64 ((0:Int)-(0:Int))=0:=by unfold wrap64;omega
 have h4:wrap64 ((n:Int)-0)=(n:Int):=by unfold wrap64;omega
 have h5:(n:Int)>0:=by omega
 have aGe:grownCap w n 0 5≤9223372036854775807:=by
  have:=grownCap_le_maxLen w n 0 5 (by unfold maxLen;omega);unfold maxLen at this;omega
 have hrz:∀ty,(Builtin.append_ #[27,3] ty #[.slice none 0 0,.int .i64 n]).run Tryz.prog w=
   .ok (.slice (some ⟨w.heap.size,0,none⟩) n (grownCap w n 0 5)) (w.drew.alloc (.cells (#[]++Builtin.zeroCells (Value.int .u8 0).cells n++Builtin.zeroCells (Value.int .u8 0).cells (grownCap w n 0 5-n)) 5)):=fun ty=>by
  have hi0:(Tryz.prog.info? 5).map (fun i=>(i.zero,i.size,i.bytes))=some (some (.int .u8 0),1,1):=by kernel_rfl
  obtain⟨i,hi,he⟩:=map_some hi0;have e1:i.zero=some (.int .u8 0):=congrArg Prod.fst he;have e2:i.size=1:=congrArg (fun x=>x.2.1) he;have e3:i.bytes=1:=congrArg (fun x=>x.2.2) he;have hb:n*i.bytes≤140737488355328:=by rw[e3];omega
  have h:=Lib.run_append_grow_zeros (P:=Tryz.prog) w 27 3 ty 5 i (.int .u8 0) .i64 .i64 (by kernel_rfl) (by kernel_rfl) hi e1 none 0 0 [] (run_firstCells_none w.drew i.size 0 0 0) n h0 (by omega) (by omega) (by omega) (by omega)
   (growslice_fits (need:=0+n) (old:=0) (by omega) (by rw[Nat.zero_add];exact hb))
  rw[Nat.zero_add]at h;exact h
 have hGn:n≤grownCap w n 0 5:=grownCap_ge w _ _ _;generalize grownCap w n 0 5=G at*
 go_enter func85,ntmps85
 go_wp2_with (at_builtin;refine Lib.wpList_append_run _ rfl _ _ _ _ rfl _ _ rfl rfl _ _ (hrz _) ?_)
 all_goals (go_ret;exact⟨rfl,rfl⟩)
def adt:an:=⟨[],fun args hp=>match args,hp with
 | [.one (.sc (.gY (.slice none 0 0))),.one (.sc (.int .i64 n))],[]=>.leaf (some (0≤n.val∧n.val≤140737488355328)) (.one (.sc (.sl 0 0))) [(0,.own 0 (.int .u8) [])]
 |_,_=>.fail⟩
theorem akA:adt.Ok Tryz.prog 85:=by
 refine⟨fun args hp Q h=>g8.done call85 ?_⟩;simp only[adt]at h
 split at h
 ·rename_i args hp n;obtain⟨⟨h0,h1⟩,hq⟩:=h;intro β w vals hh eE
  cases eE with
  |cons a1 t1=>
   cases t1 with
   |cons a2 t2=>
    cases t2
    rename_i v1 v2;obtain rfl:v1= .slice none 0 0:=a1.2;have e:v2= .int .i64 n.val:=a2;subst e;rcases Int.lt_or_le 0 n.val with hn|hn
    ·obtain⟨k,hk⟩:∃k:Nat,n.val=k:=⟨n.val.toNat,by omega⟩;rw[hk]at h0 h1 hn ⊢;refine(W2 k w (by omega) (by omega)).mono ?_
     rintro e w' ⟨rfl,rfl⟩
     have hGn:k≤grownCap w k 0 5:=grownCap_ge w _ _ _;generalize grownCap w k 0 5=G at*;generalize hcs:(#[]++Builtin.zeroCells (Value.int .u8 0).cells k++Builtin.zeroCells (Value.int .u8 0).cells (G-k))=cs
     have hlen:cs.toList.length=G:=by
      rw[← hcs];simp[Builtin.zeroCells,Value.cells];omega
     have hdr:bd w [] β β [] w.drew:=hh.drew _ _
     obtain⟨β',k1,k2,k3⟩:=hdr.rf (id:=0) rfl (v:=.slice (some ⟨w.heap.size,0,none⟩) 0 G) (ver:=0) (t:=.int .u8) (l:= []) (w':=w.drew.alloc (.cells cs 5)) (by simp) rfl rfl (fun b hb=>heap_alloc_old w.drew _ hb)
      ⟨_,_,_,rfl,rfl,Nat.zero_le _,fun e=>(by cases e),fun _=>⟨_,[],[],cs.toList,5,(0,0),rfl,rfl,by simpa using heap_alloc_new w.drew (.cells cs 5),rfl,.nil,by simp[Ty.w,hlen],.inl rfl⟩⟩
      (fun a n c e _=>by cases e;exact Nat.le_refl _)
     exact⟨_,β',_,_,rfl,⟨_,hq,rfl⟩,⟨rfl,0,by rw[show aI _ []=setAt [] 0 _ from rfl,c7,if_pos rfl];rfl,Nat.le_refl _,fun _=>k3.symm⟩,k1⟩
    ·have BR:n.val=0:=(by omega);rw[BR];refine(W1 w).mono ?_
     rintro e w' ⟨rfl,rfl⟩
     obtain⟨β',k1,k2,k3⟩:=hh.Nn (.int .u8);exact⟨_,β',_,_,rfl,⟨_,hq,rfl⟩,k3,k1⟩
 ·exact h.elim
end Go.Proofs.YtnbkagglkajbkaaGreat
end
noncomputable section
namespace Go.Proofs.YtnbkagglkajbkaaGreat
open Go Go.Ev Go.Proofs.Tryz
open Go.IntKind (i64 signed u16 u64 wrap)
set_option maxRecDepth 100000
noncomputable section
abbrev JM:Func:=f42
abbrev JN:aQ (List LV) (List (List Int)×Int×List (List Int)×Int×Int×Unit):=ae (ah (gg false false (.sl u8))) (jk 2 (ae (ah (aA .i64)) (jk 5 (ae (ah (gg false false (.sl u8))) (ae (ah (aA .i64)) (ae (ah (aA .i64)) (jk 24 ag)))))))
abbrev apg:List Wk:= [.fr (cb 36 [(0,.ak),(3,.sym),(9,.ak),(10,.sym),(11,.sym)])]
abbrev adu:aQ (List LV) (List (List Int)×Int×Unit):=ae (ah (gg false false (.sl u8))) (jk 2 (ae (ah (aA .i64)) (jk 32 ag)))
abbrev awb:List Wk:= [.fr (cb 36 [(0,.ak),(3,.sym)])]
theorem adv(l0 ls:List (List Int))(s n i:Int):ct Tryz.prog [] [] JM 0 [] (wsE apg 0 awb) ((aT JN ag).wr ((l0,s,ls,n,i,()),()))=
  .ite (decide (i<n)) (.need (0≤i∧i<ls.length) (.ite (decide (i64.wrap (s+(ls.getD i.toNat []).length)<0)) .fail
   (.leaf .normal ((aT JN ag).wr ((l0,i64.wrap (s+(ls.getD i.toNat []).length),ls,n,i64.wrap (i+1),()),())))))
   (.leaf (.exit 0) ((aT adu ag).wr ((l0,s,()),()))):=by kernel_rfl
theorem CN(ls:List (List Int))(i:Nat)(h:i<ls.length):(ls.take (i+1)).flatten=(ls.take i).flatten++ls.getD i []:=by
 rw[List.take_add_one,List.flatten_append,List.getD_eq_getElem?_getD,List.getElem?_eq_getElem h];simp
theorem F7(ls:List (List Int))(i:Nat):(ls.take i).flatten.length≤ls.flatten.length:=by
 have:ls.flatten=(ls.take i).flatten++(ls.drop i).flatten:=by rw[← List.flatten_append,List.take_append_drop]
 rw[this,List.length_append];omega
def aph(x:(List (List Int)×Int×List (List Int)×Int×Int×Unit)×Unit):aG:=
 .need (x.1.2.1=0∧x.1.2.2.2.1=x.1.2.2.1.length∧x.1.2.2.2.2.1=0∧x.1.2.2.1.flatten.length≤140737488355328∧x.1.2.2.1.length≤140737488355328) (.leaf (.exit 0) ((aT adu ag).wr ((x.1.1,(x.1.2.2.1.flatten.length:Int),()),())))
theorem W3(x):Ex Tryz.prog [] (.loop (aP JM 0)) ((aT JN ag).wr x) (aph x):=by
 obtain⟨⟨l0,s,ls,n,i,_⟩,_⟩:=x;refine Ex.need fun⟨h1,h2,h3,h4,h5⟩=>?_;simp only at h1 h2 h3 h4 h5;subst h1 h2 h3
 refine yZ mixed aw (aK.nil _) (fun k=>ls.length-k) (fun k:Nat=>(aT JN ag).wr ((l0,((ls.take k).flatten.length:Int),ls,(ls.length:Int),(k:Int),()),())) (fun k=>k≤ls.length)
  (fun k=>.leaf (.exit 0) ((aT adu ag).wr ((l0,(ls.flatten.length:Int),()),()))) (fun k _=>adv l0 ls _ _ _) (fun k R hk hs=>?_) 0 (Nat.zero_le _)
 ·have hle:=F7 ls k;refine⟨fun hb=>?_,fun hb=>?_⟩
  ·have dQ:k<ls.length:=(by simpa using hb);have hft:=CN ls k dQ;have aBE:=F7 ls (k+1);have hlen:((ls.take (k+1)).flatten.length:Int)=(ls.take k).flatten.length+(ls.getD k []).length:=(by rw[hft,List.length_append];omega);refine⟨⟨by omega,by omega⟩,fun sa=>?_,fun _=>.inl ⟨rfl,k+1,?_,dQ,by omega,hs⟩⟩
   ·rw[au (by omega) (by simp only[Int.toNat_natCast];omega)]at sa;simp at sa;omega
   ·rw[au (by omega) (by simp only[Int.toNat_natCast];omega),au (by omega) (by omega)];simp only[Int.toNat_natCast];rw[← hlen];rfl
  ·have hge:k=ls.length:=(by simp at hb;omega);subst hge;rw[List.take_length];exact .inr ⟨by simp,hs⟩
abbrev JO:aQ (List LV) (List (List Int)×Int×Int×Unit):=jk 6 (ai (ah (j0 0 0)) (jk 18 (ae (ah (gg false false (.sl u8))) (ae (ah (aA .i64)) (ae (ah (aA .i64)) (jk 8 ag))))))
abbrev api:List Wk:= [.fr (cb 36 [(6,.ak),(25,.ak),(26,.sym),(27,.sym)]),.auto,.aF]
abbrev adw:aQ (List LV) Unit:=jk 6 (ai (ah (j0 0 0)) (jk 29 ag))
abbrev awc:List Wk:= [.fr (cb 36 [(6,.ak)]),.auto,.aF]
abbrev qE:aQ Hp (List Int×Unit):=ae (cE 0 u8) ag
theorem adx(ls:List (List Int))(acc:List Int)(n i:Int):ct Tryz.prog [] [] JM 2 [] (wsE api 2 awc) ((aT JO qE).wr ((ls,n,i,()),(acc,())))=
  .ite (decide (i<n)) (.need (0≤i∧i<ls.length) (.need ((acc.length+(ls.getD i.toNat []).length)*1≤70368744177664∧acc.length+(ls.getD i.toNat []).length≤70368744177664)
   (.leaf .normal ((aT JO qE).wr ((ls,n,i64.wrap (i+1),()),(acc++ls.getD i.toNat [],()))))))
   (.leaf (.exit 2) ((aT adw qE).wr ((),(acc,())))):=by kernel_rfl
def apj(x:(List (List Int)×Int×Int×Unit)×List Int×Unit):aG:=
 .need (x.1.2.1=x.1.1.length∧x.1.2.2.1=0∧x.2.1= []∧x.1.1.flatten.length≤70368744177664∧x.1.1.length≤140737488355328) (.leaf (.exit 2) ((aT adw qE).wr ((),(x.1.1.flatten,()))))
theorem W4(x):Ex Tryz.prog [] (.loop (aP JM 2)) ((aT JO qE).wr x) (apj x):=by
 obtain⟨⟨ls,n,i,_⟩,acc,_⟩:=x;refine Ex.need fun⟨h2,h3,h1,h4,h5⟩=>?_;simp only at h1 h2 h3 h4 h5;subst h1 h2 h3
 refine yZ mixed aw (aK.nil _) (fun k=>ls.length-k) (fun k:Nat=>(aT JO qE).wr ((ls,(ls.length:Int),(k:Int),()),((ls.take k).flatten,()))) (fun k=>k≤ls.length)
  (fun k=>.leaf (.exit 2) ((aT adw qE).wr ((),(ls.flatten,())))) (fun k _=>adx ls _ _ _) (fun k R hk hs=>?_) 0 (Nat.zero_le _)
 refine⟨fun hb=>?_,fun hb=>?_⟩
 ·have dQ:k<ls.length:=by simpa using hb
  have hft:=CN ls k dQ;have aBE:=F7 ls (k+1);have hlen:(ls.take (k+1)).flatten.length=(ls.take k).flatten.length+(ls.getD k []).length:=by rw[hft,List.length_append]
  refine⟨⟨by omega,by omega⟩,⟨by simp only[Int.toNat_natCast];omega,by simp only[Int.toNat_natCast];omega⟩,.inl ⟨rfl,k+1,?_,dQ,by omega,hs⟩⟩;rw[au (by omega) (by omega)];simp only[Int.toNat_natCast];rw[← hft];rfl
 ·have hge:k=ls.length:=by simp at hb;omega
  subst hge;rw[List.take_length];exact .inr ⟨by simp,hs⟩
abbrev arj:aQ (List LV) (List (List Int)×Unit):=ae (ah (gg false false (.sl u8))) ag
def F8:an:=an.cm [some (.sl u8)] arj ag fun x _=>.leaf (some (x.1.flatten.length≤70368744177664∧x.1.length≤140737488355328)) (.one (.sc (.sl 0 0))) [(0,.own 0 u8 x.1.flatten)]
abbrev apk:df:= [(0,cJ (aT JN ag) 0 apg aph),(2,cJ (aT JO qE) 0 api apj)]
theorem ady(ls:List (List Int)):aH Tryz.prog [(85,adt)] apk JM (arj.wr (ls,())) [] [.auto,.aF]=
  .need ((0:Int)=0∧(ls.length:Int)=ls.length∧(0:Int)=0∧ls.flatten.length≤140737488355328∧ls.length≤140737488355328) (.need (0≤(ls.flatten.length:Int)∧(ls.flatten.length:Int)≤140737488355328)
   (.need ((ls.length:Int)=ls.length∧(0:Int)=0∧([]:List Int)= []∧ls.flatten.length≤70368744177664∧ls.length≤140737488355328) (.leaf (.one (.sc (.sl 0 0))) [some (.own 0 u8 ls.flatten)]))):=by kernel_rfl
theorem oL:F8.Ok Tryz.prog 42:=by
 refine(an.aS call42 fun x y Q h=>?_).sym;obtain⟨ls,_⟩:=x;obtain⟨⟨h1,h2⟩,hq⟩:=h;refine(ar mixed (al akA aw) func42 rfl (LT:=apk) (ks:= [.auto,.aF]) (aK.bI (iu rfl (bt (hp:= []) W3) (iu rfl (bt (hp:= []) W4) iE)))).use (D:= [(0,.own 0 u8 ls.flatten)]) ?_ hq;show(aH _ _ _ _ (arj.wr (ls,())) [] _).sat _;rw[ady];simp only at h1 h2;exact⟨⟨rfl,rfl,rfl,by omega,by omega⟩,⟨by omega,by omega⟩,⟨rfl,rfl,rfl,h1,h2⟩,rfl,rfl⟩
end
def dN:Nat→Int→List Int
 |0,_=> []
 |k+1,x=>x%256::dN k (x/256)
theorem db:∀ (k:Nat) (x:Int),(dN k x).length=k
 |0,_=>rfl
 |k+1,x=>by simp[dN,db k]
theorem div_pow(x:Int)(i:Nat):x/256/256 ^ i=x/256 ^ (i+1):=by
 rw[Int.pow_succ,Int.mul_comm,Int.ediv_ediv_of_nonneg (by omega)]
theorem vR:∀ (i:Nat) (x:Int),dN (i+1) x=dN i x++ [x/256 ^ i%256]
 |0,x=>by simp[dN]
 |i+1,x=>by
  rw[dN,vR i,dN,List.cons_append,div_pow]
theorem JP:∀ (k:Nat) (x:Int),dN k x=(List.range k).map fun i=>x/256 ^ i%256
 |0,_=>rfl
 |k+1,x=>by rw[vR,JP k,List.range_succ,List.map_append];rfl
theorem adz(i k:Nat)(x:Int)(h:i<k):(dN i x++List.replicate (k-i) 0).set i (x/256 ^ i%256)=dN (i+1) x++List.replicate (k-(i+1)) 0:=by
 rw[List.set_append_right _ _ (by rw[db];exact Nat.le_refl _),db,Nat.sub_self,show k-i=(k-(i+1))+1 from by omega,List.replicate_succ,List.set_cons_zero,vR,List.append_assoc];rfl
theorem Ae(i:Nat):(0:Int)<256 ^ i:=Int.pow_pos (by omega)
theorem CO{x:Int}(i:Nat)(h0:0≤x)(h1:x<18446744073709551616):0≤x/256 ^ i∧x/256 ^ i<18446744073709551616:=
 ⟨Int.ediv_nonneg h0 (Int.le_of_lt (Ae i)),Int.lt_of_le_of_lt (Int.ediv_le_self _ h0) h1⟩
abbrev adA:aQ (List LV) (Int×Int×Int×Unit):=ae (ah (aA .u64)) (ae (ah (aA .i64)) (jk 3 (ai (ah (j0 0 0)) (ae (ah (aA .i64)) (jk 16 ag)))))
abbrev awd:List Wk:= [.fr (cb 23 [(0,.sym),(1,.sym),(5,.ak),(6,.sym)]),.auto,.aF]
abbrev aBF:List Wk:= [.fr (cb 23 [(5,.ak)]),.auto,.aF]
abbrev adB:aQ (List LV) Unit:=jk 5 (ai (ah (j0 0 0)) (jk 17 ag))
abbrev adC:Func:=f87
theorem akB(x k i:Int)(l:List Int):ct Tryz.prog [] [] adC 0 [] (wsE awd 0 aBF) ((aT adA qE).wr ((x,k,i,()),(l,())))=
  .ite (decide (i<k)) (.need (0≤i∧i<l.length) (.leaf .normal ((aT adA qE).wr ((u64.wrap (x.tdiv 256),k,i64.wrap (i+1),()),(l.set i.toNat (IntKind.u8.wrap (x.tmod 256)),())))))
   (.leaf (.exit 0) ((aT adB qE).wr ((),(l,())))):=by kernel_rfl
def awe(y:(Int×Int×Int×Unit)×List Int×Unit):aG:=
 .need (0≤y.1.1∧y.1.1<18446744073709551616∧0≤y.1.2.1∧y.1.2.1≤70368744177664∧y.1.2.2.1=0∧y.2.1=List.replicate y.1.2.1.toNat 0) (.leaf (.exit 0) ((aT adB qE).wr ((),(dN y.1.2.1.toNat y.1.1,()))))
theorem adD(y):Ex Tryz.prog [] (.loop (aP adC 0)) ((aT adA qE).wr y) (awe y):=by
 obtain⟨⟨x,k,i,_⟩,l,_⟩:=y;refine Ex.need fun⟨h1,h2,h3,h4,h5,h6⟩=>?_;simp only at h1 h2 h3 h4 h5 h6;subst h5 h6;obtain⟨k,rfl⟩:=Int.eq_ofNat_of_zero_le h3
 refine yZ mixed aw (aK.nil _) (fun i=>k-i) (fun i:Nat=>(aT adA qE).wr ((x/256 ^ i,(k:Int),(i:Int),()),(dN i x++List.replicate (k-i) 0,()))) (fun i=>i≤k)
  (fun i=>.leaf (.exit 0) ((aT adB qE).wr ((),(dN k x,())))) (fun i _=>akB _ _ _ _) (fun i R hi hs=>?_) 0 (Nat.zero_le _) |> (fun h=>by simpa [dN]using h)
 obtain⟨g1,g2⟩:=CO i h1 h2;refine⟨fun hb=>?_,fun hb=>?_⟩
 ·have dQ:i<k:=by simpa using hb
  refine⟨⟨by omega,by simp[db];omega⟩,.inl ⟨rfl,i+1,?_,dQ,by omega,hs⟩⟩
  have e1:u64.wrap ((x/256 ^ i).tdiv 256)=x/256 ^ (i+1):=by
   have e:x/256 ^ i/256=x/256 ^ (i+1):=(by rw[Int.ediv_ediv_of_nonneg (Int.le_of_lt (Ae i)),Int.pow_succ]);obtain⟨g3,g4⟩:=CO (i+1) h1 h2;rw[Int.tdiv_eq_ediv_of_nonneg g1,e,wrap_u64 g3 g4]
  have e2:IntKind.u8.wrap ((x/256 ^ i).tmod 256)=x/256 ^ i%256:=by
   rw[Int.tmod_eq_emod_of_nonneg g1,wrap_u8];omega
  rw[e1,e2,au (by omega) (by omega),Int.toNat_natCast,adz i k x dQ];rfl
 ·have hge:i=k:=by simp at hb;omega
  subst hge;simp only[Nat.sub_self,List.replicate_zero,List.append_nil];exact .inr ⟨by simp,hs⟩
abbrev ukA:aQ (List LV) (Int×Int×Unit):=ae (ah (aA .u64)) (ae (ah (aA .i64)) ag)
def Pe:an:=an.cm [] ukA ag fun x _=>.leaf (some (0≤x.1∧x.1<18446744073709551616∧0≤x.2.1∧x.2.1≤70368744177664)) (.one (.sc (.sl 0 0))) [(0,.own 0 u8 (dN x.2.1.toNat x.1))]
abbrev apl:df:= [(0,cJ (aT adA qE) 0 awd awe)]
theorem adE(x k:Int):aH Tryz.prog [] apl adC (ukA.wr (x,k,())) [] [.auto,.aF]=
 End.need (k=k∧(0:Int)≤k∧(1:Int)*k≤(70368744177664:Int)∧k≤(70368744177664:Int)) (End.need ((0:Int)≤x∧x<
 (18446744073709551616:Int)∧(0:Int)≤k∧k≤(70368744177664:Int)∧(0:Int)=(0:Int)∧List.replicate k.toNat (0:Int)=List.replicate
 k.toNat (0:Int)) (End.leaf (LV.one (VV.sc (SV.sl (0:Nat) (0:Nat)))) [some (Item.own (0:Nat) (Ty.int IntKind.u8) (dN k.toNat x))])):=by kernel_rfl
theorem adF:Pe.Ok Tryz.prog 87:=by
 refine(an.aS call87 fun x y Q h=>?_).sym;obtain⟨x,k,_⟩:=x;obtain⟨⟨h1,h2,h3,h4⟩,hq⟩:=h;simp only at h1 h2 h3 h4;refine(ar mixed aw func87 rfl (LT:=apl) (ks:= [.auto,.aF]) (aK.bI (iu rfl (bt (hp:= []) adD) iE))).use (D:= [(0,.own 0 u8 (dN k.toNat x))]) ?_ hq;show(aH _ _ _ _ (ukA.wr (x,k,())) [] _).sat _;rw[adE];exact⟨⟨rfl,h3,by omega,h4⟩,⟨h1,h2,h3,h4,rfl,rfl⟩,rfl,rfl⟩
theorem JQ(x:Int):aH Tryz.prog [] [] f56 (aQ.wr (ae (ah (aA .u64)) ag) (x,())) [] [.auto,.aF]=
 End.need ((1:Nat)≤(70368744177664:Nat)∧(1:Nat)≤(70368744177664:Nat)) (End.need ((2:Nat)≤(70368744177664:Nat)∧(2:Nat)≤
 (70368744177664:Nat)) (End.need ((3:Nat)≤(70368744177664:Nat)∧(3:Nat)≤(70368744177664:Nat)) (End.need ((4:Nat)≤(70368744177664:
 Nat)∧(4:Nat)≤(70368744177664:Nat)) (End.need ((5:Nat)≤(70368744177664:Nat)∧(5:Nat)≤(70368744177664:Nat)) (End.need ((6:Nat)≤
 (70368744177664:Nat)∧(6:Nat)≤(70368744177664:Nat)) (End.need ((7:Nat)≤(70368744177664:Nat)∧(7:Nat)≤(70368744177664:Nat))
 (End.need ((8:Nat)≤(70368744177664:Nat)∧(8:Nat)≤(70368744177664:Nat)) (End.leaf (LV.one (VV.sc (SV.sl (0:Nat) (0:Nat)))) [some
 (Item.own (0:Nat) (Ty.int IntKind.u8) ([IntKind.u8.wrap (shr u64 x (0:Int))]++ [IntKind.u8.wrap (shr u64 x (8:Int))]++
 [IntKind.u8.wrap (shr u64 x (16:Int))]++ [IntKind.u8.wrap (shr u64 x (24:Int))]++ [IntKind.u8.wrap (shr u64 x (32:
 Int))]++ [IntKind.u8.wrap (shr u64 x (40:Int))]++ [IntKind.u8.wrap (shr u64 x (48:Int))]++ [IntKind.u8.wrap (shr u64 x
 (56:Int))]))])))))))):=by kernel_rfl
def adG:an:=an.cm [] (ae (ah (aA .u64)) ag) ag fun x _=>.leaf (some (0≤x.1∧x.1<18446744073709551616)) (.one (.sc (.sl 0 0))) [(0,.own 0 u8 (dN 8 x.1))]
theorem ark:adG.Ok Tryz.prog 56:=by
 refine(an.aS call56 fun x y Q h=>?_).sym;obtain⟨x,_⟩:=x;obtain⟨⟨h1,h2⟩,hq⟩:=h;simp only at h1 h2;refine(ar mixed aw func56 rfl (LT:= []) (ks:= [.auto,.aF]) (aK.nil _)).use (D:= [(0,.own 0 u8 (dN 8 x))]) ?_ hq;show(aH _ _ _ _ (aQ.wr (ae (ah (aA .u64)) ag) (x,())) [] _).sat _;rw[JQ]
 have e:∀i:Nat,i<8→IntKind.u8.wrap (shr .u64 x (8*i:Nat))=x/256 ^ i%256:=by
  intro i hi;have e1:((2 ^ (8*i):Nat):Int)=256 ^ i:=by rw[Nat.pow_mul,Int.natCast_pow];rfl
  rw[cz .u64 x (8*i) (by simp[IntKind.bits];omega),wrap_u8,e1]
 refine⟨by omega,by omega,by omega,by omega,by omega,by omega,by omega,by omega,rfl,?_⟩;show _= [some (Item.own 0 u8 (dN 8 x))];rw[JP,← List.map_congr_left (fun i hi=>e i (by simpa using hi))];rfl
abbrev oM{Y:Type}(r:aQ (List SV) Y):aQ (List SV) (Int×Int×Y):=ae (aA .i64) (ae (aA .i64) r)
abbrev F9{Y:Type}(r:aQ (List SV) Y):aQ (List SV) (Int×Int×Int×List Int×List Int×Y):=ae (aA .u64) (ae (aA .u64) (ae (aA .i64) (ae (sF u8 64) (ae (sF u8 64) r))))
abbrev JR:aQ (List LV) ((Int×Int×Unit)×Unit):=ae (qC (oM ag)) ag
abbrev B1:aQ (List LV) ((Int×Int×Int×List Int×List Int×Unit)×Unit):=ae (qC (F9 ag)) ag
abbrev arl:aQ (List LV) ((Int×Int×Int×Int×Int×List Int×List Int×List Int×Unit)×Unit):=ae (qC (oM (F9 (ae (sF u8 64) ag)))) ag
def cA(a b:Int):List Int:=if 0≤a∧a<8∧1≤b∧b≤16 then [66,74,75,49,a,b,0,0]else []
def ku(c v s:Int):Bool:=decide (v≤c∧1≤s∧s≤131072)
def TR:an:=an.cm [] JR ag fun x _=>.leaf none (.one (.sc (.sl 0 0))) [(0,.own 0 u8 (cA x.1.1 x.1.2.1))]
def Ga:an:=an.cm [] B1 ag fun x _=>.leaf none (nB (ku x.1.1 x.1.2.1 x.1.2.2.1)) []
theorem Gb(a b:Int):aH Tryz.prog [(42,F8)] [] f84 (JR.wr ((a,b,()),())) [] [.cP 0 u8,.auto,.aF]=
 End.ite (decide (a<(0:Int))==false) (End.ite (decide ((8:Int)≤a)==false) (End.ite (decide (b<(1:Int))==false) (End.ite (decide ((16:
 Int)<b)) (End.leaf (LV.one (VV.sc (SV.sl (0:Nat) (0:Nat)))) [some (Item.own (0:Nat) (Ty.int IntKind.u8) [])]) (End.need ((8:Nat)≤
 (70368744177664:Nat)∧(2:Nat)≤(140737488355328:Nat)) (End.leaf (LV.one (VV.sc (SV.sl (0:Nat) (0:Nat)))) [some (Item.own (0:Nat) (Ty.int
 IntKind.u8) [[(66:Int),(74:Int),(75:Int),(49:Int)],[IntKind.u8.wrap a,IntKind.u8.wrap b,(0:Int),(0:Int)]].flatten)]))) (End.leaf
 (LV.one (VV.sc (SV.sl (0:Nat) (0:Nat)))) [some (Item.own (0:Nat) (Ty.int IntKind.u8) [])])) (End.leaf (LV.one (VV.sc (SV.sl (0:Nat) (0:
 Nat)))) [some (Item.own (0:Nat) (Ty.int IntKind.u8) [])])) (End.leaf (LV.one (VV.sc (SV.sl (0:Nat) (0:Nat)))) [some (Item.own (0:Nat) (Ty.int
 IntKind.u8) [])]):=by kernel_rfl
theorem B2(a b:Int):aH Tryz.prog [] [] f92 (JR.wr ((a,b,()),())) [] [.cP 0 u8,.auto,.aF]=
 End.ite (decide (a<(0:Int))==false) (End.ite (decide ((8:Int)≤a)==false) (End.ite (decide (b<(1:Int))==false) (End.ite (decide ((16:
 Int)<b)) (End.leaf (LV.one (VV.sc (SV.sl (0:Nat) (0:Nat)))) [some (Item.own (0:Nat) (Ty.int IntKind.u8) [])]) (End.leaf (LV.one (VV.sc (SV.sl
 (0:Nat) (0:Nat)))) [some (Item.own (0:Nat) (Ty.int IntKind.u8) [(66:Int),(74:Int),(75:Int),(49:Int),IntKind.u8.wrap a,
 IntKind.u8.wrap b,(0:Int),(0:Int)])])) (End.leaf (LV.one (VV.sc (SV.sl (0:Nat) (0:Nat)))) [some (Item.own (0:Nat) (Ty.int IntKind.u8)
 [])])) (End.leaf (LV.one (VV.sc (SV.sl (0:Nat) (0:Nat)))) [some (Item.own (0:Nat) (Ty.int IntKind.u8) [])])) (End.leaf (LV.one (VV.sc (SV.sl (0:
 Nat) (0:Nat)))) [some (Item.own (0:Nat) (Ty.int IntKind.u8) [])]):=by kernel_rfl
theorem Pf(c v s:Int)(a b:List Int):aH Tryz.prog [] [] f55 (B1.wr ((c,v,s,a,b,()),())) [] [.fr [.sym],.auto]=
 End.ite (decide (v≤c)==true) (End.ite (decide ((1:Int)≤s)==true) (End.leaf (LV.one (VV.sc (SV.bool (SB.sym (decide (s≤(131072:Int)))))))
 []) (End.leaf (LV.one (VV.sc (SV.bool (SB.sym false)))) [])) (End.leaf (LV.one (VV.sc (SV.bool (SB.sym false)))) []):=by kernel_rfl
theorem JS(c v s:Int)(a b:List Int):aH Tryz.prog [] [] f103 (B1.wr ((c,v,s,a,b,()),())) [] [.fr [.sym],.auto]=
 End.ite (decide (v≤c)==true) (End.ite (decide ((1:Int)≤s)==true) (End.leaf (LV.one (VV.sc (SV.bool (SB.sym (decide (s≤(131072:Int)))))))
 []) (End.leaf (LV.one (VV.sc (SV.bool (SB.sym false)))) [])) (End.leaf (LV.one (VV.sc (SV.bool (SB.sym false)))) []):=by kernel_rfl
theorem adH(c v s:Int)(a b:List Int):aH Tryz.prog [(55,Ga),(56,adG),(42,F8)] [] f23 (B1.wr ((c,v,s,a,b,()),())) [] [.cP 0 u8,.auto,.aF]=
 End.ite (!ku c v s) (End.leaf (LV.one (VV.sc (SV.sl (0:Nat) (0:Nat)))) [some (Item.own (0:Nat) (Ty.int IntKind.u8) [])]) (End.need ((0:Int)
 ≤c∧c<(18446744073709551616:Int)) (End.need ((0:Int)≤v∧v<(18446744073709551616:Int)) (End.need ((0:Int)≤u64.wrap s∧
 u64.wrap s<(18446744073709551616:Int)) (End.need ((0:Int)≤(0:Int)∧(0:Int)≤(64:Int)∧(64:Int)≤(64:Int)) (End.need ((0:
 Int)≤(0:Int)∧(0:Int)≤(64:Int)∧(64:Int)≤(64:Int)) (End.need ([dN (8:Nat) c,dN (8:Nat) v,dN (8:Nat) (u64.wrap
 s),List.take (64:Nat) (List.drop (0:Nat) a),List.take (64:Nat) (List.drop (0:Nat) b)].flatten.length≤(70368744177664:Nat)∧(5:Nat)≤
 (140737488355328:Nat)) (End.leaf (LV.one (VV.sc (SV.sl (0:Nat) (0:Nat)))) [some (Item.own (0:Nat) (Ty.int IntKind.u8) [dN (8:Nat) c,dN
 (8:Nat) v,dN (8:Nat) (u64.wrap s),List.take (64:Nat) (List.drop (0:Nat) a),List.take (64:Nat) (List.drop (0:Nat)
 b)].flatten)]))))))):=by kernel_rfl
theorem W5(c v s:Int)(a b:List Int):aH Tryz.prog [(103,Ga),(87,Pe)] [] f50 (B1.wr ((c,v,s,a,b,()),())) [] [.cP 0 u8,.auto,.aF]=
 End.ite (!ku c v s) (End.leaf (LV.one (VV.sc (SV.sl (0:Nat) (0:Nat)))) [some (Item.own (0:Nat) (Ty.int IntKind.u8) [])]) (End.need ((0:Int)
 ≤c∧c<(18446744073709551616:Int)∧(0:Int)≤(8:Int)∧(8:Int)≤(70368744177664:Int)) (End.need ((0:Int)≤v∧v<
 (18446744073709551616:Int)∧(0:Int)≤(8:Int)∧(8:Int)≤(70368744177664:Int)) (End.need ((16:Nat)≤(70368744177664:Nat)∧(16:Nat)
 ≤(70368744177664:Nat)) (End.need ((0:Int)≤u64.wrap s∧u64.wrap s<(18446744073709551616:Int)∧(0:Int)≤(8:Int)∧(8:
 Int)≤(70368744177664:Int)) (End.need ((24:Nat)≤(70368744177664:Nat)∧(24:Nat)≤(70368744177664:Nat)) (End.need ((0:Int)≤(0:Int)∧
 (0:Int)≤(64:Int)∧(64:Int)≤(64:Int)) (End.need (((24:Nat)+(List.take (64:Nat) (List.drop (0:Nat) a)).length)*(1:Nat)≤
 (70368744177664:Nat)∧(24:Nat)+(List.take (64:Nat) (List.drop (0:Nat) a)).length≤(70368744177664:Nat)) (End.need ((0:Int)≤(0:Int)
 ∧(0:Int)≤(64:Int)∧(64:Int)≤(64:Int)) (End.need (((dN (8:Nat) c++dN (8:Nat) v++dN (8:Nat) (u64.wrap s)++
 List.take (64:Nat) (List.drop (0:Nat) a)).length+(List.take (64:Nat) (List.drop (0:Nat) b)).length)*(1:Nat)≤(70368744177664:Nat)∧
 (dN (8:Nat) c++dN (8:Nat) v++dN (8:Nat) (u64.wrap s)++List.take (64:Nat) (List.drop (0:Nat) a)).length+(List.take (64:
 Nat) (List.drop (0:Nat) b)).length≤(70368744177664:Nat)) (End.leaf (LV.one (VV.sc (SV.sl (0:Nat) (0:Nat)))) [some (Item.own (0:Nat) (Ty.int
 IntKind.u8) (dN (8:Nat) c++dN (8:Nat) v++dN (8:Nat) (u64.wrap s)++List.take (64:Nat) (List.drop (0:Nat) a)++List.take
 (64:Nat) (List.drop (0:Nat) b)))])))))))))):=by kernel_rfl
theorem fY{l m:List Int}(h:l=m): [some (Item.own 0 u8 l)]=aI [(0,Item.own 0 u8 m)] []:=by rw[h];rfl
theorem akC:TR.Ok Tryz.prog 84:=by
 refine(an.aS call84 fun x y Q h=>?_).sym;obtain⟨⟨a,b,_⟩,_⟩:=x;refine(ar mixed (al oL aw) func84 rfl (LT:= []) (ks:= [.cP 0 u8,.auto,.aF]) (aK.nil _)).use (D:= [(0,.own 0 u8 (cA a b))]) ?_ h.2;show(aH _ _ _ _ (JR.wr ((a,b,()),())) [] _).sat _;rw[Gb]
 refine⟨fun h1=>⟨fun h2=>⟨fun h3=>⟨fun h4=>⟨rfl,fY ?_⟩,fun h4=>⟨by omega,rfl,fY ?_⟩⟩,fun h3=>⟨rfl,fY ?_⟩⟩,fun h2=>⟨rfl,fY ?_⟩⟩,fun h1=>⟨rfl,fY ?_⟩⟩<;>
  simp at* <;>unfold cA<;>first|(rw[if_neg (by omega)])|(rw[if_pos (by omega),wrap_u8,wrap_u8,Int.emod_eq_of_lt (by omega) (by omega),Int.emod_eq_of_lt (by omega) (by omega)])
theorem adI:TR.Ok Tryz.prog 92:=by
 refine(an.aS call92 fun x y Q h=>?_).sym;obtain⟨⟨a,b,_⟩,_⟩:=x;refine(ar mixed aw func92 rfl (LT:= []) (ks:= [.cP 0 u8,.auto,.aF]) (aK.nil _)).use (D:= [(0,.own 0 u8 (cA a b))]) ?_ h.2;show(aH _ _ _ _ (JR.wr ((a,b,()),())) [] _).sat _;rw[B2]
 refine⟨fun h1=>⟨fun h2=>⟨fun h3=>⟨fun h4=>⟨rfl,fY ?_⟩,fun h4=>⟨rfl,fY ?_⟩⟩,fun h3=>⟨rfl,fY ?_⟩⟩,fun h2=>⟨rfl,fY ?_⟩⟩,fun h1=>⟨rfl,fY ?_⟩⟩<;>
  simp at* <;>unfold cA<;>first|(rw[if_neg (by omega)])|(rw[if_pos (by omega),wrap_u8,wrap_u8,Int.emod_eq_of_lt (by omega) (by omega),Int.emod_eq_of_lt (by omega) (by omega)])
theorem CP{b c:Bool}(h:b=c):nB b=nB c:=by rw[h]
theorem adJ:Ga.Ok Tryz.prog 55:=by
 refine(an.aS call55 fun x y Q h=>?_).sym;obtain⟨⟨c,v,s,a,b,_⟩,_⟩:=x;refine(ar mixed aw func55 rfl (LT:= []) (ks:= [.fr [.sym],.auto]) (aK.nil _)).use (D:= []) ?_ h.2;show(aH _ _ _ _ (B1.wr ((c,v,s,a,b,()),())) [] _).sat _;rw[Pf];refine⟨fun h1=>⟨fun h2=>⟨CP ?_,rfl⟩,fun h2=>⟨CP ?_,rfl⟩⟩,fun h1=>⟨CP ?_,rfl⟩⟩<;>simp_all[ku]<;>omega
theorem W6:Ga.Ok Tryz.prog 103:=by
 refine(an.aS call103 fun x y Q h=>?_).sym;obtain⟨⟨c,v,s,a,b,_⟩,_⟩:=x;refine(ar mixed aw func103 rfl (LT:= []) (ks:= [.fr [.sym],.auto]) (aK.nil _)).use (D:= []) ?_ h.2;show(aH _ _ _ _ (B1.wr ((c,v,s,a,b,()),())) [] _).sat _;rw[JS];refine⟨fun h1=>⟨fun h2=>⟨CP ?_,rfl⟩,fun h2=>⟨CP ?_,rfl⟩⟩,fun h1=>⟨CP ?_,rfl⟩⟩<;>simp_all[ku]<;>omega
def dR(c v s:Int)(a b:List Int):List Int:=if ku c v s=true then dN 8 c++dN 8 v++dN 8 s++a.take 64++b.take 64 else []
theorem tE{c v s:Int}(h:ku c v s=true):1≤s∧s≤131072:=by simp[ku]at h;omega
def akD:an:=an.cm [] B1 ag fun x _=>.leaf (some (0≤x.1.1∧x.1.1<18446744073709551616∧0≤x.1.2.1∧x.1.2.1<18446744073709551616)) (.one (.sc (.sl 0 0))) [(0,.own 0 u8 (dR x.1.1 x.1.2.1 x.1.2.2.1 x.1.2.2.2.1 x.1.2.2.2.2.1))]
theorem arn:akD.Ok Tryz.prog 23:=by
 refine(an.aS call23 fun x y Q h=>?_).sym;obtain⟨⟨c,v,s,a,b,_⟩,_⟩:=x;obtain⟨⟨h1,h2,h3,h4⟩,hq⟩:=h;simp only at h1 h2 h3 h4;refine(ar mixed (al adJ (al ark (al oL aw))) func23 rfl (LT:= []) (ks:= [.cP 0 u8,.auto,.aF]) (aK.nil _)).use (D:= [(0,.own 0 u8 (dR c v s a b))]) ?_ hq;show(aH _ _ _ _ (B1.wr ((c,v,s,a,b,()),())) [] _).sat _;rw[adH];refine⟨fun hb=>⟨rfl,fY ?_⟩,fun hb=>?_⟩
 ·simp at hb;simp[dR,hb]
 ·simp at hb;obtain⟨r1,r2⟩:=tE hb;have e:=wrap_u64 (n:=s) (by omega) (by omega);rw[e];refine⟨⟨h1,h2⟩,⟨h3,h4⟩,⟨by omega,by omega⟩,⟨by omega,by omega,by omega⟩,⟨by omega,by omega,by omega⟩,⟨?_,by omega⟩,rfl,fY ?_⟩
  ·simp[db];omega
  ·simp[dR,hb]
theorem akE:akD.Ok Tryz.prog 50:=by
 refine(an.aS call50 fun x y Q h=>?_).sym;obtain⟨⟨c,v,s,a,b,_⟩,_⟩:=x;obtain⟨⟨h1,h2,h3,h4⟩,hq⟩:=h;simp only at h1 h2 h3 h4;refine(ar mixed (al W6 (al adF aw)) func50 rfl (LT:= []) (ks:= [.cP 0 u8,.auto,.aF]) (aK.nil _)).use (D:= [(0,.own 0 u8 (dR c v s a b))]) ?_ hq;show(aH _ _ _ _ (B1.wr ((c,v,s,a,b,()),())) [] _).sat _;rw[W5];refine⟨fun hb=>⟨rfl,fY ?_⟩,fun hb=>?_⟩
 ·simp at hb;simp[dR,hb]
 ·simp at hb;obtain⟨r1,r2⟩:=tE hb;have e:=wrap_u64 (n:=s) (by omega) (by omega);rw[e];refine⟨⟨h1,h2,by omega,by omega⟩,⟨h3,h4,by omega,by omega⟩,⟨by omega,by omega⟩,⟨by omega,by omega,by omega,by omega⟩,⟨by omega,by omega⟩,⟨by omega,by omega,by omega⟩,⟨?_,?_⟩,⟨by omega,by omega,by omega⟩,⟨?_,?_⟩,rfl,fY ?_⟩
  ·simp;omega
  ·simp;omega
  ·simp[db];omega
  ·simp[db];omega
  ·simp[dR,hb]
def nQ(hd mn sg:List Int):List Int:=if hd.length=0∨mn.length=0 then []else hd++mn++sg.take 64
theorem B3(a b c v s:Int)(x y z:List Int):aH Tryz.prog [(84,TR),(23,akD),(42,F8)] [] f41 (arl.wr ((a,b,c,v,s,x,y,z,()),())) [] [.cP 0 u8,.auto,.aF]=
 End.need ((0:Int)≤c∧c<(18446744073709551616:Int)∧(0:Int)≤v∧v<(18446744073709551616:Int)) (End.ite (((↑(cA a b).length:Int)
 ==(0:Int))==false) (End.ite ((↑(dR c v s x y).length:Int)==(0:Int)) (End.leaf (LV.one (VV.sc (SV.sl (0:Nat) (0:Nat)))) [some (Item.own
 (0:Nat) (Ty.int IntKind.u8) [])]) (End.need ((0:Int)≤(0:Int)∧(0:Int)≤(64:Int)∧(64:Int)≤(64:Int)) (End.need ([cA a b,dR c
 v s x y,List.take (64:Nat) (List.drop (0:Nat) z)].flatten.length≤(70368744177664:Nat)∧(3:Nat)≤(140737488355328:Nat)) (End.leaf (LV.one
 (VV.sc (SV.sl (0:Nat) (0:Nat)))) [some (Item.own (0:Nat) (Ty.int IntKind.u8) [cA a b,dR c v s x y,List.take (64:Nat) (List.drop (0:
 Nat) z)].flatten)])))) (End.leaf (LV.one (VV.sc (SV.sl (0:Nat) (0:Nat)))) [some (Item.own (0:Nat) (Ty.int IntKind.u8) [])])):=by kernel_rfl
theorem vS(a b:Int):(cA a b).length≤8:=by unfold cA;split<;>simp
theorem adK(c v s:Int)(a b:List Int):(dR c v s a b).length≤152:=by unfold dR;split<;>simp[db];omega
def aro:an:=an.cm [] arl ag fun x _=>.leaf (some (0≤x.1.2.2.1∧x.1.2.2.1<18446744073709551616∧0≤x.1.2.2.2.1∧x.1.2.2.2.1<18446744073709551616)) (.one (.sc (.sl 0 0)))
 [(0,.own 0 u8 (nQ (cA x.1.1 x.1.2.1) (dR x.1.2.2.1 x.1.2.2.2.1 x.1.2.2.2.2.1 x.1.2.2.2.2.2.1 x.1.2.2.2.2.2.2.1) x.1.2.2.2.2.2.2.2.1))]
theorem adL:aro.Ok Tryz.prog 41:=by
 refine(an.aS call41 fun x y Q h=>?_).sym;obtain⟨⟨a,b,c,v,s,x,y,z,_⟩,_⟩:=x;obtain⟨hr,hq⟩:=h;simp only at hr;refine(ar mixed (al akC (al arn (al oL aw))) func41 rfl (LT:= []) (ks:= [.cP 0 u8,.auto,.aF]) (aK.nil _)).use (D:= [(0,.own 0 u8 (nQ (cA a b) (dR c v s x y) z))]) ?_ hq;show(aH _ _ _ _ (arl.wr ((a,b,c,v,s,x,y,z,()),())) [] _).sat _;rw[B3];have h1:=vS a b;have h2:=adK c v s x y;generalize cA a b=hd at*;generalize dR c v s x y=mn at*;refine⟨hr,fun hb=>⟨fun hc=>⟨rfl,fY ?_⟩,fun hc=>⟨by omega,⟨?_,by omega⟩,rfl,fY ?_⟩⟩,fun hb=>⟨rfl,fY ?_⟩⟩
 ·simp at hb hc;simp[nQ,hc]
 ·simp;omega
 ·simp at hb hc;simp[nQ,hc,hb]
 ·simp at hb;simp[nQ,hb]
theorem Gc:aH Tryz.prog [] [] f39 [] [] [.auto,.aF]=
 End.leaf (LV.one (VV.sc (SV.sl (0:Nat) (0:Nat)))) [some (Item.own (0:Nat) (Ty.int IntKind.u8) [(98:Int),(111:Int),(111:Int),(116:Int),
 (106:Int),(97:Int),(99:Int),(107:Int)])]:=by kernel_rfl
def adM:an:=an.of [] ag ag fun _ _=>.leaf none (.one (.sc (.sl 0 0))) [(0,.own 0 u8 [98,111,111,116,106,97,99,107])]
theorem adN:adM.Ok Tryz.prog 39:=by
 refine an.aS call39 fun x y Q h=>?_;refine(ar mixed aw func39 rfl (LT:= []) (ks:= [.auto,.aF]) (aK.nil _)).use (D:= [(0,.own 0 u8 [98,111,111,116,106,97,99,107])]) ?_ h.2;show(aH _ _ _ _ [] [] _).sat _;rw[Gc];exact⟨rfl,rfl⟩
theorem Pg(l:List Int):qJ l l=true:=by simp[qJ]
end Go.Proofs.YtnbkagglkajbkaaGreat
end
