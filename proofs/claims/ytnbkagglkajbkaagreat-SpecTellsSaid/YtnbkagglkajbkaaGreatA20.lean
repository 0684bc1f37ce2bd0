/- What the laws lean on, part 20: a reader of code, plain facts, and what each function gives; no conditions. -/
import Derived.Test.YtnbkagglkajbkaaGreatA19
set_option linter.unusedVariables false
set_option linter.unusedSimpArgs false
noncomputable section
namespace Go.Proofs.YtnbkagglkajbkaaGreat
open Go Go.Ev Go.Proofs.Tryz
open Go.IntKind (i64 signed u16 u64 wrap)
set_option maxRecDepth 1000000
theorem amW{P:Program}{f:FuncId}{X Y:Type}{tys:List (Option Ty)}{A:aM (List LV) X}{H:aM Hp Y}{out aDd:X→Y→Out}(h:(an.cl tys A H out).Ok P f)(hw:∀x y Q,(aDd x y).holds Q→(out x y).holds Q):(an.cl tys A H aDd).Ok P f:=by
 refine⟨fun args hp Q hq=>h.calls args hp Q ?_⟩;simp only[an.cl,an.sym,an.of]at hq ⊢
 split at hq
 ·exact hw _ _ _ hq
 ·exact hq.elim
def eRs(g:List Int→List Int):an:=an.cl [some u8] bA ag fun x _=>.leaf (some (x.1.length≤1099511627776)) (dO .u8 64 (g x.1)) []
abbrev Pu:an:=eRs gp
theorem AE:Pu.Ok Tryz.prog 45:=amW (X:=List Int×Unit) (Y:=Unit) YS fun x y Q h=>by
 have h1:x.1.length≤1099511627776:=h.1;refine⟨by show x.1.length≤_;omega,?_⟩;rw[auO (by omega)];exact h.2
abbrev ays:an:=ahP
theorem amX:ays.Ok Tryz.prog 50:=Xe
abbrev ayt:an:=aDc sA
theorem ayu:ayt.Ok Tryz.prog 119:=by rw[ayt,← OO];exact adC
abbrev aDe:an:=km
theorem ayv:aDe.Ok Tryz.prog 100:=y5
def tL(b:List Int):Int×List (Int×Int×Int):=bC (List.take (i64.wrap (4+gv b 0)-4).toNat (List.drop 4
 b)) (gv b 2)
def Vi(b:List Int):Int:=(↑b.length:Int)
abbrev YV:Type:=(List Int)×Int×Int
abbrev auQ(x:YV):LV:=LV.cj [VV.sc (SV.rd true false (Ty.int IntKind.u8) x.1),VV.sc (SV.int i64 (SI.sym x.2.1)),
 VV.sc (SV.int i64 (SI.sym x.2.2))]
abbrev auR(x:YV):List (Nat×Ev.Item):= []
def YW(b:List Int):Tr (YV):=(.ite (decide (Vi b<4)) (.ret ([],0,16)) (.need (4≤b.length) (.ite (!mn b) (.ret
 ([],0,6)) (.ite (decide (Vi b<i64.wrap (4+gv b 0))) (.ret ([],0,16)) (.need ((0:Int)≤4∧4≤i64.wrap (4+gv b 0)
 ∧i64.wrap (4+gv b 0)≤(↑b.length:Int)) (.ite (decide ¬(tL b).fst=0) (.need (Da (List.take (i64.wrap (4+gv b 0)-
 4).toNat (List.drop 4 b)) (gv b 2)) (.ite ((tL b).fst !=0) (.ret ([],0,(tL b).fst)) (.need (jO []) (.ret (kG [],
 i64.wrap (4+gv b 0),0))))) (.need (Da (List.take (i64.wrap (4+gv b 0)-4).toNat (List.drop 4 b)) (gv b 2)) (.ite ((0:
 Int)!=0) (.ret ([],0,0)) (.need (jO (tL b).snd) (.ret (kG (tL b).snd,i64.wrap (4+gv b 0),0)))))))))))
theorem adD(b:List Int):aG Tryz.prog [(101,Jb),(159,aAw),(160,zM)] [] f102 (((ae (ah (fh false false u8)) ag)).wr (b,())) ((ag).wr (())) [.Ll,.fr [.rd true u8],.fr [.sym],.syms,.auto,.aE]=(YW b).end auQ auR ((ag).wr (())):=by kernel_rfl
theorem amY(b:List Int):aH Tryz.prog ((ag).wr (())) [] (aF f102):=(aH.nil _)
abbrev AF(b:List Int):Prop:=ay b∧b.length<1099511627776
abbrev amZ(b:List Int):YV:=((hZ b).2.1,(hZ b).2.2,(hZ b).1)
def auS:an:=cv [some u8] ((ae (ah (fh false false u8)) ag)) (ag) (fun x_ y_=>AF x_.1) (fun x_ y_=>amZ x_.1) auQ auR
theorem ar6(b:List Int)(h_:AF b):(YW b).Is (amZ b):=by
 delta amZ;obtain⟨h1,h2⟩:=h_;have zk:Vi b=(b.length:Int):=rfl
 by_cases c1:b.length<4
 ·have e1:decide ((b.length:Int)<4)=true:=decide_eq_true (by omega);simp only[hZ,if_pos c1,YW,zk,e1,dP,au]
 ·have e1:decide ((b.length:Int)<4)=false:=decide_eq_false (by omega);obtain⟨r1,r2⟩:=MZ h1 (by omega);have r3:=M0 h1 (by omega);have yZ:tL b=bC (List.take (i64.wrap (4+two b 0)-4).toNat (b.drop 4)) (two b 2):=by unfold tL;rw[r1,r3]
  have hl:=v5 (b:=(b.drop 4).take (two b 0).toNat) (plain:=two b 2);simp only[hZ,if_neg c1,YW,zk,e1,r1,r2,r3,yZ,e9,aq,fC,aP,ir,au,fG]
  cases c2:gO b with
  |false=>simp;omega
  |true=>
   obtain⟨s1,s2⟩:=v7 c2;have w2:i64.wrap (4+two b 0)=4+two b 0:=ao (by omega) (by omega);have w3:(4+two b 0-4).toNat=(two b 0).toNat:=(by omega);have p0:Da ((b.drop 4).take (two b 0).toNat) (two b 2):=⟨Ai h1 _ _,by rw[List.length_take];omega⟩;have p1:jO (bC ((b.drop 4).take (two b 0).toNat) (two b 2)).2:=hl;simp only[w2,w3];clear yZ zk e1 hl r1 r2 r3;grind
theorem ar7:auS.Ok Tryz.prog 102:=
 br mixed ((aj Fx (aj av6 (aj xL ax)))) func102 (by kernel_rfl) call102 (fun x_ y_=>amY x_.1) (fun x_ y_=>adD x_.1) (fun x_ y_ h=>ar6 x_.1 h)
def q7(ks:List (List Int))(fl rm:Int)(b:List Int):cK×Int:=
 if(sA ks b).2≠0 then(dW,(sA ks b).2)else if rm<(sA ks b).1.bz.len then(dW,10)else if(sA ks b).1.bz.ver<fl then(dW,9)else((sA ks b).1,0)
def EL(x:cK×Int):Int×Int×Int×Int×Int×List Int×List Int×List Int×Int:=(x.1.key,x.1.blocks,x.1.bz.ver,x.1.bz.lh,x.1.bz.len,x.1.bz.list,x.1.bz.plain,x.1.sign,x.2)
abbrev YX:Type:=Int×Int×Int×Int×Int×(List Int)×(List Int)×(List Int)×Int
abbrev auT(x:YX):LV:=LV.cj [VV.agg [SV.int i64 (SI.sym x.1),SV.int i64 (SI.sym x.2.1),SV.int u64
 (SI.sym x.2.2.1),SV.int u64 (SI.sym x.2.2.2.1),SV.int i64 (SI.sym x.2.2.2.2.1),SV.arr (Ty.int IntKind.u8) 64 x.2.2.2.2.2.1,SV.arr
 (Ty.int IntKind.u8) 64 x.2.2.2.2.2.2.1,SV.arr (Ty.int IntKind.u8) 64 x.2.2.2.2.2.2.2.1],VV.sc (SV.int i64 (SI.sym x.2.2.2.2.2.2.2.2))]
abbrev auU(x:YX):List (Nat×Ev.Item):= []
def am0(ks:List (List Int))(fl:Int)(rm:Int)(b:List Int):Tr (YX):=(.need (ay b∧b.length<4294967296∧ze ks)
 (.ite ((sA ks b).snd !=0) (.ret (0,0,0,0,0,List.replicate 64 (0:Int),List.replicate 64 (0:Int),List.replicate 64 (0:Int),(sA ks
 b).snd)) (.ite (decide (rm<(sA ks b).fst.bz.len)) (.ret (0,0,0,0,0,List.replicate 64 (0:Int),List.replicate 64 (0:Int),List.replicate 64
 (0:Int),10)) (.ite (decide ((sA ks b).fst.bz.ver<fl)) (.ret (0,0,0,0,0,List.replicate 64 (0:Int),List.replicate 64 (0:Int),
 List.replicate 64 (0:Int),9)) (.ret ((sA ks b).fst.key,(sA ks b).fst.blocks,(sA ks b).fst.bz.ver,(sA ks b).fst.bz.lh,(sA ks
 b).fst.bz.len,(sA ks b).fst.bz.list,(sA ks b).fst.bz.plain,(sA ks b).fst.sign,0))))))
theorem adE(ks:List (List Int))(fl rm:Int)(b:List Int):aG Tryz.prog [(119,ayt)] [] f69 ((DZ).wr (ks,fl,rm,b,())) ((ag).wr (())) [.fr [.sym],.syms,.auto,.aE]=(am0 ks fl rm b).end auT auU ((ag).wr (())):=by kernel_rfl
theorem am1(ks:List (List Int))(fl rm:Int)(b:List Int):aH Tryz.prog ((ag).wr (())) [] (aF f69):=(aH.nil _)
abbrev AG(ks:List (List Int))(fl rm:Int)(b:List Int):Prop:=ay b∧b.length<4294967296∧ze ks
abbrev am2(ks:List (List Int))(fl rm:Int)(b:List Int):YX:=EL (q7 ks fl rm b)
def auV:an:=cv [some (.arr u8 32),none,none,some u8] (DZ) (ag) (fun x_ y_=>AG x_.1 x_.2.1 x_.2.2.1 x_.2.2.2.1) (fun x_ y_=>am2 x_.1 x_.2.1 x_.2.2.1 x_.2.2.2.1) auT auU
theorem ar8(ks:List (List Int))(fl rm:Int)(b:List Int)(h_:AG ks fl rm b):(am0 ks fl rm b).Is (am2 ks fl rm b):=by
 delta am2;simp only[am0,ir,aP,aq,au,q7];refine⟨h_,?_⟩;generalize sA ks b=x
 by_cases c1:x.2=0<;>by_cases c2:rm<x.1.bz.len<;>by_cases c3:x.1.bz.ver<fl<;>simp[c1,c2,c3,EL]<;>decide
theorem ar9:auV.Ok Tryz.prog 69:=
 br mixed ((aj ayu ax)) func69 (by kernel_rfl) call69 (fun x_ y_=>am1 x_.1 x_.2.1 x_.2.2.1 x_.2.2.2.1) (fun x_ y_=>adE x_.1 x_.2.1 x_.2.2.1 x_.2.2.2.1) (fun x_ y_ h=>ar8 x_.1 x_.2.1 x_.2.2.1 x_.2.2.2.1 h)
theorem am3{l m:List Int}(hl:ay l)(hm:ay m):cV l m=decide (l=m):=by
 by_cases c:l=m
 ·subst c;rw[te];simp
 ·rw[decide_eq_false c]
  cases h:cV l m with
  |false=>rfl
  |true=>
   exfalso
   apply c
   clear c
   induction l generalizing m with
   |nil=>have:=nO h;cases m with
    |nil=>rfl
    |cons=>simp at this
   |cons x l ih=>cases m with
    |nil=>have:=nO h;simp at this
    |cons y m=>
     have e:=UI (hl x (by simp)) (hm y (by simp)) h;subst e
     congr 1
     refine ih (fun z hz=>hl z (by simp[hz])) (fun z hz=>hm z (by simp[hz])) ?_;unfold cV at h ⊢;have h:=beq_iff_eq.1 h;have e:∀r:List Int,(strOf r).toList=r.map fun n=>UInt8.ofNat n.toNat:=fun r=>(by simp[strOf,ByteArray.toList_eq]);rw[e,e,List.map_cons,List.map_cons]at h;rw[e,e];exact beq_iff_eq.2 (List.cons.inj h).2
def dX(ks:List (List Int))(fl rm:Int)(b:List Int):cK×Int:=
 if(aw ks fl rm b).1≠0 then(dW,(aw ks fl rm b).1)else if(cr (aw ks fl rm b).2.1 (aw ks fl rm b).2.2).1≠0 then(dW,(cr (aw ks fl rm b).2.1 (aw ks fl rm b).2.2).1)else((aw ks fl rm b).2.2,0)
theorem adF{ks:List (List Int)}{fl rm:Int}{b:List Int}(h1:224≤b.length)(h2:(aD (b.take 8)).2=true)(h3:¬ (ks.length:Int)≤(aD (b.take 8)).1.1):
  (q7 ks fl rm (b.take 224)).2=(aw ks fl rm b).1∧(q7 ks fl rm (b.take 224)).1=(aw ks fl rm b).2.2∧(aw ks fl rm b).2.1=b.drop 224∧((aw ks fl rm b).1=0→(aw ks fl rm b).2.2.blocks=(aD (b.take 8)).1.2):=by
 have hc:=Gc (ver:=pH) (ks:=ks) (b:=b.take 224);rw[OO,List.take_take,show min 8 224=8 from rfl]at hc;unfold aw;rw[if_neg (by omega),if_neg (by rw[h2];simp),if_neg h3,if_neg (by omega)];unfold q7;generalize sA ks (b.take 224)=x at*;grind
def tM(b:List Int):Int:=i64.wrap (224+i64.wrap (64*(aD (List.take 8 (List.drop 0 b))).fst.snd))
def Kx(ks:List (List Int))(fl:Int)(rm:Int)(b:List Int):Int:=(↑b.length:Int)
abbrev YY:Type:=Int×Int×Int×Int×Int×(List Int)×(List Int)×(List Int)×Int
abbrev auW(x:YY):LV:=LV.cj [VV.agg [SV.int i64 (SI.sym x.1),SV.int i64 (SI.sym x.2.1),SV.int u64
 (SI.sym x.2.2.1),SV.int u64 (SI.sym x.2.2.2.1),SV.int i64 (SI.sym x.2.2.2.2.1),SV.arr (Ty.int IntKind.u8) 64 x.2.2.2.2.2.1,SV.arr
 (Ty.int IntKind.u8) 64 x.2.2.2.2.2.2.1,SV.arr (Ty.int IntKind.u8) 64 x.2.2.2.2.2.2.2.1],VV.sc (SV.int i64 (SI.sym x.2.2.2.2.2.2.2.2))]
abbrev auX(x:YY):List (Nat×Ev.Item):= []
def am4(ks:List (List Int))(fl:Int)(rm:Int)(b:List Int):Tr (YY):=(.ite (decide (Kx ks fl rm b<8)) (.ret (0,0,
 0,0,0,List.replicate 64 (0:Int),List.replicate 64 (0:Int),List.replicate 64 (0:Int),16)) (.need ((0:Int)≤0∧(0:Int)≤8∧8≤
 (↑b.length:Int)) (.ite (!(aD (List.take 8 (List.drop 0 b))).snd) (.ret (0,0,0,0,0,List.replicate 64 (0:Int),List.replicate 64 (0:
 Int),List.replicate 64 (0:Int),6)) (.ite (decide ((↑ks.length:Int)≤(aD (List.take 8 (List.drop 0 b))).fst.fst)) (.ret (0,0,0,0,0,
 List.replicate 64 (0:Int),List.replicate 64 (0:Int),List.replicate 64 (0:Int),15)) (.ite (decide (Kx ks fl rm b<224)) (.ret (0,0,0,0,
 0,List.replicate 64 (0:Int),List.replicate 64 (0:Int),List.replicate 64 (0:Int),16)) (.need ((0:Int)≤0∧(0:Int)≤224∧224≤
 (↑b.length:Int)) (.need (AG ks fl rm (List.take 224 (List.drop 0 b))) (.ite ((q7 ks fl rm (List.take 224 (List.drop 0 b))).snd !=0) (.ret (0,
 0,0,0,0,List.replicate 64 (0:Int),List.replicate 64 (0:Int),List.replicate 64 (0:Int),(q7 ks fl rm (List.take 224 (List.drop 0
 b))).snd)) (.ite (decide (Kx ks fl rm b<tM b)) (.ret (0,0,0,0,0,List.replicate 64 (0:Int),List.replicate 64 (0:Int),List.replicate
 64 (0:Int),16)) (.need ((0:Int)≤224∧224≤tM b∧tM b≤(↑b.length:Int)) (.need ((List.take (tM b-224).toNat (List.drop 224
 b)).length≤1099511627776) (.ite (!decide (gp (List.take (tM b-224).toNat (List.drop 224 b))=(q7 ks fl rm (List.take 224 (List.drop 0
 b))).fst.bz.list)) (.ret (0,0,0,0,0,List.replicate 64 (0:Int),List.replicate 64 (0:Int),List.replicate 64 (0:Int),7)) (.ret ((q7 ks fl
 rm (List.take 224 (List.drop 0 b))).fst.key,(q7 ks fl rm (List.take 224 (List.drop 0 b))).fst.blocks,(q7 ks fl rm (List.take 224 (List.drop 0
 b))).fst.bz.ver,(q7 ks fl rm (List.take 224 (List.drop 0 b))).fst.bz.lh,(q7 ks fl rm (List.take 224 (List.drop 0 b))).fst.bz.len,(q7 ks fl
 rm (List.take 224 (List.drop 0 b))).fst.bz.list,(q7 ks fl rm (List.take 224 (List.drop 0 b))).fst.bz.plain,(q7 ks fl rm (List.take 224
 (List.drop 0 b))).fst.sign,0))))))))))))))
theorem adG(ks:List (List Int))(fl rm:Int)(b:List Int):aG Tryz.prog [(100,aDe),(69,auV),(45,Pu)] [] f48 ((DZ).wr (ks,fl,rm,b,())) ((ag).wr (())) [.fr [.sym],.syms,.auto,.aE]=(am4 ks fl rm b).end auW auX ((ag).wr (())):=by kernel_rfl
theorem am5(ks:List (List Int))(fl rm:Int)(b:List Int):aH Tryz.prog ((ag).wr (())) [] (aF f48):=(aH.nil _)
abbrev AH(ks:List (List Int))(fl rm:Int)(b:List Int):Prop:=ay b∧b.length<1099511627776∧ze ks
abbrev am6(ks:List (List Int))(fl rm:Int)(b:List Int):YY:=EL (dX ks fl rm b)
def am7:an:=cv [some (.arr u8 32),none,none,some u8] (DZ) (ag) (fun x_ y_=>AH x_.1 x_.2.1 x_.2.2.1 x_.2.2.2.1) (fun x_ y_=>am6 x_.1 x_.2.1 x_.2.2.1 x_.2.2.2.1) auW auX
theorem asa(ks:List (List Int))(fl rm:Int)(b:List Int)(h_:AH ks fl rm b):(am4 ks fl rm b).Is (am6 ks fl rm b):=by
 delta am6;obtain⟨h1,h2,h3⟩:=h_;have e3:Kx ks fl rm b=b.length:=rfl;have lz:∀e:Int,EL (dW,e)=(0,0,0,0,0,List.replicate 64 0,List.replicate 64 0,List.replicate 64 0,e):=fun e=>rfl;simp only[am4,e3,aP,fC,ir,aq,au,List.drop_zero];have sh:∀c:Int,c≠0→(aw ks fl rm b).1=c→dX ks fl rm b=(dW,c):=fun c hc h=>by unfold dX;rw[h,if_pos hc]
 by_cases c1:b.length<8
 ·have:=sh 16 (by decide) (by unfold aw;rw[if_pos c1]);rw[this,lz];grind
 by_cases c2:(aD (b.take 8)).2=true
 ·by_cases c3:(ks.length:Int)≤(aD (b.take 8)).1.1
  ·have:=sh 15 (by decide) (by unfold aw;rw[if_neg c1,if_neg (by rw[c2];simp),if_pos c3]);rw[this,lz];grind
  by_cases c4:b.length<224
  ·have:=sh 16 (by decide) (by unfold aw;rw[if_neg c1,if_neg (by rw[c2];simp),if_neg c3,if_pos c4]);rw[this,lz];grind
  obtain⟨f1,f2,f3,f4⟩:=adF (fl:=fl) (rm:=rm) (by omega) c2 c3;have p0:AG ks fl rm (b.take 224):=⟨fun z hz=>h1 z (List.mem_of_mem_take hz),by rw[List.length_take];omega,h3⟩;have hr:=head_range c2
  have w:tM b=224+64*(aD (b.take 8)).1.2:=by
   unfold tM;rw[List.drop_zero,ao (n:=64*_) (by omega) (by omega),ao (by omega) (by omega)]
  generalize hf:q7 ks fl rm (b.take 224)=x at*;have hl:(b.drop 224).length=b.length-224:=List.length_drop
  have hb:EL (dX ks fl rm b)=if(aw ks fl rm b).1≠0 then EL (dW,(aw ks fl rm b).1)else if((b.drop 224).length:Int)<64*(aD (b.take 8)).1.2 then EL (dW,16)else if gp ((b.drop 224).take (64*(aD (b.take 8)).1.2).toNat)≠(aw ks fl rm b).2.2.bz.list then EL (dW,7)else EL ((aw ks fl rm b).2.2,0):=by
   unfold dX cr;grind
  rw[hb];simp only[lz];simp only[w,EL,f1,f2];generalize aw ks fl rm b=y at*;have hq:(List.take (224+64*(aD (b.take 8)).1.2-224).toNat (b.drop 224))=(b.drop 224).take (64*(aD (b.take 8)).1.2).toNat:=by congr 1;omega
  have hw:((b.drop 224).take (64*(aD (b.take 8)).1.2).toNat).length≤b.length:=by rw[List.length_take];omega
  clear hb sh f1 f2 f3 f4 hf;grind
 ·have:=sh 6 (by decide) (by unfold aw;rw[if_neg c1,if_pos (by simpa using c2)]);rw[this,lz];grind
theorem YZ:am7.Ok Tryz.prog 48:=
 br mixed ((aj ayv (aj ar9 (aj AE ax)))) func48 (by kernel_rfl) call48 (fun x_ y_=>am5 x_.1 x_.2.1 x_.2.2.1 x_.2.2.2.1) (fun x_ y_=>adG x_.1 x_.2.1 x_.2.2.1 x_.2.2.2.1) (fun x_ y_ h=>asa x_.1 x_.2.1 x_.2.2.1 x_.2.2.2.1 h)
def Vj(b:List Int)(left:Int)(sum:List Int):Int:=(↑b.length:Int)
abbrev Y0:Type:=(List Int)×Int×Int
abbrev auY(x:Y0):LV:=LV.cj [VV.sc (SV.rd true false (Ty.int IntKind.u8) x.1),VV.sc (SV.int i64 (SI.sym x.2.1)),
 VV.sc (SV.int i64 (SI.sym x.2.2))]
abbrev auZ(x:Y0):List (Nat×Ev.Item):= []
def Y1(b:List Int)(left:Int)(sum:List Int):Tr (Y0):=(.ite (decide (Vj b left sum<4)) (.ret ([],0,16)) (.need
 (4≤b.length) (.ite (!mn b) (.ret ([],0,6)) (.ite (decide (left<gv b 2)) (.ret ([],0,10)) (.ite (decide (Vj b left sum<
 i64.wrap (4+gv b 0))) (.ret ([],0,16)) (.need ((0:Int)≤0∧0≤i64.wrap (4+gv b 0)∧i64.wrap (4+gv b 0)≤
 (↑b.length:Int)) (.need ((List.take (i64.wrap (4+gv b 0)-0).toNat (List.drop 0 b)).length≤1099511627776) (.need ((0:Int)≤0∧(0:
 Int)≤64∧(64:Int)≤64) (.ite (!cV (List.take 64 (List.drop 0 (gp (List.take (i64.wrap (4+gv b 0)-0).toNat (List.drop 0 b)))))
 sum) (.ret ([],0,7)) (.need (AF b) (.ret ((hZ b).snd.fst,(hZ b).snd.snd,(hZ b).fst))))))))))))
theorem adH(b:List Int)(left:Int)(sum:List Int):aG Tryz.prog [(101,Jb),(45,Pu),(102,auS)] [] f49 (((ae (ah (fh false false u8)) (ae (ah (aA .i64)) (ae (ah (fh false false u8)) ag)))).wr (b,left,sum,())) ((ag).wr (())) [.Ll,.fr [.rd true u8],.fr [.sym],.syms,.auto,.aE]=(Y1 b left sum).end auY auZ ((ag).wr (())):=by kernel_rfl
theorem am8(b:List Int)(left:Int)(sum:List Int):aH Tryz.prog ((ag).wr (())) [] (aF f49):=(aH.nil _)
abbrev AI(b:List Int)(left:Int)(sum:List Int):Prop:=ay b∧b.length<1099511627776∧ay sum
abbrev am9(b:List Int)(left:Int)(sum:List Int):Y0:=((gq b left sum).2.2,if(gq b left sum).1=0 then 4+two b 0 else 0,(gq b left sum).1)
def ana:an:=cv [some u8,none,some u8] ((ae (ah (fh false false u8)) (ae (ah (aA .i64)) (ae (ah (fh false false u8)) ag)))) (ag) (fun x_ y_=>AI x_.1 x_.2.1 x_.2.2.1) (fun x_ y_=>am9 x_.1 x_.2.1 x_.2.2.1) auY auZ
theorem asb(b:List Int)(left:Int)(sum:List Int)(h_:AI b left sum):(Y1 b left sum).Is (am9 b left sum):=by
 delta am9;obtain⟨h1,h2,h3⟩:=h_;have zk:Vj b left sum=(b.length:Int):=rfl
 by_cases c1:b.length<4
 ·have e1:decide ((b.length:Int)<4)=true:=decide_eq_true (by omega);simp only[gq,if_pos c1,Y1,zk,e1,dP,au];rfl
 ·have e1:decide ((b.length:Int)<4)=false:=decide_eq_false (by omega);obtain⟨r1,r2⟩:=MZ h1 (by omega);have r3:=M0 h1 (by omega);simp only[gq,if_neg c1,Y1,zk,e1,r1,r2,r3,e9,aq,fC,aP,au,List.drop_zero]
  cases c2:gO b with
  |false=>simp;omega
  |true=>
   obtain⟨s1,s2⟩:=v7 c2;have w2:i64.wrap (4+two b 0)=4+two b 0:=ao (by omega) (by omega);have p0:AF b:=⟨h1,h2⟩;have hs:∀l,(gp l).take 64=gp l:=fun l=>List.take_of_length_le (by rw[Dh];decide);have hl:(b.take (4+two b 0).toNat).length≤b.length:=by rw[List.length_take];omega
   have hu:¬ (b.length:Int)<4+two b 0→hZ b=(if(fG ((b.drop 4).take (two b 0).toNat) (two b 2)).1≠0 then((fG ((b.drop 4).take (two b 0).toNat) (two b 2)).1,[],0)else(0,(fG ((b.drop 4).take (two b 0).toNat) (two b 2)).2,4+two b 0)):=fun h=>by
    unfold hZ;rw[if_neg c1,if_neg (by rw[c2];simp),if_neg h]
   have hp:=yz ((b.drop 4).take (two b 0).toNat) (two b 2);simp only[w2,Int.sub_zero,hs,am3 (alk _) h3];grind
theorem Y2:ana.Ok Tryz.prog 49:=
 br mixed ((aj Fx (aj AE (aj ar7 ax)))) func49 (by kernel_rfl) call49 (fun x_ y_=>am8 x_.1 x_.2.1 x_.2.2.1) (fun x_ y_=>adH x_.1 x_.2.1 x_.2.2.1) (fun x_ y_ h=>asb x_.1 x_.2.1 x_.2.2.1 h)
abbrev jLb:aM Ev.Item cK:=mN 45 axE
abbrev jMm:aM Ev.Item MM:=mN 43 cMM
abbrev cVn:aM (List SV) Vd:=(ae (aA .i64) (Gd (ai aom (ae (so u8 64) ag)))).kE (fun x=>⟨x.1,⟨x.2.1,x.2.2.1,⟨x.2.2.2.1,x.2.2.2.2.1,x.2.2.2.2.2.1,x.2.2.2.2.2.2.1,x.2.2.2.2.2.2.2.1⟩,x.2.2.2.2.2.2.2.2.1⟩,[],x.2.2.2.2.2.2.2.2.2.1⟩) (fun y=>(y.err,y.lD.key,y.lD.blocks,y.lD.bz.ver,y.lD.bz.lh,y.lD.bz.len,y.lD.bz.list,y.lD.bz.plain,y.lD.sign,y.mea,())) (fun _=>rfl)
abbrev jVn:aM Ev.Item Vd:=mN 47 cVn
abbrev Pv:Type:=(List Int)×(List Int)×Int×Vd×cK×MM×(List Int)
abbrev Pw:aM St Pv:=(aS (jk 8 (ai (ah (aC (0) (0))) (ai (ah (aC (1) (0))) (jk 1 (ai (ah (aC (2) (0)))
 (ae (ah (fh false false (Ty.int IntKind.u8))) (ae (ah (fh false false (Ty.int IntKind.u8))) (ai (ah (ke (3) (0))) (ae (ah (aA
 i64)) (jk 93 ag)))))))))) (ae (bp jVn) (ae (bp jLb) (ae (bp jMm) (ae (bS (0) (Ty.int IntKind.u8)) ag))))).kE (fun y
 =>(y.1.1,y.1.2.1,y.1.2.2.1,y.2.1,y.2.2.1,y.2.2.2.1,y.2.2.2.2.1)) (fun x=>((x.1,(x.2.1,(x.2.2.1,()))),(x.2.2.2.1,(x.2.2.2.2.1,
 (x.2.2.2.2.2.1,(x.2.2.2.2.2.2,())))))) (fun _=>rfl)
abbrev anb:List Wk:= [.dh 14 u8,.fr (cu 109 [(8,.al),(9,.al),(11,.al),(12,.al),(13,.al),(14,.al),(15,.al)]),.syms,
 .auto,.aE]
abbrev au0:Exit→List Wk:=xz anb 0 [.dh 14 u8,.fr (cu 109 [(8,.al),(9,.al),(11,.al),(12,.al),(14,.al)]),.syms,.auto,
 .aE] [.dh 14 u8,.fr (cu 109 [(8,.al)]),.syms,.auto,.aE]
def o6(list:List Int)(k:Int):List Int:=List.take (i64.wrap (i64.wrap (64*k)+64)-i64.wrap (64
 *k)).toNat (List.drop (i64.wrap (64*k)).toNat list)
def q8(rest:List Int)(list:List Int)(k:Int)(v:Vd)(l:cK)(m:MM)(d:List Int):Int:=i64.wrap (m.len-
 (↑d.length:Int))
def yE(rest:List Int)(list:List Int)(k:Int)(v:Vd)(l:cK)(m:MM)(d:List Int):Int:=if(gq rest (q8 rest
 list k v l m d) (o6 list k)).fst=0 then 4+two rest 0 else 0
abbrev Vk:Type:=Vd
abbrev anc(x:Vk):Exit×St:=(Exit.ret,⟨(iE 8 (LV.one (VV.sc (SV.ptr 0 0))::(iE 100 []))),[some (jVn.wr x)]⟩)
abbrev Vl:Type:=(List Int)×Vd×cK×MM×(List Int)
abbrev ane(x:Vl):Exit×St:=(Exit.exit 0,⟨(iE 8 (LV.one (VV.sc (SV.ptr 0 0))::(LV.one (VV.sc (SV.ptr 1 0))::(iE 1
 (LV.one (VV.sc (SV.ptr 2 0))::(LV.one (VV.sc (SV.rd false false (Ty.int IntKind.u8) x.1))::(iE 1 (LV.one (VV.sc (SV.sl 3 0))::(iE 94
 []))))))))),[some (jVn.wr x.2.1),some (jLb.wr x.2.2.1),some (jMm.wr x.2.2.2.1),some (Item.own 0 (Ty.int IntKind.u8) x.2.2.2.2)]⟩)
def Px(rest:List Int)(list:List Int)(k:Int)(v:Vd)(l:cK)(m:MM)(d:List Int):Tr (Pv⊕(Vk⊕Vl)):=
 (.ite (decide (k<l.blocks)) (.need (0≤i64.wrap (64*k)∧i64.wrap (64*k)≤i64.wrap (i64.wrap (64*k)+64)∧
 i64.wrap (i64.wrap (64*k)+64)≤(↑list.length:Int)) (.need (AI rest (q8 rest list k v l m d) (o6 list k)) (.ite
 ((gq rest (q8 rest list k v l m d) (o6 list k)).fst !=0) (.ret (.inr (.inl ({err:=(gq rest (q8 rest list k v l m d) (o6 list k)).fst,lD:= {key:=0,blocks:=0,bz:= {ver:=0,lh:=0,len:=0,list:=List.replicate 64 (0:Int),plain:=List.replicate 64 (0:Int)},sign:=List.replicate 64 (0:Int)},data:= [],mea:=List.replicate 64 (0:Int)}))))
 (.need ((d.length+(gq rest (q8 rest list k v l m d) (o6 list k)).snd.snd.length)*1≤70368744177664∧d.length+(gq rest (q8 rest
 list k v l m d) (o6 list k)).snd.snd.length≤70368744177664) (.need (0≤yE rest list k v l m d∧yE rest list k v l m d≤(↑rest.length:
 Int)∧(↑rest.length:Int)≤(↑rest.length:Int)) (.ret (.inl (List.take ((↑rest.length:Int)-yE rest list k v l m d).toNat (List.drop (yE
 rest list k v l m d).toNat rest),list,i64.wrap (k+1),{err:=v.err,lD:=v.lD,data:= [],mea:=v.mea},l,m,d++(gq rest
 (q8 rest list k v l m d) (o6 list k)).snd.snd)))))))) (.ret (.inr (.inr (rest,{err:=v.err,lD:=v.lD,data:= [],mea:=v.mea},l,m,
 d)))))
theorem adI(ks:List (List Int))(fl rm:Int)(b:List Int)(rest:List Int)(list:List Int)(k:Int)(v:Vd)(l:cK)(m:MM)(d:List Int):cO Tryz.prog [(48,am7),(49,ana),(45,Pu),(50,ays)] [] f18 0 ((ag).wr (())) au0 (Pw.wr (rest,list,k,v,l,m,d))=(Px rest list k v l m d).res Pw.wr (Sum.elim anc ane):=by kernel_rfl
theorem adJ{b:List Int}{left:Int}{sum:List Int}(h:(gq b left sum).1=0):(gq b left sum).2.1=b.drop (4+two b 0).toNat∧0≤4+two b 0∧4+two b 0≤b.length:=by
 have hs:=v7 (b:=b);unfold gq at*;grind
abbrev w5(rest:List Int)(list:List Int)(k:Int)(v:Vd)(l:cK)(m:MM)(d:List Int):Prop:=0≤k∧k≤l.blocks∧l.blocks≤16∧ay rest∧rest.length<1099511627776∧64*l.blocks≤list.length∧list.length<1099511627776∧ay list∧d.length≤m.len∧m.len≤131072∧v.data= []
abbrev anf(rest:List Int)(list:List Int)(k:Int)(v:Vd)(l:cK)(m:MM)(d:List Int):Bool:=decide ((jW (l.blocks-k).toNat k.toNat list m.len rest d).1≠0)
abbrev ang(rest:List Int)(list:List Int)(k:Int)(v:Vd)(l:cK)(m:MM)(d:List Int):Vk:=(⟨(jW (l.blocks-k).toNat k.toNat list m.len rest d).1,dW,[],List.replicate 64 0⟩:Vd)
abbrev anh(rest:List Int)(list:List Int)(k:Int)(v:Vd)(l:cK)(m:MM)(d:List Int):Vl:=((jW (l.blocks-k).toNat k.toNat list m.len rest d).2.1,v,l,m,(jW (l.blocks-k).toNat k.toNat list m.len rest d).2.2)
abbrev ani:Pv→aK:=sZ (fun x_=>w5 x_.1 x_.2.1 x_.2.2.1 x_.2.2.2.1 x_.2.2.2.2.1 x_.2.2.2.2.2.1 x_.2.2.2.2.2.2) (fun x_=>anf x_.1 x_.2.1 x_.2.2.1 x_.2.2.2.1 x_.2.2.2.2.1 x_.2.2.2.2.2.1 x_.2.2.2.2.2.2) (fun x_=>ang x_.1 x_.2.1 x_.2.2.1 x_.2.2.2.1 x_.2.2.2.2.1 x_.2.2.2.2.2.1 x_.2.2.2.2.2.2) (fun x_=>anh x_.1 x_.2.1 x_.2.2.1 x_.2.2.2.1 x_.2.2.2.2.1 x_.2.2.2.2.2.1 x_.2.2.2.2.2.2) anc ane
theorem asc(rest:List Int)(list:List Int)(k:Int)(v:Vd)(l:cK)(m:MM)(d:List Int)(h_:w5 rest list k v l m d):cX (fun x_:Pv=>Px x_.1 x_.2.1 x_.2.2.1 x_.2.2.2.1 x_.2.2.2.2.1 x_.2.2.2.2.2.1 x_.2.2.2.2.2.2) (rest,list,k,v,l,m,d) (bif anf rest list k v l m d then .inl (ang rest list k v l m d)else .inr (anh rest list k v l m d)):=by
 delta anf ang anh;obtain⟨h1,h2,h3,h4,h5,h6,h7,h8,h9,h10,h11⟩:=h_;have hv:({err:=v.err,lD:=v.lD,data:= [],mea:=v.mea}:Vd)=v:=by rw[← h11]
 obtain⟨k,rfl⟩:∃n:Nat,k=n:=⟨k.toNat,by omega⟩;obtain⟨n,hn⟩:∃n:Nat,l.blocks-k=n:=⟨(l.blocks-k).toNat,by omega⟩;rw[hn,Int.toNat_natCast,Int.toNat_natCast]
 induction n generalizing k rest d with
 |zero=>
  refine .stop ?_;have e1:decide ((k:Int)<l.blocks)=false:=decide_eq_false (by omega);simp only[Px,e1,e9,au,jW,hv];simp
 |succ n ih=>
  have e1:decide ((k:Int)<l.blocks)=true:=decide_eq_true (by omega);have w1:i64.wrap (64*(k:Int))=64*k:=ao (by omega) (by omega);have w2:i64.wrap (64*(k:Int)+64)=64*k+64:=ao (by omega) (by omega)
  have yZ:o6 list k=(list.drop (64*k)).take 64:=by
   unfold o6;rw[w1,w2,show(64*(k:Int)+64-64*k).toNat=64 by omega,show(64*(k:Int)).toNat=64*k by omega]
  have WD:q8 rest list k v l m d=m.len-d.length:=ao (by omega) (by omega);have ea3:yE rest list k v l m d=if(gq rest (m.len-d.length) ((list.drop (64*k)).take 64)).1=0 then 4+two rest 0 else 0:=by unfold yE;rw[yZ,WD]
  have hp:AI rest (m.len-d.length) ((list.drop (64*k)).take 64):=⟨h4,h5,Ai h8 _ _⟩;obtain⟨o1,o2,o3,o4⟩:=J7 (b:=rest) (left:=m.len-d.length) (sum:=(list.drop (64*k)).take 64) h4 (by omega);have o5:=adJ (b:=rest) (left:=m.len-d.length) (sum:=(list.drop (64*k)).take 64);rw[jW];obtain⟨x,hx⟩:∃x,gq rest (m.len-d.length) ((list.drop (64*k)).take 64)=x:=⟨_,rfl⟩;rw[hx]at o1 o2 o3 o4 o5 ea3 ⊢
  by_cases c:x.1=0
  ·obtain⟨q1,q2,q3⟩:=o5 c;rw[if_neg (by simpa using c)];refine .go (y:=(x.2.1,list,((k+1:Nat):Int),v,l,m,d++x.2.2)) ?_ ?_
   ·simp only[Px,e1,w1,w2,yZ,WD,ea3,hx,dP,ir,aq,au,hv,c,if_true];rw[aYjz q2,← q1,ao (n:=(k:Int)+1) (by omega) (by omega)];exact⟨by omega,hp,fun _=>⟨⟨by omega,by omega⟩,⟨by omega,by omega,by omega⟩,rfl⟩,fun h=>absurd rfl h⟩
   ·apply ih<;>first|assumption|omega|(rw[List.length_append];omega)
  ·rw[if_pos c];refine .stop ?_;simp only[Px,e1,w1,w2,yZ,WD,ea3,hx,dP,ir,aq,au,hv];simp[c];exact⟨⟨by omega,by omega,by omega⟩,hp,rfl⟩
theorem anj(ks:List (List Int))(fl rm:Int)(b:List Int):∀x:Pv,Ex Tryz.prog ((ag).wr (())) (.loop (aO f18 0)) (Pw.wr x) (ani x):=
 cy mixed ((aj YZ (aj Y2 (aj AE (aj amX ax))))) (ws:=au0) (aH.nil _) (fun x_=>adI ks fl rm b x_.1 x_.2.1 x_.2.2.1 x_.2.2.2.1 x_.2.2.2.2.1 x_.2.2.2.2.2.1 x_.2.2.2.2.2.2) (fun z=>by cases z<;>(intro e;cases e)) xy (fun x_ h=>asc x_.1 x_.2.1 x_.2.2.1 x_.2.2.2.1 x_.2.2.2.2.1 x_.2.2.2.2.2.1 x_.2.2.2.2.2.2 h)
def Y3(ks:List (List Int))(fl:Int)(rm:Int)(b:List Int):MM:=(dX ks fl rm b).fst.bz
def Gr(ks:List (List Int))(fl:Int)(rm:Int)(b:List Int):List Int:=lZ (dX ks fl rm b).fst.bz.ver (dX ks fl rm
 b).fst.bz.lh (dX ks fl rm b).fst.bz.len (dX ks fl rm b).fst.bz.list (dX ks fl rm b).fst.bz.plain
def Y4(ks:List (List Int))(fl:Int)(rm:Int)(b:List Int):List Int:=List.take (i64.wrap (224+i64.wrap
 (64*(dX ks fl rm b).fst.blocks))-224).toNat (List.drop 224 b)
def Y5(ks:List (List Int))(fl:Int)(rm:Int)(b:List Int):List Int:=List.take ((↑b.length:Int)-i64.wrap (224
 +i64.wrap (64*(dX ks fl rm b).fst.blocks))).toNat (List.drop (i64.wrap (224+i64.wrap (64*(dX ks fl rm
 b).fst.blocks))).toNat b)
def n9(ks:List (List Int))(fl:Int)(rm:Int)(b:List Int):Int×List Int×List Int:=jW ((dX ks fl rm b).fst.blocks-
 0).toNat 0 (Y4 ks fl rm b) (dX ks fl rm b).fst.bz.len (Y5 ks fl rm b) []
abbrev asd:Type:=Int×Int×Int×Int×Int×Int×(List Int)×(List Int)×(List Int)×(List Int)×(List Int)
abbrev aDf(x:asd):LV:=LV.one (VV.agg [SV.int i64 (SI.sym x.1),SV.int i64 (SI.sym x.2.1),SV.int i64
 (SI.sym x.2.2.1),SV.int u64 (SI.sym x.2.2.2.1),SV.int u64 (SI.sym x.2.2.2.2.1),SV.int i64 (SI.sym x.2.2.2.2.2.1),SV.arr
 (Ty.int IntKind.u8) 64 x.2.2.2.2.2.2.1,SV.arr (Ty.int IntKind.u8) 64 x.2.2.2.2.2.2.2.1,SV.arr (Ty.int IntKind.u8) 64 x.2.2.2.2.2.2.2.2.1,SV.rd true
 false (Ty.int IntKind.u8) x.2.2.2.2.2.2.2.2.2.1,SV.arr (Ty.int IntKind.u8) 64 x.2.2.2.2.2.2.2.2.2.2])
abbrev aDg(x:asd):List (Nat×Ev.Item):= []
def ayw(ks:List (List Int))(fl:Int)(rm:Int)(b:List Int):Tr (asd):=(.need (AH ks fl rm b) (.ite ((dX ks fl rm
 b).snd !=0) (.ret ((dX ks fl rm b).snd,0,0,0,0,0,List.replicate 64 (0:Int),List.replicate 64 (0:Int),List.replicate 64 (0:Int),[],
 List.replicate 64 (0:Int))) (.need (0≤i64.wrap (224+i64.wrap (64*(dX ks fl rm b).fst.blocks))∧i64.wrap (224+
 i64.wrap (64*(dX ks fl rm b).fst.blocks))≤(↑b.length:Int)∧(↑b.length:Int)≤(↑b.length:Int)) (.need ((0:Int)≤224∧224≤
 i64.wrap (224+i64.wrap (64*(dX ks fl rm b).fst.blocks))∧i64.wrap (224+i64.wrap (64*(dX ks fl rm
 b).fst.blocks))≤(↑b.length:Int)) (.need (w5 (Y5 ks fl rm b) (Y4 ks fl rm b) 0 {err:=0,lD:= {key:=0,blocks:=0,bz:= {ver:=0,lh:=0,len:=0,list:=List.replicate 64 (0:Int),plain:=List.replicate 64 (0:Int)},sign:=List.replicate 64 (0:Int)},data:= [],mea:=List.replicate 64 (0:Int)}
 {key:=(dX ks fl rm b).fst.key,blocks:=(dX ks fl rm b).fst.blocks,bz:=Y3 ks fl rm b,sign:=(dX ks fl rm b).fst.sign} (Y3 ks fl
 rm b) []) (.ite (decide ¬(n9 ks fl rm b).fst=0) (.ret ((n9 ks fl rm b).fst,0,0,0,0,0,List.replicate 64 (0:Int),List.replicate 64 (0:
 Int),List.replicate 64 (0:Int),[],List.replicate 64 (0:Int))) (.ite (decide ((↑(n9 ks fl rm b).snd.snd.length:Int)<(dX ks fl rm
 b).fst.bz.len)) (.ret (6,0,0,0,0,0,List.replicate 64 (0:Int),List.replicate 64 (0:Int),List.replicate 64 (0:Int),[],List.replicate 64
 (0:Int))) (.need ((n9 ks fl rm b).snd.snd.length≤1099511627776) (.ite (!decide (gp (n9 ks fl rm b).snd.snd=(dX ks fl rm
 b).fst.bz.plain)) (.ret (7,0,0,0,0,0,List.replicate 64 (0:Int),List.replicate 64 (0:Int),List.replicate 64 (0:Int),[],List.replicate
 64 (0:Int))) (.ite (decide (0<(↑(n9 ks fl rm b).snd.fst.length:Int))) (.ret (6,0,0,0,0,0,List.replicate 64 (0:Int),List.replicate 64
 (0:Int),List.replicate 64 (0:Int),[],List.replicate 64 (0:Int))) (.need (0≤(dX ks fl rm b).fst.bz.ver∧(dX ks fl rm b).fst.bz.ver<
 18446744073709551616∧0≤(dX ks fl rm b).fst.bz.lh∧(dX ks fl rm b).fst.bz.lh<18446744073709551616) (.need (((Gr ks fl rm b).length+
 (n9 ks fl rm b).snd.snd.length)*1≤70368744177664∧(Gr ks fl rm b).length+(n9 ks fl rm b).snd.snd.length≤70368744177664) (.need
 ((Gr ks fl rm b++(n9 ks fl rm b).snd.snd).length≤1099511627776) (.ret (0,(dX ks fl rm b).fst.key,(dX ks fl rm b).fst.blocks,(dX ks
 fl rm b).fst.bz.ver,(dX ks fl rm b).fst.bz.lh,(dX ks fl rm b).fst.bz.len,(dX ks fl rm b).fst.bz.list,(dX ks fl rm b).fst.bz.plain,
 (dX ks fl rm b).fst.sign,(n9 ks fl rm b).snd.snd,gp (Gr ks fl rm b++(n9 ks fl rm b).snd.snd))))))))))))))))
theorem ank(ks:List (List Int))(fl rm:Int)(b:List Int):aG Tryz.prog [(48,am7),(49,ana),(45,Pu),(50,ays)] [(0,bZ Pw ((ag).wr (())) anb (ani))] f18 ((DZ).wr (ks,fl,rm,b,())) ((ag).wr (())) [.dh 14 u8,.Ll,.fr [.rd true u8],.fr [.sym],.syms,.auto,.aE]=(ayw ks fl rm b).end aDf aDg ((ag).wr (())):=by kernel_rfl
theorem ase(ks:List (List Int))(fl rm:Int)(b:List Int):aH Tryz.prog ((ag).wr (())) [(0,bZ Pw ((ag).wr (())) anb (ani))] (aF f18):=(aH.bK (js (by kernel_rfl) (bP (hp:=(ag).wr (())) (anj ks fl rm b)) jt))
theorem ayx{ks:List (List Int)}{fl rm:Int}{b:List Int}(hb:ay b)(h:(dX ks fl rm b).2=0):dX ks fl rm b=((aw ks fl rm b).2.2,0)∧(aw ks fl rm b).1=0∧(cr (aw ks fl rm b).2.1 (aw ks fl rm b).2.2).1=0∧224+64*(aw ks fl rm b).2.2.blocks≤b.length∧
  (cr (aw ks fl rm b).2.1 (aw ks fl rm b).2.2).2.1=b.drop (224+64*(aw ks fl rm b).2.2.blocks).toNat∧(cr (aw ks fl rm b).2.1 (aw ks fl rm b).2.2).2.2=(b.drop 224).take (64*(aw ks fl rm b).2.2.blocks).toNat:=by
 have f1:(aw ks fl rm b).1=0:=by
  apply Classical.byContradiction;intro c
  unfold dX at h;rw[if_pos c]at h;exact c h
 have f2:(cr (aw ks fl rm b).2.1 (aw ks fl rm b).2.2).1=0:=by
  apply Classical.byContradiction;intro c
  unfold dX at h;rw[if_neg (by simpa using f1),if_pos c]at h;exact c h
 obtain⟨k1,k2,k3,k4,k5⟩:=si (ks:=ks) (fl:=fl) (rm:=rm) hb
 have f3:(aw ks fl rm b).2.1=b.drop 224∧224≤b.length:=by
  unfold aw at f1 ⊢;grind
 refine⟨by unfold dX;rw[if_neg (by simpa using f1),if_neg (by simpa using f2)],f1,f2,?_⟩;rw[f3.1]at f2 ⊢;generalize (aw ks fl rm b).2.2=l at*;have hl:(b.drop 224).length=b.length-224:=List.length_drop;have hd:b.drop (224+64*l.blocks).toNat=(b.drop 224).drop (64*l.blocks).toNat:=by rw[List.drop_drop];congr 1;omega
 unfold cr at f2 ⊢;grind
theorem ayy{ks:List (List Int)}{fl rm:Int}{b:List Int}(h:(dX ks fl rm b).2≠0):OR ks fl rm b=⟨(dX ks fl rm b).2,dW,[],List.replicate 64 0⟩:=by
 unfold OR fk;unfold dX at h ⊢;grind
abbrev Vm(ks:List (List Int))(fl rm:Int)(b:List Int):Prop:=ay b∧b.length<1099511627776∧ze ks
abbrev ayz(ks:List (List Int))(fl rm:Int)(b:List Int):asd:=vdT (OR ks fl rm b)
def aDh:an:=cv [some (.arr u8 32),none,none,some u8] (DZ) (ag) (fun x_ y_=>Vm x_.1 x_.2.1 x_.2.2.1 x_.2.2.2.1) (fun x_ y_=>ayz x_.1 x_.2.1 x_.2.2.1 x_.2.2.2.1) aDf aDg
theorem ayA(ks:List (List Int))(fl rm:Int)(b:List Int)(h_:Vm ks fl rm b):(ayw ks fl rm b).Is (ayz ks fl rm b):=by
 delta ayz;have p0:AH ks fl rm b:=h_;obtain⟨h1,h2,h3⟩:=h_;simp only[ayw,aq,ir,aP,fC,au];refine⟨p0,?_⟩
 by_cases c:(dX ks fl rm b).2=0
 ·obtain⟨g1,g2,g3,g4,g5,g6⟩:=ayx h1 c;obtain⟨k1,k2,k3,k4,k5,k6⟩:=si (ks:=ks) (fl:=fl) (rm:=rm) h1;obtain⟨v1,v2⟩:=Yo (ks:=ks) (fl:=fl) (rm:=rm) h1;have kv:=DU ks fl rm b
  have w0:i64.wrap (224+i64.wrap (64*(aw ks fl rm b).2.2.blocks))=224+64*(aw ks fl rm b).2.2.blocks:=by
   rw[ao (n:=64*_) (by omega) (by omega),ao (by omega) (by omega)]
  have e2:Y4 ks fl rm b=(b.drop 224).take (64*(aw ks fl rm b).2.2.blocks).toNat:=by
   unfold Y4;rw[g1];simp only;rw[w0,show(224+64*(aw ks fl rm b).2.2.blocks-224)=64*(aw ks fl rm b).2.2.blocks by omega]
  have e4:Y5 ks fl rm b=b.drop (224+64*(aw ks fl rm b).2.2.blocks).toNat:=by
   unfold Y5;rw[g1];simp only;rw[w0,aYjz (by omega)]
  have e5:n9 ks fl rm b=jW (aw ks fl rm b).2.2.blocks.toNat 0 (cr (aw ks fl rm b).2.1 (aw ks fl rm b).2.2).2.2 (aw ks fl rm b).2.2.bz.len (cr (aw ks fl rm b).2.1 (aw ks fl rm b).2.2).2.1 []:=by
   unfold n9;rw[e2,e4,g1,g5,g6];simp only;rw[Int.sub_zero]
  have e0:Y3 ks fl rm b=(aw ks fl rm b).2.2.bz:=by unfold Y3;rw[g1]
  have e1:Gr ks fl rm b=lZ (aw ks fl rm b).2.2.bz.ver (aw ks fl rm b).2.2.bz.lh (aw ks fl rm b).2.2.bz.len (aw ks fl rm b).2.2.bz.list (aw ks fl rm b).2.2.bz.plain:=by unfold Gr;rw[g1]
  have ej:OR ks fl rm b=(fun(l:cK) (y:Int×List Int×List Int)=>if(if y.1≠0 then y.1 else wT l y.2.1 y.2.2)≠0 then(⟨if y.1≠0 then y.1 else wT l y.2.1 y.2.2,dW,[],List.replicate 64 0⟩:Vd)else⟨0,l,y.2.2,gp (lZ l.bz.ver l.bz.lh l.bz.len l.bz.list l.bz.plain++y.2.2)⟩) (aw ks fl rm b).2.2 (jW (aw ks fl rm b).2.2.blocks.toNat 0 (cr (aw ks fl rm b).2.1 (aw ks fl rm b).2.2).2.2 (aw ks fl rm b).2.2.bz.len (cr (aw ks fl rm b).2.1 (aw ks fl rm b).2.2).2.1 []):=by
   unfold OR fk;rw[if_neg (by simpa using g2),if_neg (by simpa using g3)]
  obtain⟨r1,r2,r3⟩:=As (aw ks fl rm b).2.2.blocks.toNat 0 (cr (aw ks fl rm b).2.1 (aw ks fl rm b).2.2).2.2 (aw ks fl rm b).2.2.bz.len (cr (aw ks fl rm b).2.1 (aw ks fl rm b).2.2).2.1 [] (by rw[g5];exact h1.drop _) (by simp only[List.length_nil];omega)
  have p1:w5 ((b.drop (224+64*(aw ks fl rm b).2.2.blocks).toNat)) ((b.drop 224).take (64*(aw ks fl rm b).2.2.blocks).toNat) 0 ⟨0,dW,[],List.replicate 64 0⟩ (aw ks fl rm b).2.2 (aw ks fl rm b).2.2.bz []:=by
   refine⟨by omega,by omega,by omega,h1.drop _,by rw[List.length_drop];omega,?_,?_,Ai h1 _ _,by simp only[List.length_nil];omega,by omega,rfl⟩
   ·rw[List.length_take,List.length_drop];omega
   ·rw[List.length_take,List.length_drop];omega
  have hm:=D0 (aw ks fl rm b).2.2.bz.ver (aw ks fl rm b).2.2.bz.lh (aw ks fl rm b).2.2.bz.len (aw ks fl rm b).2.2.bz.list (aw ks fl rm b).2.2.bz.plain;rw[ej];clear ej;simp only[e0,e1,e2,e4,e5,g1,w0];generalize hy:jW (aw ks fl rm b).2.2.blocks.toNat 0 (cr (aw ks fl rm b).2.1 (aw ks fl rm b).2.2).2.2 (aw ks fl rm b).2.2.bz.len (cr (aw ks fl rm b).2.1 (aw ks fl rm b).2.2).2.1 []=y at*;have p2:w5 (b.drop (224+64*(aw ks fl rm b).2.2.blocks).toNat) ((b.drop 224).take (64*(aw ks fl rm b).2.2.blocks).toNat) 0 ⟨0,⟨0,0,⟨0,0,0,List.replicate 64 0,List.replicate 64 0⟩,List.replicate 64 0⟩,[],List.replicate 64 0⟩ ⟨(aw ks fl rm b).2.2.key,(aw ks fl rm b).2.2.blocks,(aw ks fl rm b).2.2.bz,(aw ks fl rm b).2.2.sign⟩ (aw ks fl rm b).2.2.bz []:=p1;clear p0 p1 g1 g2 g3 g5 g6 e0 e1 e2 e4 e5 w0 c hy h1 h3;generalize (aw ks fl rm b).2.2=l at*;have lz:∀e:Int,vdT ⟨e,dW,[],List.replicate 64 0⟩=(e,0,0,0,0,0,List.replicate 64 0,List.replicate 64 0,List.replicate 64 0,[],List.replicate 64 0):=fun e=>rfl;obtain⟨kv1,kv2,kv3,kv4⟩:=kv;refine⟨fun _=>⟨by omega,by omega,p2,fun c=>?_,fun c=>⟨fun c2=>?_,fun c2=>⟨by omega,fun c3=>⟨fun c4=>?_,fun c4=>⟨⟨kv1,kv2,kv3,kv4⟩,⟨by omega,by omega⟩,by rw[List.length_append];omega,?_⟩⟩,fun c3=>?_⟩⟩⟩,fun h=>absurd rfl h⟩
  ·rw[if_pos c,if_pos c,lz]
  ·have c':¬y.1≠0:=c;rw[if_neg c',if_pos (by unfold wT;rw[if_pos c2];decide),lz];unfold wT;rw[if_pos c2]
  ·have c':¬y.1≠0:=c;have c3:gp y.2.2=l.bz.plain:=(by simpa using c3);have e:wT l y.2.1 y.2.2=6:=(by unfold wT;rw[if_neg c2,if_neg (by simpa using c3),if_pos (by omega)]);rw[if_neg c',e,if_pos (by decide),lz]
  ·have c':¬y.1≠0:=c;have c3:gp y.2.2=l.bz.plain:=(by simpa using c3);have e:wT l y.2.1 y.2.2=0:=(by unfold wT;rw[if_neg c2,if_neg (by simpa using c3),if_neg (by omega)]);rw[if_neg c',e,if_neg (by decide)];rfl
  ·have c':¬y.1≠0:=c;have c3:gp y.2.2≠l.bz.plain:=(by simpa using c3);have e:wT l y.2.1 y.2.2=7:=(by unfold wT;rw[if_neg c2,if_pos c3]);rw[if_neg c',e,if_pos (by decide),lz]
 ·rw[ayy c];exact⟨fun h=>absurd h c,fun _=>rfl⟩
theorem ayB:aDh.Ok Tryz.prog 18:=
 br mixed ((aj YZ (aj Y2 (aj AE (aj amX ax))))) func18 (by kernel_rfl) call18 (fun x_ y_=>ase x_.1 x_.2.1 x_.2.2.1 x_.2.2.2.1) (fun x_ y_=>ank x_.1 x_.2.1 x_.2.2.1 x_.2.2.2.1) (fun x_ y_ h=>ayA x_.1 x_.2.1 x_.2.2.1 x_.2.2.2.1 h)
abbrev Ky:Type:=Bool
abbrev anl(x:Ky):LV:=LV.one (VV.sc (SV.bool (SB.sym x)))
abbrev anm(x:Ky):List (Nat×Ev.Item):= []
def Vn(v:Vd)(w:Vd):Tr (Ky):=(.ite ((v.err==w.err)==true) (.ite ((v.lD.key==w.lD.key&&(v.lD.blocks==
 w.lD.blocks&&true)&&(v.lD.bz.ver==w.lD.bz.ver&&(v.lD.bz.lh==w.lD.bz.lh&&(v.lD.bz.len==w.lD.bz.len&&(decide
 (v.lD.bz.list=w.lD.bz.list)&&(decide (v.lD.bz.plain=w.lD.bz.plain)&&true))))&&(decide (v.lD.sign=w.lD.sign)&&true)))==true)
 (.ite (cV v.data w.data==true) (.ret (decide (v.mea=w.mea))) (.ret (false))) (.ret (false))) (.ret (false)))
theorem Vo(v w:Vd):aG Tryz.prog [] [] f16 (((ae (zh cVd) (ae (zh cVd) ag))).wr (v,w,())) ((ag).wr (())) [.fr [.sym],.syms,.auto,.aE]=(Vn v w).end anl anm ((ag).wr (())):=by kernel_rfl
theorem adK(v w:Vd):aH Tryz.prog ((ag).wr (())) [] (aF f16):=(aH.nil _)
abbrev Ee(v w:Vd):Prop:=v=w
abbrev Vp(v w:Vd):Ky:=true
def ann:an:=cv [] ((ae (zh cVd) (ae (zh cVd) ag))) (ag) (fun x_ y_=>Ee x_.1 x_.2.1) (fun x_ y_=>Vp x_.1 x_.2.1) anl anm
theorem ano(v w:Vd)(h_:Ee v w):(Vn v w).Is (Vp v w):=by
 delta Vp;have h:v=w:=h_;subst h;simp[Vn,bE,au,te]
theorem anp:ann.Ok Tryz.prog 16:=
 br mixed ax func16 (by kernel_rfl) call16 (fun x_ y_=>adK x_.1 x_.2.1) (fun x_ y_=>Vo x_.1 x_.2.1) (fun x_ y_ h=>ano x_.1 x_.2.1 h)
def Py(ks:List (List Int))(fl:Int)(rm:Int)(b:List Int):Vd:=OR ks fl rm b
abbrev AJ:Type:=Bool
abbrev Y6(x:AJ):LV:=LV.one (VV.sc (SV.bool (SB.sym x)))
abbrev Y7(x:AJ):List (Nat×Ev.Item):= []
def Kz(ks:List (List Int))(fl:Int)(rm:Int)(b:List Int):Tr (AJ):=(.need (tK) (.ite ((!true)==false)
 (.ite (decide (8<(↑ks.length:Int))==false) (.ite (decide (2500<(↑b.length:Int))) (.ret (true)) (.need (ks.length*32≤70368744177664∧
 ks.length≤70368744177664) (.need (b.length*1≤70368744177664∧b.length≤70368744177664) (.need (wV ks fl rm b) (.need (Vm ks fl rm b)
 (.need (Ee (Py ks fl rm b) (Py ks fl rm b)) (.ret (true)))))))) (.ret (true))) (.ret (true))))
theorem Pz(ks:List (List Int))(fl rm:Int)(b:List Int):aG Tryz.prog [(15,OW),(17,amb),(18,aDh),(16,ann)] [] Tryz.f4 ((DZ).wr (ks,fl,rm,b,())) ((ag).wr (())) [.fr [.sym],.syms,.auto,.aE]=(Kz ks fl rm b).end Y6 Y7 ((ag).wr (())):=by kernel_rfl
theorem Vq(ks:List (List Int))(fl rm:Int)(b:List Int):aH Tryz.prog ((ag).wr (())) [] (aF Tryz.f4):=(aH.nil _)
abbrev Gs(ks:List (List Int))(fl rm:Int)(b:List Int):Prop:=ze ks∧ay b
abbrev KA(ks:List (List Int))(fl rm:Int)(b:List Int):AJ:=true
def asf:an:=cv [] (DZ) (ag) (fun x_ y_=>Gs x_.1 x_.2.1 x_.2.2.1 x_.2.2.2.1) (fun x_ y_=>KA x_.1 x_.2.1 x_.2.2.1 x_.2.2.2.1) Y6 Y7
theorem adL(ks:List (List Int))(fl rm:Int)(b:List Int)(h_:Gs ks fl rm b):(Kz ks fl rm b).Is (KA ks fl rm b):=by
 delta KA;obtain⟨h1,h2⟩:=h_;have e1:((!true)==false)=true:=rfl;simp only[Kz,aq,e1,dP,au];refine⟨trivial,?_⟩
 by_cases c1:8<(ks.length:Int)
 ·have d:(decide (8<(ks.length:Int))==false)=false:=by simpa using c1
  simp only[d,e9,au]
 ·have d:(decide (8<(ks.length:Int))==false)=true:=by simpa using c1
  simp only[d,dP,aP,aq,au];exact⟨fun _=>trivial,fun c2=>⟨⟨by omega,by omega⟩,⟨by omega,by omega⟩,⟨h2,by omega,ar5 h1⟩,⟨h2,by omega,h1⟩,trivial,trivial⟩⟩
theorem adM:asf.Ok Tryz.prog 4:=
 br mixed ((aj UH (aj YI (aj ayB (aj anp ax))))) func4 (by kernel_rfl) call4 (fun x_ y_=>Vq x_.1 x_.2.1 x_.2.2.1 x_.2.2.2.1) (fun x_ y_=>Pz x_.1 x_.2.1 x_.2.2.1 x_.2.2.2.1) (fun x_ y_ h=>adL x_.1 x_.2.1 x_.2.2.1 x_.2.2.2.1 h)
end Go.Proofs.YtnbkagglkajbkaaGreat
end
