/- What the laws lean on, part 8: a reader of code, plain facts, and what each function gives; no conditions. -/
import Derived.Laws.Externs
import Derived.Test.YtliehnnljilacaaGreatA7
noncomputable section
open Go.IntKind (i64 signed u16 u32 u64 wrap wrap_u32)
set_option linter.unusedVariables false
set_option linter.unusedSimpArgs false
namespace Go.Proofs.YtliehnnljilacaaGreat
open Go Go.Ev Go.Proofs.Tryz
set_option maxRecDepth 100000
def oz:ab:= [4794697086780616226,8158064640168781261,13096744586834688815,16840607885511220156,4131703408338449720,6480981068601479193,10538285296894168987,12329834152419229976,15566598209576043074,1334009975649890238,2608012711638119052,6128411473006802146,8268148722764581231,9286055187155687089,11230858885718282805,13951009754708518548,16472876342353939154,17275323862435702243,1135362057144423861,2597628984639134821,3308224258029322869,5365058923640841347,6679025012923562964,8573033837759648693,10970295158949994411,12119686244451234320,12683024718118986047,13788192230050041572,14330467153632333762,15395433587784984357,489312712824947311,1452737877330783856,2861767655752347644,3322285676063803686,5560940570517711597,5996557281743188959,7280758554555802590,8532644243296465576,9350256976987008742,10552545826968843579,11727347734174303076,12113106623233404929,14000437183269869457,14369950271660146224,15101387698204529176,15463397548674623760,17586052441742319658,1182934255886127544,1847814050463011016,2177327727835720531,2830643537854262169,3796741975233480872,4115178125766777443,5681478168544905931,6601373596472566643,7507060721942968483,8399075790359081724,8693463985226723168,9568029438360202098,10144078919501101548,10430055236837252648,11840083180663258601,13761210420658862357,14299343276471374635,14566680578165727644,15097957966210449927,16922976911328602910,17689382322260857208,500013540394364858,748580250866718886,1242879168328830382,1977374033974150939,2944078676154940804,3659926193048069267,4368137639120453308,4836135668995329356,5532061633213252278,6448918945643986474,6902733635092675308,7801388544844847127]
def qx:ab:= [7640891576956012808,13503953896175478587,4354685564936845355,11912009170470909681,5840696475078001361,11170449401992604703,2270897969802886507,6620516959819538809]
def agM:bT:=bT.fw [] bG bG fun _ _=>.bN none (lD .u64 8 qx) []
def XE:bT:=bT.fw [] bG bG fun _ _=>.bN none (lD .u64 80 oz) []
theorem S2:cY aA [] [] f97 (bG.wr ()) (bG.wr ()) [.fr [.sym],.mS 0 0 8 .u64,.bS]= .bN (lD .u64 8 qx) []:=by kernel_rfl
theorem Po:cY aA [] [] f181 (bG.wr ()) (bG.wr ()) [.fr [.sym],.bS]= .bN (lD .u64 80 oz) []:=by kernel_rfl
theorem agN:agM.Ok aA 97:=by
 refine(bT.df call97 fun x_ y_ Q h=>?_).sym;refine(cg bJ bU func97 rfl (LT:= []) (ks:= [.fr [.sym],.mS 0 0 8 .u64,.bS]) (cn.nil _)).use (D:= []) ?_ h.2;show(cY _ _ _ _ (bG.wr ()) (bG.wr ()) _).sat _;rw[S2];exact⟨rfl,rfl⟩
theorem acC:XE.Ok aA 181:=by
 refine(bT.df call181 fun x_ y_ Q h=>?_).sym;refine(cg bJ bU func181 rfl (LT:= []) (ks:=aq) (cn.nil _)).use (D:= []) ?_ h.2;show(cY _ _ _ _ (bG.wr ()) (bG.wr ()) _).sat _;rw[Po];exact⟨rfl,rfl⟩
def XF(b:ab)(k:Nat)(m:ab):ab:=m.set (k/8) (cV .u64 (shl .u64 (m.getD (k/8) 0) 8) (u64.wrap (b.getD k 0)))
def sw(b:ab):ab:=upto (XF b) 0 128 (List.replicate 16 0)
theorem I1(b:ab)(k:Nat)(m:ab):(XF b k m).length=m.length:=by simp[XF]
abbrev aM9:Func:=f140
abbrev woC:cl (List LV) (ab×Int×Int×Unit):=jk 2 (bR (bO (cr 0 0)) (jk 1 (bR (bO (cr 1 0)) (jk 6 (bD (bO (gx false false u8)) (bD (bO (bX .i64)) (bD (bO (bX .i64)) (jk 17 bG))))))))
abbrev aNb:Wk:=.fr (eH 31 [(2,.bV),(4,.bV),(11,.bV),(12,.sym),(13,.sym)])
abbrev woX:cl (List LV) (Unit):=jk 2 (bR (bO (cr 0 0)) (jk 1 (bR (bO (cr 1 0)) (jk 26 bG))))
abbrev aX2:Wk:=.fr (eH 31 [(2,.bV),(4,.bV)])
abbrev woH:cl Hp (ab×ab×Unit):=bD (rG 218 .u64 16) (bD (rG 218 .u64 16) bG)
def woW:Exit→List Wk
 | .normal=> [aNb,.iN 0 0 16 .u64,.iN 1 0 16 .u64,.bS]
 | .exit 0=> [aX2,.bS]
 |_=> []
theorem aE5(b:ab)(n i:Int)(r m:ab):ma aA [] [] aM9 0 [] woW ((dy woC woH).wr ((b,n,i,()),(r,m,())))=cT.ite (decide (i<n)) (cT.need ((0:Int)≤i∧i<(↑b.length:Int)) (cT.need ((0:Int)≤i64.wrap (i.tdiv 8)∧i64.wrap (i.tdiv 8)<(16:Int)) (cT.need ((0:Int)≤i64.wrap (i.tdiv 8)∧i64.wrap (i.tdiv 8)< (16:Int)) (cT.bN Exit.normal ((dy woC woH).wr ((b,n,i64.wrap (i+1),PUnit.unit),r,m.set (0+(i64.wrap (i.tdiv 8)).toNat) (cV u64 (shl u64 ((List.take 16 (List.drop 0 m)).getD (i64.wrap (i.tdiv 8)).toNat (0:Int)) (8:Int)) (u64.wrap (b.getD i.toNat 0))),PUnit.unit)))))) (cT.bN (Exit.exit 0) ((dy woX woH).wr (PUnit.unit,r,m,PUnit.unit))):=by kernel_rfl
def woF(x:(ab×Int×Int×Unit)×ab×ab×Unit):cT:=.need (x.1.1.length=128∧x.1.2.1=128∧x.1.2.2.1=0∧x.2.2.1=List.replicate 16 0) (.bN (.exit 0) ((dy woX woH).wr ((),(x.2.1,sw x.1.1,()))))
theorem ar6(x):Ex aA [] (.loop (cG aM9 0)) ((dy woC woH).wr x) (woF x):=by
 obtain⟨⟨b,n,i,_⟩,r,m,_⟩:=x;refine Ex.need fun⟨h1,h2,h3,h4⟩=>?_;simp only at h1 h2 h3 h4;subst h2 h3 h4
 refine kB (ws:=woW) (hp:= []) bJ bU (cn.nil _) 128 (fun k m=>(dy woC woH).wr ((b,128,(k:Int),()),(r,m,()))) (fun m=>(dy woX woH).wr ((),(r,m,()))) (XF b) (fun _ m=>m.length=16)
  (fun k m R hk hm hn hx=>?_) (fun k m _ hm=>by rw[I1];exact hm) 0 (List.replicate 16 0) (by omega) (by simp)
 rw[aE5];refine⟨fun hb=>?_,fun hb=>?_⟩
 ·have iZ:k<128:=by have:=of_decide_eq_true hb;omega
  have e:i64.wrap ((k:Int).tdiv 8)=((k/8:Nat):Int):=nw k 8 (by omega);rw[e,eM hm,iK k (by omega)];simp only[Int.toNat_natCast,Nat.zero_add];exact⟨by omega,by omega,by omega,hn iZ⟩
 ·have:k=128:=by have:=of_decide_eq_false hb;omega
  exact hx this
abbrev aNc:gW:= [(0,iF (dy woC woH) 0 [aNb,.iN 0 0 16 .u64,.iN 1 0 16 .u64,.bS] woF)]
def agO:bT:=bT.fw [some u8] bA bG fun x_ y_=>(fun(b:ab)=>.bN (some (b.length=128)) (.dB [.agg [.arr (.int .u64) 16 (sw b)],.sc (.bool (.sym true))]) []) x_.1
theorem S3(b:ab):cY aA [] aNc f140 (bA.wr (b,())) (bG.wr ()) [.fr [.sym],.mS 0 0 16 .u64,.bS]=End.ite ((↑b.length:Int)!=(128:Int)) (End.bN (LV.dB [VV.agg [SV.arr (Ty.int u64) 16 [(0:Int),0,0,0,0,0,0,0,0,0,0,0,0,0,0,0]],VV.sc (SV.bool (SB.sym false))]) []) (End.need (b.length=128∧(↑b.length:Int)=(128:Int)∧(0:Int)=(0:Int)∧ [(0:Int),0,0,0,0,0,0,0,0,0,0,0,0,0,0,0]=List.replicate 16 (0:Int)) (End.bN (LV.dB [VV.agg [SV.arr (Ty.int u64) 16 (sw b)],VV.sc (SV.bool (SB.sym true))]) [])):=by kernel_rfl
theorem agP:agO.Ok aA 140:=by
 refine(bT.df call140 fun x_ y_ Q H_=>?_).sym;obtain⟨b,_⟩:=x_;obtain⟨hn,hq⟩:=H_;have hn:b.length=128:=hn;refine(cg bJ bU func140 rfl (LT:=aNc) (ks:= [.fr [.sym],.mS 0 0 16 .u64,.bS]) (cn.dO (mI rfl (fI (hp:= []) ar6) mT))).use (D:= []) ?_ hq;show(cY _ _ _ _ (bA.wr (b,())) (bG.wr ()) _).sat _;rw[S3];refine⟨fun h=>?_,fun h=>⟨⟨hn,by omega,rfl,rfl⟩,rfl,rfl⟩⟩;simp[hn]at h
def S4(t:Nat)(w:ab):ab:=w.set t (u64.wrap (u64.wrap (u64.wrap (DG (w.getD (t-2) 0) 19 61 6+w.getD (t-7) 0)+DG (w.getD (t-15) 0) 1 8 7)+w.getD (t-16) 0))
def lF(m:ab):ab:=upto S4 16 64 (m++List.replicate 64 0)
abbrev aNd:Func:=f182
abbrev scA:cl (List LV) (ab×Unit):=bD (SA .u64 16) bG
abbrev scC:cl (List LV) (Int×Unit):=jk 2 (bR (bO (cr 0 0)) (bR (bO (cr 1 0)) (bD (bO (bX .i64)) (jk 31 bG))))
abbrev aNf:Wk:=.fr (eH 36 [(2,.bV),(3,.bV),(4,.sym)])
abbrev scX:cl (List LV) (Unit):=jk 2 (bR (bO (cr 0 0)) (bR (bO (cr 1 0)) (jk 32 bG)))
abbrev aX5:Wk:=.fr (eH 36 [(2,.bV),(3,.bV)])
abbrev scH:cl Hp (ab×ab×Unit):=bD (rG 255 .u64 80) (bD (rG 255 .u64 80) bG)
abbrev agQ:List (FuncId×bT):= [(215,agI)]
theorem Pp:∀p∈agQ,p.2.Ok aA p.1:=bI agJ bU
def scW:Exit→List Wk
 | .normal=> [aNf,.bS]
 | .exit 0=> [aX5,.bS]
 |_=> []
theorem aE6(t:Int)(r w:ab):ma aA agQ [] aNd 0 [] scW ((dy scC scH).wr ((t,()),(r,w,())))=cT.ite (decide (t<(80:Int))) (cT.need ((0:Int)≤i64.wrap (t-2)∧i64.wrap (t-2)<(80:Int)) (cT.need ((0:Int)<(19:Int)∧(19:Int)<(64:Int)∧(0:Int)<(61:Int)∧(61:Int)<(64:Int)∧(0:Int)≤(6:Int)) (cT.need ((0:Int)≤ i64.wrap (t-7)∧i64.wrap (t-7)<(80:Int)) (cT.need ((0:Int)≤i64.wrap (t-15)∧i64.wrap (t-15)<(80:Int)) (cT.need ((0:Int)<(1:Int)∧(1:Int)<(64:Int)∧(0:Int)<(8:Int)∧(8:Int)<(64:Int)∧(0:Int)≤(7:Int)) (cT.need ((0:Int)≤i64.wrap (t-16)∧i64.wrap (t-16)<(80:Int)) (cT.need ((0:Int)≤t∧t<(80:Int)) (cT.bN Exit.normal ((dy scC scH).wr ((i64.wrap (t+1),PUnit.unit),r,w.set (0+t.toNat) (u64.wrap (u64.wrap (u64.wrap (DG ((List.take 80 (List.drop 0 w)).getD (i64.wrap (t-2)).toNat (0:Int)) (19:Int) (61:Int) 6+(List.take 80 (List.drop 0 w)).getD (i64.wrap (t-7)).toNat (0:Int))+DG ((List.take 80 (List.drop 0 w)).getD (i64.wrap (t-15)).toNat (0:Int)) (1:Int) (8:Int) (7:Int))+(List.take 80 (List.drop 0 w)).getD (i64.wrap (t-16)).toNat (0:Int))),PUnit.unit)))))))))) (cT.bN (Exit.exit 0) ((dy scX scH).wr (PUnit.unit,r,w,PUnit.unit))):=by kernel_rfl
def scF(x:(Int×Unit)×ab×ab×Unit):cT:=.need (x.1.1=16∧x.2.2.1.length=80) (.bN (.exit 0) ((dy scX scH).wr ((),(x.2.1,upto S4 16 64 x.2.2.1,()))))
theorem Au(t:Nat)(w:ab):(S4 t w).length=w.length:=by simp[S4]
theorem ar7(x):Ex aA [] (.loop (cG aNd 0)) ((dy scC scH).wr x) (scF x):=by
 obtain⟨⟨i,_⟩,r,w,_⟩:=x;refine Ex.need fun⟨h1,h2⟩=>?_;simp only at h1 h2;subst h1
 refine kB (ws:=scW) (hp:= []) bJ Pp (cn.nil _) 80 (fun k w=>(dy scC scH).wr (((k:Int),()),(r,w,()))) (fun w=>(dy scX scH).wr ((),(r,w,()))) S4 (fun k w=>16≤k∧w.length=80)
  (fun k w R hk hm hn hx=>?_) (fun k m _ hm=>⟨by omega,by rw[Au];exact hm.2⟩) 16 w (by omega) ⟨by omega,h2⟩
 obtain⟨h16,hm⟩:=hm;rw[aE6];refine⟨fun hb=>?_,fun hb=>?_⟩
 ·have iZ:k<80:=by have:=of_decide_eq_true hb;omega
  have e2:i64.wrap ((k:Int)-2)=((k-2:Nat):Int):=wq k 2 (by omega) (by omega);have e7:i64.wrap ((k:Int)-7)=((k-7:Nat):Int):=wq k 7 (by omega) (by omega);have e15:i64.wrap ((k:Int)-15)=((k-15:Nat):Int):=wq k 15 (by omega) (by omega);have e16:i64.wrap ((k:Int)-16)=((k-16:Nat):Int):=wq k 16 (by omega) (by omega);rw[e2,e7,e15,e16,eM hm,iK k (by omega)];simp only[Int.toNat_natCast,Nat.zero_add];exact⟨by omega,by decide,by omega,by omega,by decide,by omega,by omega,hn iZ⟩
 ·have:k=80:=by have:=of_decide_eq_false hb;omega
  exact hx this
abbrev aNg:gW:= [(0,iF (dy scC scH) 0 [aNf,.bS] scF)]
def agR:bT:=bT.fw [] scA bG fun x_ y_=>(fun(m:ab)=>.bN (some (m.length=16)) (lD .u64 80 (lF m)) []) x_.1
theorem S5(m:ab):cY aA agQ aNg f182 (scA.wr (m,())) (bG.wr ()) [.fr [.sym],.bS]=End.need ((0:Int)≤(0:Int)∧(0:Int)≤(80:Int)∧(80:Int)≤(80:Int)) (End.need ((0:Int)≤(0:Int)∧(0:Int)≤(16:Int)∧(16:Int)≤(16:Int)) (End.need ((16:Int)=(16:Int)∧(List.take 0 (List.replicate 80 (0:Int))++(List.take 80 (List.take 16 (List.drop 0 m))++List.drop (0+if 80≤(List.take 16 (List.drop 0 m)).length then 80 else(List.take 16 (List.drop 0 m)).length) (List.replicate 80 (0:Int)))).length=80) (End.bN (LV.one (VV.agg [SV.arr (Ty.int u64) 80 (upto S4 16 64 (List.take 0 (List.replicate 80 (0:Int))++(List.take 80 (List.take 16 (List.drop 0 m))++List.drop (0+if 80≤(List.take 16 (List.drop 0 m)).length then 80 else(List.take 16 (List.drop 0 m)).length) (List.replicate 80 (0:Int)))))])) []))):=by kernel_rfl
theorem agS:agR.Ok aA 182:=by
 refine(bT.df call182 fun x_ y_ Q H_=>?_).sym;obtain⟨m,_⟩:=x_;obtain⟨hn,hq⟩:=H_;have hn:m.length=16:=hn;refine(cg bJ Pp func182 rfl (LT:=aNg) (ks:=aq) (cn.dO (mI rfl (fI (hp:= []) ar7) mT))).use (D:= []) ?_ hq;show(cY _ _ _ _ (scA.wr (m,())) (bG.wr ()) _).sat _;rw[S5];have e:List.take 0 (List.replicate 80 (0:Int))++(List.take 80 (List.take 16 (List.drop 0 m))++List.drop (0+if 80≤(List.take 16 (List.drop 0 m)).length then 80 else(List.take 16 (List.drop 0 m)).length) (List.replicate 80 0))=m++List.replicate 64 0:=by
  rw[eM hn,hn];simp[List.take_of_length_le (show m.length≤80 by omega)]
 rw[e];refine⟨by omega,by omega,⟨rfl,by simp[hn]⟩,rfl,rfl⟩
def aNh(w:ab)(t:Nat)(x:ab):Int:=u64.wrap (u64.wrap (u64.wrap (u64.wrap (x.getD 7 0+zj (x.getD 4 0) 14 18 41)+chF (x.getD 4 0) (x.getD 5 0) (x.getD 6 0))+oz.getD t 0)+w.getD t 0)
def aX6(x:ab):Int:=u64.wrap (zj (x.getD 0 0) 28 34 39+aE3 (x.getD 0 0) (x.getD 1 0) (x.getD 2 0))
def aNi(w:ab)(t:Nat)(x:ab):ab:=[u64.wrap (aNh w t x+aX6 x),x.getD 0 0,x.getD 1 0,x.getD 2 0,u64.wrap (x.getD 3 0+aNh w t x),x.getD 4 0,x.getD 5 0,x.getD 6 0]
def aX7(x s:ab):ab:=(List.range 8).map fun i=>u64.wrap (x.getD i 0+s.getD i 0)
def Gi(w x:ab):ab:=upto (aNi w) 0 80 x
def DH(s m:ab):ab:=aX7 (Gi (lF m) s) s
theorem I2{m:ab}(h:m.length=16):(lF m).length=80:=by
 unfold lF;exact wm (f:=S4) (n:=80) (fun(_:Nat) (w:ab)=>w.length=80) (fun t w _ h=>by rw[Au];exact h) 64 16 (m++List.replicate 64 0) (by omega) (by simp[h])
abbrev aNj:Func:=f141
abbrev spC:cl (List LV) (Int×Unit):=jk 2 (bR (bO (cr 0 0)) (jk 1 (bR (bO (cr 1 0)) (bR (bO (cr 2 0)) (bR (bO (cr 3 0)) (bR (bO (cr 4 0)) (jk 8 (bD (bO (bX .i64)) (jk 69 bG)))))))))
abbrev aNl:Wk:=.fr (eH 86 [(2,.bV),(4,.bV),(5,.bV),(6,.bV),(7,.bV),(16,.sym)])
abbrev spX:cl (List LV) (Unit):=jk 2 (bR (bO (cr 0 0)) (jk 1 (bR (bO (cr 1 0)) (jk 2 (bR (bO (cr 2 0)) (jk 78 bG))))))
abbrev aX9:Wk:=.fr (eH 86 [(2,.bV),(4,.bV),(7,.bV)])
abbrev aE7:cl Hp (ab×ab×ab×Unit):=bD (rG 133 .u64 8) (bD (afS 133 .u64 8) (bD (afS 133 .u64 8) bG))
abbrev spH:cl Hp (ab×ab×ab×ab×ab×Unit):=bD (rG 133 .u64 8) (bD (rG 133 .u64 8) (bD (rG 255 .u64 80) (bD (rG 255 .u64 80) (bD (rG 133 .u64 8) bG))))
abbrev agT:List (FuncId×bT):= [(181,XE),(182,agR),(183,agK),(184,chE),(185,aM8)]
theorem Pq:∀p∈agT,p.2.Ok aA p.1:=bI acC (bI agS (bI agL (bI aM7 (bI aE4 bU))))
def spW:Exit→List Wk
 | .normal=> [aNl,.iN 4 0 8 .u64,.bS]
 | .exit 0=> [aX9,.bS,.Ap 1,.Ap 2]
 |_=> []
theorem aE8(t:Int)(s r k w x:ab):ma aA agT [] aNj 0 [] spW ((dy spC spH).wr ((t,()),(s,r,k,w,x,())))=cT.ite (decide (t<(80:Int))) (cT.need ((0:Int)<(14:Int)∧(14:Int)<(64:Int)∧(0:Int)<(18:Int)∧(18:Int)<(64:Int)∧(0:Int)<(41:Int)∧(41:Int)<(64:Int)) (cT.need ((0:Int)≤t∧t<(80:Int)) (cT.need ((0:Int)≤t∧t<(80:Int)) (cT.need ((0:Int) <(28:Int)∧(28:Int)<(64:Int)∧(0:Int)<(34:Int)∧(34:Int)<(64:Int)∧(0:Int)<(39:Int)∧(39:Int)<(64:Int)) (cT.bN Exit.normal ((dy spC spH).wr ((i64.wrap (t+1),PUnit.unit),s,r,k,w,[u64.wrap (u64.wrap (u64.wrap (u64.wrap (u64.wrap (x.getD 7 0+zj (x.getD 4 0) (14:Int) (18:Int) (41:Int))+chF (x.getD 4 0) (x.getD 5 0) (x.getD 6 0))+(List.take 80 (List.drop 0 k)).getD t.toNat 0)+(List.take 80 (List.drop 0 w)).getD t.toNat 0)+u64.wrap (zj (x.getD 0 0) (28:Int) (34:Int) 39+aE3 (x.getD 0 0) (x.getD 1 0) (x.getD 2 0))),x.getD 0 0,x.getD 1 0,x.getD 2 0,u64.wrap (x.getD 3 0+u64.wrap (u64.wrap (u64.wrap (u64.wrap (x.getD 7 0+zj (x.getD 4 0) (14:Int) (18:Int) (41:Int))+chF (x.getD 4 0) (x.getD 5 0) (x.getD 6 0))+(List.take 80 (List.drop 0 k)).getD t.toNat 0)+(List.take 80 (List.drop 0 w)).getD t.toNat 0)),x.getD 4 0,x.getD 5 0,x.getD 6 0],PUnit.unit))))))) (cT.bN (Exit.exit 0) ((dy spX aE7).wr (PUnit.unit,s,[r.getD (nat_lit 0) (0:Int),r.getD (nat_lit 1) (0:Int),r.getD (nat_lit 2) (0:Int),r.getD (nat_lit 3) (0:Int),r.getD (nat_lit 4) (0:Int),r.getD (nat_lit 5) (0:Int),r.getD (nat_lit 6) (0:Int),r.getD (nat_lit 7) (0:Int)],[x.getD (nat_lit 0) (0:Int),x.getD (nat_lit 1) (0:Int),x.getD (nat_lit 2) (0:Int),x.getD (nat_lit 3) (0:Int),x.getD (nat_lit 4) (0:Int),x.getD (nat_lit 5) (0:Int),x.getD (nat_lit 6) (0:Int),x.getD (nat_lit 7) (0:Int)],PUnit.unit))):=by kernel_rfl
def spF(x:(Int×Unit)×ab×ab×ab×ab×ab×Unit):cT:=.need (x.1.1=0∧x.2.2.2.1=oz∧x.2.2.2.2.1.length=80∧x.2.2.2.2.2.1.length=8) (.bN (.exit 0) ((dy spX aE7).wr ((),(x.2.1,x.2.2.1,Gi x.2.2.2.2.1 x.2.2.2.2.2.1,()))))
theorem ar8(x):Ex aA [] (.loop (cG aNj 0)) ((dy spC spH).wr x) (spF x):=by
 obtain⟨⟨i,_⟩,s,r,k,w,x,_⟩:=x;refine Ex.need fun⟨h1,h2,h3,h4⟩=>?_;simp only at h1 h2 h3 h4;subst h1 h2
 refine kB (ws:=spW) (hp:= []) bJ Pq (cn.nil _) 80 (fun j x=>(dy spC spH).wr (((j:Int),()),(s,r,oz,w,x,()))) (fun x=>(dy spX aE7).wr ((),(s,r,x,()))) (aNi w) (fun _ x=>x.length=8)
  (fun j x R hk hm hn hx=>?_) (fun k m _ hm=>rfl) 0 x (by omega) h4
 rw[aE8];refine⟨fun hb=>?_,fun hb=>?_⟩
 ·have iZ:j<80:=by have:=of_decide_eq_true hb;omega
  rw[eM h3,eM (l:=oz) (n:=80) rfl,iK j (by omega)];simp only[Int.toNat_natCast];exact⟨by decide,by omega,by omega,by decide,hn iZ⟩
 ·have:j=80:=by have:=of_decide_eq_false hb;omega
  exact hx this
abbrev aNn:gW:= [(0,iF (dy spC spH) 0 [aNl,.bS,.iN 1 0 8 .u64,.iN 4 0 8 .u64] spF)]
abbrev stA:cl (List LV) (ab×ab×Unit):=bD (SA .u64 8) (bD (SA .u64 16) bG)
def aAb:bT:=bT.fw [] stA bG fun x_ y_=>(fun(s m:ab)=>.bN (some (s.length=8∧m.length=16)) (lD .u64 8 (DH s m)) []) x_.1 x_.2.1
theorem acD(s m:ab):cY aA agT aNn f141 (stA.wr (s,m,())) (bG.wr ()) [.fr [.sym],.mS 0 0 8 .u64,.bS]=End.need (m.length=16) (End.need ((0:Int)=(0:Int)∧oz=oz∧(lF m).length=80∧s.length=8) (End.bN (LV.one (VV.agg [SV.arr (Ty.int u64) 8 [u64.wrap ((Gi (lF m) s).getD (nat_lit 0) 0+s.getD 0 0),u64.wrap ((Gi (lF m) s).getD (nat_lit 1) 0+s.getD 1 0),u64.wrap ((Gi (lF m) s).getD (nat_lit 2) 0+s.getD 2 0),u64.wrap ((Gi (lF m) s).getD (nat_lit 3) 0+s.getD 3 0),u64.wrap ((Gi (lF m) s).getD (nat_lit 4) 0+s.getD 4 0),u64.wrap ((Gi (lF m) s).getD (nat_lit 5) 0+s.getD 5 0),u64.wrap ((Gi (lF m) s).getD (nat_lit 6) 0+s.getD 6 0),u64.wrap ((Gi (lF m) s).getD (nat_lit 7) 0+s.getD 7 0)]])) [])):=by kernel_rfl
theorem ar9:aAb.Ok aA 141:=by
 refine(bT.df call141 fun x_ y_ Q H_=>?_).sym;obtain⟨s,m,_⟩:=x_;obtain⟨hn,hq⟩:=H_;have hn:s.length=8∧m.length=16:=hn;refine(cg bJ Pq func141 rfl (LT:=aNn) (ks:= [.fr [.sym],.mS 0 0 8 .u64,.bS]) (cn.dO (mI rfl (fI (hp:= []) ar8) mT))).use (D:= []) ?_ hq;show(cY _ _ _ _ (stA.wr (s,m,())) (bG.wr ()) _).sat _;rw[acD];exact⟨hn.2,⟨rfl,rfl,I2 hn.2,hn.1⟩,rfl,rfl⟩
theorem Pr(s m:ab):(DH s m).length=8:=rfl
structure HH where
 begun:Bool
 s:ab
 n:Int
 wait:ab
abbrev cHH:cl (List SV) HH:=(bD ou (bD (oa (.int .u64) 8) (bD (bX .i64) (bD (oa u8 128) bG)))).jr (fun x=>⟨x.1,x.2.1,x.2.2.1,x.2.2.2.1⟩) (fun h=>(h.begun,h.s,h.n,h.wait,())) (fun _=>rfl)
abbrev hI(h:HH):bE:=.cK (cHH.wr h) 136
abbrev ux:cl Hp (HH×Unit):=bD (ob 136 cHH) bG
abbrev hV(h:HH):LV:=.one (.agg (cHH.wr h))
abbrev DI:Wk:=.cK 0 [.sym,.bV,.sym,.bV]
def eX:HH:=⟨true,qx,0,List.replicate 128 0⟩
def aAc:bT:=bT.fw [] bG bG fun x_ y_=>.bN none (.one (.sc (.ptr 0 0))) [(0,hI eX)]
theorem acE:cY aA [(97,agM)] [] f65 (bG.wr ()) (bG.wr ()) [.iN 0 1 8 .u64,DI,.bS]=End.bN (LV.one (VV.sc (SV.ptr 0 0))) [some (bE.cK [SV.bool (SB.sym true),SV.arr (Ty.int u64) 8 qx,SV.int i64 (SI.sym 0),SV.arr ae 128 (List.replicate 128 (0:Int))] 136)]:=by kernel_rfl
theorem wG:aAc.Ok aA 65:=by
 refine(bT.df call65 fun x_ y_ Q H_=>?_).sym;have hq:=H_.2;refine(cg bJ ((bI agN bU)) func65 rfl (LT:= []) (ks:= [.iN 0 1 8 .u64,DI,.bS]) (cn.nil _)).use (D:= [(0,hI eX)]) ?_ hq;show(cY _ _ _ _ (bG.wr ()) (bG.wr ()) _).sat _;rw[acE];exact⟨rfl,rfl⟩
def aE9:bT:=bT.fw [] ((bR p0 bG)) ux fun x_ y_=>(fun(h:HH)=>.bN (some (h.begun=true)) (hV h) []) y_.1
theorem agU(h:HH):cY aA [] [] f98 (((bR p0 bG)).wr ()) (ux.wr (h,())) [.bS]=End.ite (!h.begun) End.fail (End.bN (LV.one (VV.agg [SV.bool (SB.sym h.begun),SV.arr (Ty.int u64) 8 h.s,SV.int i64 (SI.sym h.n),SV.arr ae 128 h.wait])) [some (bE.cK [SV.bool (SB.sym h.begun),SV.arr (Ty.int u64) 8 h.s,SV.int i64 (SI.sym h.n),SV.arr ae 128 h.wait] 136)]):=by kernel_rfl
theorem S6:aE9.Ok aA 98:=by
 refine(bT.df call98 fun x_ y_ Q H_=>?_).sym;obtain⟨h,_⟩:=y_;obtain⟨hn,hq⟩:=H_;have hn:h.begun=true:=hn;refine(cg bJ bU func98 rfl (LT:= []) (ks:= [.bS]) (cn.nil _)).use (D:= []) ?_ hq;show(cY _ _ _ _ (((bR p0 bG)).wr ()) (ux.wr (h,())) _).sat _;rw[agU];exact⟨fun e=>(by rw[hn]at e;cases e),fun _=>⟨rfl,rfl⟩⟩
def me(h:HH)(c:Int):HH:=if(h.n+1)%128=0 then⟨h.begun,DH h.s (sw (h.wait.set (h.n%128).toNat c)),h.n+1,h.wait.set (h.n%128).toNat c⟩else⟨h.begun,h.s,h.n+1,h.wait.set (h.n%128).toNat c⟩
def dk(h:HH)(b:ab):HH:=b.foldl me h
structure oA (h:HH):Prop where
 begun:h.begun=true
 n:0≤h.n
 s:h.s.length=8
 wait:h.wait.length=128
theorem I3(h:HH)(c:Int):(me h c).n=h.n+1:=by unfold me;split<;>rfl
theorem DJ{h:HH}(hh:oA h)(c:Int):oA (me h c):=by
 obtain⟨h1,h2,h3,h4⟩:=hh;unfold me;split
 ·exact⟨h1,by simp only;omega,Pr _ _,by simp[h4]⟩
 ·exact⟨h1,by simp only;omega,h3,by simp[h4]⟩
theorem js:∀ (b:ab) (h:HH),(dk h b).n=h.n+b.length
 | [],h=>by simp[dk]
 |c::b,h=>by
  show(dk (me h c) b).n=_;rw[js b,I3,List.length_cons];omega
theorem jO:∀ (b:ab) {h:HH},oA h→oA (dk h b)
 | [],_,hh=>hh
 |c::b,_,hh=>jO b (DJ hh c)
theorem sx(h:HH)(a b:ab):dk h (a++b)=dk (dk h a) b:=by simp[dk]
theorem DK{σ:Type}(g:σ→Int→σ)(b:ab):∀ (m k:Nat) (s:σ),k+m=b.length→upto (fun k s=>g s (b.getD k 0)) k m s=(b.drop k).foldl g s
 |0,k,s,h=>by rw[List.drop_eq_nil_of_le (by omega)];rfl
 |m+1,k,s,h=>by
  rw[ack (show k<b.length by omega)];exact DK g b m (k+1) _ (by omega)
abbrev aFa:Func:=f99
abbrev puC:cl (List LV) (ab×Int×Int×Unit):=bR (bO (cr 0 0)) (jk 7 (bD (bO (gx false false u8)) (bD (bO (bX .i64)) (bD (bO (bX .i64)) (jk 44 bG)))))
abbrev aNo:Wk:=.fr (eH 55 [(0,.bV),(8,.bV),(9,.sym),(10,.sym)])
abbrev puX:cl (List LV) (Unit):=jk 55 bG
abbrev aYc:Wk:=.fr (eH 55 [])
abbrev agV:List (FuncId×bT):= [(140,agO),(141,aAb)]
def puW:Exit→List Wk
 | .normal=> [aNo,DI,.bS]
 | .exit 0=> [aYc,DI,.bS]
 |_=> []
theorem aFb(h0 h:HH)(b:ab)(n i:Int):ma aA agV [] aFa 0 (ux.wr (h0,())) puW ((dy puC ux).wr ((b,n,i,()),(h,())))=cT.ite (decide (i<n)) (cT.need ((0:Int)≤i∧i<(↑b.length:Int)) (cT.need ((0:Int)≤h.n.tmod 128∧h.n.tmod 128<(128:Int)) (cT.ite ((i64.wrap (h.n+1)).tmod 128==(0:Int)) (cT.need ((0:Int)≤(0:Int)∧(0:Int)≤(128:Int)∧(128:Int)≤(128:Int)) (cT.need ((List.take 128 (List.drop 0 (h.wait.set (0+(h.n.tmod 128).toNat) (b.getD i.toNat 0)))).length=128) (cT.need (h.s.length=8∧16=16) (cT.bN Exit.normal ((dy puC ux).wr ((b,n,i64.wrap (i+1),PUnit.unit),{begun:=h.begun,s:=DH h.s (sw (List.take 128 (List.drop 0 (h.wait.set (0+(h.n.tmod 128).toNat) (b.getD i.toNat 0))))),n:=i64.wrap (h.n+1),wait:=h.wait.set (0+(h.n.tmod 128).toNat) (b.getD i.toNat 0)},PUnit.unit)))))) (cT.bN Exit.normal ((dy puC ux).wr ((b,n,i64.wrap (i+1),PUnit.unit),{begun:=h.begun,s:=h.s,n:=i64.wrap (h.n+1),wait:=h.wait.set (0+(h.n.tmod 128).toNat) (b.getD i.toNat 0)},PUnit.unit)))))) (cT.bN (Exit.exit 0) ((dy puX ux).wr (PUnit.unit,h,PUnit.unit))):=by kernel_rfl
theorem Ps:∀p∈agV,p.2.Ok aA p.1:=bI agP (bI ar9 bU)
def puF(x:(ab×Int×Int×Unit)×HH×Unit):cT:=.need (oA x.2.1∧x.1.2.1=x.1.1.length∧x.1.2.2.1=0∧x.2.1.n+x.1.1.length<2305843009213693952) (.bN (.exit 0) ((dy puX ux).wr ((),(dk x.2.1 x.1.1,()))))
theorem asb(h0:HH)(x):Ex aA (ux.wr (h0,())) (.loop (cG aFa 0)) ((dy puC ux).wr x) (puF x):=by
 obtain⟨⟨b,n,i,_⟩,h,_⟩:=x;refine Ex.need fun⟨h1,h2,h3,h4⟩=>?_;simp only at h1 h2 h3 h4;subst h2 h3;have a3j:(b.length:Int)<2305843009213693952:=by have:=h1.n;omega
 have key:=kB (fn:=aFa) (id:=0) (j:=0) (ws:=puW) (hp:=ux.wr (h0,())) bJ Ps (cn.nil _) b.length (fun k h=>(dy puC ux).wr ((b,(b.length:Int),(k:Int),()),(h,()))) (fun h=>(dy puX ux).wr ((),(h,()))) (fun k h=>me h (b.getD k 0)) (fun k h=>oA h∧h.n+(b.length-k:Nat)<2305843009213693952)
  (fun k h R hk hm hn hx=>?_) (fun k h _ hh=>⟨DJ hh.1 _,by rw[I3];have:=hh.2;omega⟩) 0 h (by omega) ⟨h1,by simpa using h4⟩
 ·rw[Nat.sub_zero,DK me b _ _ _ (by omega)]at key;exact key
 obtain⟨hh,iZ⟩:=hm;obtain⟨g1,g2,g3,g4⟩:=hh;rw[aFb];refine⟨fun hb=>?_,fun hb=>?_⟩
 ·have px:k<b.length:=by have:=of_decide_eq_true hb;omega
  have e1:i64.wrap (h.n+1)=h.n+1:=bM (by omega) (by omega);have e2:h.n.tmod 128=h.n%128:=Int.tmod_eq_emod_of_nonneg g2;have e3:(h.n+1).tmod 128=(h.n+1)%128:=Int.tmod_eq_emod_of_nonneg (by omega);have e4:∀c,List.take 128 (List.drop 0 (h.wait.set (h.n%128).toNat c))=h.wait.set (h.n%128).toNat c:=fun c=>eM (by simp[g4]);rw[e1,e2,e3,iK k (by omega)];simp only[Int.toNat_natCast,Nat.zero_add];rw[e4];have yP:=hn px;refine⟨⟨by omega,by omega⟩,by omega,fun hz=>?_,fun hz=>?_⟩
  ·have R1:(h.n+1)%128=0:=(by simpa using hz);rw[me,if_pos R1]at yP;exact⟨by omega,by simp[g4],⟨g3,trivial⟩,yP⟩
  ·have R1:¬ (h.n+1)%128=0:=(by simpa using hz);rw[me,if_neg R1]at yP;exact yP
 ·have:k=b.length:=by have:=of_decide_eq_false hb;omega
  exact hx this
abbrev aNp:gW:= [(0,iF (dy puC ux) 1 [aNo,DI,.bS] puF)]
abbrev hbA:cl (List LV) (ab×Unit):=bR p0 (bD (bO (gx false false u8)) bG)
def agW:bT:=bT.fw [none,some u8] hbA ux fun x_ y_=>(fun(b:ab) (h:HH)=>.bN (some (oA h∧h.n+b.length<2305843009213693952)) (.dB []) [(0,hI (dk h b))]) x_.1 y_.1
theorem acF(b:ab)(h:HH):cY aA agV aNp f99 (hbA.wr (b,())) (ux.wr (h,())) [DI,.bS]=End.need (oA h∧(↑b.length:Int)=(↑b.length:Int)∧(0:Int)=(0:Int)∧h.n+(↑b.length:Int)<(2305843009213693952:Int)) (End.bN (LV.dB []) [some (bE.cK [SV.bool (SB.sym (dk h b).begun),SV.arr (Ty.int u64) 8 (dk h b).s,SV.int i64 (SI.sym (dk h b).n),SV.arr ae 128 (dk h b).wait] 136)]):=by kernel_rfl
theorem XG:agW.Ok aA 99:=by
 refine(bT.df call99 fun x_ y_ Q H_=>?_).sym;obtain⟨b,_⟩:=x_;obtain⟨h,_⟩:=y_;obtain⟨hn,hq⟩:=H_;have hn:oA h∧h.n+b.length<2305843009213693952:=hn;refine(cg bJ Ps func99 rfl (LT:=aNp) (ks:= [DI,.bS]) (cn.dO (mI rfl (fI (hp:=ux.wr (h,())) (asb h)) mT))).use (D:= [(0,hI (dk h b))]) ?_ hq;show(cY _ _ _ _ (hbA.wr (b,())) (ux.wr (h,())) _).sat _;rw[acF];exact⟨⟨hn.1,rfl,rfl,hn.2⟩,rfl,rfl⟩
def agX:bT:=bT.fw [none,some u8] hbA ux fun x_ y_=>(fun(b:ab) (h:HH)=>.bN (some (oA h∧h.n+b.length<2305843009213693952)) (.dB []) [(0,hI (dk h b))]) x_.1 y_.1
theorem S7(b:ab)(h:HH):cY aA [(98,aE9),(99,agW)] [] f66 (hbA.wr (b,())) (ux.wr (h,())) [DI,.bS]=End.need (h.begun=true) (End.need (oA h∧h.n+(↑b.length:Int)<(2305843009213693952:Int)) (End.bN (LV.dB []) [some (bE.cK [SV.bool (SB.sym (dk h b).begun),SV.arr (Ty.int u64) 8 (dk h b).s,SV.int i64 (SI.sym (dk h b).n),SV.arr ae 128 (dk h b).wait] 136)])):=by kernel_rfl
theorem pR:agX.Ok aA 66:=by
 refine(bT.df call66 fun x_ y_ Q H_=>?_).sym;obtain⟨b,_⟩:=x_;obtain⟨h,_⟩:=y_;obtain⟨hn,hq⟩:=H_;have hn:oA h∧h.n+b.length<2305843009213693952:=hn;refine(cg bJ ((bI S6 (bI XG bU))) func66 rfl (LT:= []) (ks:= [DI,.bS]) (cn.nil _)).use (D:= [(0,hI (dk h b))]) ?_ hq;show(cY _ _ _ _ (hbA.wr (b,())) (ux.wr (h,())) _).sat _;rw[S7];exact⟨hn.1.begun,hn,rfl,rfl⟩
def fC(x:Int):ab:=(List.range 8).map fun i=>IntKind.u8.wrap (shr .u64 x ((56-8*i:Nat):Int))
def S8:bT:=bT.fw [] ((bD (bO (bX .u64)) bG)) bG fun x_ y_=>(fun(x:Int)=>.bN none (.one (.sc (.sl 0 0))) [(0,.own 0 u8 (fC x))]) x_.1
theorem S9(x:Int):cY aA [] [] f118 (((bD (bO (bX .u64)) bG)).wr (x,())) (bG.wr ()) [.bS,.ck]=End.need (1≤70368744177664∧1≤70368744177664) (End.need (2≤70368744177664∧2≤ 70368744177664) (End.need (3≤70368744177664∧3≤70368744177664) (End.need (4≤70368744177664∧4≤70368744177664) (End.need (5≤70368744177664∧5≤70368744177664) (End.need (6≤ 70368744177664∧6≤70368744177664) (End.need (7≤70368744177664∧7≤70368744177664) (End.need (8≤70368744177664∧8≤70368744177664) (End.bN (LV.one (VV.sc (SV.sl 0 0))) [some (bE.own 0 ae ([IntKind.u8.wrap (shr u64 x (56:Int))]++ [IntKind.u8.wrap (shr u64 x (48:Int))]++[IntKind.u8.wrap (shr u64 x (40:Int))]++ [IntKind.u8.wrap (shr u64 x (32:Int))]++ [IntKind.u8.wrap (shr u64 x (24:Int))]++ [IntKind.u8.wrap (shr u64 x (16:Int))]++ [IntKind.u8.wrap (shr u64 x (8:Int))]++ [IntKind.u8.wrap (shr u64 x (0:Int))]))])))))))):=by kernel_rfl
theorem DL:S8.Ok aA 118:=by
 refine(bT.df call118 fun x_ y_ Q H_=>?_).sym;obtain⟨x,_⟩:=x_;have hq:=H_.2;refine(cg bJ bU func118 rfl (LT:= []) (ks:= [.bS,.ck]) (cn.nil _)).use (D:= [(0,.own 0 u8 (fC x))]) ?_ hq;show(cY _ _ _ _ (((bD (bO (bX .u64)) bG)).wr (x,())) (bG.wr ()) _).sat _;rw[S9];exact⟨by omega,by omega,by omega,by omega,by omega,by omega,by omega,by omega,rfl,rfl⟩
def jD(s:ab):ab:=(List.range 8).foldl (fun a i=>a++fC (s.getD i 0)) []
def Pu:bT:=bT.fw [] ((bR p0 bG)) ux fun x_ y_=>(fun(h:HH)=>.bN none (.one (.sc (.sl 1 0))) [(1,.own 0 u8 (jD h.s))]) y_.1
theorem I4(h:HH):cY aA [(118,S8)] [] f119 (((bR p0 bG)).wr ()) (ux.wr (h,())) [.bS,.ck]=End.need (8≤70368744177664∧8≤70368744177664) (End.need (16≤70368744177664∧16≤ 70368744177664) (End.need (24≤70368744177664∧24≤70368744177664) (End.need (32≤70368744177664∧32≤70368744177664) (End.need (40≤70368744177664∧40≤70368744177664) (End.need (48 ≤70368744177664∧48≤70368744177664) (End.need (56≤70368744177664∧56≤70368744177664) (End.need (64≤70368744177664∧64≤70368744177664) (End.bN (LV.one (VV.sc (SV.sl 1 0))) [some (bE.cK [SV.bool (SB.sym h.begun),SV.arr (Ty.int u64) 8 h.s,SV.int i64 (SI.sym h.n),SV.arr ae 128 h.wait] 136),some (bE.own 0 ae (fC (h.s.getD 0 0)++fC (h.s.getD 1 0)++fC (h.s.getD 2 0)++fC (h.s.getD 3 0)++fC (h.s.getD 4 0)++fC (h.s.getD 5 0)++fC (h.s.getD 6 0)++fC (h.s.getD 7 0)))])))))))):=by kernel_rfl
theorem DM:Pu.Ok aA 119:=by
 refine(bT.df call119 fun x_ y_ Q H_=>?_).sym;obtain⟨h,_⟩:=y_;have hq:=H_.2;refine(cg bJ ((bI DL bU)) func119 rfl (LT:= []) (ks:= [.bS,.ck]) (cn.nil _)).use (D:= [(1,.own 0 u8 (jD h.s))]) ?_ hq;show(cY _ _ _ _ (((bR p0 bG)).wr ()) (ux.wr (h,())) _).sat _;rw[I4];exact⟨by omega,by omega,by omega,by omega,by omega,by omega,by omega,by omega,rfl,rfl⟩
abbrev aNq:Func:=f76
abbrev agY:List (FuncId×bT):= [(98,aE9),(99,agW),(118,S8),(119,Pu)]
theorem Pv:∀p∈agY,p.2.Ok aA p.1:=bI S6 (bI XG (bI DL (bI DM bU)))
abbrev I5:cl Hp (HH×ab×HH×Unit):=bD (ob 136 cHH) (bD (rG 37 .u8 64) (bD (ob 136 cHH) bG))
abbrev agZ:Wk:=.cK 2 [.sym,.bV,.sym,.bV]
abbrev suC:cl (List LV) (Int×Unit):=jk 2 (bR (bO (cr 1 0)) (bR (bO (cr 2 0)) (bD (bO (bX .u64)) (jk 24 bG))))
abbrev aFc:Wk:=.fr (eH 29 [(2,.bV),(3,.bV),(4,.sym)])
def suW:Exit→List Wk
 | .normal=> [aFc,agZ,.bS]
 | .exit 0=> [aFc,agZ,.bS]
 |_=> []
theorem aFd(h0 g:HH)(r:ab)(h:HH)(n:Int):ma aA agY [] aNq 0 (ux.wr (h0,())) suW ((dy suC I5).wr ((n,()),(g,r,h,())))=cT.ite (h.n.tmod 128!=(112:Int)) (cT.need (oA h∧h.n+1<(2305843009213693952:Int)) (cT.bN Exit.normal ((dy suC I5).wr ((n,PUnit.unit),g,r,dk h [(0:Int)],PUnit.unit)))) (cT.bN (Exit.exit 0) ((dy suC I5).wr ((n,PUnit.unit),g,r,h,PUnit.unit))):=by kernel_rfl
def qy(h:HH):HH:=dk h (List.replicate ((112-h.n)%128).toNat 0)
theorem acG{h:HH}(hz:¬h.n%128=112):qy (dk h [0])=qy h∧((112-(dk h [0]).n)%128).toNat<((112-h.n)%128).toNat:=by
 have e1:(dk h [0]).n=h.n+1:=by rw[js];rfl
 have e2:((112-h.n)%128).toNat=((112-(dk h [0]).n)%128).toNat+1:=by rw[e1];omega
 refine⟨?_,by omega⟩;unfold qy;rw[e2,List.replicate_succ];rfl
theorem ag0{h:HH}(hz:h.n%128=112):qy h=h:=by
 have e:((112-h.n)%128).toNat=0:=by omega
 unfold qy;rw[e];rfl
def suF(x:(Int×Unit)×HH×ab×HH×Unit):cT:=.need (oA x.2.2.2.1∧x.2.2.2.1.n+128<2305843009213693952) (.bN (.exit 0) ((dy suC I5).wr (x.1,(x.2.1,x.2.2.1,qy x.2.2.2.1,()))))
theorem asd(h0:HH)(x):Ex aA (ux.wr (h0,())) (.loop (cG aNq 0)) ((dy suC I5).wr x) (suF x):=by
 obtain⟨⟨n,_⟩,g,r,h,_⟩:=x;refine Ex.need fun⟨h1,h2⟩=>?_;simp only at h1 h2
 refine Xl bJ Pv (LT:= []) (ws:=suW) (hp:=ux.wr (h0,())) (cn.nil _) (fun h:HH=>((112-h.n)%128).toNat) (fun h:HH=>(dy suC I5).wr ((n,()),(g,r,h,()))) (fun h=>oA h∧h.n+(112-h.n)%128<2305843009213693952)
  (fun h=>.bN (.exit 0) ((dy suC I5).wr ((n,()),(g,r,qy h,())))) (fun h _=>aFd h0 g r h n) (fun h R hh hs=>?_) h ⟨h1,by omega⟩
 obtain⟨hh,iZ⟩:=hh;have e:h.n.tmod 128=h.n%128:=Int.tmod_eq_emod_of_nonneg hh.n;rw[e];refine⟨fun hb=>?_,fun hb=>?_⟩
 ·have mw:¬h.n%128=112:=by simpa using hb
  obtain⟨k1,k2⟩:=acG mw;have e1:(dk h [0]).n=h.n+1:=by rw[js];rfl
  refine⟨⟨hh,by omega⟩,.inl ⟨rfl,dk h [0],rfl,⟨jO _ hh,by rw[e1];omega⟩,k2,?_⟩⟩;show(cT.bN (.exit 0) ((dy suC I5).wr ((n,()),(g,r,qy (dk h [0]),())))).sat R;rw[k1];exact hs
 ·have mw:h.n%128=112:=by simpa using hb
  rw[ag0 mw]at hs;exact .inr ⟨by simp,hs⟩
abbrev aNr:gW:= [(0,iF (dy suC I5) 1 [aFc,agZ,.bS] suF)]
def aNs(h:HH)(n:Int):HH:=dk (dk (qy (dk h [128])) (fC (shr .u64 n 61))) (fC (shl .u64 n 3))
def AH(h:HH):ab:=jD (aNs h (u64.wrap h.n)).s
theorem wH(x:Int):(fC x).length=8:=rfl
theorem sy(s:ab):(jD s).length=64:=rfl
def aNt:bT:=bT.fw [] ((bR p0 bG)) ux fun x_ y_=>(fun(h:HH)=>.bN (some (oA h∧h.n<2305843009213693000)) (lD .u8 64 (AH h)) []) y_.1
theorem ag1(h:HH):cY aA agY aNr f76 (((bR p0 bG)).wr ()) (ux.wr (h,())) [.fr [.sym],DI,.bS]=End.need (h.begun=true) (End.need (oA h∧h.n+1<(2305843009213693952:Int)) (End.need (oA (dk h [(128:Int)])∧(dk h [(128:Int)]).n+128<(2305843009213693952:Int)) (End.need (oA (qy (dk h [(128:Int)]))∧(qy (dk h [(128:Int)])).n+8< (2305843009213693952:Int)) (End.need (oA (dk (qy (dk h [(128:Int)])) (fC (shr u64 (u64.wrap h.n) (61:Int))))∧(dk (qy (dk h [(128:Int)])) (fC (shr u64 (u64.wrap h.n) (61:Int)))).n+8<(2305843009213693952:Int)) (End.need (64≤64) (End.need (64≤64) (End.bN (LV.one (VV.agg [SV.arr ae 64 (List.take 64 (List.drop 0 (jD (dk (dk (qy (dk h [(128:Int)])) (fC (shr u64 (u64.wrap h.n) (61:Int)))) (fC (shl u64 (u64.wrap h.n) (3:Int)))).s)))])) [some (bE.cK [SV.bool (SB.sym h.begun),SV.arr (Ty.int u64) 8 h.s,SV.int i64 (SI.sym h.n),SV.arr ae 128 h.wait] 136)]))))))):=by kernel_rfl
theorem I6:aNt.Ok aA 76:=by
 refine(bT.df call76 fun x_ y_ Q H_=>?_).sym;obtain⟨h,_⟩:=y_;obtain⟨hn,hq⟩:=H_;have hn:oA h∧h.n<2305843009213693000:=hn;refine(cg bJ Pv func76 rfl (LT:=aNr) (ks:= [.fr [.sym],DI,.bS]) (cn.dO (mI rfl (fI (hp:=ux.wr (h,())) (asd h)) mT))).use (D:= []) ?_ hq;show(cY _ _ _ _ (((bR p0 bG)).wr ()) (ux.wr (h,())) _).sat _;rw[ag1];obtain⟨g1,g2⟩:=hn;have g3:=g1.n;have e1:(dk h [128]).n=h.n+1:=by rw[js];rfl
 have k1:oA (dk h [128]):=jO _ g1;have k2:oA (qy (dk h [128])):=jO _ k1;have e2:(qy (dk h [128])).n≤h.n+128:=by unfold qy;rw[js,e1,List.length_replicate];omega
 have k3:oA (dk (qy (dk h [128])) (fC (shr .u64 (u64.wrap h.n) 61))):=jO _ k2;have e3:(dk (qy (dk h [128])) (fC (shr .u64 (u64.wrap h.n) 61))).n≤h.n+136:=by rw[js,wH];omega
 have e4:∀s,List.take 64 (List.drop 0 (jD s))=jD s:=fun s=>eM (sy s);rw[e4];exact⟨g1.begun,⟨g1,by omega⟩,⟨k1,by omega⟩,⟨k2,by omega⟩,⟨k3,by omega⟩,by omega,by omega,rfl,rfl⟩
abbrev ofFn:Func:=f52
abbrev dO:List (FuncId×bT):= [(65,aAc),(66,agX),(76,aNt)]
abbrev rrA:cl (List LV) (List ab×Unit):=bD (bO (gx false false (.sl u8))) bG
abbrev ofC:cl (List LV) (List ab×Int×Int×Unit):=jk 2 (bR (bO (cr 0 0)) (bR (bO (cr 1 0)) (jk 3 (bD (bO (gx false false (.sl u8))) (bD (bO (bX .i64)) (bD (bO (bX .i64)) (jk 9 bG)))))))
abbrev aNv:Wk:=.fr (eH 19 [(2,.bV),(3,.bV),(7,.bV),(8,.sym),(9,.sym)])
abbrev ofX:cl (List LV) (Unit):=jk 2 (bR (bO (cr 0 0)) (bR (bO (cr 1 0)) (jk 15 bG)))
abbrev aYe:Wk:=.fr (eH 19 [(2,.bV),(3,.bV)])
abbrev Pw:cl Hp (ab×HH×Unit):=bD (rG 37 .u8 64) (bD (ob 136 cHH) bG)
abbrev ag2:Wk:=.cK 1 [.sym,.bV,.sym,.bV]
def ofW:Exit→List Wk
 | .normal=> [aNv,ag2,.bS]
 | .exit 0=> [aYe,ag2,.bS]
 |_=> []
theorem aFe(l:List ab)(n i:Int)(r:ab)(h:HH):ma aA dO [] ofFn 0 [] ofW ((dy ofC Pw).wr ((l,n,i,()),(r,h,())))=cT.ite (decide (i<n)) (cT.need ((0:Int)≤i∧i<(↑l.length:Int)) (cT.need (oA h∧h.n+(↑(List.length (l.getD i.toNat [])):Int)< (2305843009213693952:Int)) (cT.bN Exit.normal ((dy ofC Pw).wr ((l,n,i64.wrap (i+1),PUnit.unit),r,dk h (l.getD i.toNat []),PUnit.unit))))) (cT.bN (Exit.exit 0) ((dy ofX Pw).wr (PUnit.unit,r,h,PUnit.unit))):=by kernel_rfl
theorem Px:∀p∈dO,p.2.Ok aA p.1:=bI wG (bI pR (bI I6 bU))
theorem G1{σ:Type}(g:σ→ab→σ)(b:List ab):∀ (m k:Nat) (s:σ),k+m=b.length→upto (fun k s=>g s (b.getD k [])) k m s=(b.drop k).foldl g s
 |0,k,s,h=>by rw[List.drop_eq_nil_of_le (by omega)];rfl
 |m+1,k,s,h=>by
  have e:b.drop k=b.getD k []::b.drop (k+1):=by
   rw[List.drop_eq_getElem_cons (by omega:k<b.length),List.getD_eq_getElem?_getD,List.getElem?_eq_getElem (by omega:k<b.length)];rfl
  rw[e];exact G1 g b m (k+1) _ (by omega)
theorem G2:∀ (l:List ab) (h:HH),l.foldl dk h=dk h l.flatten
 | [],h=>rfl
 |b::l,h=>by rw[List.foldl_cons,G2 l,List.flatten_cons,sx]
def aNw(x:(List ab×Int×Int×Unit)×ab×HH×Unit):cT:=.need (oA x.2.2.1∧x.1.2.1=x.1.1.length∧x.1.2.2.1=0∧x.1.1.length<2305843009213693952∧x.2.2.1.n+x.1.1.flatten.length<2305843009213693952) (.bN (.exit 0) ((dy ofX Pw).wr ((),(x.2.1,dk x.2.2.1 x.1.1.flatten,()))))
theorem ase(x):Ex aA [] (.loop (cG ofFn 0)) ((dy ofC Pw).wr x) (aNw x):=by
 obtain⟨⟨l,n,i,_⟩,r,h,_⟩:=x;refine Ex.need fun⟨h1,h2,h3,h4,h5⟩=>?_;simp only at h1 h2 h3 h4 h5;subst h2 h3
 have key:=kB (fn:=ofFn) (id:=0) (j:=0) (ws:=ofW) (hp:= []) bJ Px (cn.nil _) l.length (fun k h=>(dy ofC Pw).wr ((l,(l.length:Int),(k:Int),()),(r,h,()))) (fun h=>(dy ofX Pw).wr ((),(r,h,()))) (fun k h=>dk h (l.getD k [])) (fun k h=>oA h∧h.n+(l.drop k).flatten.length<2305843009213693952)
  (fun k h R hk hm hn hx=>?_) (fun k h hk hh=>⟨jO _ hh.1,?_⟩) 0 h (by omega) ⟨h1,h5⟩
 ·rw[Nat.sub_zero,G1 dk l _ _ _ (by omega),G2]at key;exact key
 ·obtain⟨hh,iZ⟩:=hm;rw[aFe];refine⟨fun hb=>?_,fun hb=>?_⟩
  ·have px:k<l.length:=(by have:=of_decide_eq_true hb;omega);have e:l.drop k=l.getD k []::l.drop (k+1):=by
    rw[List.drop_eq_getElem_cons px,List.getD_eq_getElem?_getD,List.getElem?_eq_getElem px];rfl
   rw[e,List.flatten_cons,List.length_append]at iZ;rw[iK k (by omega)];simp only[Int.toNat_natCast];exact⟨by omega,⟨hh,by omega⟩,hn px⟩
  ·have:k=l.length:=(by have:=of_decide_eq_false hb;omega);exact hx this
 ·have e:l.drop k=l.getD k []::l.drop (k+1):=by
   rw[List.drop_eq_getElem_cons hk,List.getD_eq_getElem?_getD,List.getElem?_eq_getElem hk];rfl
  have h2:=hh.2;rw[e,List.flatten_cons,List.length_append]at h2;rw[js];omega
abbrev ofLT:gW:= [(0,iF (dy ofC Pw) 0 [aNv,ag2,.bS] aNw)]
theorem lO:oA eX:=⟨rfl,by decide,rfl,rfl⟩
def iG(b:ab):ab:=AH (dk eX b)
theorem qz(b:ab):(iG b).length=64:=rfl
def ofE:bT:=bT.fw [some (.sl u8)] rrA bG fun x_ y_=>(fun(l:List ab)=>.bN (some (l.length<2305843009213693952∧l.flatten.length<1152921504606846976)) (lD .u8 64 (iG l.flatten)) []) x_.1
theorem asf(l:List ab):cY aA dO ofLT f52 (rrA.wr (l,())) (bG.wr ()) [.fr [.sym],.bS]=End.need (oA {begun:=true,s:= [(7640891576956012808:Int),13503953896175478587,4354685564936845355,11912009170470909681,5840696475078001361,11170449401992604703,2270897969802886507,6620516959819538809],n:=(0:Int),wait:=List.replicate 128 (0:Int)}∧(↑l.length:Int)=(↑l.length:Int)∧(0:Int)=(0:Int)∧l.length<2305843009213693952∧0+(↑l.flatten.length:Int)< (2305843009213693952:Int)) (End.need (oA (dk {begun:=true,s:= [(7640891576956012808:Int),13503953896175478587,4354685564936845355,11912009170470909681,5840696475078001361,11170449401992604703,2270897969802886507,6620516959819538809],n:=(0:Int),wait:=List.replicate 128 (0:Int)} l.flatten)∧(dk {begun:=true,s:= [(7640891576956012808:Int),13503953896175478587,4354685564936845355,11912009170470909681,5840696475078001361,11170449401992604703,2270897969802886507,6620516959819538809],n:=(0:Int),wait:=List.replicate 128 (0:Int)} l.flatten).n<(2305843009213693000:Int)) (End.bN (LV.one (VV.agg [SV.arr ae 64 (AH (dk {begun:=true,s:= [(7640891576956012808:Int),13503953896175478587,4354685564936845355,11912009170470909681,5840696475078001361,11170449401992604703,2270897969802886507,6620516959819538809],n:=(0:Int),wait:=List.replicate 128 (0:Int)} l.flatten))])) [])):=by kernel_rfl
theorem G3:ofE.Ok aA 52:=by
 refine(bT.df call52 fun x_ y_ Q H_=>?_).sym;obtain⟨l,_⟩:=x_;obtain⟨hn,hq⟩:=H_;have hn:l.length<2305843009213693952∧l.flatten.length<1152921504606846976:=hn;refine(cg bJ Px func52 rfl (LT:=ofLT) (ks:=aq) (cn.dO (mI rfl (fI (hp:= []) ase) mT))).use (D:= []) ?_ hq;show(cY _ _ _ _ (rrA.wr (l,())) (bG.wr ()) _).sat _;rw[asf];have e:(dk eX l.flatten).n=l.flatten.length:=by rw[js];show(0:Int)+_=_;omega
 exact⟨⟨lO,rfl,rfl,hn.1,by omega⟩,⟨jO _ lO,by show(dk eX l.flatten).n<_;rw[e];omega⟩,rfl,rfl⟩
def gF:Nat→Int→ab
 |0,_=> []
 |k+1,x=>x%256::gF k (x/256)
theorem ib:∀ (k:Nat) (x:Int),(gF k x).length=k
 |0,_=>rfl
 |k+1,x=>by simp[gF,ib k]
theorem div_pow(x:Int)(i:Nat):x/256/256 ^ i=x/256 ^ (i+1):=by
 rw[Int.pow_succ,Int.mul_comm,Int.ediv_ediv_of_nonneg (by omega)]
theorem G4:∀ (i:Nat) (x:Int),gF (i+1) x=gF i x++ [x/256 ^ i%256]
 |0,x=>by simp[gF]
 |i+1,x=>by
  rw[gF,G4 i,gF,List.cons_append,div_pow]
theorem wI:∀ (k:Nat) (x:Int),gF k x=(List.range k).map fun i=>x/256 ^ i%256
 |0,_=>rfl
 |k+1,x=>by rw[G4,wI k,List.range_succ,List.map_append];rfl
theorem Py(x:Int):cY aA [] [] f102 (cl.wr (bD (bO (bX .u64)) bG) (x,())) [] [.bS,.ck]=End.need (1≤70368744177664∧1≤70368744177664) (End.need (2≤70368744177664∧2≤ 70368744177664) (End.need (3≤70368744177664∧3≤70368744177664) (End.need (4≤70368744177664∧4≤70368744177664) (End.need (5≤70368744177664∧5≤70368744177664) (End.need (6≤ 70368744177664∧6≤70368744177664) (End.need (7≤70368744177664∧7≤70368744177664) (End.need (8≤70368744177664∧8≤70368744177664) (End.bN (LV.one (VV.sc (SV.sl 0 0))) [some (bE.own 0 ae ([IntKind.u8.wrap (shr u64 x (0:Int))]++ [IntKind.u8.wrap (shr u64 x (8:Int))]++[IntKind.u8.wrap (shr u64 x (16:Int))]++ [IntKind.u8.wrap (shr u64 x (24:Int))]++ [IntKind.u8.wrap (shr u64 x (32:Int))]++ [IntKind.u8.wrap (shr u64 x (40:Int))]++ [IntKind.u8.wrap (shr u64 x (48:Int))]++ [IntKind.u8.wrap (shr u64 x (56:Int))]))])))))))):=by kernel_rfl
def ag3:bT:=bT.fw [] (bD (bO (bX .u64)) bG) bG fun x _=>.bN (some (0≤x.1∧x.1<18446744073709551616)) (.one (.sc (.sl 0 0))) [(0,.own 0 u8 (gF 8 x.1))]
theorem aFf:ag3.Ok aA 102:=by
 refine(bT.df call102 fun x y Q h=>?_).sym;obtain⟨x,_⟩:=x;obtain⟨⟨h1,h2⟩,hq⟩:=h;simp only at h1 h2;refine(cg bJ bU func102 rfl (LT:= []) (ks:= [.bS,.ck]) (cn.nil _)).use (D:= [(0,.own 0 u8 (gF 8 x))]) ?_ hq;show(cY _ _ _ _ (cl.wr (bD (bO (bX .u64)) bG) (x,())) [] _).sat _;rw[Py];have e:∀i:Nat,i<8→IntKind.u8.wrap (shr .u64 x (8*i:Nat))=x/256 ^ i%256:=by
  intro i hi;have e1:((2 ^ (8*i):Nat):Int)=256 ^ i:=by rw[Nat.pow_mul,Int.natCast_pow];rfl
  rw[wo .u64 x (8*i) (by simp[IntKind.bits];omega),wrap_u8,e1]
 refine⟨by omega,by omega,by omega,by omega,by omega,by omega,by omega,by omega,rfl,?_⟩;show _= [some (bE.own 0 u8 (gF 8 x))];rw[wI,← List.map_congr_left (fun i hi=>e i (by simpa using hi))];rfl
abbrev DN{Y:Type}(r:cl (List SV) Y):cl (List SV) (Int×Int×Y):=bD (bX .i64) (bD (bX .i64) r)
abbrev A5{Y:Type}(r:cl (List SV) Y):cl (List SV) (Int×Int×Int×ab×ab×Y):=bD (bX .u64) (bD (bX .u64) (bD (bX .i64) (bD (oa u8 64) (bD (oa u8 64) r))))
abbrev ag4:cl (List LV) ((Int×Int×Unit)×Unit):=bD (jf (DN bG)) bG
abbrev acH:cl (List LV) ((Int×Int×Int×ab×ab×Unit)×Unit):=bD (jf (A5 bG)) bG
def uy(a b:Int):ab:=if 0≤a∧a<8∧1≤b∧b≤16 then [66,74,75,49,a,b,0,0]else []
def oV(c v s:Int):Bool:=decide (v≤c∧1≤s∧s≤131072)
def aAd:bT:=bT.fw [] ag4 bG fun x _=>.bN none (.one (.sc (.sl 0 0))) [(0,.own 0 u8 (uy x.1.1 x.1.2.1))]
def Ta:bT:=bT.fw [] acH bG fun x _=>.bN none (nB (oV x.1.1 x.1.2.1 x.1.2.2.1)) []
theorem I7(a b:Int):cY aA [(101,ar3)] [] f174 (ag4.wr ((a,b,()),())) [] [.kA 0 u8,.bS,.ck]=End.ite (decide (a<(0:Int))==false) (End.ite (decide ((8:Int)≤a)==false) (End.ite (decide (b<(1:Int))==false) (End.ite (decide ((16:Int)<b)) (End.bN (LV.one (VV.sc (SV.sl 0 0))) [some (bE.own 0 ae [])]) (End.need (8≤ 70368744177664∧2≤140737488355328) (End.bN (LV.one (VV.sc (SV.sl 0 0))) [some (bE.own 0 ae [[(66:Int),74,75,49],[IntKind.u8.wrap a,IntKind.u8.wrap b,(0:Int),(0:Int)]].flatten)]))) (End.bN (LV.one (VV.sc (SV.sl 0 0))) [some (bE.own 0 ae [])])) (End.bN (LV.one (VV.sc (SV.sl 0 0))) [some (bE.own 0 ae [])])) (End.bN (LV.one (VV.sc (SV.sl 0 0))) [some (bE.own 0 ae [])]):=by kernel_rfl
theorem Tb(c v s:Int)(a b:ab):cY aA [] [] f100 (acH.wr ((c,v,s,a,b,()),())) [] [.fr [.sym],.bS]=End.ite (decide (v≤c)==true) (End.ite (decide ((1:Int)≤s)==true) (End.bN (LV.one (VV.sc (SV.bool (SB.sym (decide (s≤(131072:Int))))))) []) (End.bN (LV.one (VV.sc (SV.bool (SB.sym false)))) [])) (End.bN (LV.one (VV.sc (SV.bool (SB.sym false)))) []):=by kernel_rfl
theorem ag5(c v s:Int)(a b:ab):cY aA [(100,Ta),(102,ag3),(101,ar3)] [] f67 (acH.wr ((c,v,s,a,b,()),())) [] [.kA 0 u8,.bS,.ck]=End.ite (!oV c v s) (End.bN (LV.one (VV.sc (SV.sl 0 0))) [some (bE.own 0 ae [])]) (End.need ((0:Int) ≤c∧c<(18446744073709551616:Int)) (End.need ((0:Int)≤v∧v<(18446744073709551616:Int)) (End.need ((0:Int)≤u64.wrap s∧u64.wrap s<(18446744073709551616:Int)) (End.need ((0:Int)≤(0:Int)∧(0:Int)≤(64:Int)∧(64:Int)≤(64:Int)) (End.need ((0:Int)≤(0:Int)∧(0:Int)≤(64:Int)∧(64:Int)≤(64:Int)) (End.need ([gF 8 c,gF 8 v,gF 8 (u64.wrap s),List.take 64 (List.drop 0 a),List.take 64 (List.drop 0 b)].flatten.length≤70368744177664∧5≤ 140737488355328) (End.bN (LV.one (VV.sc (SV.sl 0 0))) [some (bE.own 0 ae [gF 8 c,gF 8 v,gF 8 (u64.wrap s),List.take 64 (List.drop 0 a),List.take 64 (List.drop 0 b)].flatten)]))))))):=by kernel_rfl
theorem uV{l m:ab}(h:l=m): [some (bE.own 0 u8 l)]=cq [(0,bE.own 0 u8 m)] []:=by rw[h];rfl
theorem asg:aAd.Ok aA 174:=by
 refine(bT.df call174 fun x y Q h=>?_).sym;obtain⟨⟨a,b,_⟩,_⟩:=x;refine(cg bJ (bI uU bU) func174 rfl (LT:= []) (ks:= [.kA 0 u8,.bS,.ck]) (cn.nil _)).use (D:= [(0,.own 0 u8 (uy a b))]) ?_ h.2;show(cY _ _ _ _ (ag4.wr ((a,b,()),())) [] _).sat _;rw[I7]
 refine⟨fun h1=>⟨fun h2=>⟨fun h3=>⟨fun h4=>⟨rfl,uV ?_⟩,fun h4=>⟨by omega,rfl,uV ?_⟩⟩,fun h3=>⟨rfl,uV ?_⟩⟩,fun h2=>⟨rfl,uV ?_⟩⟩,fun h1=>⟨rfl,uV ?_⟩⟩<;>
  simp at* <;>unfold uy<;>first|(rw[if_neg (by omega)])|(rw[if_pos (by omega),wrap_u8,wrap_u8,Int.emod_eq_of_lt (by omega) (by omega),Int.emod_eq_of_lt (by omega) (by omega)])
theorem ag6{b c:Bool}(h:b=c):nB b=nB c:=by rw[h]
theorem Pz:Ta.Ok aA 100:=by
 refine(bT.df call100 fun x y Q h=>?_).sym;obtain⟨⟨c,v,s,a,b,_⟩,_⟩:=x;refine(cg bJ bU func100 rfl (LT:= []) (ks:=aq) (cn.nil _)).use (D:= []) ?_ h.2;show(cY _ _ _ _ (acH.wr ((c,v,s,a,b,()),())) [] _).sat _;rw[Tb];refine⟨fun h1=>⟨fun h2=>⟨ag6 ?_,rfl⟩,fun h2=>⟨ag6 ?_,rfl⟩⟩,fun h1=>⟨ag6 ?_,rfl⟩⟩<;>simp_all[oV]<;>omega
def ub(c v s:Int)(a b:ab):ab:=if oV c v s=true then gF 8 c++gF 8 v++gF 8 s++a.take 64++b.take 64 else []
theorem qA{c v s:Int}(h:oV c v s=true):1≤s∧s≤131072:=by simp[oV]at h;omega
def aYf:bT:=bT.fw [] acH bG fun x _=>.bN (some (0≤x.1.1∧x.1.1<18446744073709551616∧0≤x.1.2.1∧x.1.2.1<18446744073709551616)) (.one (.sc (.sl 0 0))) [(0,.own 0 u8 (ub x.1.1 x.1.2.1 x.1.2.2.1 x.1.2.2.2.1 x.1.2.2.2.2.1))]
theorem ag7:aYf.Ok aA 67:=by
 refine(bT.df call67 fun x y Q h=>?_).sym;obtain⟨⟨c,v,s,a,b,_⟩,_⟩:=x;obtain⟨⟨h1,h2,h3,h4⟩,hq⟩:=h;simp only at h1 h2 h3 h4;refine(cg bJ (bI Pz (bI aFf (bI uU bU))) func67 rfl (LT:= []) (ks:= [.kA 0 u8,.bS,.ck]) (cn.nil _)).use (D:= [(0,.own 0 u8 (ub c v s a b))]) ?_ hq;show(cY _ _ _ _ (acH.wr ((c,v,s,a,b,()),())) [] _).sat _;rw[ag5];refine⟨fun hb=>⟨rfl,uV ?_⟩,fun hb=>?_⟩
 ·simp at hb;simp[ub,hb]
 ·simp at hb;obtain⟨r1,r2⟩:=qA hb;have e:=wrap_u64 (n:=s) (by omega) (by omega);rw[e];refine⟨⟨h1,h2⟩,⟨h3,h4⟩,⟨by omega,by omega⟩,⟨by omega,by omega,by omega⟩,⟨by omega,by omega,by omega⟩,⟨?_,by omega⟩,rfl,uV ?_⟩
  ·simp[ib];omega
  ·simp[ub,hb]
theorem PA(c v s:Int)(a b:ab):(ub c v s a b).length≤152:=by unfold ub;split<;>simp[ib];omega
abbrev bbA:cl (List LV) (ab×ab×Unit):=bD (bO (gx false false u8)) (bD (bO (gx false false u8)) bG)
theorem Tc(a b:ab):cY aA [] [] f173 (bbA.wr (a,b,())) [] []=End.bN (LV.one (VV.sc (SV.bool (SB.sym (gP a b))))) []:=by kernel_rfl
theorem I8:cY aA [] [] f137 [] [] [.bS,.ck]=End.bN (LV.one (VV.sc (SV.sl 0 0))) [some (bE.own 0 ae [(98:Int),111,111,116,106,97,99,107])]:=by kernel_rfl
def ag8:bT:=bT.fw [some u8,some u8] bbA bG fun x _=>.bN none (nB (gP x.1 x.2.1)) []
theorem wJ:ag8.Ok aA 173:=by
 refine(bT.df call173 fun x y Q h=>?_).sym;obtain⟨a,b,_⟩:=x;refine(cg bJ bU func173 rfl (LT:= []) (ks:= []) (cn.nil _)).use (D:= []) ?_ h.2;show(cY _ _ _ _ (bbA.wr (a,b,())) [] _).sat _;rw[Tc];exact⟨rfl,rfl⟩
def ash:bT:=bT.of [] bG bG fun _ _=>.bN none (.one (.sc (.sl 0 0))) [(0,.own 0 u8 [98,111,111,116,106,97,99,107])]
theorem aFg:ash.Ok aA 137:=by
 refine bT.df call137 fun x y Q h=>?_;refine(cg bJ bU func137 rfl (LT:= []) (ks:= [.bS,.ck]) (cn.nil _)).use (D:= [(0,.own 0 u8 [98,111,111,116,106,97,99,107])]) ?_ h.2;show(cY _ _ _ _ [] [] _).sat _;rw[I8];exact⟨rfl,rfl⟩
theorem I9(l:ab):cY aA [(174,aAd),(173,ag8)] [] f135 (bA.wr (l,())) [] [.fr [.sym],.bS]=End.ite ((↑l.length:Int)!=(8:Int)) (End.bN (LV.dB [VV.agg [SV.int i64 (SI.sym 0),SV.int i64 (SI.sym 0)],VV.sc (SV.bool (SB.sym false))]) []) (End.need ((0:Int)≤(4:Int)∧(4:Int)<l.length) (End.need ((0:Int)≤(5:Int)∧(5:Int)< (↑l.length:Int)) (End.ite (!gP (uy (i64.wrap (l.getD 4 0)) (i64.wrap (l.getD 5 0))) l) (End.bN (LV.dB [VV.agg [SV.int i64 (SI.sym 0),SV.int i64 (SI.sym 0)],VV.sc (SV.bool (SB.sym false))]) []) (End.bN (LV.dB [VV.agg [SV.int i64 (SI.sym (i64.wrap (l.getD 4 0))),SV.int i64 (SI.sym (i64.wrap (l.getD 5 0)))],VV.sc (SV.bool (SB.sym true))]) [])))):=by kernel_rfl
def cJ(l:ab):(Int×Int)×Bool:=if l.length=8∧gP (uy (i64.wrap (l.getD 4 0)) (i64.wrap (l.getD 5 0))) l=true then((i64.wrap (l.getD 4 0),i64.wrap (l.getD 5 0)),true)else((0,0),false)
def DO(r:(Int×Int)×Bool):LV:=.dB [.agg [.int .i64 (.sym r.1.1),.int .i64 (.sym r.1.2)],.sc (.bool (.sym r.2))]
def sA:bT:=bT.fw [some u8] bA bG fun x _=>.bN none (DO (cJ x.1)) []
theorem Av{l:ab}(h:¬ (l.length=8∧gP (uy (i64.wrap (l.getD 4 0)) (i64.wrap (l.getD 5 0))) l=true)):LV.dB [.agg [.int .i64 (.sym 0),.int .i64 (.sym 0)],.sc (.bool (.sym false))]=DO (cJ l):=by
 unfold cJ;rw[if_neg h];rfl
theorem Ja{l:ab}(h:l.length=8∧gP (uy (i64.wrap (l.getD 4 0)) (i64.wrap (l.getD 5 0))) l=true):LV.dB [.agg [.int .i64 (.sym (i64.wrap (l.getD 4 0))),.int .i64 (.sym (i64.wrap (l.getD 5 0)))],.sc (.bool (.sym true))]=DO (cJ l):=by
 unfold cJ;rw[if_pos h];rfl
theorem uW:sA.Ok aA 135:=by
 refine(bT.df call135 fun x y Q h=>?_).sym;obtain⟨l,_⟩:=x;refine(cg bJ (bI asg (bI wJ bU)) func135 rfl (LT:= []) (ks:=aq) (cn.nil _)).use (D:= []) ?_ h.2;show(cY _ _ _ _ (bA.wr (l,())) [] _).sat _;rw[I9];refine⟨fun h1=>⟨Av ?_,rfl⟩,fun h1=>?_⟩
 ·intro h;rw[h.1]at h1;cases h1
 ·have h1':(l.length:Int)=8:=bne_eq_false_iff_eq.1 h1;refine⟨⟨by omega,by omega⟩,⟨by omega,by omega⟩,fun h2=>⟨Av ?_,rfl⟩,fun h2=>⟨Ja ⟨by omega,?_⟩,rfl⟩⟩
  ·intro h;rw[h.2]at h2;cases h2
  ·revert h2;cases gP _ _<;>simp
theorem Td(l:ab):gP l l=true:=by simp[gP]
def qB(b:ab):ab:=iG (b.take 160)
def idF(b:ab):ab:=(iG b).take 8
def A6:bT:=bT.fw [some u8] bA bG fun x_ y_=>(fun(b:ab)=>.bN (some (b.length<1152921504606846976)) (lD .u8 64 (qB b)) []) x_.1
theorem PB(b:ab):cY aA [(52,ofE)] [] f138 (bA.wr (b,())) (bG.wr ()) [.fr [.sym],.bS]=End.need ((0:Int)≤(0:Int)∧((0:Int)≤if(160:Int)<b.length then(160:Int)else(↑b.length:Int))∧(if(160:Int)< (↑b.length:Int)then(160:Int)else(↑b.length:Int))≤(↑b.length:Int)) (End.need (1<2305843009213693952∧ [List.take ((if (160:Int)<b.length then(160:Int)else(↑b.length:Int))-0).toNat (List.drop 0 b)].flatten.length< 1152921504606846976) (End.bN (LV.one (VV.agg [SV.arr ae 64 (iG [List.take ((if(160:Int)<b.length then(160:Int)else(↑b.length:Int))-0).toNat (List.drop 0 b)].flatten)])) [])):=by kernel_rfl
theorem acI:A6.Ok aA 138:=by
 refine(bT.df call138 fun x_ y_ Q H_=>?_).sym;obtain⟨b,_⟩:=x_;obtain⟨hn,hq⟩:=H_;have hn:b.length<1152921504606846976:=hn;refine(cg bJ ((bI G3 bU)) func138 rfl (LT:= []) (ks:=aq) (cn.nil _)).use (D:= []) ?_ hq;show(cY _ _ _ _ (bA.wr (b,())) (bG.wr ()) _).sat _;rw[PB];have e:List.take ((if(160:Int)<b.length then(160:Int)else b.length)-0).toNat (List.drop 0 b)=b.take 160:=by
  rw[List.drop_zero];split
  ·rfl
  ·rw[List.take_of_length_le (by omega),List.take_of_length_le (by omega)]
 rw[e,List.flatten_singleton];refine⟨⟨by omega,by split<;>omega,by split<;>omega⟩,⟨by omega,by simp;omega⟩,rfl,rfl⟩
def idE:bT:=bT.fw [some u8] bA bG fun x_ y_=>(fun(b:ab)=>.bN (some (b.length<1152921504606846976)) (lD .u8 8 (idF b)) []) x_.1
theorem asi(b:ab):cY aA [(52,ofE)] [] f157 (bA.wr (b,())) (bG.wr ()) [.fr [.sym],.mS 0 0 8 .u8,.bS]=End.need (1<2305843009213693952∧ [b].flatten.length<1152921504606846976) (End.need ((0:Int)≤(0:Int)∧(0:Int)≤ (64:Int)∧(64:Int)≤(64:Int)) (End.need (8≤64) (End.need (8≤64) (End.bN (LV.one (VV.agg [SV.arr ae 8 (List.take 8 (List.drop 0 (List.take 64 (List.drop 0 (iG [b].flatten)))))])) [])))):=by kernel_rfl
theorem aAe:idE.Ok aA 157:=by
 refine(bT.df call157 fun x_ y_ Q H_=>?_).sym;obtain⟨b,_⟩:=x_;obtain⟨hn,hq⟩:=H_;have hn:b.length<1152921504606846976:=hn;refine(cg bJ ((bI G3 bU)) func157 rfl (LT:= []) (ks:= [.fr [.sym],.mS 0 0 8 .u8,.bS]) (cn.nil _)).use (D:= []) ?_ hq;show(cY _ _ _ _ (bA.wr (b,())) (bG.wr ()) _).sat _;rw[asi];rw[List.flatten_singleton,eM (qz b)];exact⟨⟨by omega,hn⟩,by omega,by omega,by omega,rfl,rfl⟩
def wK:Nat→ab→ab→ab
 |0,s,_=>s
 |k+1,s,b=>wK k (DH s (sw (b.take 128))) (b.drop 128)
def ag9(s b:ab):ab:=wK (b.length/128) s b
theorem nA(k:Nat)(s b:ab):wK (k+1) s b=wK k (DH s (sw (b.take 128))) (b.drop 128):=rfl
theorem DP(s b:ab):wK 0 s b=s:=rfl
theorem uX:∀ (k:Nat) (s b c:ab),b.take (128*k)=c.take (128*k)→128*k≤b.length→128*k≤c.length→wK k s b=wK k s c
 |0,_,_,_,_,_,_=>rfl
 |k+1,s,b,c,h,hb,hc=>by
  have e1:b.take 128=c.take 128:=by
   have:=congrArg (List.take 128) h;rw[List.take_take,List.take_take,Nat.min_eq_left (by omega)]at this;exact this
  have e2:(b.drop 128).take (128*k)=(c.drop 128).take (128*k):=by
   have:=congrArg (List.drop 128) h;rw[List.drop_take,List.drop_take,show 128*(k+1)-128=128*k from by omega]at this;exact this
  rw[nA,nA,e1];exact uX k _ _ _ e2 (by rw[List.length_drop];omega) (by rw[List.length_drop];omega)
theorem DQ:∀ (k:Nat) (s a b:ab),a.length=128*k→b.length=128→wK (k+1) s (a++b)=DH (wK k s a) (sw b)
 |0,s,a,b,ha,hb=>by
  have:a= []:=List.eq_nil_of_length_eq_zero (by omega);subst this;rw[nA,DP,DP,List.nil_append,List.take_of_length_le (by omega)]
 |k+1,s,a,b,ha,hb=>by
  rw[nA (k+1),nA k s a,List.take_append_of_le_length (by omega),List.drop_append_of_le_length (by omega)];exact DQ k _ (a.drop 128) b (by rw[List.length_drop];omega) hb
structure HP (h:HH) (row:ab):Prop where
 ok:oA h
 n:h.n=row.length
 s:h.s=ag9 qx row
 wait:h.wait.take (row.length%128)=row.drop (row.length/128*128)
theorem HP.byte{h:HH}{row:ab}(hp:HP h row)(c:Int):HP (me h c) (row++ [c]):=by
 obtain⟨h0,h1,h2,h3⟩:=hp;have hw:=h0.wait;have hn:(h.n%128).toNat=row.length%128:=by rw[h1];omega
 have uJ:(h.wait.set (row.length%128) c).take (row.length%128+1)=row.drop (row.length/128*128)++ [c]:=by
  rw[List.take_add_one,List.take_set_of_le (Nat.le_refl _),h3];simp[show row.length%128<h.wait.length by omega]
 refine⟨DJ h0 c,?_,?_,?_⟩
 ·rw[I3,h1];simp
 ·unfold me;by_cases hz:(h.n+1)%128=0
  ·rw[if_pos hz,hn];simp only;have hl:row.length%128=127:=(by omega);have aNy:h.wait.set (row.length%128) c=row.drop (row.length/128*128)++ [c]:=by
    rw[← uJ,List.take_of_length_le (by simp;omega)]
   have hk:(row++ [c]).length/128=row.length/128+1:=(by simp;omega);rw[aNy,h2];unfold ag9;rw[hk];have e:row++ [c]=row.take (row.length/128*128)++(row.drop (row.length/128*128)++ [c]):=(by rw[← List.append_assoc,List.take_append_drop]);rw[e,DQ _ _ _ _ (by rw[List.length_take];omega) (by simp;omega)];congr 1;exact uX _ _ _ _ (by rw[List.take_take];congr 1;omega) (by omega) (by rw[List.length_take];omega)
  ·rw[if_neg hz];simp only;have hk:(row++ [c]).length/128=row.length/128:=(by simp;omega);rw[h2];unfold ag9;rw[hk];exact uX _ _ _ _ (by rw[List.take_append_of_le_length (by omega)]) (by omega) (by simp;omega)
 ·have hwb:(me h c).wait=h.wait.set (row.length%128) c:=by unfold me;split<;>simp only[hn]
  rw[hwb];by_cases hz:(row.length+1)%128=0
  ·have e1:(row++ [c]).length%128=0:=(by simpa using hz);have e2:(row++ [c]).length/128*128=(row++ [c]).length:=(by omega);rw[e1,e2,List.drop_length];rfl
  ·have e1:(row++ [c]).length%128=row.length%128+1:=(by simp;omega);have e2:(row++ [c]).length/128*128=row.length/128*128:=(by simp;omega);rw[e1,e2,uJ,List.drop_append_of_le_length (by omega)]
theorem HP.put:∀ (b:ab) {h:HH} {row:ab},HP h row→HP (dk h b) (row++b)
 | [],h,row,hp=>by simpa [dk]using hp
 |c::b,h,row,hp=>by
  have:=HP.put b (hp.byte c);rw[List.append_assoc]at this;exact this
theorem HP.new:HP eX []:=⟨lO,rfl,rfl,rfl⟩
theorem HP.of(b:ab):HP (dk eX b) b:=by simpa using HP.new.put b
def eV:ab→Int
 | []=>0
 |x::l=>u64.wrap (u64.wrap (eV l*256)+u64.wrap x)
theorem asj(bs:ByteArray):∀ (k i:Nat) (r:List UInt8),bs.size-i=k→ByteArray.toList.loop bs i r=r.reverse++bs.data.toList.drop i:=by
 intro k;induction k with
 |zero=>
  intro i r h;unfold ByteArray.toList.loop;rw[if_neg (by omega),List.drop_eq_nil_of_le (by simp;exact Nat.sub_eq_zero_iff_le.1 h)];simp
 |succ k ih=>
  intro i r h;unfold ByteArray.toList.loop;have hi:i<bs.size:=by omega
  have um:i<bs.data.toList.length:=by simpa using hi
  rw[if_pos hi,ih (i+1) _ (by omega),List.drop_eq_getElem_cons um];have:bs.get! i=bs.data.toList[i]:=by
   cases bs with|mk d=>simp[ByteArray.get!,ByteArray.size]at*;exact getElem!_pos d i hi
  rw[this];simp
theorem acJ(bs:ByteArray):bs.toList=bs.data.toList:=by
 unfold ByteArray.toList;rw[asj bs _ 0 [] rfl];simp
theorem Aw(l:ab):(strOf l).toList.length=l.length:=by
 rw[acJ];simp[strOf]
theorem pS{l m:ab}(h:gP l m=true):l.length=m.length:=by
 unfold gP at h;have:=congrArg List.length (beq_iff_eq.1 h);rwa [Aw,Aw]at this
theorem jW:∀ {l:ab},bL l→l.length≤8→0≤eV l∧eV l<256 ^ l.length∧∀c,By c→l.length<8→eV (c::l)=eV l*256+c
 | [],_,_=>⟨by simp[eV],by simp[eV],fun c hc _=>by
  obtain⟨h0,h1⟩:=hc;simp only[eV];rw[wrap_u64 (n:=0*256) (by omega) (by omega),wrap_u64 (n:=c) (by omega) (by omega),wrap_u64 (by omega) (by omega)]⟩
 |x::l,hb,hl=>by
  simp only[List.length_cons]at hl;have hx:By x:=hb x (by simp);have mw:bL l:=fun z hz=>hb z (by simp[hz]);obtain⟨h1,h2,h3⟩:=jW mw (by omega);have e:=h3 x hx (by omega);obtain⟨W0,hx1⟩:=hx;have hp:(256:Int) ^ (l.length+1)=256 ^ l.length*256:=Int.pow_succ _ _;have iZ:eV (x::l)<256 ^ (l.length+1):=by rw[e,hp];omega
  refine⟨by rw[e];omega,iZ,fun c hc h8=>?_⟩;simp only[List.length_cons]at h8;obtain⟨hc0,hc1⟩:=hc;have hle:(256:Int) ^ (l.length+1)≤256 ^ 7:=by
   have:(256:Nat) ^ (l.length+1)≤256 ^ 7:=Nat.pow_le_pow_right (by omega) (by omega)
   exact_mod_cast this
  have h7:(256:Int) ^ 7=72057594037927936:=by decide
  have h0:0≤eV (x::l):=by rw[e];omega
  have hd:eV (c::x::l)=u64.wrap (u64.wrap (eV (x::l)*256)+u64.wrap c):=rfl;rw[hd,wrap_u64 (n:=eV (x::l)*256) (by omega) (by omega),wrap_u64 (n:=c) (by omega) (by omega),wrap_u64 (by omega) (by omega)]
theorem G5:∀ {l:ab} {c:Int},bL l→By c→l.length<8→eV (l++ [c])=eV l+c*256 ^ l.length
 | [],c,hb,hc,_=>by
  have:=(jW (l:= []) (fun _ h=>by simp at h) (by simp)).2.2 c hc (by simp);simp only[List.nil_append,List.length_nil,Int.pow_zero];rw[this];simp[eV]
 |x::l,c,hb,hc,h8=>by
  simp only[List.length_cons]at h8;have hx:By x:=hb x (by simp);have mw:bL l:=fun z hz=>hb z (by simp[hz])
  have CV:bL (l++ [c]):=fun z hz=>by
   rcases List.mem_append.1 hz with h|h
   ·exact mw z h
   ·simp at h;subst h;exact hc
  have e1:=(jW CV (by simp;omega)).2.2 x hx (by simp;omega);have e2:=(jW mw (by omega)).2.2 x hx (by omega);rw[List.cons_append,e1,G5 mw hc (by omega),e2,List.length_cons,Int.pow_succ,Int.add_mul,Int.mul_assoc];omega
theorem asl{l:ab}(h:bL l)(i:Nat):By (l.getD i 0):=by
 rw[List.getD_eq_getElem?_getD];cases he:l[i]? with
 |none=>exact⟨by simp,by simp⟩
 |some z=>exact h z (List.mem_of_getElem? he)
abbrev aFh:Func:=f180
abbrev vaC:cl (List LV) (Int×ab×Int×Int×Unit):=jk 3 (bD (bO (bX .u64)) (jk 3 (bD (bO (gx false false u8)) (bD (bO (bX .i64)) (bD (bO (bX .i64)) (jk 13 bG))))))
abbrev aNA:Wk:=.fr (eH 23 [(3,.sym),(7,.bV),(8,.sym),(9,.sym)])
abbrev vaX:cl (List LV) (Int×Unit):=jk 3 (bD (bO (bX .u64)) (jk 19 bG))
abbrev aYi:Wk:=.fr (eH 23 [(3,.sym)])
def vaW:Exit→List Wk
 | .normal=> [aNA,.bS]
 | .exit 0=> [aYi,.bS]
 |_=> []
theorem aFi(x:Int)(l:ab)(n i:Int):ma aA [] [] aFh 0 [] vaW ((dy vaC bG).wr ((x,l,n,i,()),()))=cT.ite (decide (i<n)) (cT.need ((0:Int)≤i∧i<(↑l.length:Int)) (cT.need ((0:Int)≤i64.wrap (8*i)) (cT.bN Exit.normal ((dy vaC bG).wr ((cV u64 x (shl u64 (u64.wrap (l.getD i.toNat 0)) (i64.wrap (8*i))),l,n,i64.wrap (i+1),PUnit.unit),PUnit.unit))))) (cT.bN (Exit.exit 0) ((dy vaX bG).wr ((x,PUnit.unit),PUnit.unit))):=by kernel_rfl
def vaF(x:(Int×ab×Int×Int×Unit)×Unit):cT:=.need (x.1.1=0∧x.1.2.1.length=8∧bL x.1.2.1∧x.1.2.2.1=x.1.2.1.length∧x.1.2.2.2.1=0) (.bN (.exit 0) ((dy vaX bG).wr ((eV x.1.2.1,()),())))
theorem aAf{l:ab}{k:Nat}(hl:bL l)(h8:l.length=8)(hk:k<8):cV .u64 (eV (l.take k)) (shl .u64 (u64.wrap (l.getD k 0)) (i64.wrap (8*(k:Int))))=eV (l.take (k+1)):=by
 have hc:By (l.getD k 0):=asl hl k;have e0:l.take (k+1)=l.take k++ [l.getD k 0]:=by
  rw[List.take_add_one];simp[List.getD_eq_getElem?_getD,List.getElem?_eq_getElem (show k<l.length by omega)]
 have hlen:(l.take k).length=k:=by rw[List.length_take];omega
 obtain⟨r1,r2,_⟩:=jW (hl.take k) (by omega);rw[hlen]at r2;obtain⟨hc0,hc1⟩:=hc;have e1:i64.wrap (8*(k:Int))=((8*k:Nat):Int):=by rw[bM (by omega) (by omega)];omega
 have hpw:((2 ^ (8*k):Nat):Int)=256 ^ k:=by rw[Nat.pow_mul,Int.natCast_pow];rfl
 have hle:(256:Int) ^ k≤256 ^ 7:=by
  have:(256:Nat) ^ k≤256 ^ 7:=Nat.pow_le_pow_right (by omega) (by omega)
  exact_mod_cast this
 have h7:(256:Int) ^ 7=72057594037927936:=by decide
 have lp:(0:Int)<256 ^ k:=Int.pow_pos (by omega);have hmul:l.getD k 0*256 ^ k≤255*256 ^ k:=Int.mul_le_mul_of_nonneg_right (by omega) (by omega);have aNB:0≤l.getD k 0*256 ^ k:=Int.mul_nonneg hc0 (by omega)
 rw[e0,G5 (hl.take k) ⟨hc0,hc1⟩ (by omega),hlen,e1,wrap_u64 hc0 (by omega),mU .u64 _ _ (by show 8*k≤64;omega),hpw,wrap_u64 (by omega) (by omega),nv,
  Ds (m:=8*k) aNB (by rw[hpw];exact Int.mul_emod_left _ _) r1 (by rw[hpw];exact r2) (by omega)]
 omega
theorem asm(x):Ex aA [] (.loop (cG aFh 0)) ((dy vaC bG).wr x) (vaF x):=by
 obtain⟨⟨y,l,n,i,_⟩,_⟩:=x;refine Ex.need fun⟨h1,h2,h3,h4,h5⟩=>?_;simp only at h1 h2 h3 h4 h5;subst h1 h4 h5
 have key:=kB (fn:=aFh) (id:=0) (j:=0) (ws:=vaW) (hp:= []) bJ bU (cn.nil _) 8 (fun k (_:Unit)=>(dy vaC bG).wr ((eV (l.take k),l,(l.length:Int),(k:Int),()),())) (fun _=>(dy vaX bG).wr ((eV (l.take 8),()),())) (fun _ u=>u) (fun _ _=>True)
  (fun k u R hk _ hn hx=>?_) (fun _ _ _ _=>trivial) 0 () (by omega) trivial
 ·rw[List.take_of_length_le (show l.length≤8 by omega)]at key;exact key
 rw[aFi];refine⟨fun hb=>?_,fun hb=>?_⟩
 ·have px:k<8:=by have:=of_decide_eq_true hb;omega
  have e:=aAf h3 h2 px;rw[Int.toNat_natCast,e,iK k (by omega)];refine⟨by omega,?_,hn px⟩;rw[bM (by omega) (by omega)];omega
 ·have:k=8:=by have:=of_decide_eq_false hb;omega
  subst this;exact hx rfl
abbrev aNC:gW:= [(0,iF (dy vaC bG) 0 [aNA,.bS] vaF)]
def aha:bT:=bT.fw [some u8] bA bG fun x_ y_=>(fun(l:ab)=>.bN (some (8≤l.length∧bL l)) (nU (eV (l.take 8))) []) x_.1
theorem Te(l:ab):cY aA [] aNC f180 (bA.wr (l,())) (bG.wr ()) [.fr [.sym],.bS]=End.need ((0:Int)≤(0:Int)∧(0:Int)≤(8:Int)∧(8:Int)≤l.length) (End.need ((0:Int)=(0:Int)∧(List.take 8 (List.drop 0 l)).length=8∧bL (List.take 8 (List.drop 0 l))∧(↑(List.take 8 (List.drop 0 l)).length:Int)=(↑(List.take 8 (List.drop 0 l)).length:Int)∧(0:Int)=(0:Int)) (End.bN (LV.one (VV.sc (SV.int u64 (SI.sym (eV (List.take 8 (List.drop 0 l))))))) [])):=by kernel_rfl
theorem ahb:aha.Ok aA 180:=by
 refine(bT.df call180 fun x_ y_ Q H_=>?_).sym;obtain⟨l,_⟩:=x_;obtain⟨hn,hq⟩:=H_;have hn:8≤l.length∧bL l:=hn;refine(cg bJ bU func180 rfl (LT:=aNC) (ks:=aq) (cn.dO (mI rfl (fI (hp:= []) asm) mT))).use (D:= []) ?_ hq;show(cY _ _ _ _ (bA.wr (l,())) (bG.wr ()) _).sat _;rw[Te];obtain⟨h1,h2⟩:=hn;rw[List.drop_zero];exact⟨by omega,⟨rfl,by simp;omega,h2.take 8,rfl,rfl⟩,rfl,rfl⟩
structure MM where
 ver:Int
 lP:Int
 len:Int
 list:ab
 plain:ab
abbrev cMM:cl (List SV) MM:=(A5 bG).jr (fun x=>⟨x.1,x.2.1,x.2.2.1,x.2.2.2.1,x.2.2.2.2.1⟩) (fun m=>(m.ver,m.lP,m.len,m.list,m.plain,())) (fun _=>rfl)
def mm0:MM:=⟨0,0,0,List.replicate 64 0,List.replicate 64 0⟩
abbrev aYj(r:MM×Bool):LV:=.dB [.agg (cMM.wr r.1),.sc (.bool (.sym r.2))]
def PC(b:ab):MM:=⟨eV (b.take 8),eV ((b.drop 8).take 8),eV ((b.drop 16).take 8),(b.drop 24).take 64,(b.drop 88).take 64⟩
def mV(b:ab):MM×Bool:=if b.length=152∧oV (PC b).ver (PC b).lP (PC b).len=true then(PC b,true)else(mm0,false)
def asn:bT:=bT.fw [some u8] bA bG fun x_ y_=>(fun(b:ab)=>.bN (some (bL b)) (aYj (mV b)) []) x_.1
theorem ahc(b:ab):cY aA [(180,aha),(100,Ta)] [] f139 (bA.wr (b,())) (bG.wr ()) [.fr [.sym],.bS]=End.ite (((↑b.length:Int)!=(152:Int))==false) (End.need ((0:Int)≤(16:Int)∧(16:Int)≤b.length∧(↑b.length:Int)≤ (↑b.length:Int)) (End.need (8≤(List.take ((↑b.length:Int)-16).toNat (List.drop 16 b)).length∧bL (List.take ((↑b.length:Int)-16).toNat (List.drop 16 b))) (End.ite (decide ((131072:Int)<eV (List.take 8 (List.take ((↑b.length:Int)-16).toNat (List.drop 16 b))))) (End.bN (LV.dB [VV.agg [SV.int u64 (SI.sym 0),SV.int u64 (SI.sym 0),SV.int i64 (SI.sym 0),SV.arr ae 64 (List.replicate 64 (0:Int)),SV.arr ae 64 (List.replicate 64 (0:Int))],VV.sc (SV.bool (SB.sym false))]) []) (End.need (8≤b.length∧bL b) (End.need ((0:Int) ≤(8:Int)∧(8:Int)≤b.length∧(↑b.length:Int)≤(↑b.length:Int)) (End.need (8≤(List.take ((↑b.length:Int)-8).toNat (List.drop 8 b)).length∧bL (List.take ((↑b.length:Int)-8).toNat (List.drop 8 b))) (End.need ((0:Int)≤ (16:Int)∧(16:Int)≤b.length∧(↑b.length:Int)≤(↑b.length:Int)) (End.need (8≤(List.take ((↑b.length:Int)-16).toNat (List.drop 16 b)).length∧bL (List.take ((↑b.length:Int)-16).toNat (List.drop 16 b))) (End.need ((0:Int) ≤(24:Int)∧(24:Int)≤b.length∧(↑b.length:Int)≤(↑b.length:Int)) (End.need (64≤(List.take ((↑b.length:Int)-24).toNat (List.drop 24 b)).length) (End.need (64≤(List.take ((↑b.length:Int)-24).toNat (List.drop 24 b)).length) (End.need ((0:Int)≤(88:Int)∧(88:Int)≤b.length∧(↑b.length:Int)≤(↑b.length:Int)) (End.need (64≤ (List.take ((↑b.length:Int)-88).toNat (List.drop 88 b)).length) (End.need (64≤(List.take ((↑b.length:Int)-88).toNat (List.drop 88 b)).length) (End.ite (!oV (eV (List.take 8 b)) (eV (List.take 8 (List.take ((↑b.length:Int)-8).toNat (List.drop 8 b)))) (i64.wrap (eV (List.take 8 (List.take ((↑b.length:Int)-16).toNat (List.drop 16 b)))))) (End.bN (LV.dB [VV.agg [SV.int u64 (SI.sym 0),SV.int u64 (SI.sym 0),SV.int i64 (SI.sym 0),SV.arr ae 64 (List.replicate 64 (0:Int)),SV.arr ae 64 (List.replicate 64 (0:Int))],VV.sc (SV.bool (SB.sym false))]) []) (End.bN (LV.dB [VV.agg [SV.int u64 (SI.sym (eV (List.take 8 b))),SV.int u64 (SI.sym (eV (List.take 8 (List.take ((↑b.length:Int)-8).toNat (List.drop 8 b))))),SV.int i64 (SI.sym (i64.wrap (eV (List.take 8 (List.take ((↑b.length:Int)-16).toNat (List.drop 16 b)))))),SV.arr ae 64 (List.take 64 (List.drop 0 (List.take ((↑b.length:Int)-24).toNat (List.drop 24 b)))),SV.arr ae 64 (List.take 64 (List.drop 0 (List.take ((↑b.length:Int)-88).toNat (List.drop 88 b))))],VV.sc (SV.bool (SB.sym true))]) [])))))))))))))))) (End.bN (LV.dB [VV.agg [SV.int u64 (SI.sym 0),SV.int u64 (SI.sym 0),SV.int i64 (SI.sym 0),SV.arr ae 64 (List.replicate 64 (0:Int)),SV.arr ae 64 (List.replicate 64 (0:Int))],VV.sc (SV.bool (SB.sym false))]) []):=by kernel_rfl
theorem aFj:asn.Ok aA 139:=by
 refine(bT.df call139 fun x_ y_ Q H_=>?_).sym;obtain⟨b,_⟩:=x_;obtain⟨hn,hq⟩:=H_;have hn:bL b:=hn;refine(cg bJ ((bI ahb (bI Pz bU))) func139 rfl (LT:= []) (ks:=aq) (cn.nil _)).use (D:= []) ?_ hq;show(cY _ _ _ _ (bA.wr (b,())) (bG.wr ()) _).sat _;rw[ahc];refine⟨fun h0=>?_,fun h0=>?_⟩
 ·have hl:b.length=152:=by have:((b.length:Int)!=152)=false:=by simpa using h0
                           simp at this;omega
  have e:∀k:Nat,k≤152→List.take ((b.length:Int)-(k:Int)).toNat (List.drop k b)=b.drop k:=fun k hk=>by rw[List.take_of_length_le (by rw[List.length_drop];omega)]
  have e8:List.take ((b.length:Int)-8).toNat (List.drop 8 b)=b.drop 8:=e 8 (by omega);have e16:List.take ((b.length:Int)-16).toNat (List.drop 16 b)=b.drop 16:=e 16 (by omega);have e24:List.take ((b.length:Int)-24).toNat (List.drop 24 b)=b.drop 24:=e 24 (by omega);have e88:List.take ((b.length:Int)-88).toNat (List.drop 88 b)=b.drop 88:=e 88 (by omega);rw[e8,e16,e24,e88];obtain⟨r1,r2,_⟩:=jW ((hn.drop 16).take 8) (by rw[List.length_take];omega);refine⟨by omega,⟨by simp;omega,hn.drop 16⟩,fun h1=>?_,fun h1=>?_⟩
  ·have h1:=of_decide_eq_true h1
   have eg:mV b=(mm0,false):=if_neg fun⟨_,hr⟩=>by
    have:=(qA hr).2;simp only[PC]at this;omega
   rw[eg];exact⟨rfl,rfl⟩
  ·have h1:=of_decide_eq_false h1;have ew:i64.wrap (eV ((b.drop 16).take 8))=eV ((b.drop 16).take 8):=bM (by omega) (by omega);rw[ew];refine⟨⟨by omega,hn⟩,by omega,⟨by simp;omega,hn.drop 8⟩,by omega,⟨by simp;omega,hn.drop 16⟩,by omega,by simp;omega,by simp;omega,by omega,by simp;omega,by simp;omega,fun h2=>?_,fun h2=>?_⟩
   ·have eg:mV b=(mm0,false):=if_neg fun⟨_,hr⟩=>by
     have rL:oV (eV (b.take 8)) (eV ((b.drop 8).take 8)) (eV ((b.drop 16).take 8))=true:=hr;rw[rL]at h2;cases h2
    rw[eg];exact⟨rfl,rfl⟩
   ·have h2':oV (eV (b.take 8)) (eV ((b.drop 8).take 8)) (eV ((b.drop 16).take 8))=true:=(by simpa using h2);have eg:mV b=(PC b,true):=if_pos ⟨hl,h2'⟩;rw[eg];exact⟨rfl,rfl⟩
 ·have hl:¬b.length=152:=fun e=>by rw[e]at h0;simp at h0
  have eg:mV b=(mm0,false):=if_neg fun⟨h,_⟩=>hl h;rw[eg];exact⟨rfl,rfl⟩
end Go.Proofs.YtliehnnljilacaaGreat
noncomputable section
namespace Go.Ev
open Go
def Vec(α:Type):Nat→Type
 |0=>Unit
 |n+1=>α×Vec α n
namespace Vec
variable {α β γ:Type}
def toList: {n:Nat}→Vec α n→List α
 |0,_=> []
 |_+1,v=>v.1::toList v.2
def zip(f:α→β→γ): {n:Nat}→Vec α n→Vec β n→Vec γ n
 |0,_,_=>()
 |_+1,v,u=>(f v.1 u.1,zip f v.2 u.2)
def ofFn:(n:Nat)→(Nat→α)→Vec α n
 |0,_=>()
 |n+1,f=>(f 0,ofFn n fun i=>f (i+1))
def get[Inhabited α]: {n:Nat}→Vec α n→Nat→α
 |0,_,_=>default
 |_+1,v,0=>v.1
 |_+1,v,i+1=>get v.2 i
theorem iL: {n:Nat}→(v:Vec α n)→v.toList.length=n
 |0,_=>rfl
 |_+1,v=>by simp[toList,iL v.2]
theorem toList_inj: {n:Nat}→ {v u:Vec α n}→v.toList=u.toList→v=u
 |0,_,_,_=>rfl
 |n+1,v,u,h=>by
  simp only[toList,List.cons.injEq]at h;exact Prod.ext h.1 (toList_inj h.2)
end Vec
def sB{α:Type}(f:Nat→α→α):Nat→α→α
 |0,a=>a
 |k+1,a=>f k (sB f k a)
theorem tz{α:Type}(f:Nat→α→α)(a:α):∀n,upto f 0 n a=sB f n a
 |0=>rfl
 |n+1=>by rw[GV,tz f a n,Nat.zero_add];rfl
def gr(x y c:Int):Int×Int:=((((x.toNat+y.toNat+c.toNat)%2 ^ 64:Nat):Int),(((x.toNat+y.toNat+c.toNat)/2 ^ 64:Nat):Int))
def pT(x y b:Int):Int×Int:=((((x.toNat+2 ^ 64-y.toNat-b.toNat)%2 ^ 64:Nat):Int),if x.toNat<y.toNat+b.toNat then 1 else 0)
abbrev cU3:cl (List LV) (Int×Int×Int×Unit):=bD (bO (bX .u64)) (bD (bO (bX .u64)) (bD (bO (bX .u64)) bG))
def pU(g:Int→Int→Int→Int×Int):bT:=bT.of [] cU3 bG fun x _=>.bN (some (0≤x.2.2.1∧x.2.2.1≤1)) (.dB [.sc (.int .u64 (.sym (g x.1 x.2.1 x.2.2.1).1)),.sc (.int .u64 (.sym (g x.1 x.2.1 x.2.2.1).2))]) []
theorem XH{P:Program}{f:FuncId}{g:Int→Int→Int→Int×Int}(h:∀ (a b c:Int) (w:World),0≤c→c≤1→(callFunc f #[.int .u64 a,.int .u64 b,.int .u64 c]).run P w= .ok (.value (.tuple #[.int .u64 (g a b c).1,.int .u64 (g a b c).2])) w):(pU g).Ok P f:=by
 refine⟨fun args hp Q hq=>?_⟩;simp only[pU,bT.of]at hq;split at hq
 ·rename_i x y hx hy;rw[cU3.ok hx];obtain⟨a,b,c,_⟩:=x;obtain⟨⟨h0,h1⟩,hq⟩:=hq;intro β w vals hh dt;cases dt with
  |cons e1 dt=>cases dt with
   |cons e2 dt=>cases dt with
    |cons e3 dt=>
     cases dt;simp only[LV.den,VV.den,SV.den,bO,bX,SI.val]at e1 e2 e3;subst e1 e2 e3;exact .inl ⟨_,h a b c w h0 h1,_,β,_,hp,rfl,⟨[],hq,rfl⟩,⟨_,rfl,.cons rfl (.cons rfl .nil)⟩,hh⟩
 ·exact hq.elim
theorem G6{P:Program}(n:String)(a b c:Int)(w:World)(hc:¬c.toNat>1):(Extern.MathBitsCarry.three n #[.int .u64 a,.int .u64 b,.int .u64 c]).run P w= .ok (a.toNat,b.toNat,c.toNat) w:=by
 have e:Extern.MathBitsCarry.three n #[.int .u64 a,.int .u64 b,.int .u64 c]=(do
  let c:=(← asInt (.int .u64 c)).toNat
  if c>1 then unsupported (.noEntry ("extern/math/bits."++n++": a carry that is neither 0 nor 1"))
  pure ((← asInt (.int .u64 a)).toNat,(← asInt (.int .u64 b)).toNat,c)):=rfl
 rw[e];have uK:¬ 1<c.toNat:=hc;simp[asInt,asIntOf];omega
theorem Tf{P:Program}{f:FuncId}{fn:Func}(hf:P.funcs[f]? =some fn)(ahd:(fn.name=="runtime.NumGoroutine")=false)(hb:fn.body.isNone=true)(hn:Extern.findNext fn=none) {e:Array Value→Sem Value} (he:Extern.find fn=some e) (hee:e=(Extern.MathBitsCarry.rows.getD 0 ("",fun _=>pure undef)).2):(pU gr).Ok P f:=by
 refine XH fun a b c w h0 h1=>?_;rw[run_callFunc_extern hf ahd hb hn he,hee];have hc:¬c.toNat>1:=by omega
 simp[Extern.MathBitsCarry.rows,G6 _ _ _ _ _ hc,Extern.MathBitsCarry.pair,Extern.MathBitsCarry.m64,gr]
theorem Tg{P:Program}{f:FuncId}{fn:Func}(hf:P.funcs[f]? =some fn)(ahd:(fn.name=="runtime.NumGoroutine")=false)(hb:fn.body.isNone=true)(hn:Extern.findNext fn=none) {e:Array Value→Sem Value} (he:Extern.find fn=some e) (hee:e=(Extern.MathBitsCarry.rows.getD 1 ("",fun _=>pure undef)).2):(pU pT).Ok P f:=by
 refine XH fun a b c w h0 h1=>?_;rw[run_callFunc_extern hf ahd hb hn he,hee];have hc:¬c.toNat>1:=by omega
 simp[Extern.MathBitsCarry.rows,G6 _ _ _ _ _ hc,Extern.MathBitsCarry.pair,Extern.MathBitsCarry.m64,pT];split<;>rfl
def wM(k:IntKind){Y:Type}(r:cl (List SV) Y):(n:Nat)→cl (List SV) (Vec Int n×Y)
 |0=>r.jr (fun y=>((),y)) (fun p=>p.2) (fun _=>rfl)
 |n+1=>(bD (bX k) (wM k r n)).jr (fun p=>((p.1,p.2.1),p.2.2)) (fun p=>(p.1.1,(p.1.2,p.2))) (fun _=>rfl)
def nC(k:IntKind):(n:Nat)→cl (List SV) (Vec Int n)
 |0=>bG
 |n+1=>bD (bX k) (nC k n)
def sC(l:ab):Vec Int 32:=Vec.ofFn 32 fun i=>l.getD i 0
end Go.Ev
end
namespace BJ
def Jb(n:Nat):Prop:=2≤n∧∀m,m∣n→m=1∨m=n
def XI(n:Nat):Nat→Nat→Bool
 |0,_=>true
 |k+1,d=>if d*d>n then true else n%d !=0&&XI n k (d+1)
theorem Th(n:Nat):∀k d,XI n k d=true→(d+k)*(d+k)>n→∀m,d≤m→m*m≤n→¬m∣n:=by
 intro k;induction k with
 |zero=>intro d _ hgt m h1 h2;exfalso;have:=Nat.mul_le_mul h1 h1;simp at hgt;omega
 |succ k ih=>
  intro d h hgt m h1 h2 hd;unfold XI at h;split at h
  ·have:=Nat.mul_le_mul h1 h1;omega
  ·simp only[Bool.and_eq_true,bne_iff_ne]at h;by_cases he:m=d
   ·subst he;exact h.1 (Nat.mod_eq_zero_of_dvd hd)
   ·exact ih (d+1) h.2 (by rw[show d+1+k=d+(k+1) by omega];exact hgt) m (by omega) h2 hd
theorem Ax{n:Nat}(k:Nat)(hn:2≤n)(hk:(2+k)*(2+k)>n)(h:XI n k 2=true):Jb n:=by
 have hs:=Th n k 2 h hk;refine⟨hn,fun m hm=>?_⟩;refine Classical.byContradiction fun ko=>?_;have h1:m≠1:=fun e=>ko (.inl e);have h2:m≠n:=fun e=>ko (.inr e);obtain⟨c,hc⟩:=hm;have h0:m≠0:=by rintro rfl;simp at hc;omega
 have hc0:c≠0:=by rintro rfl;simp at hc;omega
 have hc1:c≠1:=by rintro rfl;simp at hc;omega
 by_cases hmc:m≤c
 ·exact hs m (by omega) (by rw[hc];exact Nat.mul_le_mul_left m hmc) ⟨c,hc⟩
 ·exact hs c (by omega) (by rw[hc];exact Nat.mul_le_mul_right c (by omega)) ⟨m,by rw[hc,Nat.mul_comm]⟩
theorem p2:Jb 2:=Ax 1 (by decide) (by decide) (by decide+kernel)
theorem p3:Jb 3:=Ax 1 (by decide) (by decide) (by decide+kernel)
end BJ
