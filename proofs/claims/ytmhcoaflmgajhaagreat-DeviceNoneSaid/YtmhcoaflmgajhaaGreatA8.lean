/- What the laws lean on, part 8: a reader of code, plain facts, and what each function gives; no conditions. -/
import Derived.Laws.Externs
import Derived.Test.YtmhcoaflmgajhaaGreatA7
set_option linter.unusedVariables false
set_option linter.unusedSimpArgs false
noncomputable section
namespace Go.Proofs.YtmhcoaflmgajhaaGreat
open Go Go.Ev Go.Proofs.Tryz
open Go.IntKind (i64 signed u32 u64 wrap wrap_u32)
set_option maxRecDepth 100000
def gF:List Int:= [4794697086780616226,8158064640168781261,13096744586834688815,16840607885511220156,4131703408338449720,6480981068601479193,10538285296894168987,12329834152419229976,15566598209576043074,1334009975649890238,2608012711638119052,6128411473006802146,8268148722764581231,9286055187155687089,11230858885718282805,13951009754708518548,16472876342353939154,17275323862435702243,1135362057144423861,2597628984639134821,3308224258029322869,5365058923640841347,6679025012923562964,8573033837759648693,10970295158949994411,12119686244451234320,12683024718118986047,13788192230050041572,14330467153632333762,15395433587784984357,489312712824947311,1452737877330783856,2861767655752347644,3322285676063803686,5560940570517711597,5996557281743188959,7280758554555802590,8532644243296465576,9350256976987008742,10552545826968843579,11727347734174303076,12113106623233404929,14000437183269869457,14369950271660146224,15101387698204529176,15463397548674623760,17586052441742319658,1182934255886127544,1847814050463011016,2177327727835720531,2830643537854262169,3796741975233480872,4115178125766777443,5681478168544905931,6601373596472566643,7507060721942968483,8399075790359081724,8693463985226723168,9568029438360202098,10144078919501101548,10430055236837252648,11840083180663258601,13761210420658862357,14299343276471374635,14566680578165727644,15097957966210449927,16922976911328602910,17689382322260857208,500013540394364858,748580250866718886,1242879168328830382,1977374033974150939,2944078676154940804,3659926193048069267,4368137639120453308,4836135668995329356,5532061633213252278,6448918945643986474,6902733635092675308,7801388544844847127]
def j4:List Int:= [7640891576956012808,13503953896175478587,4354685564936845355,11912009170470909681,5840696475078001361,11170449401992604703,2270897969802886507,6620516959819538809]
def IE:al:=al.cl [] ae ae fun _ _=>.leaf none (fX .u64 8 j4) []
def CY:al:=al.cl [] ae ae fun _ _=>.leaf none (fX .u64 80 gF) []
theorem Aw:bc Tryz.prog [] [] f74 (ae.wr ()) (ae.wr ()) [.fr [.sym],.gU 0 0 8 .u64,.auto]= .leaf (fX .u64 8 j4) []:=by kernel_rfl
theorem xC:bc Tryz.prog [] [] f145 (ae.wr ()) (ae.wr ()) [.fr [.sym],.auto]= .leaf (fX .u64 80 gF) []:=by kernel_rfl
theorem IF:IE.Ok Tryz.prog 74:=by
 refine(al.bb call74 fun x_ y_ Q h=>?_).sym;refine(au mixed aw func74 rfl (LT:= []) (ks:= [.fr [.sym],.gU 0 0 8 .u64,.auto]) (aS.nil _)).use (D:= []) ?_ h.2;show(bc _ _ _ _ (ae.wr ()) (ae.wr ()) _).sat _;rw[Aw];exact⟨rfl,rfl⟩
theorem Fa:CY.Ok Tryz.prog 145:=by
 refine(al.bb call145 fun x_ y_ Q h=>?_).sym;refine(au mixed aw func145 rfl (LT:= []) (ks:= [.fr [.sym],.auto]) (aS.nil _)).use (D:= []) ?_ h.2;show(bc _ _ _ _ (ae.wr ()) (ae.wr ()) _).sat _;rw[xC];exact⟨rfl,rfl⟩
def CZ(b:List Int)(k:Nat)(m:List Int):List Int:=m.set (k/8) (bf .u64 (shl .u64 (m.getD (k/8) 0) 8) (u64.wrap (b.getD k 0)))
def qL(b:List Int):List Int:=upto (CZ b) 0 128 (List.replicate 16 0)
theorem uz(b:List Int)(k:Nat)(m:List Int):(CZ b k m).length=m.length:=by simp[CZ]
abbrev YW:Func:=f107
abbrev YX:aH (List LV) (List Int×Int×Int×Unit):=(jk 2 (aq (ak (a6 0 0)) (jk 1 (aq (ak (a6 1 0)) (jk 6 (ab (ak (g9 false false u8)) (ab (ak (ay .i64)) (ab (ak (ay .i64)) (jk 17 ae)))))))))
abbrev YY:Wk:=.fr (cR 31 [(2,.ao),(4,.ao),(11,.ao),(12,.sym),(13,.sym)])
abbrev woX:aH (List LV) (Unit):=(jk 2 (aq (ak (a6 0 0)) (jk 1 (aq (ak (a6 1 0)) (jk 26 ae)))))
abbrev aeA:Wk:=.fr (cR 31 [(2,.ao),(4,.ao)])
abbrev Rr:aH Hp (List Int×List Int×Unit):=ab (jV 179 .u64 16) (ab (jV 179 .u64 16) ae)
def woW:Exit→List Wk
 | .normal=> [YY,.dx 0 0 16 .u64,.dx 1 0 16 .u64,.auto]
 | .exit 0=> [aeA,.auto]
 |_=> []
theorem Uk(b:List Int)(n i:Int)(r m:List Int):gV Tryz.prog [] [] YW 0 [] woW ((bq YX Rr).wr ((b,n,i,()),(r,m,())))=
 aV.ite (decide (i<n)) (aV.need ((0:Int)≤i∧i<(↑b.length:Int)) (aV.need ((0:Int)≤i64.wrap (i.tdiv (8:Int))∧
 i64.wrap (i.tdiv (8:Int))<(16:Int)) (aV.need ((0:Int)≤i64.wrap (i.tdiv (8:Int))∧i64.wrap (i.tdiv (8:Int))<
 (16:Int)) (aV.leaf Exit.normal ((bq YX Rr).wr ((b,n,i64.wrap (i+(1:Int)),PUnit.unit),r,m.set ((0:Nat)+(i64.wrap
 (i.tdiv (8:Int))).toNat) (bf u64 (shl u64 ((List.take (16:Nat) (List.drop (0:Nat) m)).getD (i64.wrap (i.tdiv (8:
 Int))).toNat (0:Int)) (8:Int)) (u64.wrap (b.getD i.toNat (0:Int)))),PUnit.unit)))))) (aV.leaf (Exit.exit (0:Nat)) ((bq woX Rr).wr
 (PUnit.unit,r,m,PUnit.unit))):=by kernel_rfl
def woF(x:(List Int×Int×Int×Unit)×List Int×List Int×Unit):aV:=
 .need (x.1.1.length=128∧x.1.2.1=128∧x.1.2.2.1=0∧x.2.2.1=List.replicate 16 0) (.leaf (.exit 0) ((bq woX Rr).wr ((),(x.2.1,qL x.1.1,()))))
theorem N7(x):Ex Tryz.prog [] (.loop (aY YW 0)) ((bq YX Rr).wr x) (woF x):=by
 obtain⟨⟨b,n,i,_⟩,r,m,_⟩:=x;refine Ex.need fun⟨h1,h2,h3,h4⟩=>?_;simp only at h1 h2 h3 h4;subst h2 h3 h4
 refine eQ (ws:=woW) (hp:= []) mixed aw (aS.nil _) 128 (fun k m=>(bq YX Rr).wr ((b,128,(k:Int),()),(r,m,()))) (fun m=>(bq woX Rr).wr ((),(r,m,()))) (CZ b) (fun _ m=>m.length=16)
  (fun k m R hk hm hn hx=>?_) (fun k m _ hm=>by rw[uz];exact hm) 0 (List.replicate 16 0) (by omega) (by simp)
 rw[Uk];refine⟨fun hb=>?_,fun hb=>?_⟩
 ·have dE:k<128:=by have:=of_decide_eq_true hb;omega
  have e:i64.wrap ((k:Int).tdiv 8)=((k/8:Nat):Int):=fZ k 8 (by omega);rw[e,bM hm,db k (by omega)];simp only[Int.toNat_natCast,Nat.zero_add];exact⟨by omega,by omega,by omega,hn dE⟩
 ·have:k=128:=by have:=of_decide_eq_false hb;omega
  exact hx this
abbrev YZ:dd:= [(0,dA (bq YX Rr) 0 [YY,.dx 0 0 16 .u64,.dx 1 0 16 .u64,.auto] woF)]
def IG:al:=al.cl [some u8] (bA) (ae) fun x_ y_=>(fun(b:List Int)=>.leaf (some (b.length=128)) (.bV [.agg [.arr (.int .u64) 16 (qL b)],.sc (.bool (.sym true))]) []) x_.1
theorem Ax(b:List Int):bc Tryz.prog [] YZ f107 ((bA).wr (b,())) ((ae).wr ()) [.fr [.sym],.gU 0 0 16 .u64,.auto]=
 End.ite ((↑b.length:Int)!=(128:Int)) (End.leaf (LV.bV [VV.agg [SV.arr (Ty.int u64) (16:Nat) [(0:Int),(0:Int),(0:Int),(0:
 Int),(0:Int),(0:Int),(0:Int),(0:Int),(0:Int),(0:Int),(0:Int),(0:Int),(0:Int),(0:Int),(0:Int),(0:Int)]],VV.sc
 (SV.bool (SB.sym false))]) []) (End.need (b.length=(128:Nat)∧(↑b.length:Int)=(128:Int)∧(0:Int)=(0:Int)∧ [(0:Int),(0:Int),(0
 :Int),(0:Int),(0:Int),(0:Int),(0:Int),(0:Int),(0:Int),(0:Int),(0:Int),(0:Int),(0:Int),(0:Int),(0:Int),(0:Int)]
 =List.replicate (16:Nat) (0:Int)) (End.leaf (LV.bV [VV.agg [SV.arr (Ty.int u64) (16:Nat) (qL b)],VV.sc (SV.bool (SB.sym true))])
 [])):=by kernel_rfl
theorem IH:IG.Ok Tryz.prog 107:=by
 refine(al.bb call107 fun x_ y_ Q H_=>?_).sym;obtain⟨b,_⟩:=x_;obtain⟨hn,hq⟩:=H_;have hn:b.length=128:=hn;refine(au mixed aw func107 rfl (LT:=YZ) (ks:= [.fr [.sym],.gU 0 0 16 .u64,.auto]) (aS.bW (kQ rfl (b7 (hp:= []) N7) ly))).use (D:= []) ?_ hq;show(bc _ _ _ _ ((bA).wr (b,())) ((ae).wr ()) _).sat _;rw[Ax];refine⟨fun h=>?_,fun h=>⟨⟨hn,by omega,rfl,rfl⟩,rfl,rfl⟩⟩;simp[hn]at h
def Ay(t:Nat)(w:List Int):List Int:=w.set t (u64.wrap (u64.wrap (u64.wrap (qK (w.getD (t-2) 0) 19 61 6+w.getD (t-7) 0)+qK (w.getD (t-15) 0) 1 8 7)+w.getD (t-16) 0))
def eS(m:List Int):List Int:=upto Ay 16 64 (m++List.replicate 64 0)
abbrev Y0:Func:=f146
abbrev scA:aH (List LV) (List Int×Unit):=ab (Ae .u64 16) ae
abbrev Y1:aH (List LV) (Int×Unit):=(jk 2 (aq (ak (a6 0 0)) (aq (ak (a6 1 0)) (ab (ak (ay .i64)) (jk 31 ae)))))
abbrev Y2:Wk:=.fr (cR 36 [(2,.ao),(3,.ao),(4,.sym)])
abbrev scX:aH (List LV) (Unit):=(jk 2 (aq (ak (a6 0 0)) (aq (ak (a6 1 0)) (jk 32 ae))))
abbrev aeD:Wk:=.fr (cR 36 [(2,.ao),(3,.ao)])
abbrev Rs:aH Hp (List Int×List Int×Unit):=ab (jV 219 .u64 80) (ab (jV 219 .u64 80) ae)
abbrev II:List (FuncId×al):= [(191,IA)]
theorem xD:∀p∈II,p.2.Ok Tryz.prog p.1:=aj IB aw
def scW:Exit→List Wk
 | .normal=> [Y2,.auto]
 | .exit 0=> [aeD,.auto]
 |_=> []
theorem Ul(t:Int)(r w:List Int):gV Tryz.prog II [] Y0 0 [] scW ((bq Y1 Rs).wr ((t,()),(r,w,())))=
 aV.ite (decide (t<(80:Int))) (aV.need ((0:Int)≤i64.wrap (t-(2:Int))∧i64.wrap (t-(2:Int))<(80:Int)) (aV.need
 ((0:Int)<(19:Int)∧(19:Int)<(64:Int)∧(0:Int)<(61:Int)∧(61:Int)<(64:Int)∧(0:Int)≤(6:Int)) (aV.need ((0:Int)≤
 i64.wrap (t-(7:Int))∧i64.wrap (t-(7:Int))<(80:Int)) (aV.need ((0:Int)≤i64.wrap (t-(15:Int))∧
 i64.wrap (t-(15:Int))<(80:Int)) (aV.need ((0:Int)<(1:Int)∧(1:Int)<(64:Int)∧(0:Int)<(8:Int)∧(8:Int)<(64:
 Int)∧(0:Int)≤(7:Int)) (aV.need ((0:Int)≤i64.wrap (t-(16:Int))∧i64.wrap (t-(16:Int))<(80:Int)) (aV.need ((0
 :Int)≤t∧t<(80:Int)) (aV.leaf Exit.normal ((bq Y1 Rs).wr ((i64.wrap (t+(1:Int)),PUnit.unit),r,w.set ((0:Nat)+t.toNat)
 (u64.wrap (u64.wrap (u64.wrap (qK ((List.take (80:Nat) (List.drop (0:Nat) w)).getD (i64.wrap (t-(2:
 Int))).toNat (0:Int)) (19:Int) (61:Int) (6:Int)+(List.take (80:Nat) (List.drop (0:Nat) w)).getD (i64.wrap (t-(7:Int))).toNat
 (0:Int))+qK ((List.take (80:Nat) (List.drop (0:Nat) w)).getD (i64.wrap (t-(15:Int))).toNat (0:Int)) (1:Int) (8:Int) (7:
 Int))+(List.take (80:Nat) (List.drop (0:Nat) w)).getD (i64.wrap (t-(16:Int))).toNat (0:Int))),PUnit.unit)))))))))) (aV.leaf
 (Exit.exit (0:Nat)) ((bq scX Rs).wr (PUnit.unit,r,w,PUnit.unit))):=by kernel_rfl
def scF(x:(Int×Unit)×List Int×List Int×Unit):aV:=
 .need (x.1.1=16∧x.2.2.1.length=80) (.leaf (.exit 0) ((bq scX Rs).wr ((),(x.2.1,upto Ay 16 64 x.2.2.1,()))))
theorem oN(t:Nat)(w:List Int):(Ay t w).length=w.length:=by simp[Ay]
theorem N8(x):Ex Tryz.prog [] (.loop (aY Y0 0)) ((bq Y1 Rs).wr x) (scF x):=by
 obtain⟨⟨i,_⟩,r,w,_⟩:=x;refine Ex.need fun⟨h1,h2⟩=>?_;simp only at h1 h2;subst h1
 refine eQ (ws:=scW) (hp:= []) mixed xD (aS.nil _) 80 (fun k w=>(bq Y1 Rs).wr (((k:Int),()),(r,w,()))) (fun w=>(bq scX Rs).wr ((),(r,w,()))) Ay (fun k w=>16≤k∧w.length=80)
  (fun k w R hk hm hn hx=>?_) (fun k m _ hm=>⟨by omega,by rw[oN];exact hm.2⟩) 16 w (by omega) ⟨by omega,h2⟩
 obtain⟨h16,hm⟩:=hm;rw[Ul];refine⟨fun hb=>?_,fun hb=>?_⟩
 ·have dE:k<80:=by have:=of_decide_eq_true hb;omega
  have e2:i64.wrap ((k:Int)-2)=((k-2:Nat):Int):=mw k 2 (by omega) (by omega);have e7:i64.wrap ((k:Int)-7)=((k-7:Nat):Int):=mw k 7 (by omega) (by omega);have e15:i64.wrap ((k:Int)-15)=((k-15:Nat):Int):=mw k 15 (by omega) (by omega);have e16:i64.wrap ((k:Int)-16)=((k-16:Nat):Int):=mw k 16 (by omega) (by omega);rw[e2,e7,e15,e16,bM hm,db k (by omega)];simp only[Int.toNat_natCast,Nat.zero_add];exact⟨by omega,by decide,by omega,by omega,by decide,by omega,by omega,hn dE⟩
 ·have:k=80:=by have:=of_decide_eq_false hb;omega
  exact hx this
abbrev Y3:dd:= [(0,dA (bq Y1 Rs) 0 [Y2,.auto] scF)]
def IJ:al:=al.cl [] (scA) (ae) fun x_ y_=>(fun(m:List Int)=>.leaf (some (m.length=16)) (fX .u64 80 (eS m)) []) x_.1
theorem Az(m:List Int):bc Tryz.prog II Y3 f146 ((scA).wr (m,())) ((ae).wr ()) [.fr [.sym],.auto]=
 End.need ((0:Int)≤(0:Int)∧(0:Int)≤(80:Int)∧(80:Int)≤(80:Int)) (End.need ((0:Int)≤(0:Int)∧(0:Int)≤(16:Int)∧(16:
 Int)≤(16:Int)) (End.need ((16:Int)=(16:Int)∧(List.take (0:Nat) (List.replicate (80:Nat) (0:Int))++(List.take (80:Nat) (List.take
 (16:Nat) (List.drop (0:Nat) m))++List.drop ((0:Nat)+if(80:Nat)≤(List.take (16:Nat) (List.drop (0:Nat) m)).length then(80:Nat)
 else(List.take (16:Nat) (List.drop (0:Nat) m)).length) (List.replicate (80:Nat) (0:Int)))).length=(80:Nat)) (End.leaf (LV.one (VV.agg
 [SV.arr (Ty.int u64) (80:Nat) (upto Ay (16:Nat) (64:Nat) (List.take (0:Nat) (List.replicate (80:Nat) (0:Int))++(List.take (80:
 Nat) (List.take (16:Nat) (List.drop (0:Nat) m))++List.drop ((0:Nat)+if(80:Nat)≤(List.take (16:Nat) (List.drop (0:Nat) m)).length
 then(80:Nat)else(List.take (16:Nat) (List.drop (0:Nat) m)).length) (List.replicate (80:Nat) (0:Int)))))])) []))):=by kernel_rfl
theorem IK:IJ.Ok Tryz.prog 146:=by
 refine(al.bb call146 fun x_ y_ Q H_=>?_).sym;obtain⟨m,_⟩:=x_;obtain⟨hn,hq⟩:=H_;have hn:m.length=16:=hn;refine(au mixed xD func146 rfl (LT:=Y3) (ks:= [.fr [.sym],.auto]) (aS.bW (kQ rfl (b7 (hp:= []) N8) ly))).use (D:= []) ?_ hq;show(bc _ _ _ _ ((scA).wr (m,())) ((ae).wr ()) _).sat _;rw[Az]
 have e:List.take 0 (List.replicate 80 (0:Int))++(List.take 80 (List.take 16 (List.drop 0 m))++List.drop (0+if 80≤(List.take 16 (List.drop 0 m)).length then 80 else(List.take 16 (List.drop 0 m)).length) (List.replicate 80 0))=m++List.replicate 64 0:=by
  rw[bM hn,hn];simp[List.take_of_length_le (show m.length≤80 by omega)]
 rw[e];refine⟨by omega,by omega,⟨rfl,by simp[hn]⟩,rfl,rfl⟩
def Y4(w:List Int)(t:Nat)(x:List Int):Int:=
 u64.wrap (u64.wrap (u64.wrap (u64.wrap (x.getD 7 0+nX (x.getD 4 0) 14 18 41)+chF (x.getD 4 0) (x.getD 5 0) (x.getD 6 0))+gF.getD t 0)+w.getD t 0)
def aeE(x:List Int):Int:=u64.wrap (nX (x.getD 0 0) 28 34 39+Ui (x.getD 0 0) (x.getD 1 0) (x.getD 2 0))
def Y5(w:List Int)(t:Nat)(x:List Int):List Int:=
 [u64.wrap (Y4 w t x+aeE x),x.getD 0 0,x.getD 1 0,x.getD 2 0,u64.wrap (x.getD 3 0+Y4 w t x),x.getD 4 0,x.getD 5 0,x.getD 6 0]
def aeF(x s:List Int):List Int:=(List.range 8).map fun i=>u64.wrap (x.getD i 0+s.getD i 0)
def rW(w x:List Int):List Int:=upto (Y5 w) 0 80 x
def C0(s m:List Int):List Int:=aeF (rW (eS m) s) s
theorem uA{m:List Int}(h:m.length=16):(eS m).length=80:=by
 unfold eS;exact mr (f:=Ay) (n:=80) (fun(_:Nat) (w:List Int)=>w.length=80) (fun t w _ h=>by rw[oN];exact h) 64 16 (m++List.replicate 64 0) (by omega) (by simp[h])
abbrev Y6:Func:=f108
abbrev Y7:aH (List LV) (Int×Unit):=(jk 2 (aq (ak (a6 0 0)) (jk 1 (aq (ak (a6 1 0)) (aq (ak (a6 2 0)) (aq (ak (a6 3 0)) (aq (ak (a6 4 0)) (jk 8 (ab (ak (ay .i64)) (jk 69 ae))))))))))
abbrev Y8:Wk:=.fr (cR 86 [(2,.ao),(4,.ao),(5,.ao),(6,.ao),(7,.ao),(16,.sym)])
abbrev spX:aH (List LV) (Unit):=(jk 2 (aq (ak (a6 0 0)) (jk 1 (aq (ak (a6 1 0)) (jk 2 (aq (ak (a6 2 0)) (jk 78 ae)))))))
abbrev aeH:Wk:=.fr (cR 86 [(2,.ao),(4,.ao),(7,.ao)])
abbrev Um:aH Hp (List Int×List Int×List Int×Unit):=ab (jV 112 .u64 8) (ab (HC 112 .u64 8) (ab (HC 112 .u64 8) ae))
abbrev Y9:aH Hp (List Int×List Int×List Int×List Int×List Int×Unit):=ab (jV 112 .u64 8) (ab (jV 112 .u64 8) (ab (jV 219 .u64 80) (ab (jV 219 .u64 80) (ab (jV 112 .u64 8) ae))))
abbrev IL:List (FuncId×al):= [(145,CY),(146,IJ),(147,IC),(148,chE),(149,YV)]
theorem xE:∀p∈IL,p.2.Ok Tryz.prog p.1:=aj Fa (aj IK (aj ID (aj YU (aj Uj aw))))
def spW:Exit→List Wk
 | .normal=> [Y8,.dx 4 0 8 .u64,.auto]
 | .exit 0=> [aeH,.auto,.CC 1,.CC 2]
 |_=> []
theorem Un(t:Int)(s r k w x:List Int):gV Tryz.prog IL [] Y6 0 [] spW ((bq Y7 Y9).wr ((t,()),(s,r,k,w,x,())))=
 aV.ite (decide (t<(80:Int))) (aV.need ((0:Int)<(14:Int)∧(14:Int)<(64:Int)∧(0:Int)<(18:Int)∧(18:Int)<(64:Int)∧(0:
 Int)<(41:Int)∧(41:Int)<(64:Int)) (aV.need ((0:Int)≤t∧t<(80:Int)) (aV.need ((0:Int)≤t∧t<(80:Int)) (aV.need ((0:Int)
 <(28:Int)∧(28:Int)<(64:Int)∧(0:Int)<(34:Int)∧(34:Int)<(64:Int)∧(0:Int)<(39:Int)∧(39:Int)<(64:Int)) (aV.leaf
 Exit.normal ((bq Y7 Y9).wr ((i64.wrap (t+(1:Int)),PUnit.unit),s,r,k,w,[u64.wrap (u64.wrap (u64.wrap
 (u64.wrap (u64.wrap (x.getD (7:Nat) (0:Int)+nX (x.getD (4:Nat) (0:Int)) (14:Int) (18:Int) (41:Int))+chF (x.getD
 (4:Nat) (0:Int)) (x.getD (5:Nat) (0:Int)) (x.getD (6:Nat) (0:Int)))+(List.take (80:Nat) (List.drop (0:Nat) k)).getD t.toNat (0:
 Int))+(List.take (80:Nat) (List.drop (0:Nat) w)).getD t.toNat (0:Int))+u64.wrap (nX (x.getD (0:Nat) (0:Int)) (28:Int) (34:
 Int) (39:Int)+Ui (x.getD (0:Nat) (0:Int)) (x.getD (1:Nat) (0:Int)) (x.getD (2:Nat) (0:Int)))),x.getD (0:Nat) (0:Int),x.getD (1
 :Nat) (0:Int),x.getD (2:Nat) (0:Int),u64.wrap (x.getD (3:Nat) (0:Int)+u64.wrap (u64.wrap (u64.wrap
 (u64.wrap (x.getD (7:Nat) (0:Int)+nX (x.getD (4:Nat) (0:Int)) (14:Int) (18:Int) (41:Int))+chF (x.getD (4:Nat) (0:
 Int)) (x.getD (5:Nat) (0:Int)) (x.getD (6:Nat) (0:Int)))+(List.take (80:Nat) (List.drop (0:Nat) k)).getD t.toNat (0:Int))+(List.take
 (80:Nat) (List.drop (0:Nat) w)).getD t.toNat (0:Int))),x.getD (4:Nat) (0:Int),x.getD (5:Nat) (0:Int),x.getD (6:Nat) (0:Int)],
 PUnit.unit))))))) (aV.leaf (Exit.exit (0:Nat)) ((bq spX Um).wr (PUnit.unit,s,[r.getD (nat_lit 0) (0:Int),r.getD (nat_lit 1) (0:Int),
 r.getD (nat_lit 2) (0:Int),r.getD (nat_lit 3) (0:Int),r.getD (nat_lit 4) (0:Int),r.getD (nat_lit 5) (0:Int),r.getD (nat_lit 6) (0:Int),
 r.getD (nat_lit 7) (0:Int)],[x.getD (nat_lit 0) (0:Int),x.getD (nat_lit 1) (0:Int),x.getD (nat_lit 2) (0:Int),x.getD (nat_lit 3) (0:Int),
 x.getD (nat_lit 4) (0:Int),x.getD (nat_lit 5) (0:Int),x.getD (nat_lit 6) (0:Int),x.getD (nat_lit 7) (0:Int)],PUnit.unit))):=by kernel_rfl
def spF(x:(Int×Unit)×List Int×List Int×List Int×List Int×List Int×Unit):aV:=
 .need (x.1.1=0∧x.2.2.2.1=gF∧x.2.2.2.2.1.length=80∧x.2.2.2.2.2.1.length=8) (.leaf (.exit 0) ((bq spX Um).wr ((),(x.2.1,x.2.2.1,rW x.2.2.2.2.1 x.2.2.2.2.2.1,()))))
theorem N9(x):Ex Tryz.prog [] (.loop (aY Y6 0)) ((bq Y7 Y9).wr x) (spF x):=by
 obtain⟨⟨i,_⟩,s,r,k,w,x,_⟩:=x;refine Ex.need fun⟨h1,h2,h3,h4⟩=>?_;simp only at h1 h2 h3 h4;subst h1 h2
 refine eQ (ws:=spW) (hp:= []) mixed xE (aS.nil _) 80 (fun j x=>(bq Y7 Y9).wr (((j:Int),()),(s,r,gF,w,x,()))) (fun x=>(bq spX Um).wr ((),(s,r,x,()))) (Y5 w) (fun _ x=>x.length=8)
  (fun j x R hk hm hn hx=>?_) (fun k m _ hm=>rfl) 0 x (by omega) h4
 rw[Un];refine⟨fun hb=>?_,fun hb=>?_⟩
 ·have dE:j<80:=by have:=of_decide_eq_true hb;omega
  rw[bM h3,bM (l:=gF) (n:=80) rfl,db j (by omega)];simp only[Int.toNat_natCast];exact⟨by decide,by omega,by omega,by decide,hn dE⟩
 ·have:j=80:=by have:=of_decide_eq_false hb;omega
  exact hx this
abbrev Za:dd:= [(0,dA (bq Y7 Y9) 0 [Y8,.auto,.dx 1 0 8 .u64,.dx 4 0 8 .u64] spF)]
abbrev stA:aH (List LV) (List Int×List Int×Unit):=ab (Ae .u64 8) (ab (Ae .u64 16) ae)
def Rt:al:=al.cl [] (stA) (ae) fun x_ y_=>(fun(s m:List Int)=>.leaf (some (s.length=8∧m.length=16)) (fX .u64 8 (C0 s m)) []) x_.1 x_.2.1
theorem Fb(s m:List Int):bc Tryz.prog IL Za f108 ((stA).wr (s,m,())) ((ae).wr ()) [.fr [.sym],.gU 0 0 8 .u64,.auto]=
 End.need (m.length=(16:Nat)) (End.need ((0:Int)=(0:Int)∧gF=gF∧(eS m).length=(80:Nat)∧s.length=(8:Nat))
 (End.leaf (LV.one (VV.agg [SV.arr (Ty.int u64) (8:Nat) [u64.wrap ((rW (eS m) s).getD (nat_lit 0) (0:Int)+s.getD (0:Nat)
 (0:Int)),u64.wrap ((rW (eS m) s).getD (nat_lit 1) (0:Int)+s.getD (1:Nat) (0:Int)),u64.wrap ((rW (eS m) s).getD
 (nat_lit 2) (0:Int)+s.getD (2:Nat) (0:Int)),u64.wrap ((rW (eS m) s).getD (nat_lit 3) (0:Int)+s.getD (3:Nat) (0:Int)),
 u64.wrap ((rW (eS m) s).getD (nat_lit 4) (0:Int)+s.getD (4:Nat) (0:Int)),u64.wrap ((rW (eS m) s).getD (nat_lit 5)
 (0:Int)+s.getD (5:Nat) (0:Int)),u64.wrap ((rW (eS m) s).getD (nat_lit 6) (0:Int)+s.getD (6:Nat) (0:Int)),
 u64.wrap ((rW (eS m) s).getD (nat_lit 7) (0:Int)+s.getD (7:Nat) (0:Int))]])) [])):=by kernel_rfl
theorem Oa:Rt.Ok Tryz.prog 108:=by
 refine(al.bb call108 fun x_ y_ Q H_=>?_).sym;obtain⟨s,m,_⟩:=x_;obtain⟨hn,hq⟩:=H_;have hn:s.length=8∧m.length=16:=hn;refine(au mixed xE func108 rfl (LT:=Za) (ks:= [.fr [.sym],.gU 0 0 8 .u64,.auto]) (aS.bW (kQ rfl (b7 (hp:= []) N9) ly))).use (D:= []) ?_ hq;show(bc _ _ _ _ ((stA).wr (s,m,())) ((ae).wr ()) _).sat _;rw[Fb];exact⟨hn.2,⟨rfl,rfl,uA hn.2,hn.1⟩,rfl,rfl⟩
theorem xF(s m:List Int):(C0 s m).length=8:=rfl
structure HH where
 begun:Bool
 s:List Int
 n:Int
 wait:List Int
abbrev Ob:aH (List SV) HH:=(ab iv (ab (mq (.int .u64) 8) (ab (ay .i64) (ab (mq u8 128) ae)))).jl (fun x=>⟨x.1,x.2.1,x.2.2.1,x.2.2.2.1⟩) (fun h=>(h.begun,h.s,h.n,h.wait,())) (fun _=>rfl)
abbrev hI(h:HH):Ev.Item:=.aZ (Ob.wr h) 115
abbrev kT:aH Hp (HH×Unit):=ab (kJ 115 Ob) ae
abbrev hV(h:HH):LV:=.one (.agg (Ob.wr h))
abbrev qM:Wk:=.aZ 0 [.sym,.ao,.sym,.ao]
def rX:HH:=⟨true,j4,0,List.replicate 128 0⟩
def Ru:al:=al.cl [] (ae) (ae) fun x_ y_=>.leaf none (.one (.sc (.ptr 0 0))) [(0,hI rX)]
theorem Fc:bc Tryz.prog [(74,IE)] [] f54 ((ae).wr ()) ((ae).wr ()) [.dx 0 1 8 .u64,qM,.auto]=
 End.leaf (LV.one (VV.sc (SV.ptr (0:Nat) (0:Nat)))) [some (Item.aZ [SV.bool (SB.sym true),SV.arr (Ty.int u64) (8:Nat) j4,SV.int
 i64 (SI.sym (0:Int)),SV.arr (Ty.int IntKind.u8) (128:Nat) (List.replicate (128:Nat) (0:Int))] (115:Nat))]:=by kernel_rfl
theorem C1:Ru.Ok Tryz.prog 54:=by
 refine(al.bb call54 fun x_ y_ Q H_=>?_).sym;have hq:=H_.2;refine(au mixed ((aj IF aw)) func54 rfl (LT:= []) (ks:= [.dx 0 1 8 .u64,qM,.auto]) (aS.nil _)).use (D:= [(0,hI rX)]) ?_ hq;show(bc _ _ _ _ ((ae).wr ()) ((ae).wr ()) _).sat _;rw[Fc];exact⟨rfl,rfl⟩
def Uo:al:=al.cl [] ((aq p0 ae)) (kT) fun x_ y_=>(fun(h:HH)=>.leaf (some (h.begun=true)) (hV h) []) y_.1
theorem IM(h:HH):bc Tryz.prog [] [] f75 (((aq p0 ae)).wr ()) ((kT).wr (h,())) [.auto]=
 End.ite (!h.begun) End.fail (End.leaf (LV.one (VV.agg [SV.bool (SB.sym h.begun),SV.arr (Ty.int u64) (8:Nat) h.s,SV.int i64 (SI.sym
 h.n),SV.arr (Ty.int IntKind.u8) (128:Nat) h.wait])) [some (Item.aZ [SV.bool (SB.sym h.begun),SV.arr (Ty.int u64) (8:Nat) h.s,SV.int
 i64 (SI.sym h.n),SV.arr (Ty.int IntKind.u8) (128:Nat) h.wait] (115:Nat))]):=by kernel_rfl
theorem IN:Uo.Ok Tryz.prog 75:=by
 refine(al.bb call75 fun x_ y_ Q H_=>?_).sym;obtain⟨h,_⟩:=y_;obtain⟨hn,hq⟩:=H_;have hn:h.begun=true:=hn;refine(au mixed aw func75 rfl (LT:= []) (ks:= [.auto]) (aS.nil _)).use (D:= []) ?_ hq;show(bc _ _ _ _ (((aq p0 ae)).wr ()) ((kT).wr (h,())) _).sat _;rw[IM];exact⟨fun e=>(by rw[hn]at e;cases e),fun _=>⟨rfl,rfl⟩⟩
def kU(h:HH)(c:Int):HH:=if(h.n+1)%128=0 then⟨h.begun,C0 h.s (qL (h.wait.set (h.n%128).toNat c)),h.n+1,h.wait.set (h.n%128).toNat c⟩else⟨h.begun,h.s,h.n+1,h.wait.set (h.n%128).toNat c⟩
def bu(h:HH)(b:List Int):HH:=b.foldl kU h
structure jy (h:HH):Prop where
 begun:h.begun=true
 n:0≤h.n
 s:h.s.length=8
 wait:h.wait.length=128
theorem C2(h:HH)(c:Int):(kU h c).n=h.n+1:=by unfold kU;split<;>rfl
theorem xG{h:HH}(hh:jy h)(c:Int):jy (kU h c):=by
 obtain⟨h1,h2,h3,h4⟩:=hh;unfold kU
 split
 ·exact⟨h1,by simp only;omega,xF _ _,by simp[h4]⟩
 ·exact⟨h1,by simp only;omega,h3,by simp[h4]⟩
theorem gb:∀ (b:List Int) (h:HH),(bu h b).n=h.n+b.length
 | [],h=>by simp[bu]
 |c::b,h=>by
  show(bu (kU h c) b).n=_;rw[gb b,C2,List.length_cons];omega
theorem eV:∀ (b:List Int) {h:HH},jy h→jy (bu h b)
 | [],_,hh=>hh
 |c::b,_,hh=>eV b (xG hh c)
theorem j5(h:HH)(a b:List Int):bu h (a++b)=bu (bu h a) b:=by simp[bu]
theorem qN{σ:Type}(g:σ→Int→σ)(b:List Int):∀ (m k:Nat) (s:σ),k+m=b.length→upto (fun k s=>g s (b.getD k 0)) k m s=(b.drop k).foldl g s
 |0,k,s,h=>by rw[List.drop_eq_nil_of_le (by omega)];rfl
 |m+1,k,s,h=>by
  rw[ET (show k<b.length by omega)];exact qN g b m (k+1) _ (by omega)
abbrev Up:Func:=f76
abbrev Xz:aH (List LV) (List Int×Int×Int×Unit):=(aq (ak (a6 0 0)) (jk 7 (ab (ak (g9 false false u8)) (ab (ak (ay .i64)) (ab (ak (ay .i64)) (jk 44 ae))))))
abbrev Zb:Wk:=.fr (cR 55 [(0,.ao),(8,.ao),(9,.sym),(10,.sym)])
abbrev puX:aH (List LV) (Unit):=(jk 55 ae)
abbrev aeK:Wk:=.fr (cR 55 [])
abbrev IP:List (FuncId×al):= [(107,IG),(108,Rt)]
def puW:Exit→List Wk
 | .normal=> [Zb,qM,.auto]
 | .exit 0=> [aeK,qM,.auto]
 |_=> []
theorem Uq(h0 h:HH)(b:List Int)(n i:Int):gV Tryz.prog IP [] Up 0 (kT.wr (h0,())) puW ((bq Xz kT).wr ((b,n,i,()),(h,())))=
 aV.ite (decide (i<n)) (aV.need ((0:Int)≤i∧i<(↑b.length:Int)) (aV.need ((0:Int)≤h.n.tmod (128:Int)∧h.n.tmod (128:Int)<(128:
 Int)) (aV.ite ((i64.wrap (h.n+(1:Int))).tmod (128:Int)==(0:Int)) (aV.need ((0:Int)≤(0:Int)∧(0:Int)≤(128:Int)∧(128:
 Int)≤(128:Int)) (aV.need ((List.take (128:Nat) (List.drop (0:Nat) (h.wait.set ((0:Nat)+(h.n.tmod (128:Int)).toNat) (b.getD i.toNat (0:
 Int))))).length=(128:Nat)) (aV.need (h.s.length=(8:Nat)∧(16:Nat)=(16:Nat)) (aV.leaf Exit.normal ((bq Xz kT).wr ((b,n,
 i64.wrap (i+(1:Int)),PUnit.unit),{begun:=h.begun,s:=C0 h.s (qL (List.take (128:Nat) (List.drop (0:Nat) (h.wait.set ((0:Nat)+(h.n.tmod (128:Int)).toNat) (b.getD i.toNat (0:Int)))))),n:=i64.wrap (h.n+(1:Int)),wait:=h.wait.set ((0:Nat)+(h.n.tmod (128:Int)).toNat) (b.getD i.toNat (0:Int))},
 PUnit.unit)))))) (aV.leaf Exit.normal ((bq Xz kT).wr ((b,n,i64.wrap (i+(1:Int)),PUnit.unit),{begun:=h.begun,s:=h.s,n:=i64.wrap (h.n+(1:Int)),wait:=h.wait.set ((0:Nat)+(h.n.tmod (128:Int)).toNat) (b.getD i.toNat (0:Int))},
 PUnit.unit)))))) (aV.leaf (Exit.exit (0:Nat)) ((bq puX kT).wr (PUnit.unit,h,PUnit.unit))):=by kernel_rfl
theorem xH:∀p∈IP,p.2.Ok Tryz.prog p.1:=aj IH (aj Oa aw)
def puF(x:(List Int×Int×Int×Unit)×HH×Unit):aV:=
 .need (jy x.2.1∧x.1.2.1=x.1.1.length∧x.1.2.2.1=0∧x.2.1.n+x.1.1.length<2305843009213693952) (.leaf (.exit 0) ((bq puX kT).wr ((),(bu x.2.1 x.1.1,()))))
theorem Oc(h0:HH)(x):Ex Tryz.prog (kT.wr (h0,())) (.loop (aY Up 0)) ((bq Xz kT).wr x) (puF x):=by
 obtain⟨⟨b,n,i,_⟩,h,_⟩:=x;refine Ex.need fun⟨h1,h2,h3,h4⟩=>?_;simp only at h1 h2 h3 h4;subst h2 h3;have aiv:(b.length:Int)<2305843009213693952:=by have:=h1.n;omega
 have key:=eQ (fn:=Up) (id:=0) (j:=0) (ws:=puW) (hp:=kT.wr (h0,())) mixed xH (aS.nil _) b.length (fun k h=>(bq Xz kT).wr ((b,(b.length:Int),(k:Int),()),(h,()))) (fun h=>(bq puX kT).wr ((),(h,()))) (fun k h=>kU h (b.getD k 0)) (fun k h=>jy h∧h.n+(b.length-k:Nat)<2305843009213693952)
  (fun k h R hk hm hn hx=>?_) (fun k h _ hh=>⟨xG hh.1 _,by rw[C2];have:=hh.2;omega⟩) 0 h (by omega) ⟨h1,by simpa using h4⟩
 ·rw[Nat.sub_zero,qN kU b _ _ _ (by omega)]at key;exact key
 obtain⟨hh,dE⟩:=hm;obtain⟨g1,g2,g3,g4⟩:=hh;rw[Uq];refine⟨fun hb=>?_,fun hb=>?_⟩
 ·have jv:k<b.length:=by have:=of_decide_eq_true hb;omega
  have e1:i64.wrap (h.n+1)=h.n+1:=ar (by omega) (by omega);have e2:h.n.tmod 128=h.n%128:=Int.tmod_eq_emod_of_nonneg g2;have e3:(h.n+1).tmod 128=(h.n+1)%128:=Int.tmod_eq_emod_of_nonneg (by omega);have e4:∀c,List.take 128 (List.drop 0 (h.wait.set (h.n%128).toNat c))=h.wait.set (h.n%128).toNat c:=fun c=>bM (by simp[g4]);rw[e1,e2,e3,db k (by omega)];simp only[Int.toNat_natCast,Nat.zero_add];rw[e4];have rP:=hn jv;refine⟨⟨by omega,by omega⟩,by omega,fun hz=>?_,fun hz=>?_⟩
  ·have zF:(h.n+1)%128=0:=(by simpa using hz);rw[kU,if_pos zF]at rP;exact⟨by omega,by simp[g4],⟨g3,trivial⟩,rP⟩
  ·have zF:¬ (h.n+1)%128=0:=(by simpa using hz);rw[kU,if_neg zF]at rP;exact rP
 ·have:k=b.length:=by have:=of_decide_eq_false hb;omega
  exact hx this
abbrev Zc:dd:= [(0,dA (bq Xz kT) 1 [Zb,qM,.auto] puF)]
abbrev XA:aH (List LV) (List Int×Unit):=aq p0 (ab (ak (g9 false false u8)) ae)
def IQ:al:=al.cl [none,some u8] (XA) (kT) fun x_ y_=>(fun(b:List Int) (h:HH)=>.leaf (some (jy h∧h.n+b.length<2305843009213693952)) (.bV []) [(0,hI (bu h b))]) x_.1 y_.1
theorem Ff(b:List Int)(h:HH):bc Tryz.prog IP Zc f76 ((XA).wr (b,())) ((kT).wr (h,())) [qM,.auto]=
 End.need (jy h∧(↑b.length:Int)=(↑b.length:Int)∧(0:Int)=(0:Int)∧h.n+(↑b.length:Int)<(2305843009213693952:Int)) (End.leaf
 (LV.bV []) [some (Item.aZ [SV.bool (SB.sym (bu h b).begun),SV.arr (Ty.int u64) (8:Nat) (bu h b).s,SV.int i64 (SI.sym (bu h
 b).n),SV.arr (Ty.int IntKind.u8) (128:Nat) (bu h b).wait] (115:Nat))]):=by kernel_rfl
theorem C3:IQ.Ok Tryz.prog 76:=by
 refine(al.bb call76 fun x_ y_ Q H_=>?_).sym;obtain⟨b,_⟩:=x_;obtain⟨h,_⟩:=y_;obtain⟨hn,hq⟩:=H_;have hn:jy h∧h.n+b.length<2305843009213693952:=hn;refine(au mixed xH func76 rfl (LT:=Zc) (ks:= [qM,.auto]) (aS.bW (kQ rfl (b7 (hp:=kT.wr (h,())) (Oc h)) ly))).use (D:= [(0,hI (bu h b))]) ?_ hq;show(bc _ _ _ _ ((XA).wr (b,())) ((kT).wr (h,())) _).sat _;rw[Ff];exact⟨⟨hn.1,rfl,rfl,hn.2⟩,rfl,rfl⟩
def IS:al:=al.cl [none,some u8] (XA) (kT) fun x_ y_=>(fun(b:List Int) (h:HH)=>.leaf (some (jy h∧h.n+b.length<2305843009213693952)) (.bV []) [(0,hI (bu h b))]) x_.1 y_.1
theorem AA(b:List Int)(h:HH):bc Tryz.prog [(75,Uo),(76,IQ)] [] f55 ((XA).wr (b,())) ((kT).wr (h,())) [qM,.auto]=
 End.need (h.begun=true) (End.need (jy h∧h.n+(↑b.length:Int)<(2305843009213693952:Int)) (End.leaf (LV.bV []) [some (Item.aZ [SV.bool
 (SB.sym (bu h b).begun),SV.arr (Ty.int u64) (8:Nat) (bu h b).s,SV.int i64 (SI.sym (bu h b).n),SV.arr (Ty.int IntKind.u8)
 (128:Nat) (bu h b).wait] (115:Nat))])):=by kernel_rfl
theorem mF:IS.Ok Tryz.prog 55:=by
 refine(al.bb call55 fun x_ y_ Q H_=>?_).sym;obtain⟨b,_⟩:=x_;obtain⟨h,_⟩:=y_;obtain⟨hn,hq⟩:=H_;have hn:jy h∧h.n+b.length<2305843009213693952:=hn;refine(au mixed ((aj IN (aj C3 aw))) func55 rfl (LT:= []) (ks:= [qM,.auto]) (aS.nil _)).use (D:= [(0,hI (bu h b))]) ?_ hq;show(bc _ _ _ _ ((XA).wr (b,())) ((kT).wr (h,())) _).sat _;rw[AA];exact⟨hn.1.begun,hn,rfl,rfl⟩
def cw(x:Int):List Int:=(List.range 8).map fun i=>IntKind.u8.wrap (shr .u64 x ((56-8*i:Nat):Int))
def AB:al:=al.cl [] ((ab (ak (ay .u64)) ae)) (ae) fun x_ y_=>(fun(x:Int)=>.leaf none (.one (.sc (.sl 0 0))) [(0,.own 0 u8 (cw x))]) x_.1
theorem AD(x:Int):bc Tryz.prog [] [] f95 (((ab (ak (ay .u64)) ae)).wr (x,())) ((ae).wr ()) [.auto,.ba]=
 End.need ((1:Nat)≤(70368744177664:Nat)∧(1:Nat)≤(70368744177664:Nat)) (End.need ((2:Nat)≤(70368744177664:Nat)∧(2:Nat)≤
 (70368744177664:Nat)) (End.need ((3:Nat)≤(70368744177664:Nat)∧(3:Nat)≤(70368744177664:Nat)) (End.need ((4:Nat)≤(70368744177664:
 Nat)∧(4:Nat)≤(70368744177664:Nat)) (End.need ((5:Nat)≤(70368744177664:Nat)∧(5:Nat)≤(70368744177664:Nat)) (End.need ((6:Nat)≤
 (70368744177664:Nat)∧(6:Nat)≤(70368744177664:Nat)) (End.need ((7:Nat)≤(70368744177664:Nat)∧(7:Nat)≤(70368744177664:Nat))
 (End.need ((8:Nat)≤(70368744177664:Nat)∧(8:Nat)≤(70368744177664:Nat)) (End.leaf (LV.one (VV.sc (SV.sl (0:Nat) (0:Nat)))) [some
 (Item.own (0:Nat) (Ty.int IntKind.u8) ([IntKind.u8.wrap (shr u64 x (56:Int))]++ [IntKind.u8.wrap (shr u64 x (48:Int))]++
 [IntKind.u8.wrap (shr u64 x (40:Int))]++ [IntKind.u8.wrap (shr u64 x (32:Int))]++ [IntKind.u8.wrap (shr u64 x (24:
 Int))]++ [IntKind.u8.wrap (shr u64 x (16:Int))]++ [IntKind.u8.wrap (shr u64 x (8:Int))]++ [IntKind.u8.wrap (shr u64 x (0
 :Int))]))])))))))):=by kernel_rfl
theorem xI:AB.Ok Tryz.prog 95:=by
 refine(al.bb call95 fun x_ y_ Q H_=>?_).sym;obtain⟨x,_⟩:=x_;have hq:=H_.2;refine(au mixed aw func95 rfl (LT:= []) (ks:= [.auto,.ba]) (aS.nil _)).use (D:= [(0,.own 0 u8 (cw x))]) ?_ hq;show(bc _ _ _ _ (((ab (ak (ay .u64)) ae)).wr (x,())) ((ae).wr ()) _).sat _;rw[AD];exact⟨by omega,by omega,by omega,by omega,by omega,by omega,by omega,by omega,rfl,rfl⟩
def gd(s:List Int):List Int:=(List.range 8).foldl (fun a i=>a++cw (s.getD i 0)) []
def xJ:al:=al.cl [] ((aq p0 ae)) (kT) fun x_ y_=>(fun(h:HH)=>.leaf none (.one (.sc (.sl 1 0))) [(1,.own 0 u8 (gd h.s))]) y_.1
theorem uB(h:HH):bc Tryz.prog [(95,AB)] [] f96 (((aq p0 ae)).wr ()) ((kT).wr (h,())) [.auto,.ba]=
 End.need ((8:Nat)≤(70368744177664:Nat)∧(8:Nat)≤(70368744177664:Nat)) (End.need ((16:Nat)≤(70368744177664:Nat)∧(16:Nat)≤
 (70368744177664:Nat)) (End.need ((24:Nat)≤(70368744177664:Nat)∧(24:Nat)≤(70368744177664:Nat)) (End.need ((32:Nat)≤(70368744177664:
 Nat)∧(32:Nat)≤(70368744177664:Nat)) (End.need ((40:Nat)≤(70368744177664:Nat)∧(40:Nat)≤(70368744177664:Nat)) (End.need ((48:Nat)
 ≤(70368744177664:Nat)∧(48:Nat)≤(70368744177664:Nat)) (End.need ((56:Nat)≤(70368744177664:Nat)∧(56:Nat)≤(70368744177664:Nat))
 (End.need ((64:Nat)≤(70368744177664:Nat)∧(64:Nat)≤(70368744177664:Nat)) (End.leaf (LV.one (VV.sc (SV.sl (1:Nat) (0:Nat)))) [some
 (Item.aZ [SV.bool (SB.sym h.begun),SV.arr (Ty.int u64) (8:Nat) h.s,SV.int i64 (SI.sym h.n),SV.arr (Ty.int IntKind.u8) (128:Nat)
 h.wait] (115:Nat)),some (Item.own (0:Nat) (Ty.int IntKind.u8) (cw (h.s.getD (0:Nat) (0:Int))++cw (h.s.getD (1:Nat) (0:Int))++
 cw (h.s.getD (2:Nat) (0:Int))++cw (h.s.getD (3:Nat) (0:Int))++cw (h.s.getD (4:Nat) (0:Int))++cw (h.s.getD (5:Nat)
 (0:Int))++cw (h.s.getD (6:Nat) (0:Int))++cw (h.s.getD (7:Nat) (0:Int))))])))))))):=by kernel_rfl
theorem AE:xJ.Ok Tryz.prog 96:=by
 refine(al.bb call96 fun x_ y_ Q H_=>?_).sym;obtain⟨h,_⟩:=y_;have hq:=H_.2;refine(au mixed ((aj xI aw)) func96 rfl (LT:= []) (ks:= [.auto,.ba]) (aS.nil _)).use (D:= [(1,.own 0 u8 (gd h.s))]) ?_ hq;show(bc _ _ _ _ (((aq p0 ae)).wr ()) ((kT).wr (h,())) _).sat _;rw[uB];exact⟨by omega,by omega,by omega,by omega,by omega,by omega,by omega,by omega,rfl,rfl⟩
abbrev Zd:Func:=f64
abbrev IT:List (FuncId×al):= [(75,Uo),(76,IQ),(95,AB),(96,xJ)]
theorem xK:∀p∈IT,p.2.Ok Tryz.prog p.1:=aj IN (aj C3 (aj xI (aj AE aw)))
abbrev uC:aH Hp (HH×List Int×HH×Unit):=ab (kJ 115 Ob) (ab (jV 31 .u8 64) (ab (kJ 115 Ob) ae))
abbrev IU:Wk:=.aZ 2 [.sym,.ao,.sym,.ao]
abbrev Od:aH (List LV) (Int×Unit):=(jk 2 (aq (ak (a6 1 0)) (aq (ak (a6 2 0)) (ab (ak (ay .u64)) (jk 24 ae)))))
abbrev Ur:Wk:=.fr (cR 29 [(2,.ao),(3,.ao),(4,.sym)])
def suW:Exit→List Wk
 | .normal=> [Ur,IU,.auto]
 | .exit 0=> [Ur,IU,.auto]
 |_=> []
theorem Us(h0:HH)(g:HH)(r:List Int)(h:HH)(n:Int):gV Tryz.prog IT [] Zd 0 (kT.wr (h0,())) suW ((bq Od uC).wr ((n,()),(g,r,h,())))=
 aV.ite (h.n.tmod (128:Int)!=(112:Int)) (aV.need (jy h∧h.n+(1:Int)<(2305843009213693952:Int)) (aV.leaf Exit.normal ((bq Od
 uC).wr ((n,PUnit.unit),g,r,bu h [(0:Int)],PUnit.unit)))) (aV.leaf (Exit.exit (0:Nat)) ((bq Od uC).wr ((n,PUnit.unit),g,r,h,
 PUnit.unit))):=by kernel_rfl
def iR(h:HH):HH:=bu h (List.replicate ((112-h.n)%128).toNat 0)
theorem Fg{h:HH}(hz:¬h.n%128=112):iR (bu h [0])=iR h∧((112-(bu h [0]).n)%128).toNat<((112-h.n)%128).toNat:=by
 have e1:(bu h [0]).n=h.n+1:=by rw[gb];rfl
 have e2:((112-h.n)%128).toNat=((112-(bu h [0]).n)%128).toNat+1:=by rw[e1];omega
 refine⟨?_,by omega⟩;unfold iR;rw[e2,List.replicate_succ];rfl
theorem IV{h:HH}(hz:h.n%128=112):iR h=h:=by
 have e:((112-h.n)%128).toNat=0:=by omega
 unfold iR;rw[e];rfl
def suF(x:(Int×Unit)×HH×List Int×HH×Unit):aV:=
 .need (jy x.2.2.2.1∧x.2.2.2.1.n+128<2305843009213693952) (.leaf (.exit 0) ((bq Od uC).wr (x.1,(x.2.1,x.2.2.1,iR x.2.2.2.1,()))))
theorem Oe(h0:HH)(x):Ex Tryz.prog (kT.wr (h0,())) (.loop (aY Zd 0)) ((bq Od uC).wr x) (suF x):=by
 obtain⟨⟨n,_⟩,g,r,h,_⟩:=x;refine Ex.need fun⟨h1,h2⟩=>?_;simp only at h1 h2
 refine CH mixed xK (LT:= []) (ws:=suW) (hp:=kT.wr (h0,())) (aS.nil _) (fun h:HH=>((112-h.n)%128).toNat) (fun h:HH=>(bq Od uC).wr ((n,()),(g,r,h,()))) (fun h=>jy h∧h.n+(112-h.n)%128<2305843009213693952)
  (fun h=>.leaf (.exit 0) ((bq Od uC).wr ((n,()),(g,r,iR h,())))) (fun h _=>Us h0 g r h n) (fun h R hh hs=>?_) h ⟨h1,by omega⟩
 obtain⟨hh,dE⟩:=hh;have e:h.n.tmod 128=h.n%128:=Int.tmod_eq_emod_of_nonneg hh.n;rw[e];refine⟨fun hb=>?_,fun hb=>?_⟩
 ·have fx:¬h.n%128=112:=by simpa using hb
  obtain⟨k1,k2⟩:=Fg fx;have e1:(bu h [0]).n=h.n+1:=by rw[gb];rfl
  refine⟨⟨hh,by omega⟩,.inl ⟨rfl,bu h [0],rfl,⟨eV _ hh,by rw[e1];omega⟩,k2,?_⟩⟩;show(aV.leaf (.exit 0) ((bq Od uC).wr ((n,()),(g,r,iR (bu h [0]),())))).sat R;rw[k1];exact hs
 ·have fx:h.n%128=112:=by simpa using hb
  rw[IV fx]at hs;exact .inr ⟨by simp,hs⟩
abbrev Ze:dd:= [(0,dA (bq Od uC) 1 [Ur,IU,.auto] suF)]
def Zf(h:HH)(n:Int):HH:=bu (bu (iR (bu h [128])) (cw (shr .u64 n 61))) (cw (shl .u64 n 3))
def AF(h:HH):List Int:=gd (Zf h (u64.wrap h.n)).s
theorem uD(x:Int):(cw x).length=8:=rfl
theorem qO(s:List Int):(gd s).length=64:=rfl
def Zg:al:=al.cl [] ((aq p0 ae)) (kT) fun x_ y_=>(fun(h:HH)=>.leaf (some (jy h∧h.n<1152921504606846976)) (fX .u8 64 (AF h)) []) y_.1
theorem IW(h:HH):bc Tryz.prog IT Ze f64 (((aq p0 ae)).wr ()) ((kT).wr (h,())) [.fr [.sym],qM,.auto]=
 End.need (h.begun=true) (End.need (jy h∧h.n+(1:Int)<(2305843009213693952:Int)) (End.need (jy (bu h [(128:Int)])∧(bu h [(128:
 Int)]).n+(128:Int)<(2305843009213693952:Int)) (End.need (jy (iR (bu h [(128:Int)]))∧(iR (bu h [(128:Int)])).n+(8:Int)<
 (2305843009213693952:Int)) (End.need (jy (bu (iR (bu h [(128:Int)])) (cw (shr u64 (u64.wrap h.n) (61:Int))))∧(bu
 (iR (bu h [(128:Int)])) (cw (shr u64 (u64.wrap h.n) (61:Int)))).n+(8:Int)<(2305843009213693952:Int)) (End.need ((64
 :Nat)≤(64:Nat)) (End.need ((64:Nat)≤(64:Nat)) (End.leaf (LV.one (VV.agg [SV.arr (Ty.int IntKind.u8) (64:Nat) (List.take (64:Nat)
 (List.drop (0:Nat) (gd (bu (bu (iR (bu h [(128:Int)])) (cw (shr u64 (u64.wrap h.n) (61:Int)))) (cw (shl
 u64 (u64.wrap h.n) (3:Int)))).s)))])) [some (Item.aZ [SV.bool (SB.sym h.begun),SV.arr (Ty.int u64) (8:Nat) h.s,SV.int
 i64 (SI.sym h.n),SV.arr (Ty.int IntKind.u8) (128:Nat) h.wait] (115:Nat))]))))))):=by kernel_rfl
theorem AG:Zg.Ok Tryz.prog 64:=by
 refine(al.bb call64 fun x_ y_ Q H_=>?_).sym;obtain⟨h,_⟩:=y_;obtain⟨hn,hq⟩:=H_;have hn:jy h∧h.n<1152921504606846976:=hn;refine(au mixed xK func64 rfl (LT:=Ze) (ks:= [.fr [.sym],qM,.auto]) (aS.bW (kQ rfl (b7 (hp:=kT.wr (h,())) (Oe h)) ly))).use (D:= []) ?_ hq;show(bc _ _ _ _ (((aq p0 ae)).wr ()) ((kT).wr (h,())) _).sat _;rw[IW];obtain⟨g1,g2⟩:=hn;have g3:=g1.n;have e1:(bu h [128]).n=h.n+1:=by rw[gb];rfl
 have k1:jy (bu h [128]):=eV _ g1;have k2:jy (iR (bu h [128])):=eV _ k1;have e2:(iR (bu h [128])).n≤h.n+128:=by unfold iR;rw[gb,e1,List.length_replicate];omega
 have k3:jy (bu (iR (bu h [128])) (cw (shr .u64 (u64.wrap h.n) 61))):=eV _ k2;have e3:(bu (iR (bu h [128])) (cw (shr .u64 (u64.wrap h.n) 61))).n≤h.n+136:=by rw[gb,uD];omega
 have e4:∀s,List.take 64 (List.drop 0 (gd s))=gd s:=fun s=>bM (qO s);rw[e4];exact⟨g1.begun,⟨g1,by omega⟩,⟨k1,by omega⟩,⟨k2,by omega⟩,⟨k3,by omega⟩,by omega,by omega,rfl,rfl⟩
abbrev ofFn:Func:=f118
abbrev bW:List (FuncId×al):= [(54,Ru),(55,IS),(64,Zg)]
abbrev rrA:aH (List LV) (List (List Int)×Unit):=ab (ak (g9 false false (.sl u8))) ae
abbrev Zh:aH (List LV) (List (List Int)×Int×Int×Unit):=(jk 2 (aq (ak (a6 0 0)) (aq (ak (a6 1 0)) (jk 3 (ab (ak (g9 false false (.sl u8))) (ab (ak (ay .i64)) (ab (ak (ay .i64)) (jk 9 ae))))))))
abbrev Zi:Wk:=.fr (cR 19 [(2,.ao),(3,.ao),(7,.ao),(8,.sym),(9,.sym)])
abbrev ofX:aH (List LV) (Unit):=(jk 2 (aq (ak (a6 0 0)) (aq (ak (a6 1 0)) (jk 15 ae))))
abbrev aeM:Wk:=.fr (cR 19 [(2,.ao),(3,.ao)])
abbrev xL:aH Hp (List Int×HH×Unit):=ab (jV 31 .u8 64) (ab (kJ 115 Ob) ae)
abbrev IX:Wk:=.aZ 1 [.sym,.ao,.sym,.ao]
def ofW:Exit→List Wk
 | .normal=> [Zi,IX,.auto]
 | .exit 0=> [aeM,IX,.auto]
 |_=> []
theorem Ut(l:List (List Int))(n i:Int)(r:List Int)(h:HH):gV Tryz.prog bW [] ofFn 0 [] ofW ((bq Zh xL).wr ((l,n,i,()),(r,h,())))=
 aV.ite (decide (i<n)) (aV.need ((0:Int)≤i∧i<(↑l.length:Int)) (aV.need (jy h∧h.n+(↑(List.length (l.getD i.toNat [])):Int)<
 (2305843009213693952:Int)) (aV.leaf Exit.normal ((bq Zh xL).wr ((l,n,i64.wrap (i+(1:Int)),PUnit.unit),r,bu h (l.getD i.toNat
 []),PUnit.unit))))) (aV.leaf (Exit.exit (0:Nat)) ((bq ofX xL).wr (PUnit.unit,r,h,PUnit.unit))):=by kernel_rfl
theorem xM:∀p∈bW,p.2.Ok Tryz.prog p.1:=aj C1 (aj mF (aj AG aw))
theorem sO{σ:Type}(g:σ→List Int→σ)(b:List (List Int)):∀ (m k:Nat) (s:σ),k+m=b.length→upto (fun k s=>g s (b.getD k [])) k m s=(b.drop k).foldl g s
 |0,k,s,h=>by rw[List.drop_eq_nil_of_le (by omega)];rfl
 |m+1,k,s,h=>by
  have e:b.drop k=b.getD k []::b.drop (k+1):=by
   rw[List.drop_eq_getElem_cons (by omega:k<b.length),List.getD_eq_getElem?_getD,List.getElem?_eq_getElem (by omega:k<b.length)];rfl
  rw[e];exact sO g b m (k+1) _ (by omega)
theorem sP:∀ (l:List (List Int)) (h:HH),l.foldl bu h=bu h l.flatten
 | [],h=>rfl
 |b::l,h=>by rw[List.foldl_cons,sP l,List.flatten_cons,j5]
def Zj(x:(List (List Int)×Int×Int×Unit)×List Int×HH×Unit):aV:=
 .need (jy x.2.2.1∧x.1.2.1=x.1.1.length∧x.1.2.2.1=0∧x.1.1.length<2305843009213693952∧x.2.2.1.n+x.1.1.flatten.length<2305843009213693952) (.leaf (.exit 0) ((bq ofX xL).wr ((),(x.2.1,bu x.2.2.1 x.1.1.flatten,()))))
theorem Of(x):Ex Tryz.prog [] (.loop (aY ofFn 0)) ((bq Zh xL).wr x) (Zj x):=by
 obtain⟨⟨l,n,i,_⟩,r,h,_⟩:=x;refine Ex.need fun⟨h1,h2,h3,h4,h5⟩=>?_;simp only at h1 h2 h3 h4 h5;subst h2 h3
 have key:=eQ (fn:=ofFn) (id:=0) (j:=0) (ws:=ofW) (hp:= []) mixed xM (aS.nil _) l.length (fun k h=>(bq Zh xL).wr ((l,(l.length:Int),(k:Int),()),(r,h,()))) (fun h=>(bq ofX xL).wr ((),(r,h,()))) (fun k h=>bu h (l.getD k [])) (fun k h=>jy h∧h.n+(l.drop k).flatten.length<2305843009213693952)
  (fun k h R hk hm hn hx=>?_) (fun k h hk hh=>⟨eV _ hh.1,?_⟩) 0 h (by omega) ⟨h1,h5⟩
 ·rw[Nat.sub_zero,sO bu l _ _ _ (by omega),sP]at key;exact key
 ·obtain⟨hh,dE⟩:=hm;rw[Ut];refine⟨fun hb=>?_,fun hb=>?_⟩
  ·have jv:k<l.length:=by have:=of_decide_eq_true hb;omega
   have e:l.drop k=l.getD k []::l.drop (k+1):=by
    rw[List.drop_eq_getElem_cons jv,List.getD_eq_getElem?_getD,List.getElem?_eq_getElem jv];rfl
   rw[e,List.flatten_cons,List.length_append]at dE;rw[db k (by omega)];simp only[Int.toNat_natCast];exact⟨by omega,⟨hh,by omega⟩,hn jv⟩
  ·have:k=l.length:=(by have:=of_decide_eq_false hb;omega);exact hx this
 ·have e:l.drop k=l.getD k []::l.drop (k+1):=by
   rw[List.drop_eq_getElem_cons hk,List.getD_eq_getElem?_getD,List.getElem?_eq_getElem hk];rfl
  have h2:=hh.2;rw[e,List.flatten_cons,List.length_append]at h2;rw[gb];omega
abbrev ofLT:dd:= [(0,dA (bq Zh xL) 0 [Zi,IX,.auto] Zj)]
theorem mG:jy rX:=⟨rfl,by decide,rfl,rfl⟩
def kL(b:List Int):List Int:=AF (bu rX b)
theorem AH(b:List Int):(kL b).length=64:=rfl
def ofE:al:=al.cl [some (.sl u8)] (rrA) (ae) fun x_ y_=>(fun(l:List (List Int))=>.leaf (some (l.length<2305843009213693952∧l.flatten.length<1152921504606846976)) (fX .u8 64 (kL l.flatten)) []) x_.1
theorem Og(l:List (List Int)):bc Tryz.prog bW ofLT f118 ((rrA).wr (l,())) ((ae).wr ()) [.fr [.sym],.auto]=
 End.need (jy {begun:=true,s:= [(7640891576956012808:Int),(13503953896175478587:Int),(4354685564936845355:Int),(11912009170470909681:Int),(5840696475078001361:Int),(11170449401992604703:Int),(2270897969802886507:Int),(6620516959819538809:Int)],n:=(0:Int),wait:=List.replicate (128:Nat) (0:Int)}
 ∧(↑l.length:Int)=(↑l.length:Int)∧(0:Int)=(0:Int)∧l.length<(2305843009213693952:Nat)∧(0:Int)+(↑l.flatten.length:Int)<
 (2305843009213693952:Int)) (End.need (jy (bu {begun:=true,s:= [(7640891576956012808:Int),(13503953896175478587:Int),(4354685564936845355:Int),(11912009170470909681:Int),(5840696475078001361:Int),(11170449401992604703:Int),(2270897969802886507:Int),(6620516959819538809:Int)],n:=(0:Int),wait:=List.replicate (128:Nat) (0:Int)}
 l.flatten)∧(bu {begun:=true,s:= [(7640891576956012808:Int),(13503953896175478587:Int),(4354685564936845355:Int),(11912009170470909681:Int),(5840696475078001361:Int),(11170449401992604703:Int),(2270897969802886507:Int),(6620516959819538809:Int)],n:=(0:Int),wait:=List.replicate (128:Nat) (0:Int)}
 l.flatten).n<(1152921504606846976:Int)) (End.leaf (LV.one (VV.agg [SV.arr (Ty.int IntKind.u8) (64:Nat) (AF (bu {begun:=true,s:= [(7640891576956012808:Int),(13503953896175478587:Int),(4354685564936845355:Int),(11912009170470909681:Int),(5840696475078001361:Int),(11170449401992604703:Int),(2270897969802886507:Int),(6620516959819538809:Int)],n:=(0:Int),wait:=List.replicate (128:Nat) (0:Int)}
 l.flatten))])) [])):=by kernel_rfl
theorem Rv:ofE.Ok Tryz.prog 118:=by
 refine(al.bb call118 fun x_ y_ Q H_=>?_).sym;obtain⟨l,_⟩:=x_;obtain⟨hn,hq⟩:=H_;have hn:l.length<2305843009213693952∧l.flatten.length<1152921504606846976:=hn;refine(au mixed xM func118 rfl (LT:=ofLT) (ks:= [.fr [.sym],.auto]) (aS.bW (kQ rfl (b7 (hp:= []) Of) ly))).use (D:= []) ?_ hq;show(bc _ _ _ _ ((rrA).wr (l,())) ((ae).wr ()) _).sat _;rw[Og];have e:(bu rX l.flatten).n=l.flatten.length:=by rw[gb];show(0:Int)+_=_;omega
 exact⟨⟨mG,rfl,rfl,hn.1,by omega⟩,⟨eV _ mG,by show(bu rX l.flatten).n<_;rw[e];omega⟩,rfl,rfl⟩
def cF:Nat→Int→List Int
 |0,_=> []
 |k+1,x=>x%256::cF k (x/256)
theorem fk:∀ (k:Nat) (x:Int),(cF k x).length=k
 |0,_=>rfl
 |k+1,x=>by simp[cF,fk k]
theorem div_pow(x:Int)(i:Nat):x/256/256 ^ i=x/256 ^ (i+1):=by
 rw[Int.pow_succ,Int.mul_comm,Int.ediv_ediv_of_nonneg (by omega)]
theorem sQ:∀ (i:Nat) (x:Int),cF (i+1) x=cF i x++ [x/256 ^ i%256]
 |0,x=>by simp[cF]
 |i+1,x=>by
  rw[cF,sQ i,cF,List.cons_append,div_pow]
theorem qP:∀ (k:Nat) (x:Int),cF k x=(List.range k).map fun i=>x/256 ^ i%256
 |0,_=>rfl
 |k+1,x=>by rw[sQ,qP k,List.range_succ,List.map_append];rfl
theorem xN(x:Int):bc Tryz.prog [] [] f79 (aH.wr (ab (ak (ay .u64)) ae) (x,())) [] [.auto,.ba]=
 End.need ((1:Nat)≤(70368744177664:Nat)∧(1:Nat)≤(70368744177664:Nat)) (End.need ((2:Nat)≤(70368744177664:Nat)∧(2:Nat)≤
 (70368744177664:Nat)) (End.need ((3:Nat)≤(70368744177664:Nat)∧(3:Nat)≤(70368744177664:Nat)) (End.need ((4:Nat)≤(70368744177664:
 Nat)∧(4:Nat)≤(70368744177664:Nat)) (End.need ((5:Nat)≤(70368744177664:Nat)∧(5:Nat)≤(70368744177664:Nat)) (End.need ((6:Nat)≤
 (70368744177664:Nat)∧(6:Nat)≤(70368744177664:Nat)) (End.need ((7:Nat)≤(70368744177664:Nat)∧(7:Nat)≤(70368744177664:Nat))
 (End.need ((8:Nat)≤(70368744177664:Nat)∧(8:Nat)≤(70368744177664:Nat)) (End.leaf (LV.one (VV.sc (SV.sl (0:Nat) (0:Nat)))) [some
 (Item.own (0:Nat) (Ty.int IntKind.u8) ([IntKind.u8.wrap (shr u64 x (0:Int))]++ [IntKind.u8.wrap (shr u64 x (8:Int))]++
 [IntKind.u8.wrap (shr u64 x (16:Int))]++ [IntKind.u8.wrap (shr u64 x (24:Int))]++ [IntKind.u8.wrap (shr u64 x (32:
 Int))]++ [IntKind.u8.wrap (shr u64 x (40:Int))]++ [IntKind.u8.wrap (shr u64 x (48:Int))]++ [IntKind.u8.wrap (shr u64 x
 (56:Int))]))])))))))):=by kernel_rfl
def IY:al:=al.cl [] (ab (ak (ay .u64)) ae) ae fun x _=>.leaf (some (0≤x.1∧x.1<18446744073709551616)) (.one (.sc (.sl 0 0))) [(0,.own 0 u8 (cF 8 x.1))]
theorem Uu:IY.Ok Tryz.prog 79:=by
 refine(al.bb call79 fun x y Q h=>?_).sym;obtain⟨x,_⟩:=x;obtain⟨⟨h1,h2⟩,hq⟩:=h;simp only at h1 h2;refine(au mixed aw func79 rfl (LT:= []) (ks:= [.auto,.ba]) (aS.nil _)).use (D:= [(0,.own 0 u8 (cF 8 x))]) ?_ hq;show(bc _ _ _ _ (aH.wr (ab (ak (ay .u64)) ae) (x,())) [] _).sat _;rw[xN]
 have e:∀i:Nat,i<8→IntKind.u8.wrap (shr .u64 x (8*i:Nat))=x/256 ^ i%256:=by
  intro i hi;have e1:((2 ^ (8*i):Nat):Int)=256 ^ i:=by rw[Nat.pow_mul,Int.natCast_pow];rfl
  rw[o9 .u64 x (8*i) (by simp[IntKind.bits];omega),wrap_u8,e1]
 refine⟨by omega,by omega,by omega,by omega,by omega,by omega,by omega,by omega,rfl,?_⟩;show _= [some (Item.own 0 u8 (cF 8 x))];rw[qP,← List.map_congr_left (fun i hi=>e i (by simpa using hi))];rfl
abbrev xO{Y:Type}(r:aH (List SV) Y):aH (List SV) (Int×Int×Y):=ab (ay .i64) (ab (ay .i64) r)
abbrev uE{Y:Type}(r:aH (List SV) Y):aH (List SV) (Int×Int×Int×List Int×List Int×Y):=ab (ay .u64) (ab (ay .u64) (ab (ay .i64) (ab (mq u8 64) (ab (mq u8 64) r))))
abbrev IZ:aH (List LV) ((Int×Int×Unit)×Unit):=ab (fy (xO ae)) ae
abbrev Fh:aH (List LV) ((Int×Int×Int×List Int×List Int×Unit)×Unit):=ab (fy (uE ae)) ae
def kV(a b:Int):List Int:=if 0≤a∧a<8∧1≤b∧b≤16 then [66,74,75,49,a,b,0,0]else []
def gW(c v s:Int):Bool:=decide (v≤c∧1≤s∧s≤131072)
def Rw:al:=al.cl [] IZ ae fun x _=>.leaf none (.one (.sc (.sl 0 0))) [(0,.own 0 u8 (kV x.1.1 x.1.2.1))]
def AI:al:=al.cl [] Fh ae fun x _=>.leaf none (nB (gW x.1.1 x.1.2.1 x.1.2.2.1)) []
theorem uF(a b:Int):bc Tryz.prog [(78,N4)] [] f137 (IZ.wr ((a,b,()),())) [] [.mo 0 u8,.auto,.ba]=
 End.ite (decide (a<(0:Int))==false) (End.ite (decide ((8:Int)≤a)==false) (End.ite (decide (b<(1:Int))==false) (End.ite (decide ((16:
 Int)<b)) (End.leaf (LV.one (VV.sc (SV.sl (0:Nat) (0:Nat)))) [some (Item.own (0:Nat) (Ty.int IntKind.u8) [])]) (End.need ((8:Nat)≤
 (70368744177664:Nat)∧(2:Nat)≤(140737488355328:Nat)) (End.leaf (LV.one (VV.sc (SV.sl (0:Nat) (0:Nat)))) [some (Item.own (0:Nat) (Ty.int
 IntKind.u8) [[(66:Int),(74:Int),(75:Int),(49:Int)],[IntKind.u8.wrap a,IntKind.u8.wrap b,(0:Int),(0:Int)]].flatten)]))) (End.leaf
 (LV.one (VV.sc (SV.sl (0:Nat) (0:Nat)))) [some (Item.own (0:Nat) (Ty.int IntKind.u8) [])])) (End.leaf (LV.one (VV.sc (SV.sl (0:Nat) (0:
 Nat)))) [some (Item.own (0:Nat) (Ty.int IntKind.u8) [])])) (End.leaf (LV.one (VV.sc (SV.sl (0:Nat) (0:Nat)))) [some (Item.own (0:Nat) (Ty.int
 IntKind.u8) [])]):=by kernel_rfl
theorem AJ(c v s:Int)(a b:List Int):bc Tryz.prog [] [] f77 (Fh.wr ((c,v,s,a,b,()),())) [] [.fr [.sym],.auto]=
 End.ite (decide (v≤c)==true) (End.ite (decide ((1:Int)≤s)==true) (End.leaf (LV.one (VV.sc (SV.bool (SB.sym (decide (s≤(131072:Int)))))))
 []) (End.leaf (LV.one (VV.sc (SV.bool (SB.sym false)))) [])) (End.leaf (LV.one (VV.sc (SV.bool (SB.sym false)))) []):=by kernel_rfl
theorem I0(c v s:Int)(a b:List Int):bc Tryz.prog [(77,AI),(79,IY),(78,N4)] [] f56 (Fh.wr ((c,v,s,a,b,()),())) [] [.mo 0 u8,.auto,.ba]=
 End.ite (!gW c v s) (End.leaf (LV.one (VV.sc (SV.sl (0:Nat) (0:Nat)))) [some (Item.own (0:Nat) (Ty.int IntKind.u8) [])]) (End.need ((0:Int)
 ≤c∧c<(18446744073709551616:Int)) (End.need ((0:Int)≤v∧v<(18446744073709551616:Int)) (End.need ((0:Int)≤u64.wrap s∧
 u64.wrap s<(18446744073709551616:Int)) (End.need ((0:Int)≤(0:Int)∧(0:Int)≤(64:Int)∧(64:Int)≤(64:Int)) (End.need ((0:
 Int)≤(0:Int)∧(0:Int)≤(64:Int)∧(64:Int)≤(64:Int)) (End.need ([cF (8:Nat) c,cF (8:Nat) v,cF (8:Nat) (u64.wrap
 s),List.take (64:Nat) (List.drop (0:Nat) a),List.take (64:Nat) (List.drop (0:Nat) b)].flatten.length≤(70368744177664:Nat)∧(5:Nat)≤
 (140737488355328:Nat)) (End.leaf (LV.one (VV.sc (SV.sl (0:Nat) (0:Nat)))) [some (Item.own (0:Nat) (Ty.int IntKind.u8) [cF (8:Nat) c,cF
 (8:Nat) v,cF (8:Nat) (u64.wrap s),List.take (64:Nat) (List.drop (0:Nat) a),List.take (64:Nat) (List.drop (0:Nat)
 b)].flatten)]))))))):=by kernel_rfl
theorem lB{l m:List Int}(h:l=m): [some (Item.own 0 u8 l)]=ax [(0,Item.own 0 u8 m)] []:=by rw[h];rfl
theorem Oh:Rw.Ok Tryz.prog 137:=by
 refine(al.bb call137 fun x y Q h=>?_).sym;obtain⟨⟨a,b,_⟩,_⟩:=x;refine(au mixed (aj lA aw) func137 rfl (LT:= []) (ks:= [.mo 0 u8,.auto,.ba]) (aS.nil _)).use (D:= [(0,.own 0 u8 (kV a b))]) ?_ h.2;show(bc _ _ _ _ (IZ.wr ((a,b,()),())) [] _).sat _;rw[uF]
 refine⟨fun h1=>⟨fun h2=>⟨fun h3=>⟨fun h4=>⟨rfl,lB ?_⟩,fun h4=>⟨by omega,rfl,lB ?_⟩⟩,fun h3=>⟨rfl,lB ?_⟩⟩,fun h2=>⟨rfl,lB ?_⟩⟩,fun h1=>⟨rfl,lB ?_⟩⟩<;>
  simp at* <;>unfold kV<;>first|(rw[if_neg (by omega)])|(rw[if_pos (by omega),wrap_u8,wrap_u8,Int.emod_eq_of_lt (by omega) (by omega),Int.emod_eq_of_lt (by omega) (by omega)])
theorem I1{b c:Bool}(h:b=c):nB b=nB c:=by rw[h]
theorem xP:AI.Ok Tryz.prog 77:=by
 refine(al.bb call77 fun x y Q h=>?_).sym;obtain⟨⟨c,v,s,a,b,_⟩,_⟩:=x;refine(au mixed aw func77 rfl (LT:= []) (ks:= [.fr [.sym],.auto]) (aS.nil _)).use (D:= []) ?_ h.2;show(bc _ _ _ _ (Fh.wr ((c,v,s,a,b,()),())) [] _).sat _;rw[AJ];refine⟨fun h1=>⟨fun h2=>⟨I1 ?_,rfl⟩,fun h2=>⟨I1 ?_,rfl⟩⟩,fun h1=>⟨I1 ?_,rfl⟩⟩<;>simp_all[gW]<;>omega
def qQ(c v s:Int)(a b:List Int):List Int:=if gW c v s=true then cF 8 c++cF 8 v++cF 8 s++a.take 64++b.take 64 else []
theorem iS{c v s:Int}(h:gW c v s=true):1≤s∧s≤131072:=by simp[gW]at h;omega
def aeO:al:=al.cl [] Fh ae fun x _=>.leaf (some (0≤x.1.1∧x.1.1<18446744073709551616∧0≤x.1.2.1∧x.1.2.1<18446744073709551616)) (.one (.sc (.sl 0 0))) [(0,.own 0 u8 (qQ x.1.1 x.1.2.1 x.1.2.2.1 x.1.2.2.2.1 x.1.2.2.2.2.1))]
theorem Uv:aeO.Ok Tryz.prog 56:=by
 refine(al.bb call56 fun x y Q h=>?_).sym;obtain⟨⟨c,v,s,a,b,_⟩,_⟩:=x;obtain⟨⟨h1,h2,h3,h4⟩,hq⟩:=h;simp only at h1 h2 h3 h4;refine(au mixed (aj xP (aj Uu (aj lA aw))) func56 rfl (LT:= []) (ks:= [.mo 0 u8,.auto,.ba]) (aS.nil _)).use (D:= [(0,.own 0 u8 (qQ c v s a b))]) ?_ hq;show(bc _ _ _ _ (Fh.wr ((c,v,s,a,b,()),())) [] _).sat _;rw[I0];refine⟨fun hb=>⟨rfl,lB ?_⟩,fun hb=>?_⟩
 ·simp at hb;simp[qQ,hb]
 ·simp at hb;obtain⟨r1,r2⟩:=iS hb;have e:=wrap_u64 (n:=s) (by omega) (by omega);rw[e];refine⟨⟨h1,h2⟩,⟨h3,h4⟩,⟨by omega,by omega⟩,⟨by omega,by omega,by omega⟩,⟨by omega,by omega,by omega⟩,⟨?_,by omega⟩,rfl,lB ?_⟩
  ·simp[fk];omega
  ·simp[qQ,hb]
abbrev bbA:aH (List LV) (List Int×List Int×Unit):=ab (ak (g9 false false u8)) (ab (ak (g9 false false u8)) ae)
theorem AK(a b:List Int):bc Tryz.prog [] [] f136 (bbA.wr (a,b,())) [] []=
 End.leaf (LV.one (VV.sc (SV.bool (SB.sym (dm a b))))) []:=by kernel_rfl
theorem uG:bc Tryz.prog [] [] f104 [] [] [.auto,.ba]=
 End.leaf (LV.one (VV.sc (SV.sl (0:Nat) (0:Nat)))) [some (Item.own (0:Nat) (Ty.int IntKind.u8) [(98:Int),(111:Int),(111:Int),(116:Int),
 (106:Int),(97:Int),(99:Int),(107:Int)])]:=by kernel_rfl
def I2:al:=al.cl [some u8,some u8] bbA ae fun x _=>.leaf none (nB (dm x.1 x.2.1)) []
theorem mH:I2.Ok Tryz.prog 136:=by
 refine(al.bb call136 fun x y Q h=>?_).sym;obtain⟨a,b,_⟩:=x;refine(au mixed aw func136 rfl (LT:= []) (ks:= []) (aS.nil _)).use (D:= []) ?_ h.2;show(bc _ _ _ _ (bbA.wr (a,b,())) [] _).sat _;rw[AK];exact⟨rfl,rfl⟩
def Oi:al:=al.of [] ae ae fun _ _=>.leaf none (.one (.sc (.sl 0 0))) [(0,.own 0 u8 [98,111,111,116,106,97,99,107])]
theorem Uw:Oi.Ok Tryz.prog 104:=by
 refine al.bb call104 fun x y Q h=>?_;refine(au mixed aw func104 rfl (LT:= []) (ks:= [.auto,.ba]) (aS.nil _)).use (D:= [(0,.own 0 u8 [98,111,111,116,106,97,99,107])]) ?_ h.2;show(bc _ _ _ _ [] [] _).sat _;rw[uG];exact⟨rfl,rfl⟩
theorem uH(l:List Int):bc Tryz.prog [(137,Rw),(136,I2)] [] f102 (bA.wr (l,())) [] [.fr [.sym],.auto]=
 End.ite ((↑l.length:Int)!=(8:Int)) (End.leaf (LV.bV [VV.agg [SV.int i64 (SI.sym (0:Int)),SV.int i64 (SI.sym (0:Int))],
 VV.sc (SV.bool (SB.sym false))]) []) (End.need ((0:Int)≤(4:Int)∧(4:Int)<(↑l.length:Int)) (End.need ((0:Int)≤(5:Int)∧(5:Int)<
 (↑l.length:Int)) (End.ite (!dm (kV (i64.wrap (l.getD (4:Nat) (0:Int))) (i64.wrap (l.getD (5:Nat) (0:Int)))) l)
 (End.leaf (LV.bV [VV.agg [SV.int i64 (SI.sym (0:Int)),SV.int i64 (SI.sym (0:Int))],VV.sc (SV.bool (SB.sym false))]) [])
 (End.leaf (LV.bV [VV.agg [SV.int i64 (SI.sym (i64.wrap (l.getD (4:Nat) (0:Int)))),SV.int i64 (SI.sym (i64.wrap
 (l.getD (5:Nat) (0:Int))))],VV.sc (SV.bool (SB.sym true))]) [])))):=by kernel_rfl
def aX(l:List Int):(Int×Int)×Bool:=
 if l.length=8∧dm (kV (i64.wrap (l.getD 4 0)) (i64.wrap (l.getD 5 0))) l=true then((i64.wrap (l.getD 4 0),i64.wrap (l.getD 5 0)),true)else((0,0),false)
def qR(r:(Int×Int)×Bool):LV:=.bV [.agg [.int .i64 (.sym r.1.1),.int .i64 (.sym r.1.2)],.sc (.bool (.sym r.2))]
def mI:al:=al.cl [some u8] bA ae fun x _=>.leaf none (qR (aX x.1)) []
theorem oO{l:List Int}(h:¬ (l.length=8∧dm (kV (i64.wrap (l.getD 4 0)) (i64.wrap (l.getD 5 0))) l=true)):LV.bV [.agg [.int .i64 (.sym 0),.int .i64 (.sym 0)],.sc (.bool (.sym false))]=qR (aX l):=by
 unfold aX;rw[if_neg h];rfl
theorem uI{l:List Int}(h:l.length=8∧dm (kV (i64.wrap (l.getD 4 0)) (i64.wrap (l.getD 5 0))) l=true):
  LV.bV [.agg [.int .i64 (.sym (i64.wrap (l.getD 4 0))),.int .i64 (.sym (i64.wrap (l.getD 5 0)))],.sc (.bool (.sym true))]=qR (aX l):=by
 unfold aX;rw[if_pos h];rfl
theorem AL:mI.Ok Tryz.prog 102:=by
 refine(al.bb call102 fun x y Q h=>?_).sym;obtain⟨l,_⟩:=x;refine(au mixed (aj Oh (aj mH aw)) func102 rfl (LT:= []) (ks:= [.fr [.sym],.auto]) (aS.nil _)).use (D:= []) ?_ h.2;show(bc _ _ _ _ (bA.wr (l,())) [] _).sat _;rw[uH];refine⟨fun h1=>⟨oO ?_,rfl⟩,fun h1=>?_⟩
 ·intro h;rw[h.1]at h1;cases h1
 ·have S7:(l.length:Int)=8:=bne_eq_false_iff_eq.1 h1;refine⟨⟨by omega,by omega⟩,⟨by omega,by omega⟩,fun h2=>⟨oO ?_,rfl⟩,fun h2=>⟨uI ⟨by omega,?_⟩,rfl⟩⟩
  ·intro h;rw[h.2]at h2;cases h2
  ·revert h2;cases dm _ _<;>simp
def iT(b:List Int):List Int:=kL (b.take 160)
def po:al:=al.cl [some u8] (bA) (ae) fun x_ y_=>(fun(b:List Int)=>.leaf (some (b.length<1152921504606846976)) (fX .u8 64 (iT b)) []) x_.1
theorem xQ(b:List Int):bc Tryz.prog [(118,ofE)] [] f105 ((bA).wr (b,())) ((ae).wr ()) [.fr [.sym],.auto]=
 End.need ((0:Int)≤(0:Int)∧((0:Int)≤if(160:Int)<(↑b.length:Int)then(160:Int)else(↑b.length:Int))∧(if(160:Int)<
 (↑b.length:Int)then(160:Int)else(↑b.length:Int))≤(↑b.length:Int)) (End.need ((1:Nat)<(2305843009213693952:Nat)∧ [List.take ((if
 (160:Int)<(↑b.length:Int)then(160:Int)else(↑b.length:Int))-(0:Int)).toNat (List.drop (0:Nat) b)].flatten.length<
 (1152921504606846976:Nat)) (End.leaf (LV.one (VV.agg [SV.arr (Ty.int IntKind.u8) (64:Nat) (kL [List.take ((if(160:Int)<(↑b.length:Int)
 then(160:Int)else(↑b.length:Int))-(0:Int)).toNat (List.drop (0:Nat) b)].flatten)])) [])):=by kernel_rfl
theorem Fk:po.Ok Tryz.prog 105:=by
 refine(al.bb call105 fun x_ y_ Q H_=>?_).sym;obtain⟨b,_⟩:=x_;obtain⟨hn,hq⟩:=H_;have hn:b.length<1152921504606846976:=hn;refine(au mixed ((aj Rv aw)) func105 rfl (LT:= []) (ks:= [.fr [.sym],.auto]) (aS.nil _)).use (D:= []) ?_ hq;show(bc _ _ _ _ ((bA).wr (b,())) ((ae).wr ()) _).sat _;rw[xQ]
 have e:List.take ((if(160:Int)<b.length then(160:Int)else b.length)-0).toNat (List.drop 0 b)=b.take 160:=by
  rw[List.drop_zero]
  split
  ·rfl
  ·rw[List.take_of_length_le (by omega),List.take_of_length_le (by omega)]
 rw[e,List.flatten_singleton];refine⟨⟨by omega,by split<;>omega,by split<;>omega⟩,⟨by omega,by simp;omega⟩,rfl,rfl⟩
def bH:List Int→Int
 | []=>0
 |x::l=>u64.wrap (u64.wrap (bH l*256)+u64.wrap x)
theorem Oj(bs:ByteArray):∀ (k i:Nat) (r:List UInt8),bs.size-i=k→ByteArray.toList.loop bs i r=r.reverse++bs.data.toList.drop i:=by
 intro k
 induction k with
 |zero=>
  intro i r h;unfold ByteArray.toList.loop;rw[if_neg (by omega),List.drop_eq_nil_of_le (by simp;exact Nat.sub_eq_zero_iff_le.1 h)];simp
 |succ k ih=>
  intro i r h;unfold ByteArray.toList.loop;have hi:i<bs.size:=by omega
  have oZ:i<bs.data.toList.length:=by simpa using hi
  rw[if_pos hi,ih (i+1) _ (by omega),List.drop_eq_getElem_cons oZ]
  have:bs.get! i=bs.data.toList[i]:=by
   cases bs with|mk d=>simp[ByteArray.get!,ByteArray.size]at*;exact getElem!_pos d i hi
  rw[this];simp
theorem Fm(bs:ByteArray):bs.toList=bs.data.toList:=by
 unfold ByteArray.toList;rw[Oj bs _ 0 [] rfl];simp
theorem oP(l:List Int):(strOf l).toList.length=l.length:=by
 rw[Fm];simp[strOf]
theorem nY{l m:List Int}(h:dm l m=true):l.length=m.length:=by
 unfold dm at h;have:=congrArg List.length (beq_iff_eq.1 h);rwa [oP,oP]at this
theorem dO:∀ {l:List Int},aA l→l.length≤8→0≤bH l∧bH l<256 ^ l.length∧∀c,By c→l.length<8→bH (c::l)=bH l*256+c
 | [],_,_=>⟨by simp[bH],by simp[bH],fun c hc _=>by
  obtain⟨h0,h1⟩:=hc;simp only[bH];rw[wrap_u64 (n:=0*256) (by omega) (by omega),wrap_u64 (n:=c) (by omega) (by omega),wrap_u64 (by omega) (by omega)]⟩
 |x::l,hb,hl=>by
  simp only[List.length_cons]at hl;have hx:By x:=hb x (by simp);have fx:aA l:=fun z hz=>hb z (by simp[hz]);obtain⟨h1,h2,h3⟩:=dO fx (by omega);have e:=h3 x hx (by omega);obtain⟨Ch,hx1⟩:=hx;have hp:(256:Int) ^ (l.length+1)=256 ^ l.length*256:=Int.pow_succ _ _;have dE:bH (x::l)<256 ^ (l.length+1):=by rw[e,hp];omega
  refine⟨by rw[e];omega,dE,fun c hc h8=>?_⟩;simp only[List.length_cons]at h8;obtain⟨GZ,hc1⟩:=hc
  have hle:(256:Int) ^ (l.length+1)≤256 ^ 7:=by
   have:(256:Nat) ^ (l.length+1)≤256 ^ 7:=Nat.pow_le_pow_right (by omega) (by omega)
   exact_mod_cast this
  have h7:(256:Int) ^ 7=72057594037927936:=by decide
  have h0:0≤bH (x::l):=by rw[e];omega
  have hd:bH (c::x::l)=u64.wrap (u64.wrap (bH (x::l)*256)+u64.wrap c):=rfl;rw[hd,wrap_u64 (n:=bH (x::l)*256) (by omega) (by omega),wrap_u64 (n:=c) (by omega) (by omega),wrap_u64 (by omega) (by omega)]
theorem sR:∀ {l:List Int} {c:Int},aA l→By c→l.length<8→bH (l++ [c])=bH l+c*256 ^ l.length
 | [],c,hb,hc,_=>by
  have:=(dO (l:= []) (fun _ h=>by simp at h) (by simp)).2.2 c hc (by simp);simp only[List.nil_append,List.length_nil,Int.pow_zero];rw[this];simp[bH]
 |x::l,c,hb,hc,h8=>by
  simp only[List.length_cons]at h8;have hx:By x:=hb x (by simp);have fx:aA l:=fun z hz=>hb z (by simp[hz])
  have rQ:aA (l++ [c]):=fun z hz=>by
   rcases List.mem_append.1 hz with h|h
   ·exact fx z h
   ·simp at h;subst h;exact hc
  have e1:=(dO rQ (by simp;omega)).2.2 x hx (by simp;omega);have e2:=(dO fx (by omega)).2.2 x hx (by omega);rw[List.cons_append,e1,sR fx hc (by omega),e2,List.length_cons,Int.pow_succ,Int.add_mul,Int.mul_assoc];omega
theorem Ol{l:List Int}(h:aA l)(i:Nat):By (l.getD i 0):=by
 rw[List.getD_eq_getElem?_getD]
 cases he:l[i]? with
 |none=>exact⟨by simp,by simp⟩
 |some z=>exact h z (List.mem_of_getElem? he)
abbrev Ux:Func:=f144
abbrev Zk:aH (List LV) (Int×List Int×Int×Int×Unit):=(jk 3 (ab (ak (ay .u64)) (jk 3 (ab (ak (g9 false false u8)) (ab (ak (ay .i64)) (ab (ak (ay .i64)) (jk 13 ae)))))))
abbrev Zl:Wk:=.fr (cR 23 [(3,.sym),(7,.ao),(8,.sym),(9,.sym)])
abbrev vaX:aH (List LV) (Int×Unit):=(jk 3 (ab (ak (ay .u64)) (jk 19 ae)))
abbrev aeR:Wk:=.fr (cR 23 [(3,.sym)])
def vaW:Exit→List Wk
 | .normal=> [Zl,.auto]
 | .exit 0=> [aeR,.auto]
 |_=> []
theorem Uy(x:Int)(l:List Int)(n i:Int):gV Tryz.prog [] [] Ux 0 [] vaW ((bq Zk ae).wr ((x,l,n,i,()),()))=
 aV.ite (decide (i<n)) (aV.need ((0:Int)≤i∧i<(↑l.length:Int)) (aV.need ((0:Int)≤i64.wrap ((8:Int)*i)) (aV.leaf
 Exit.normal ((bq Zk ae).wr ((bf u64 x (shl u64 (u64.wrap (l.getD i.toNat (0:Int))) (i64.wrap ((8:Int)*
 i))),l,n,i64.wrap (i+(1:Int)),PUnit.unit),PUnit.unit))))) (aV.leaf (Exit.exit (0:Nat)) ((bq vaX ae).wr ((x,PUnit.unit),
 PUnit.unit))):=by kernel_rfl
def vaF(x:(Int×List Int×Int×Int×Unit)×Unit):aV:=
 .need (x.1.1=0∧x.1.2.1.length=8∧aA x.1.2.1∧x.1.2.2.1=x.1.2.1.length∧x.1.2.2.2.1=0) (.leaf (.exit 0) ((bq vaX ae).wr ((bH x.1.2.1,()),())))
theorem Rx{l:List Int}{k:Nat}(hl:aA l)(h8:l.length=8)(hk:k<8):
  bf .u64 (bH (l.take k)) (shl .u64 (u64.wrap (l.getD k 0)) (i64.wrap (8*(k:Int))))=bH (l.take (k+1)):=by
 have hc:By (l.getD k 0):=Ol hl k
 have e0:l.take (k+1)=l.take k++ [l.getD k 0]:=by
  rw[List.take_add_one];simp[List.getD_eq_getElem?_getD,List.getElem?_eq_getElem (show k<l.length by omega)]
 have hlen:(l.take k).length=k:=by rw[List.length_take];omega
 obtain⟨r1,r2,_⟩:=dO (hl.take k) (by omega);rw[hlen]at r2;obtain⟨GZ,hc1⟩:=hc;have e1:i64.wrap (8*(k:Int))=((8*k:Nat):Int):=by rw[ar (by omega) (by omega)];omega
 have Ni:((2 ^ (8*k):Nat):Int)=256 ^ k:=by rw[Nat.pow_mul,Int.natCast_pow];rfl
 have hle:(256:Int) ^ k≤256 ^ 7:=by
  have:(256:Nat) ^ k≤256 ^ 7:=Nat.pow_le_pow_right (by omega) (by omega)
  exact_mod_cast this
 have h7:(256:Int) ^ 7=72057594037927936:=by decide
 have eI:(0:Int)<256 ^ k:=Int.pow_pos (by omega);have hmul:l.getD k 0*256 ^ k≤255*256 ^ k:=Int.mul_le_mul_of_nonneg_right (by omega) (by omega);have Zm:0≤l.getD k 0*256 ^ k:=Int.mul_nonneg GZ (by omega)
 rw[e0,sR (hl.take k) ⟨GZ,hc1⟩ (by omega),hlen,e1,wrap_u64 GZ (by omega),mu .u64 _ _ (by show 8*k≤64;omega),Ni,wrap_u64 (by omega) (by omega),fY,
  tT (m:=8*k) Zm (by rw[Ni];exact Int.mul_emod_left _ _) r1 (by rw[Ni];exact r2) (by omega)]
 omega
theorem Om(x):Ex Tryz.prog [] (.loop (aY Ux 0)) ((bq Zk ae).wr x) (vaF x):=by
 obtain⟨⟨y,l,n,i,_⟩,_⟩:=x;refine Ex.need fun⟨h1,h2,h3,h4,h5⟩=>?_;simp only at h1 h2 h3 h4 h5;subst h1 h4 h5
 have key:=eQ (fn:=Ux) (id:=0) (j:=0) (ws:=vaW) (hp:= []) mixed aw (aS.nil _) 8 (fun k (_:Unit)=>(bq Zk ae).wr ((bH (l.take k),l,(l.length:Int),(k:Int),()),())) (fun _=>(bq vaX ae).wr ((bH (l.take 8),()),())) (fun _ u=>u) (fun _ _=>True)
  (fun k u R hk _ hn hx=>?_) (fun _ _ _ _=>trivial) 0 () (by omega) trivial
 ·rw[List.take_of_length_le (show l.length≤8 by omega)]at key;exact key
 rw[Uy];refine⟨fun hb=>?_,fun hb=>?_⟩
 ·have jv:k<8:=by have:=of_decide_eq_true hb;omega
  have e:=Rx h3 h2 jv;rw[Int.toNat_natCast,e,db k (by omega)];refine⟨by omega,?_,hn jv⟩;rw[ar (by omega) (by omega)];omega
 ·have:k=8:=by have:=of_decide_eq_false hb;omega
  subst this;exact hx rfl
abbrev Zn:dd:= [(0,dA (bq Zk ae) 0 [Zl,.auto] vaF)]
def I3:al:=al.cl [some u8] (bA) (ae) fun x_ y_=>(fun(l:List Int)=>.leaf (some (8≤l.length∧aA l)) (nU (bH (l.take 8))) []) x_.1
theorem AM(l:List Int):bc Tryz.prog [] Zn f144 ((bA).wr (l,())) ((ae).wr ()) [.fr [.sym],.auto]=
 End.need ((0:Int)≤(0:Int)∧(0:Int)≤(8:Int)∧(8:Int)≤(↑l.length:Int)) (End.need ((0:Int)=(0:Int)∧(List.take (8:Nat)
 (List.drop (0:Nat) l)).length=(8:Nat)∧aA (List.take (8:Nat) (List.drop (0:Nat) l))∧(↑(List.take (8:Nat) (List.drop (0:Nat)
 l)).length:Int)=(↑(List.take (8:Nat) (List.drop (0:Nat) l)).length:Int)∧(0:Int)=(0:Int)) (End.leaf (LV.one (VV.sc (SV.int u64
 (SI.sym (bH (List.take (8:Nat) (List.drop (0:Nat) l))))))) [])):=by kernel_rfl
theorem I4:I3.Ok Tryz.prog 144:=by
 refine(al.bb call144 fun x_ y_ Q H_=>?_).sym;obtain⟨l,_⟩:=x_;obtain⟨hn,hq⟩:=H_;have hn:8≤l.length∧aA l:=hn;refine(au mixed aw func144 rfl (LT:=Zn) (ks:= [.fr [.sym],.auto]) (aS.bW (kQ rfl (b7 (hp:= []) Om) ly))).use (D:= []) ?_ hq;show(bc _ _ _ _ ((bA).wr (l,())) ((ae).wr ()) _).sat _;rw[AM];obtain⟨h1,h2⟩:=hn;rw[List.drop_zero];exact⟨by omega,⟨rfl,by simp;omega,h2.take 8,rfl,rfl⟩,rfl,rfl⟩
structure MM where
 ver:Int
 qS:Int
 len:Int
 list:List Int
 plain:List Int
abbrev cMM:aH (List SV) MM:=(uE ae).jl (fun x=>⟨x.1,x.2.1,x.2.2.1,x.2.2.2.1,x.2.2.2.2.1⟩) (fun m=>(m.ver,m.qS,m.len,m.list,m.plain,())) (fun _=>rfl)
def Zo:MM:=⟨0,0,0,List.replicate 64 0,List.replicate 64 0⟩
abbrev aeS(r:MM×Bool):LV:=.bV [.agg (cMM.wr r.1),.sc (.bool (.sym r.2))]
def xR(b:List Int):MM:=⟨bH (b.take 8),bH ((b.drop 8).take 8),bH ((b.drop 16).take 8),(b.drop 24).take 64,(b.drop 88).take 64⟩
def gX(b:List Int):MM×Bool:=
 if b.length=152∧gW (xR b).ver (xR b).qS (xR b).len=true then(xR b,true)else(Zo,false)
def On:al:=al.cl [some u8] (bA) (ae) fun x_ y_=>(fun(b:List Int)=>.leaf (some (aA b)) (aeS (gX b)) []) x_.1
theorem I5(b:List Int):bc Tryz.prog [(144,I3),(77,AI)] [] f106 ((bA).wr (b,())) ((ae).wr ()) [.fr [.sym],.auto]=
 End.ite (((↑b.length:Int)!=(152:Int))==false) (End.need ((0:Int)≤(16:Int)∧(16:Int)≤(↑b.length:Int)∧(↑b.length:Int)≤
 (↑b.length:Int)) (End.need ((8:Nat)≤(List.take ((↑b.length:Int)-(16:Int)).toNat (List.drop (16:Nat) b)).length∧aA (List.take
 ((↑b.length:Int)-(16:Int)).toNat (List.drop (16:Nat) b))) (End.ite (decide ((131072:Int)<bH (List.take (8:Nat) (List.take ((↑b.length:
 Int)-(16:Int)).toNat (List.drop (16:Nat) b))))) (End.leaf (LV.bV [VV.agg [SV.int u64 (SI.sym (0:Int)),SV.int u64 (SI.sym (0:
 Int)),SV.int i64 (SI.sym (0:Int)),SV.arr (Ty.int IntKind.u8) (64:Nat) (List.replicate (64:Nat) (0:Int)),SV.arr (Ty.int IntKind.u8)
 (64:Nat) (List.replicate (64:Nat) (0:Int))],VV.sc (SV.bool (SB.sym false))]) []) (End.need ((8:Nat)≤b.length∧aA b) (End.need ((0:Int)
 ≤(8:Int)∧(8:Int)≤(↑b.length:Int)∧(↑b.length:Int)≤(↑b.length:Int)) (End.need ((8:Nat)≤(List.take ((↑b.length:Int)-(8:
 Int)).toNat (List.drop (8:Nat) b)).length∧aA (List.take ((↑b.length:Int)-(8:Int)).toNat (List.drop (8:Nat) b))) (End.need ((0:Int)≤
 (16:Int)∧(16:Int)≤(↑b.length:Int)∧(↑b.length:Int)≤(↑b.length:Int)) (End.need ((8:Nat)≤(List.take ((↑b.length:Int)-(16:
 Int)).toNat (List.drop (16:Nat) b)).length∧aA (List.take ((↑b.length:Int)-(16:Int)).toNat (List.drop (16:Nat) b))) (End.need ((0:Int)
 ≤(24:Int)∧(24:Int)≤(↑b.length:Int)∧(↑b.length:Int)≤(↑b.length:Int)) (End.need ((64:Nat)≤(List.take ((↑b.length:Int)-(24:
 Int)).toNat (List.drop (24:Nat) b)).length) (End.need ((64:Nat)≤(List.take ((↑b.length:Int)-(24:Int)).toNat (List.drop (24:Nat)
 b)).length) (End.need ((0:Int)≤(88:Int)∧(88:Int)≤(↑b.length:Int)∧(↑b.length:Int)≤(↑b.length:Int)) (End.need ((64:Nat)≤
 (List.take ((↑b.length:Int)-(88:Int)).toNat (List.drop (88:Nat) b)).length) (End.need ((64:Nat)≤(List.take ((↑b.length:Int)-(88:
 Int)).toNat (List.drop (88:Nat) b)).length) (End.ite (!gW (bH (List.take (8:Nat) b)) (bH (List.take (8:Nat) (List.take ((↑b.length:Int)
 -(8:Int)).toNat (List.drop (8:Nat) b)))) (i64.wrap (bH (List.take (8:Nat) (List.take ((↑b.length:Int)-(16:Int)).toNat (List.drop
 (16:Nat) b)))))) (End.leaf (LV.bV [VV.agg [SV.int u64 (SI.sym (0:Int)),SV.int u64 (SI.sym (0:Int)),SV.int i64 (SI.sym
 (0:Int)),SV.arr (Ty.int IntKind.u8) (64:Nat) (List.replicate (64:Nat) (0:Int)),SV.arr (Ty.int IntKind.u8) (64:Nat) (List.replicate (64:
 Nat) (0:Int))],VV.sc (SV.bool (SB.sym false))]) []) (End.leaf (LV.bV [VV.agg [SV.int u64 (SI.sym (bH (List.take (8:Nat) b))),SV.int
 u64 (SI.sym (bH (List.take (8:Nat) (List.take ((↑b.length:Int)-(8:Int)).toNat (List.drop (8:Nat) b))))),SV.int i64 (SI.sym
 (i64.wrap (bH (List.take (8:Nat) (List.take ((↑b.length:Int)-(16:Int)).toNat (List.drop (16:Nat) b)))))),SV.arr (Ty.int
 IntKind.u8) (64:Nat) (List.take (64:Nat) (List.drop (0:Nat) (List.take ((↑b.length:Int)-(24:Int)).toNat (List.drop (24:Nat) b)))),SV.arr
 (Ty.int IntKind.u8) (64:Nat) (List.take (64:Nat) (List.drop (0:Nat) (List.take ((↑b.length:Int)-(88:Int)).toNat (List.drop (88:Nat)
 b))))],VV.sc (SV.bool (SB.sym true))]) [])))))))))))))))) (End.leaf (LV.bV [VV.agg [SV.int u64 (SI.sym (0:Int)),SV.int u64 (SI.sym
 (0:Int)),SV.int i64 (SI.sym (0:Int)),SV.arr (Ty.int IntKind.u8) (64:Nat) (List.replicate (64:Nat) (0:Int)),SV.arr (Ty.int
 IntKind.u8) (64:Nat) (List.replicate (64:Nat) (0:Int))],VV.sc (SV.bool (SB.sym false))]) []):=by kernel_rfl
theorem Uz:On.Ok Tryz.prog 106:=by
 refine(al.bb call106 fun x_ y_ Q H_=>?_).sym;obtain⟨b,_⟩:=x_;obtain⟨hn,hq⟩:=H_;have hn:aA b:=hn;refine(au mixed ((aj I4 (aj xP aw))) func106 rfl (LT:= []) (ks:= [.fr [.sym],.auto]) (aS.nil _)).use (D:= []) ?_ hq;show(bc _ _ _ _ ((bA).wr (b,())) ((ae).wr ()) _).sat _;rw[I5];refine⟨fun h0=>?_,fun h0=>?_⟩
 ·have hl:b.length=152:=by have:((b.length:Int)!=152)=false:=by simpa using h0
                           simp at this;omega
  have e:∀k:Nat,k≤152→List.take ((b.length:Int)-(k:Int)).toNat (List.drop k b)=b.drop k:=fun k hk=>by rw[List.take_of_length_le (by rw[List.length_drop];omega)]
  have e8:List.take ((b.length:Int)-8).toNat (List.drop 8 b)=b.drop 8:=e 8 (by omega);have e16:List.take ((b.length:Int)-16).toNat (List.drop 16 b)=b.drop 16:=e 16 (by omega);have e24:List.take ((b.length:Int)-24).toNat (List.drop 24 b)=b.drop 24:=e 24 (by omega);have e88:List.take ((b.length:Int)-88).toNat (List.drop 88 b)=b.drop 88:=e 88 (by omega);rw[e8,e16,e24,e88];obtain⟨r1,r2,_⟩:=dO ((hn.drop 16).take 8) (by rw[List.length_take];omega);refine⟨by omega,⟨by simp;omega,hn.drop 16⟩,fun h1=>?_,fun h1=>?_⟩
  ·have h1:=of_decide_eq_true h1
   have eg:gX b=(Zo,false):=if_neg fun⟨_,hr⟩=>by
    have:=(iS hr).2;simp only[xR]at this;omega
   rw[eg];exact⟨rfl,rfl⟩
  ·have h1:=of_decide_eq_false h1;have ew:i64.wrap (bH ((b.drop 16).take 8))=bH ((b.drop 16).take 8):=ar (by omega) (by omega);rw[ew];refine⟨⟨by omega,hn⟩,by omega,⟨by simp;omega,hn.drop 8⟩,by omega,⟨by simp;omega,hn.drop 16⟩,by omega,by simp;omega,by simp;omega,by omega,by simp;omega,by simp;omega,fun h2=>?_,fun h2=>?_⟩
   ·have eg:gX b=(Zo,false):=if_neg fun⟨_,hr⟩=>by
     have jw:gW (bH (b.take 8)) (bH ((b.drop 8).take 8)) (bH ((b.drop 16).take 8))=true:=hr;rw[jw]at h2;cases h2
    rw[eg];exact⟨rfl,rfl⟩
   ·have TC:gW (bH (b.take 8)) (bH ((b.drop 8).take 8)) (bH ((b.drop 16).take 8))=true:=(by simpa using h2);have eg:gX b=(xR b,true):=if_pos ⟨hl,TC⟩;rw[eg];exact⟨rfl,rfl⟩
 ·have hl:¬b.length=152:=fun e=>by rw[e]at h0;simp at h0
  have eg:gX b=(Zo,false):=if_neg fun⟨h,_⟩=>hl h;rw[eg];exact⟨rfl,rfl⟩
end Go.Proofs.YtmhcoaflmgajhaaGreat
end
noncomputable section
namespace Go.Ev
open Go
open Go.IntKind (i64 signed u32 u64 wrap wrap_u32)
def Vec(α:Type):Nat→Type
 |0=>Unit
 |n+1=>α×Vec α n
namespace Vec
variable {α β γ:Type}
def toList: {n:Nat}→Vec α n→List α
 |0,_=> []
 |_+1,v=>v.1::toList v.2
def zip(f:α→β→γ): {n:Nat}→Vec α n→Vec β n→Vec γ n
 |0,_,_=>()
 |_+1,v,u=>(f v.1 u.1,zip f v.2 u.2)
def ofFn:(n:Nat)→(Nat→α)→Vec α n
 |0,_=>()
 |n+1,f=>(f 0,ofFn n fun i=>f (i+1))
def get[Inhabited α]: {n:Nat}→Vec α n→Nat→α
 |0,_,_=>default
 |_+1,v,0=>v.1
 |_+1,v,i+1=>get v.2 i
theorem dH: {n:Nat}→(v:Vec α n)→v.toList.length=n
 |0,_=>rfl
 |_+1,v=>by simp[toList,dH v.2]
theorem toList_inj: {n:Nat}→ {v u:Vec α n}→v.toList=u.toList→v=u
 |0,_,_,_=>rfl
 |n+1,v,u,h=>by
  simp only[toList,List.cons.injEq]at h;exact Prod.ext h.1 (toList_inj h.2)
end Vec
def nZ{α:Type}(f:Nat→α→α):Nat→α→α
 |0,a=>a
 |k+1,a=>f k (nZ f k a)
theorem n3{α:Type}(f:Nat→α→α)(a:α):∀n,upto f 0 n a=nZ f n a
 |0=>rfl
 |n+1=>by rw[sJ,n3 f a n,Nat.zero_add];rfl
def cr(x y c:Int):Int×Int:=((((x.toNat+y.toNat+c.toNat)%2 ^ 64:Nat):Int),(((x.toNat+y.toNat+c.toNat)/2 ^ 64:Nat):Int))
def iA(x y b:Int):Int×Int:=((((x.toNat+2 ^ 64-y.toNat-b.toNat)%2 ^ 64:Nat):Int),if x.toNat<y.toNat+b.toNat then 1 else 0)
abbrev cU3:aH (List LV) (Int×Int×Int×Unit):=ab (ak (ay .u64)) (ab (ak (ay .u64)) (ab (ak (ay .u64)) ae))
def iC(g:Int→Int→Int→Int×Int):al:=al.of [] cU3 ae fun x _=>.leaf (some (0≤x.2.2.1∧x.2.2.1≤1)) (.bV [.sc (.int .u64 (.sym (g x.1 x.2.1 x.2.2.1).1)),.sc (.int .u64 (.sym (g x.1 x.2.1 x.2.2.1).2))]) []
theorem C4{P:Program}{f:FuncId}{g:Int→Int→Int→Int×Int}(h:∀ (a b c:Int) (w:World),0≤c→c≤1→(callFunc f #[.int .u64 a,.int .u64 b,.int .u64 c]).run P w= .ok (.value (.tuple #[.int .u64 (g a b c).1,.int .u64 (g a b c).2])) w):
  (iC g).Ok P f:=by
 refine⟨fun args hp Q hq=>?_⟩;simp only[iC,al.of]at hq
 split at hq
 ·rename_i x y hx hy;rw[cU3.ok hx];obtain⟨a,b,c,_⟩:=x;obtain⟨⟨h0,h1⟩,hq⟩:=hq;intro β w vals hh cq
  cases cq with
  |cons e1 cq=>cases cq with
   |cons e2 cq=>cases cq with
    |cons e3 cq=>
     cases cq
     simp only[LV.den,VV.den,SV.den,ak,ay,SI.val]at e1 e2 e3;subst e1 e2 e3;exact .inl ⟨_,h a b c w h0 h1,_,β,_,hp,rfl,⟨[],hq,rfl⟩,⟨_,rfl,.cons rfl (.cons rfl .nil)⟩,hh⟩
 ·exact hq.elim
theorem sS{P:Program}(n:String)(a b c:Int)(w:World)(hc:¬c.toNat>1):
  (Extern.MathBitsCarry.three n #[.int .u64 a,.int .u64 b,.int .u64 c]).run P w= .ok (a.toNat,b.toNat,c.toNat) w:=by
 have e:Extern.MathBitsCarry.three n #[.int .u64 a,.int .u64 b,.int .u64 c]=(do
  let c:=(← asInt (.int .u64 c)).toNat
  if c>1 then unsupported (.noEntry ("extern/math/bits."++n++": a carry that is neither 0 nor 1"))
  pure ((← asInt (.int .u64 a)).toNat,(← asInt (.int .u64 b)).toNat,c)):=rfl
 rw[e];have lb:¬ 1<c.toNat:=hc;simp[asInt,asIntOf];omega
theorem AN{P:Program}{f:FuncId}{fn:Func}(hf:P.funcs[f]? =some fn)(I6:(fn.name=="runtime.NumGoroutine")=false)(hb:fn.body.isNone=true)(hn:Extern.findNext fn=none)
  {e:Array Value→Sem Value} (he:Extern.find fn=some e) (XV:e=(Extern.MathBitsCarry.rows.getD 0 ("",fun _=>pure undef)).2):(iC cr).Ok P f:=by
 refine C4 fun a b c w h0 h1=>?_;rw[run_callFunc_extern hf I6 hb hn he,XV];have hc:¬c.toNat>1:=by omega
 simp[Extern.MathBitsCarry.rows,sS _ _ _ _ _ hc,Extern.MathBitsCarry.pair,Extern.MathBitsCarry.m64,cr]
theorem AO{P:Program}{f:FuncId}{fn:Func}(hf:P.funcs[f]? =some fn)(I6:(fn.name=="runtime.NumGoroutine")=false)(hb:fn.body.isNone=true)(hn:Extern.findNext fn=none)
  {e:Array Value→Sem Value} (he:Extern.find fn=some e) (XV:e=(Extern.MathBitsCarry.rows.getD 1 ("",fun _=>pure undef)).2):(iC iA).Ok P f:=by
 refine C4 fun a b c w h0 h1=>?_;rw[run_callFunc_extern hf I6 hb hn he,XV];have hc:¬c.toNat>1:=by omega
 simp[Extern.MathBitsCarry.rows,sS _ _ _ _ _ hc,Extern.MathBitsCarry.pair,Extern.MathBitsCarry.m64,iA]
 split<;>rfl
def mJ(k:IntKind){Y:Type}(r:aH (List SV) Y):(n:Nat)→aH (List SV) (Vec Int n×Y)
 |0=>r.jl (fun y=>((),y)) (fun p=>p.2) (fun _=>rfl)
 |n+1=>(ab (ay k) (mJ k r n)).jl (fun p=>((p.1,p.2.1),p.2.2)) (fun p=>(p.1.1,(p.1.2,p.2))) (fun _=>rfl)
def gf(k:IntKind):(n:Nat)→aH (List SV) (Vec Int n)
 |0=>ae
 |n+1=>ab (ay k) (gf k n)
def lC(l:List Int):Vec Int 32:=Vec.ofFn 32 fun i=>l.getD i 0
end Go.Ev
end
noncomputable section
namespace BJ
end BJ
end
noncomputable section
namespace Go.Proofs.YtmhcoaflmgajhaaGreat
open Go Go.Ev Go.Proofs.Tryz
open Go.IntKind (i64 signed u32 u64 wrap wrap_u32)
set_option maxRecDepth 100000
abbrev Fe:=Vec Int 5
abbrev dk:=Vec Int 32
def gr(n:Int):Int:=u64.wrap n
def dI(a b:Int):Int:=bl .u64 a b
def cT(a b:Int):Int:=shr .u64 a b
def xS:Int:=2251799813685247
def gG(x:Fe):Fe:=
 (gr (dI x.1 xS+gr (cT x.2.2.2.2.1 51*19)),
  gr (dI x.2.1 xS+cT x.1 51),
  gr (dI x.2.2.1 xS+cT x.2.1 51),
  gr (dI x.2.2.2.1 xS+cT x.2.2.1 51),
  gr (dI x.2.2.2.2.1 xS+cT x.2.2.2.1 51),())
def bn(n:Int):Fe:=(dI n xS,cT n 51,0,0,0,())
def Zp(carry:Fe→Fe)(x y:Fe):Fe:=carry (Vec.zip (fun a b=>gr (a+b)) x y)
def Zq(carry:Fe→Fe)(x y:Fe):Fe:=carry (Vec.zip (fun a b=>gr (a-b)) (Vec.zip (fun a b=>gr (a+b)) x (4503599627370458,4503599627370494,4503599627370494,4503599627370494,4503599627370494,())) y)
def cN:Fe:=(0,0,0,0,0,())
def UA: {n:Nat}→Vec Int n→Vec Int n→Bool
 |0,_,_=>true
 |_+1,v,u=>(v.1==u.1)&&UA v.2 u.2
theorem uJ: {n:Nat}→(v u:Vec Int n)→(UA v u=true↔v=u)
 |0,_,_=>⟨fun _=>rfl,fun _=>rfl⟩
 |n+1,v,u=>by
  simp only[UA,Bool.and_eq_true,beq_iff_eq,uJ v.2 u.2];exact⟨fun h=>Prod.ext h.1 h.2,fun h=>by rw[h];exact⟨rfl,rfl⟩⟩
def Zr(bytes:Fe→dk)(x:Fe):Bool:=bl .u8 (bytes x).1 1==1
def C5(carry:Fe→Fe)(x:Fe):Fe:=
 let y:=carry x
 let c:=cT (gr (y.1+19)) 51
 let c:=cT (gr (y.2.1+c)) 51
 let c:=cT (gr (y.2.2.1+c)) 51
 let c:=cT (gr (y.2.2.2.1+c)) 51
 let c:=cT (gr (y.2.2.2.2.1+c)) 51
 let c:=gr (c*19)
 let c0:=gr (c+y.1)
 let c1:=gr (cT c0 51+y.2.1)
 let c2:=gr (cT c1 51+y.2.2.1)
 let c3:=gr (cT c2 51+y.2.2.2.1)
 let c4:=gr (cT c3 51+y.2.2.2.2.1)
 (dI c0 xS,dI c1 xS,dI c2 xS,dI c3 xS,dI c4 xS,())
end Go.Proofs.YtmhcoaflmgajhaaGreat
namespace Go.Proofs.YtmhcoaflmgajhaaGreat
open Go Go.Ev Go.Proofs.Tryz
open Go.IntKind (i64 signed u32 u64 wrap wrap_u32)
set_option maxRecDepth 1000000
def UB(y:Fe):dk:=Vec.ofFn 32 fun j=>(List.range (if j=31 then 7 else 8)).foldl
 (fun acc i=>bf .u8 acc (shl .u8 (IntKind.u8.wrap (dI (cT (y.get ((8*j+i)/51)) (((8*j+i)%51:Nat):Int)) 1)) (i:Int))) 0
def word(b:dk)(j:Nat):Int:=(List.range 8).foldl (fun acc i=>bf .u64 acc (shl .u64 (gr (b.get (8*j+i))) (8*i:Nat))) 0
def j6(b:dk):Fe:=
 (dI (word b 0) xS,dI (bf .u64 (cT (word b 0) 51) (shl .u64 (word b 1) 13)) xS,dI (bf .u64 (cT (word b 1) 38) (shl .u64 (word b 2) 26)) xS,
  dI (bf .u64 (cT (word b 2) 25) (shl .u64 (word b 3) 39)) xS,dI (cT (word b 3) 12) xS,())
def Vec.zE{α:Type}(f:α→α): {n:Nat}→Nat→Vec α n→Vec α n
 |0,_,_=>()
 |_+1,0,v=>(f v.1,v.2)
 |_+1,i+1,v=>(v.1,Vec.zE f i v.2)
def xT(b:dk):dk:=Vec.zE (fun x=>dR .u8 x 128) 31 b
def cH(x y:Int):Int×Int:=
 let x0:=dI x 4294967295
 let x1:=cT x 32
 let y0:=dI y 4294967295
 let y1:=cT y 32
 let t:=gr (gr (x1*y0)+cT (gr (x0*y0)) 32)
 let w1:=gr (dI t 4294967295+gr (x0*y1))
 (gr (gr (gr (x1*y1)+cT t 32)+cT w1 32),gr (x*y))
noncomputable section
variable (m64:Int→Int→Int×Int) (a64:Int→Int→Int→Int×Int)
def lD(x y:Fe):List (Nat×Nat)→List (Int×Int)→List (Int×Int)×List Prop
 | [],r=>(r,[])
 |(i,j)::l,r=>
  let a:=if i+j<5 then x.get i else gr (x.get i*19)
  let p:=r.getD ((i+j)%5) (0,0)
  let m:=m64 a (y.get j)
  let s:=a64 p.2 m.2 0
  let t:=a64 p.1 m.1 s.2
  let z:=lD x y l (r.set ((i+j)%5) (t.1,s.1))
  (z.1,(0≤s.2∧s.2≤1)::z.2)
def qT:List (Nat×Nat):= [(0,0),(0,1),(0,2),(0,3),(0,4),(1,0),(1,1),(1,2),(1,3),(1,4),(2,0),(2,1),(2,2),(2,3),(2,4),(3,0),(3,1),(3,2),(3,3),(3,4),(4,0),(4,1),(4,2),(4,3),(4,4)]
def xU(x y:Fe):List Prop:=(lD m64 a64 x y qT [(0,0),(0,0),(0,0),(0,0),(0,0)]).2
def I7(carry:Fe→Fe)(x y:Fe):Fe:=
 let r:=(lD m64 a64 x y qT [(0,0),(0,0),(0,0),(0,0),(0,0)]).1
 let lo (i:Nat):=dI (r.getD i (0,0)).2 xS
 let c (i:Nat):=bf .u64 (shl .u64 (r.getD i (0,0)).1 13) (cT (r.getD i (0,0)).2 51)
 carry (gr (gr (0+lo 0)+gr (c 4*19)),gr (gr (0+c 0)+lo 1),gr (gr (0+c 1)+lo 2),gr (gr (0+c 2)+lo 3),gr (gr (0+c 3)+lo 4),())
end
end Go.Proofs.YtmhcoaflmgajhaaGreat
namespace Go.Proofs.YtmhcoaflmgajhaaGreat
open Go Go.Ev Go.Proofs.Tryz
open Go.IntKind (i64 signed u32 u64 wrap wrap_u32)
set_option maxRecDepth 1000000
def qU(lo hi:Int):dk:=Vec.ofFn 32 fun j=>if j=0 then lo else if j=31 then hi else 255
def gw(b:Bool): {n:Nat}→Vec Int n→Vec Int n→Vec Int n
 |0,_,_=>()
 |_+1,v,u=>(bif b then v.1 else u.1,gw b v.2 u.2)
theorem eh: {n:Nat}→(b:Bool)→(v u:Vec Int n)→gw b v u=bif b then v else u
 |0,b,v,u=>by cases b<;>rfl
 |n+1,b,v,u=>by
  show((bif b then v.1 else u.1),gw b v.2 u.2)=_;rw[eh b v.2 u.2]
  cases b<;>rfl
def I8(e:dk)(i:Nat):Bool:=bl .u8 (shr .u8 (e.get (i/8)) ((i%8:Nat):Int)) 1==1
noncomputable section
variable (small:Int→Fe) (j7:Fe→Fe) (mul:Fe→Fe→Fe)
def gH(x:Fe)(e:dk)(k:Nat)(r:Fe):Fe:=gw (I8 e (255-k)) (mul (j7 r) x) (j7 r)
def Zs(x:Fe)(e:dk):Fe:=nZ (gH j7 mul x e) 256 (small 1)
end
noncomputable section
variable (pow:Fe→dk→Fe) (exp:Int→Int→dk) (mul:Fe→Fe→Fe) (j7 neg:Fe→Fe) (small:Int→Fe) (equal:Fe→Fe→Bool) (xV isZero:Fe→Bool) (invert:Fe→Fe)
def uK(x:Fe):Fe×Bool:=
 let r:=pow x (exp 254 15)
 let r1:=gw (!(equal (j7 r) x)) (mul r (pow (small 2) (exp 251 31))) r
 let bad:= !(equal (j7 r1) (gw (!(equal (j7 r) x)) x x))
 (gw bad cN (gw (xV r1) (neg r1) r1),bif bad then false else true)
end
end Go.Proofs.YtmhcoaflmgajhaaGreat
namespace Go.Proofs.YtmhcoaflmgajhaaGreat
open Go Go.Ev Go.Proofs.Tryz
open Go.IntKind (i64 signed u32 u64 wrap wrap_u32)
set_option maxRecDepth 1000000
abbrev Pt:=Bool×Fe×Fe×Fe×Fe
def xW(b:Bool)(p q:Pt):Pt:=(bif b then p.1 else q.1,gw b p.2.1 q.2.1,gw b p.2.2.1 q.2.2.1,gw b p.2.2.2.1 q.2.2.2.1,gw b p.2.2.2.2 q.2.2.2.2)
theorem qV(b:Bool)(p q:Pt):xW b p q=bif b then p else q:=by
 unfold xW;rw[eh,eh,eh,eh];cases b<;>rfl
noncomputable section
variable (mul add sub:Fe→Fe→Fe) (j7 neg invert:Fe→Fe) (small:Int→Fe) (isZero xV:Fe→Bool) (sqrt:Fe→Fe×Bool) (ratio:Fe→Fe→Fe×Bool) (n4:dk→Fe) (bytes:Fe→dk)
 (sT:dk→Bool) (equal:Fe→Fe→Bool) (UC:Fe) (zero:Pt) (own:Pt→Pt) (UD:Fe→Fe→Pt) (root:Fe→Fe×Bool) (place:Pt→Fe×Fe) (C6:Fe→Fe→Fe→Fe→Pt) (Fo:Pt→Pt→Pt)
def n5:dk:=(0xa3,0x78,0x59,0x13,0xca,0x4d,0xeb,0x75,0xab,0xd8,0x41,0x41,0x4d,0x0a,0x70,0x00,0x98,0xe8,0x79,0x77,0x79,0x40,0xc7,0x8c,0x73,0xfe,0x6f,0x2b,0xee,0x6c,0x03,0x52,())
def I9(x y:Fe):Pt:=(true,x,y,small 1,mul x y)
def Ry(p:Pt):Pt:=xW (!p.1) zero p
def dC:Pt:=(false,cN,cN,cN,cN)
def uL(b:dk):Bool:=bl .u8 (b.get 31) 128!=0
def qW(b:dk):Pt×Bool:=
 let y:=n4 b
 let x:=(root y).1
 let ok:=(root y).2
 let b1:=(!ok)==false
 let b2:=(!(sT b))==false
 let b3:=uL b==true
 let j (v:Fe):Fe:=gw b1 (gw b2 (gw b3 v v) v) v
 let jb (v:Bool):Bool:=bif b1 then(bif b2 then(bif b3 then v else v)else v)else v
 let bad:=bif b1 then(bif b2 then(bif b3 then isZero x else false)else true)else true
 let o:=jb (uL b)
 (xW bad dC (UD (gw o (neg (j x)) (j x)) (gw o (j y) (j y))),bif bad then false else true)
def Oo(p:Pt):Fe×Fe:=(mul (own p).2.1 (invert (own p).2.2.2.1),mul (own p).2.2.1 (invert (own p).2.2.2.1))
def xX(p:Pt):dk:=
 let b:=bytes (place p).2
 gw (xV (place p).1) (Vec.zE (fun x=>bf .u8 x 128) 31 b) b
def Oq(e f g h:Fe):Pt:=(true,mul e f,mul g h,mul f g,mul e h)
def addFn(p0 q0:Pt):Pt:=
 let p:=own p0
 let q:=own q0
 let a:=mul (sub p.2.2.1 p.2.1) (sub q.2.2.1 q.2.1)
 let b:=mul (add p.2.2.1 p.2.1) (add q.2.2.1 q.2.1)
 let c:=mul (mul p.2.2.2.2 q.2.2.2.2) UC
 let c:=add c c
 let d:=mul p.2.2.2.1 q.2.2.2.1
 let d:=add d d
 C6 (sub b a) (sub d c) (add d c) (add b a)
def negFn(p:Pt):Pt:=((own p).1,neg (own p).2.1,(own p).2.2.1,(own p).2.2.2.1,neg (own p).2.2.2.2)
end
end Go.Proofs.YtmhcoaflmgajhaaGreat
namespace Go.Ev
open Go
open Go.IntKind (i64 signed u32 u64 wrap wrap_u32)
end Go.Ev
namespace Go.Proofs.YtmhcoaflmgajhaaGreat
open Go Go.Ev Go.Proofs.Tryz
open Go.IntKind (i64 signed u32 u64 wrap wrap_u32)
set_option maxRecDepth 1000000
def qX(b:dk)(k:Nat):Int:=i64.wrap (bl .u8 (shr .u8 (b.get (k/8)) ((k%8:Nat):Int)) 1)
noncomputable section
variable (bit:dk→Nat→Int) (zero base:Pt) (double:Pt→Pt) (Fo:Pt→Pt→Pt)
end
end Go.Proofs.YtmhcoaflmgajhaaGreat
namespace Go.Proofs.YtmhcoaflmgajhaaGreat
open Go Go.Ev Go.Proofs.Tryz
open Go.IntKind (i64 signed u32 u64 wrap wrap_u32)
set_option maxRecDepth 1000000
def w(n:Int):Int:=i64.wrap n
noncomputable section
variable (ag6:Fn) (below:Fn→Fn→Bool) (norm:Fn→Fn)
end
end Go.Proofs.YtmhcoaflmgajhaaGreat
namespace Go.Proofs.YtmhcoaflmgajhaaGreat
open Go Go.Ev Go.Proofs.Tryz
open Go.IntKind (i64 signed u32 u64 wrap wrap_u32)
set_option maxRecDepth 1000000
abbrev Pn:=Fn×Fn×Fn×Fn
noncomputable section
variable (bit:dk→Nat→Int) (small:Int→Fn) (mul add sub:Fn→Fn→Fn) (neg invert:Fn→Fn) (xV:Fn→Bool) (pow:Fn→dk→Fn) (sqrt:Fn→Fn×Bool) (ratio:Fn→Fn→Fn×Bool) (UC:Fn)
 (n4:dk→Fn) (bytes:Fn→dk) (sT:dk→Bool) (zero:Pn) (ofp:Fn→Fn→Pn) (xOf:Fn→Fn×Bool) (Zt:Pn→Pn→Fn→Pn)
end
end Go.Proofs.YtmhcoaflmgajhaaGreat
namespace BJ
end BJ
namespace Go.Proofs.YtmhcoaflmgajhaaGreat
open Go Go.Ev BJ Go.Proofs.Tryz
open Go.IntKind (i64 signed u32 u64 wrap wrap_u32)
def U64(n:Int):Prop:=0≤n∧n<18446744073709551616
end Go.Proofs.YtmhcoaflmgajhaaGreat
namespace Go.Proofs.YtmhcoaflmgajhaaGreat
open Go Go.Ev BJ Go.Proofs.Tryz
open Go.IntKind (i64 signed u32 u64 wrap wrap_u32)
theorem sU{x y c:Int}(hx:0≤x)(hy:0≤y)(hc:0≤c):cr x y c=((x+y+c)%18446744073709551616,(x+y+c)/18446744073709551616):=by
 obtain⟨a,rfl⟩:=Int.eq_ofNat_of_zero_le hx;obtain⟨b,rfl⟩:=Int.eq_ofNat_of_zero_le hy;obtain⟨d,rfl⟩:=Int.eq_ofNat_of_zero_le hc;simp only[cr,Int.toNat_natCast];refine Prod.ext ?_ ?_
 ·show(((a+b+d)%2 ^ 64:Nat):Int)=_;omega
 ·show(((a+b+d)/2 ^ 64:Nat):Int)=_;omega
def n6(x:Fe)(i j:Nat):Int:=if i+j<5 then x.get i else gr (x.get i*19)
end Go.Proofs.YtmhcoaflmgajhaaGreat
namespace Go.Proofs.YtmhcoaflmgajhaaGreat
open Go Go.Ev BJ Go.Proofs.Tryz
open Go.IntKind (i64 signed u32 u64 wrap wrap_u32)
end Go.Proofs.YtmhcoaflmgajhaaGreat
namespace Go.Proofs.YtmhcoaflmgajhaaGreat
open Go Go.Ev BJ Go.Proofs.Tryz
open Go.IntKind (i64 signed u32 u64 wrap wrap_u32)
def dN(x:Fe):dk:=UB (C5 gG x)
end Go.Proofs.YtmhcoaflmgajhaaGreat
end
