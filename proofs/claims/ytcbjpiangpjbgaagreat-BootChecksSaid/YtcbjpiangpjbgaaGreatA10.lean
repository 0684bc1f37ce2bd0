/- What the laws lean on, part 10: a reader of code, plain facts, and what each function gives; no conditions. -/
import Derived.Test.YtcbjpiangpjbgaaGreatA9
set_option linter.unusedVariables false
set_option linter.unusedSimpArgs false
noncomputable section
namespace Go.Proofs.YtcbjpiangpjbgaaGreat
open Go Go.Ev Go.Proofs.Tryz
open Go.IntKind (i64 signed u32 u64 wrap wrap_u32)
set_option maxRecDepth 100000
def fC:List Int:= [4794697086780616226,8158064640168781261,13096744586834688815,16840607885511220156,4131703408338449720,6480981068601479193,10538285296894168987,12329834152419229976,15566598209576043074,1334009975649890238,2608012711638119052,6128411473006802146,8268148722764581231,9286055187155687089,11230858885718282805,13951009754708518548,16472876342353939154,17275323862435702243,1135362057144423861,2597628984639134821,3308224258029322869,5365058923640841347,6679025012923562964,8573033837759648693,10970295158949994411,12119686244451234320,12683024718118986047,13788192230050041572,14330467153632333762,15395433587784984357,489312712824947311,1452737877330783856,2861767655752347644,3322285676063803686,5560940570517711597,5996557281743188959,7280758554555802590,8532644243296465576,9350256976987008742,10552545826968843579,11727347734174303076,12113106623233404929,14000437183269869457,14369950271660146224,15101387698204529176,15463397548674623760,17586052441742319658,1182934255886127544,1847814050463011016,2177327727835720531,2830643537854262169,3796741975233480872,4115178125766777443,5681478168544905931,6601373596472566643,7507060721942968483,8399075790359081724,8693463985226723168,9568029438360202098,10144078919501101548,10430055236837252648,11840083180663258601,13761210420658862357,14299343276471374635,14566680578165727644,15097957966210449927,16922976911328602910,17689382322260857208,500013540394364858,748580250866718886,1242879168328830382,1977374033974150939,2944078676154940804,3659926193048069267,4368137639120453308,4836135668995329356,5532061633213252278,6448918945643986474,6902733635092675308,7801388544844847127]
def jA:List Int:= [7640891576956012808,13503953896175478587,4354685564936845355,11912009170470909681,5840696475078001361,11170449401992604703,2270897969802886507,6620516959819538809]
def aeU:ao:=ao.cH [] ae ae fun _ _=>.leaf none (dQ .u64 8 jA) []
def S1:ao:=ao.cH [] ae ae fun _ _=>.leaf none (dQ .u64 80 fC) []
theorem NV:aN Tryz.prog [] [] f44 (ae.wr ()) (ae.wr ()) [.fr [.sym],.fQ 0 0 8 .u64,.auto]= .leaf (dQ .u64 8 jA) []:=by kernel_rfl
theorem I2:aN Tryz.prog [] [] f105 (ae.wr ()) (ae.wr ()) [.fr [.sym],.auto]= .leaf (dQ .u64 80 fC) []:=by kernel_rfl
theorem aeV:aeU.Ok Tryz.prog 44:=by
 refine(ao.ba call44 fun x_ y_ Q h=>?_).sym;refine(au mixed aw func44 rfl (LT:= []) (ks:= [.fr [.sym],.fQ 0 0 8 .u64,.auto]) (aJ.nil _)).use (D:= []) ?_ h.2;show(aN _ _ _ _ (ae.wr ()) (ae.wr ()) _).sat _;rw[NV];exact⟨rfl,rfl⟩
theorem WH:S1.Ok Tryz.prog 105:=by
 refine(ao.ba call105 fun x_ y_ Q h=>?_).sym;refine(au mixed aw func105 rfl (LT:= []) (ks:= [.fr [.sym],.auto]) (aJ.nil _)).use (D:= []) ?_ h.2;show(aN _ _ _ _ (ae.wr ()) (ae.wr ()) _).sat _;rw[I2];exact⟨rfl,rfl⟩
def I3(b:List Int)(k:Nat)(m:List Int):List Int:=m.set (k/8) (bq .u64 (shl .u64 (m.getD (k/8) 0) 8) (u64.wrap (b.getD k 0)))
def iI(b:List Int):List Int:=upto (I3 b) 0 128 (List.replicate 16 0)
theorem tr(b:List Int)(k:Nat)(m:List Int):(I3 b k m).length=m.length:=by simp[I3]
abbrev aCh:Func:=f77
abbrev woC:aY (List LV) (List Int×Int×Int×Unit):=(jk 2 (aq (ah (aU 0 0)) (jk 1 (aq (ah (aU 1 0)) (jk 6 (ag (ah (fR false false u8)) (ag (ah (aC .i64)) (ag (ah (aC .i64)) (jk 17 ae)))))))))
abbrev aCj:Wk:=.fr (cC 31 [(2,.al),(4,.al),(11,.al),(12,.sym),(13,.sym)])
abbrev woX:aY (List LV) (Unit):=(jk 2 (aq (ah (aU 0 0)) (jk 1 (aq (ah (aU 1 0)) (jk 26 ae)))))
abbrev aHj:Wk:=.fr (cC 31 [(2,.al),(4,.al)])
abbrev Mc:aY Hp (List Int×List Int×Unit):=ag (gJ 137 .u64 16) (ag (gJ 137 .u64 16) ae)
def woW:Exit→List Wk
 | .normal=> [aCj,.db 0 0 16 .u64,.db 1 0 16 .u64,.auto]
 | .exit 0=> [aHj,.auto]
 |_=> []
theorem aw7(b:List Int)(n i:Int)(r m:List Int):cY Tryz.prog [] [] aCh 0 [] woW ((bg woC Mc).wr ((b,n,i,()),(r,m,())))=
 aW.ite (decide (i<n)) (aW.need ((0:Int)≤i∧i<(↑b.length:Int)) (aW.need ((0:Int)≤i64.wrap (i.tdiv (8:Int))∧
 i64.wrap (i.tdiv (8:Int))<(16:Int)) (aW.need ((0:Int)≤i64.wrap (i.tdiv (8:Int))∧i64.wrap (i.tdiv (8:Int))<
 (16:Int)) (aW.leaf Exit.normal ((bg woC Mc).wr ((b,n,i64.wrap (i+(1:Int)),PUnit.unit),r,m.set ((0:Nat)+(i64.wrap
 (i.tdiv (8:Int))).toNat) (bq u64 (shl u64 ((List.take (16:Nat) (List.drop (0:Nat) m)).getD (i64.wrap (i.tdiv (8:
 Int))).toNat (0:Int)) (8:Int)) (u64.wrap (b.getD i.toNat (0:Int)))),PUnit.unit)))))) (aW.leaf (Exit.exit (0:Nat)) ((bg woX Mc).wr
 (PUnit.unit,r,m,PUnit.unit))):=by kernel_rfl
def woF(x:(List Int×Int×Int×Unit)×List Int×List Int×Unit):aW:=
 .need (x.1.1.length=128∧x.1.2.1=128∧x.1.2.2.1=0∧x.2.2.1=List.replicate 16 0) (.leaf (.exit 0) ((bg woX Mc).wr ((),(x.2.1,iI x.1.1,()))))
theorem anV(x):Ex Tryz.prog [] (.loop (a9 aCh 0)) ((bg woC Mc).wr x) (woF x):=by
 obtain⟨⟨b,n,i,_⟩,r,m,_⟩:=x;refine Ex.need fun⟨h1,h2,h3,h4⟩=>?_;simp only at h1 h2 h3 h4;subst h2 h3 h4
 refine dP (ws:=woW) (hp:= []) mixed aw (aJ.nil _) 128 (fun k m=>(bg woC Mc).wr ((b,128,(k:Int),()),(r,m,()))) (fun m=>(bg woX Mc).wr ((),(r,m,()))) (I3 b) (fun _ m=>m.length=16)
  (fun k m R hk hm hn hx=>?_) (fun k m _ hm=>by rw[tr];exact hm) 0 (List.replicate 16 0) (by omega) (by simp)
 rw[aw7];refine⟨fun hb=>?_,fun hb=>?_⟩
 ·have dU:k<128:=by have:=of_decide_eq_true hb;omega
  have e:i64.wrap ((k:Int).tdiv 8)=((k/8:Nat):Int):=fS k 8 (by omega);rw[e,bI hm,cS k (by omega)];simp only[Int.toNat_natCast,Nat.zero_add];exact⟨by omega,by omega,by omega,hn dU⟩
 ·have:k=128:=by have:=of_decide_eq_false hb;omega
  exact hx this
abbrev aCk:dL:= [(0,dx (bg woC Mc) 0 [aCj,.db 0 0 16 .u64,.db 1 0 16 .u64,.auto] woF)]
def aeW:ao:=ao.cH [some u8] (bA) (ae) fun x_ y_=>(fun(b:List Int)=>.leaf (some (b.length=128)) (.cG [.agg [.arr (.int .u64) 16 (iI b)],.sc (.bool (.sym true))]) []) x_.1
theorem NW(b:List Int):aN Tryz.prog [] aCk f77 ((bA).wr (b,())) ((ae).wr ()) [.fr [.sym],.fQ 0 0 16 .u64,.auto]=
 End.ite ((↑b.length:Int)!=(128:Int)) (End.leaf (LV.cG [VV.agg [SV.arr (Ty.int u64) (16:Nat) [(0:Int),(0:Int),(0:Int),(0:
 Int),(0:Int),(0:Int),(0:Int),(0:Int),(0:Int),(0:Int),(0:Int),(0:Int),(0:Int),(0:Int),(0:Int),(0:Int)]],VV.sc
 (SV.bool (SB.sym false))]) []) (End.need (b.length=(128:Nat)∧(↑b.length:Int)=(128:Int)∧(0:Int)=(0:Int)∧ [(0:Int),(0:Int),(0
 :Int),(0:Int),(0:Int),(0:Int),(0:Int),(0:Int),(0:Int),(0:Int),(0:Int),(0:Int),(0:Int),(0:Int),(0:Int),(0:Int)]
 =List.replicate (16:Nat) (0:Int)) (End.leaf (LV.cG [VV.agg [SV.arr (Ty.int u64) (16:Nat) (iI b)],VV.sc (SV.bool (SB.sym true))])
 [])):=by kernel_rfl
theorem aeX:aeW.Ok Tryz.prog 77:=by
 refine(ao.ba call77 fun x_ y_ Q H_=>?_).sym;obtain⟨b,_⟩:=x_;obtain⟨hn,hq⟩:=H_;have hn:b.length=128:=hn;refine(au mixed aw func77 rfl (LT:=aCk) (ks:= [.fr [.sym],.fQ 0 0 16 .u64,.auto]) (aJ.bW (jc rfl (bQ (hp:= []) anV) jh))).use (D:= []) ?_ hq;show(aN _ _ _ _ ((bA).wr (b,())) ((ae).wr ()) _).sat _;rw[NW];refine⟨fun h=>?_,fun h=>⟨⟨hn,by omega,rfl,rfl⟩,rfl,rfl⟩⟩;simp[hn]at h
def EF(t:Nat)(w:List Int):List Int:=w.set t (u64.wrap (u64.wrap (u64.wrap (zS (w.getD (t-2) 0) 19 61 6+w.getD (t-7) 0)+zS (w.getD (t-15) 0) 1 8 7)+w.getD (t-16) 0))
def dC(m:List Int):List Int:=upto EF 16 64 (m++List.replicate 64 0)
abbrev aCl:Func:=f106
abbrev scA:aY (List LV) (List Int×Unit):=ag (te .u64 16) ae
abbrev scC:aY (List LV) (Int×Unit):=(jk 2 (aq (ah (aU 0 0)) (aq (ah (aU 1 0)) (ag (ah (aC .i64)) (jk 31 ae)))))
abbrev aCn:Wk:=.fr (cC 36 [(2,.al),(3,.al),(4,.sym)])
abbrev scX:aY (List LV) (Unit):=(jk 2 (aq (ah (aU 0 0)) (aq (ah (aU 1 0)) (jk 32 ae))))
abbrev aHl:Wk:=.fr (cC 36 [(2,.al),(3,.al)])
abbrev scH:aY Hp (List Int×List Int×Unit):=ag (gJ 173 .u64 80) (ag (gJ 173 .u64 80) ae)
abbrev aeZ:List (FuncId×ao):= [(155,aeQ)]
theorem I4:∀p∈aeZ,p.2.Ok Tryz.prog p.1:=aj aeR aw
def scW:Exit→List Wk
 | .normal=> [aCn,.auto]
 | .exit 0=> [aHl,.auto]
 |_=> []
theorem aw8(t:Int)(r w:List Int):cY Tryz.prog aeZ [] aCl 0 [] scW ((bg scC scH).wr ((t,()),(r,w,())))=
 aW.ite (decide (t<(80:Int))) (aW.need ((0:Int)≤i64.wrap (t-(2:Int))∧i64.wrap (t-(2:Int))<(80:Int)) (aW.need
 ((0:Int)<(19:Int)∧(19:Int)<(64:Int)∧(0:Int)<(61:Int)∧(61:Int)<(64:Int)∧(0:Int)≤(6:Int)) (aW.need ((0:Int)≤
 i64.wrap (t-(7:Int))∧i64.wrap (t-(7:Int))<(80:Int)) (aW.need ((0:Int)≤i64.wrap (t-(15:Int))∧
 i64.wrap (t-(15:Int))<(80:Int)) (aW.need ((0:Int)<(1:Int)∧(1:Int)<(64:Int)∧(0:Int)<(8:Int)∧(8:Int)<(64:
 Int)∧(0:Int)≤(7:Int)) (aW.need ((0:Int)≤i64.wrap (t-(16:Int))∧i64.wrap (t-(16:Int))<(80:Int)) (aW.need ((0
 :Int)≤t∧t<(80:Int)) (aW.leaf Exit.normal ((bg scC scH).wr ((i64.wrap (t+(1:Int)),PUnit.unit),r,w.set ((0:Nat)+t.toNat)
 (u64.wrap (u64.wrap (u64.wrap (zS ((List.take (80:Nat) (List.drop (0:Nat) w)).getD (i64.wrap (t-(2:
 Int))).toNat (0:Int)) (19:Int) (61:Int) (6:Int)+(List.take (80:Nat) (List.drop (0:Nat) w)).getD (i64.wrap (t-(7:Int))).toNat
 (0:Int))+zS ((List.take (80:Nat) (List.drop (0:Nat) w)).getD (i64.wrap (t-(15:Int))).toNat (0:Int)) (1:Int) (8:Int) (7:
 Int))+(List.take (80:Nat) (List.drop (0:Nat) w)).getD (i64.wrap (t-(16:Int))).toNat (0:Int))),PUnit.unit)))))))))) (aW.leaf
 (Exit.exit (0:Nat)) ((bg scX scH).wr (PUnit.unit,r,w,PUnit.unit))):=by kernel_rfl
def scF(x:(Int×Unit)×List Int×List Int×Unit):aW:=
 .need (x.1.1=16∧x.2.2.1.length=80) (.leaf (.exit 0) ((bg scX scH).wr ((),(x.2.1,upto EF 16 64 x.2.2.1,()))))
theorem xa(t:Nat)(w:List Int):(EF t w).length=w.length:=by simp[EF]
theorem anY(x):Ex Tryz.prog [] (.loop (a9 aCl 0)) ((bg scC scH).wr x) (scF x):=by
 obtain⟨⟨i,_⟩,r,w,_⟩:=x;refine Ex.need fun⟨h1,h2⟩=>?_;simp only at h1 h2;subst h1
 refine dP (ws:=scW) (hp:= []) mixed I4 (aJ.nil _) 80 (fun k w=>(bg scC scH).wr (((k:Int),()),(r,w,()))) (fun w=>(bg scX scH).wr ((),(r,w,()))) EF (fun k w=>16≤k∧w.length=80)
  (fun k w R hk hm hn hx=>?_) (fun k m _ hm=>⟨by omega,by rw[xa];exact hm.2⟩) 16 w (by omega) ⟨by omega,h2⟩
 obtain⟨G5,hm⟩:=hm;rw[aw8];refine⟨fun hb=>?_,fun hb=>?_⟩
 ·have dU:k<80:=by have:=of_decide_eq_true hb;omega
  have e2:i64.wrap ((k:Int)-2)=((k-2:Nat):Int):=jY k 2 (by omega) (by omega);have e7:i64.wrap ((k:Int)-7)=((k-7:Nat):Int):=jY k 7 (by omega) (by omega);have e15:i64.wrap ((k:Int)-15)=((k-15:Nat):Int):=jY k 15 (by omega) (by omega);have e16:i64.wrap ((k:Int)-16)=((k-16:Nat):Int):=jY k 16 (by omega) (by omega);rw[e2,e7,e15,e16,bI hm,cS k (by omega)];simp only[Int.toNat_natCast,Nat.zero_add];exact⟨by omega,by decide,by omega,by omega,by decide,by omega,by omega,hn dU⟩
 ·have:k=80:=by have:=of_decide_eq_false hb;omega
  exact hx this
abbrev aCo:dL:= [(0,dx (bg scC scH) 0 [aCn,.auto] scF)]
def ae0:ao:=ao.cH [] (scA) (ae) fun x_ y_=>(fun(m:List Int)=>.leaf (some (m.length=16)) (dQ .u64 80 (dC m)) []) x_.1
theorem NX(m:List Int):aN Tryz.prog aeZ aCo f106 ((scA).wr (m,())) ((ae).wr ()) [.fr [.sym],.auto]=
 End.need ((0:Int)≤(0:Int)∧(0:Int)≤(80:Int)∧(80:Int)≤(80:Int)) (End.need ((0:Int)≤(0:Int)∧(0:Int)≤(16:Int)∧(16:
 Int)≤(16:Int)) (End.need ((16:Int)=(16:Int)∧(List.take (0:Nat) (List.replicate (80:Nat) (0:Int))++(List.take (80:Nat) (List.take
 (16:Nat) (List.drop (0:Nat) m))++List.drop ((0:Nat)+if(80:Nat)≤(List.take (16:Nat) (List.drop (0:Nat) m)).length then(80:Nat)
 else(List.take (16:Nat) (List.drop (0:Nat) m)).length) (List.replicate (80:Nat) (0:Int)))).length=(80:Nat)) (End.leaf (LV.one (VV.agg
 [SV.arr (Ty.int u64) (80:Nat) (upto EF (16:Nat) (64:Nat) (List.take (0:Nat) (List.replicate (80:Nat) (0:Int))++(List.take (80:
 Nat) (List.take (16:Nat) (List.drop (0:Nat) m))++List.drop ((0:Nat)+if(80:Nat)≤(List.take (16:Nat) (List.drop (0:Nat) m)).length
 then(80:Nat)else(List.take (16:Nat) (List.drop (0:Nat) m)).length) (List.replicate (80:Nat) (0:Int)))))])) []))):=by kernel_rfl
theorem ae1:ae0.Ok Tryz.prog 106:=by
 refine(ao.ba call106 fun x_ y_ Q H_=>?_).sym;obtain⟨m,_⟩:=x_;obtain⟨hn,hq⟩:=H_;have hn:m.length=16:=hn;refine(au mixed I4 func106 rfl (LT:=aCo) (ks:= [.fr [.sym],.auto]) (aJ.bW (jc rfl (bQ (hp:= []) anY) jh))).use (D:= []) ?_ hq;show(aN _ _ _ _ ((scA).wr (m,())) ((ae).wr ()) _).sat _;rw[NX]
 have e:List.take 0 (List.replicate 80 (0:Int))++(List.take 80 (List.take 16 (List.drop 0 m))++List.drop (0+if 80≤(List.take 16 (List.drop 0 m)).length then 80 else(List.take 16 (List.drop 0 m)).length) (List.replicate 80 0))=m++List.replicate 64 0:=by
  rw[bI hn,hn];simp[List.take_of_length_le (show m.length≤80 by omega)]
 rw[e];refine⟨by omega,by omega,⟨rfl,by simp[hn]⟩,rfl,rfl⟩
def aCp(w:List Int)(t:Nat)(x:List Int):Int:=
 u64.wrap (u64.wrap (u64.wrap (u64.wrap (x.getD 7 0+vM (x.getD 4 0) 14 18 41)+chF (x.getD 4 0) (x.getD 5 0) (x.getD 6 0))+fC.getD t 0)+w.getD t 0)
def aHm(x:List Int):Int:=u64.wrap (vM (x.getD 0 0) 28 34 39+aeO (x.getD 0 0) (x.getD 1 0) (x.getD 2 0))
def aw9(w:List Int)(t:Nat)(x:List Int):List Int:=
 [u64.wrap (aCp w t x+aHm x),x.getD 0 0,x.getD 1 0,x.getD 2 0,u64.wrap (x.getD 3 0+aCp w t x),x.getD 4 0,x.getD 5 0,x.getD 6 0]
def aHn(x s:List Int):List Int:=(List.range 8).map fun i=>u64.wrap (x.getD i 0+s.getD i 0)
def nD(w x:List Int):List Int:=upto (aw9 w) 0 80 x
def o4(s m:List Int):List Int:=aHn (nD (dC m) s) s
theorem tv{m:List Int}(h:m.length=16):(dC m).length=80:=by
 unfold dC;exact td (f:=EF) (n:=80) (fun(_:Nat) (w:List Int)=>w.length=80) (fun t w _ h=>by rw[xa];exact h) 64 16 (m++List.replicate 64 0) (by omega) (by simp[h])
abbrev aCq:Func:=f78
abbrev spC:aY (List LV) (Int×Unit):=(jk 2 (aq (ah (aU 0 0)) (jk 1 (aq (ah (aU 1 0)) (aq (ah (aU 2 0)) (aq (ah (aU 3 0)) (aq (ah (aU 4 0)) (jk 8 (ag (ah (aC .i64)) (jk 69 ae))))))))))
abbrev aCs:Wk:=.fr (cC 86 [(2,.al),(4,.al),(5,.al),(6,.al),(7,.al),(16,.sym)])
abbrev spX:aY (List LV) (Unit):=(jk 2 (aq (ah (aU 0 0)) (jk 1 (aq (ah (aU 1 0)) (jk 2 (aq (ah (aU 2 0)) (jk 78 ae)))))))
abbrev aHp:Wk:=.fr (cC 86 [(2,.al),(4,.al),(7,.al)])
abbrev WI:aY Hp (List Int×List Int×List Int×Unit):=ag (gJ 73 .u64 8) (ag (aaU 73 .u64 8) (ag (aaU 73 .u64 8) ae))
abbrev spH:aY Hp (List Int×List Int×List Int×List Int×List Int×Unit):=ag (gJ 73 .u64 8) (ag (gJ 73 .u64 8) (ag (gJ 173 .u64 80) (ag (gJ 173 .u64 80) (ag (gJ 73 .u64 8) ae))))
abbrev ae2:List (FuncId×ao):= [(105,S1),(106,ae0),(107,aeS),(108,chE),(109,aCg)]
theorem I5:∀p∈ae2,p.2.Ok Tryz.prog p.1:=aj WH (aj ae1 (aj aeT (aj aCf (aj aw6 aw))))
def spW:Exit→List Wk
 | .normal=> [aCs,.db 4 0 8 .u64,.auto]
 | .exit 0=> [aHp,.auto,.BN 1,.BN 2]
 |_=> []
theorem axa(t:Int)(s r k w x:List Int):cY Tryz.prog ae2 [] aCq 0 [] spW ((bg spC spH).wr ((t,()),(s,r,k,w,x,())))=
 aW.ite (decide (t<(80:Int))) (aW.need ((0:Int)<(14:Int)∧(14:Int)<(64:Int)∧(0:Int)<(18:Int)∧(18:Int)<(64:Int)∧(0:
 Int)<(41:Int)∧(41:Int)<(64:Int)) (aW.need ((0:Int)≤t∧t<(80:Int)) (aW.need ((0:Int)≤t∧t<(80:Int)) (aW.need ((0:Int)
 <(28:Int)∧(28:Int)<(64:Int)∧(0:Int)<(34:Int)∧(34:Int)<(64:Int)∧(0:Int)<(39:Int)∧(39:Int)<(64:Int)) (aW.leaf
 Exit.normal ((bg spC spH).wr ((i64.wrap (t+(1:Int)),PUnit.unit),s,r,k,w,[u64.wrap (u64.wrap (u64.wrap
 (u64.wrap (u64.wrap (x.getD (7:Nat) (0:Int)+vM (x.getD (4:Nat) (0:Int)) (14:Int) (18:Int) (41:Int))+chF (x.getD
 (4:Nat) (0:Int)) (x.getD (5:Nat) (0:Int)) (x.getD (6:Nat) (0:Int)))+(List.take (80:Nat) (List.drop (0:Nat) k)).getD t.toNat (0:
 Int))+(List.take (80:Nat) (List.drop (0:Nat) w)).getD t.toNat (0:Int))+u64.wrap (vM (x.getD (0:Nat) (0:Int)) (28:Int) (34:
 Int) (39:Int)+aeO (x.getD (0:Nat) (0:Int)) (x.getD (1:Nat) (0:Int)) (x.getD (2:Nat) (0:Int)))),x.getD (0:Nat) (0:Int),x.getD (1
 :Nat) (0:Int),x.getD (2:Nat) (0:Int),u64.wrap (x.getD (3:Nat) (0:Int)+u64.wrap (u64.wrap (u64.wrap
 (u64.wrap (x.getD (7:Nat) (0:Int)+vM (x.getD (4:Nat) (0:Int)) (14:Int) (18:Int) (41:Int))+chF (x.getD (4:Nat) (0:
 Int)) (x.getD (5:Nat) (0:Int)) (x.getD (6:Nat) (0:Int)))+(List.take (80:Nat) (List.drop (0:Nat) k)).getD t.toNat (0:Int))+(List.take
 (80:Nat) (List.drop (0:Nat) w)).getD t.toNat (0:Int))),x.getD (4:Nat) (0:Int),x.getD (5:Nat) (0:Int),x.getD (6:Nat) (0:Int)],
 PUnit.unit))))))) (aW.leaf (Exit.exit (0:Nat)) ((bg spX WI).wr (PUnit.unit,s,[r.getD (nat_lit 0) (0:Int),r.getD (nat_lit 1) (0:Int),
 r.getD (nat_lit 2) (0:Int),r.getD (nat_lit 3) (0:Int),r.getD (nat_lit 4) (0:Int),r.getD (nat_lit 5) (0:Int),r.getD (nat_lit 6) (0:Int),
 r.getD (nat_lit 7) (0:Int)],[x.getD (nat_lit 0) (0:Int),x.getD (nat_lit 1) (0:Int),x.getD (nat_lit 2) (0:Int),x.getD (nat_lit 3) (0:Int),
 x.getD (nat_lit 4) (0:Int),x.getD (nat_lit 5) (0:Int),x.getD (nat_lit 6) (0:Int),x.getD (nat_lit 7) (0:Int)],PUnit.unit))):=by kernel_rfl
def spF(x:(Int×Unit)×List Int×List Int×List Int×List Int×List Int×Unit):aW:=
 .need (x.1.1=0∧x.2.2.2.1=fC∧x.2.2.2.2.1.length=80∧x.2.2.2.2.2.1.length=8) (.leaf (.exit 0) ((bg spX WI).wr ((),(x.2.1,x.2.2.1,nD x.2.2.2.2.1 x.2.2.2.2.2.1,()))))
theorem anZ(x):Ex Tryz.prog [] (.loop (a9 aCq 0)) ((bg spC spH).wr x) (spF x):=by
 obtain⟨⟨i,_⟩,s,r,k,w,x,_⟩:=x;refine Ex.need fun⟨h1,h2,h3,h4⟩=>?_;simp only at h1 h2 h3 h4;subst h1 h2
 refine dP (ws:=spW) (hp:= []) mixed I5 (aJ.nil _) 80 (fun j x=>(bg spC spH).wr (((j:Int),()),(s,r,fC,w,x,()))) (fun x=>(bg spX WI).wr ((),(s,r,x,()))) (aw9 w) (fun _ x=>x.length=8)
  (fun j x R hk hm hn hx=>?_) (fun k m _ hm=>rfl) 0 x (by omega) h4
 rw[axa];refine⟨fun hb=>?_,fun hb=>?_⟩
 ·have dU:j<80:=by have:=of_decide_eq_true hb;omega
  rw[bI h3,bI (l:=fC) (n:=80) rfl,cS j (by omega)];simp only[Int.toNat_natCast];exact⟨by decide,by omega,by omega,by decide,hn dU⟩
 ·have:j=80:=by have:=of_decide_eq_false hb;omega
  exact hx this
abbrev aCt:dL:= [(0,dx (bg spC spH) 0 [aCs,.auto,.db 1 0 8 .u64,.db 4 0 8 .u64] spF)]
abbrev stA:aY (List LV) (List Int×List Int×Unit):=ag (te .u64 8) (ag (te .u64 16) ae)
def atr:ao:=ao.cH [] (stA) (ae) fun x_ y_=>(fun(s m:List Int)=>.leaf (some (s.length=8∧m.length=16)) (dQ .u64 8 (o4 s m)) []) x_.1 x_.2.1
theorem WJ(s m:List Int):aN Tryz.prog ae2 aCt f78 ((stA).wr (s,m,())) ((ae).wr ()) [.fr [.sym],.fQ 0 0 8 .u64,.auto]=
 End.need (m.length=(16:Nat)) (End.need ((0:Int)=(0:Int)∧fC=fC∧(dC m).length=(80:Nat)∧s.length=(8:Nat))
 (End.leaf (LV.one (VV.agg [SV.arr (Ty.int u64) (8:Nat) [u64.wrap ((nD (dC m) s).getD (nat_lit 0) (0:Int)+s.getD (0:Nat)
 (0:Int)),u64.wrap ((nD (dC m) s).getD (nat_lit 1) (0:Int)+s.getD (1:Nat) (0:Int)),u64.wrap ((nD (dC m) s).getD
 (nat_lit 2) (0:Int)+s.getD (2:Nat) (0:Int)),u64.wrap ((nD (dC m) s).getD (nat_lit 3) (0:Int)+s.getD (3:Nat) (0:Int)),
 u64.wrap ((nD (dC m) s).getD (nat_lit 4) (0:Int)+s.getD (4:Nat) (0:Int)),u64.wrap ((nD (dC m) s).getD (nat_lit 5)
 (0:Int)+s.getD (5:Nat) (0:Int)),u64.wrap ((nD (dC m) s).getD (nat_lit 6) (0:Int)+s.getD (6:Nat) (0:Int)),
 u64.wrap ((nD (dC m) s).getD (nat_lit 7) (0:Int)+s.getD (7:Nat) (0:Int))]])) [])):=by kernel_rfl
theorem an0:atr.Ok Tryz.prog 78:=by
 refine(ao.ba call78 fun x_ y_ Q H_=>?_).sym;obtain⟨s,m,_⟩:=x_;obtain⟨hn,hq⟩:=H_;have hn:s.length=8∧m.length=16:=hn;refine(au mixed I5 func78 rfl (LT:=aCt) (ks:= [.fr [.sym],.fQ 0 0 8 .u64,.auto]) (aJ.bW (jc rfl (bQ (hp:= []) anZ) jh))).use (D:= []) ?_ hq;show(aN _ _ _ _ ((stA).wr (s,m,())) ((ae).wr ()) _).sat _;rw[WJ];exact⟨hn.2,⟨rfl,rfl,tv hn.2,hn.1⟩,rfl,rfl⟩
theorem xb(s m:List Int):(o4 s m).length=8:=rfl
def S2:ao:=ao.cH [] ae ae fun _ _=>.leaf none (dQ .u64 8 jA) []
def I6:ao:=ao.cH [] ae ae fun _ _=>.leaf none (dQ .u64 80 fC) []
theorem I7:aN Tryz.prog [] [] f58 (ae.wr ()) (ae.wr ()) [.fr [.sym],.fQ 0 0 8 .u64,.auto]= .leaf (dQ .u64 8 jA) []:=by kernel_rfl
theorem EG:aN Tryz.prog [] [] f123 (ae.wr ()) (ae.wr ()) [.fr [.sym],.auto]= .leaf (dQ .u64 80 fC) []:=by kernel_rfl
theorem WK:S2.Ok Tryz.prog 58:=by
 refine(ao.ba call58 fun x_ y_ Q h=>?_).sym;refine(au mixed aw func58 rfl (LT:= []) (ks:= [.fr [.sym],.fQ 0 0 8 .u64,.auto]) (aJ.nil _)).use (D:= []) ?_ h.2;show(aN _ _ _ _ (ae.wr ()) (ae.wr ()) _).sat _;rw[I7];exact⟨rfl,rfl⟩
theorem NY:I6.Ok Tryz.prog 123:=by
 refine(ao.ba call123 fun x_ y_ Q h=>?_).sym;refine(au mixed aw func123 rfl (LT:= []) (ks:= [.fr [.sym],.auto]) (aJ.nil _)).use (D:= []) ?_ h.2;show(aN _ _ _ _ (ae.wr ()) (ae.wr ()) _).sat _;rw[EG];exact⟨rfl,rfl⟩
def NZ:ao:=ao.cH [] (uiC) (ae) fun x_ y_=>(fun(x n:Int)=>.leaf (some (0<n∧n<64)) (nU (jz x n)) []) x_.1 x_.2.1
theorem N0(x n:Int):aN Tryz.prog [] [] f124 ((uiC).wr (x,n,())) ((ae).wr ()) [.fr [.sym],.auto]=
 End.ite (u64.wrap ((i64.wrap (n.tmod (64:Int)+(64:Int))).tmod (64:Int))==(0:Int)) (End.leaf (LV.one (VV.sc (SV.int
 u64 (SI.sym x)))) []) (End.need ((0:Int)≤u64.wrap ((i64.wrap (n.tmod (64:Int)+(64:Int))).tmod (64:Int))) (End.need
 ((0:Int)≤u64.wrap ((64:Int)-u64.wrap ((i64.wrap (n.tmod (64:Int)+(64:Int))).tmod (64:Int)))) (End.leaf (LV.one
 (VV.sc (SV.int u64 (SI.sym (bq u64 (shr u64 x (u64.wrap ((i64.wrap (n.tmod (64:Int)+(64:Int))).tmod
 (64:Int)))) (shl u64 x (u64.wrap ((64:Int)-u64.wrap ((i64.wrap (n.tmod (64:Int)+(64:Int))).tmod (64:
 Int)))))))))) []))):=by kernel_rfl
theorem I8:NZ.Ok Tryz.prog 124:=by
 refine(ao.ba call124 fun x_ y_ Q H_=>?_).sym;obtain⟨x,n,_⟩:=x_;obtain⟨hn,hq⟩:=H_;have hn:0<n∧n<64:=hn;refine(au mixed aw func124 rfl (LT:= []) (ks:= [.fr [.sym],.auto]) (aJ.nil _)).use (D:= []) ?_ hq;show(aN _ _ _ _ ((uiC).wr (x,n,())) ((ae).wr ()) _).sat _;rw[N0];obtain⟨h0,h1⟩:=hn
 have e:u64.wrap ((i64.wrap (n.tmod 64+64)).tmod 64)=n:=by
  have a1:n.tmod 64=n:=by rw[Int.tmod_eq_emod_of_nonneg (by omega)];omega
  rw[a1,wrap_i64 (by omega) (by omega)];have a2:(n+64).tmod 64=n:=by rw[Int.tmod_eq_emod_of_nonneg (by omega)];omega
  rw[a2,wrap_u64 (by omega) (by omega)]
 have e2:u64.wrap (64-n)=64-n:=wrap_u64 (by omega) (by omega);rw[e,e2,eK];exact⟨fun h=>by simp at h;omega,fun _=>⟨by omega,by omega,rfl,rfl⟩⟩
theorem N1(b:BitVec 64):BitVec.ofInt 64 (u64.wrap (b.toNat:Int))=b:=by
 have h:=b.isLt;rw[wrap_u64 (by omega) (by omega)];simp
theorem axb(x y z:Int):bq .u64 (bq .u64 (bd .u64 x y) (bd .u64 x z)) (bd .u64 y z)=aeO x y z:=by
 unfold aeO bq bm bd
 show u64.wrap ((BitVec.ofInt 64 (u64.wrap ((BitVec.ofInt 64 (u64.wrap ((BitVec.ofInt 64 x&&& BitVec.ofInt 64 y).toNat:Int))|||BitVec.ofInt 64 (u64.wrap ((BitVec.ofInt 64 x&&& BitVec.ofInt 64 z).toNat:Int))).toNat:Int))|||BitVec.ofInt 64 (u64.wrap ((BitVec.ofInt 64 y&&& BitVec.ofInt 64 z).toNat:Int))).toNat:Int)=
  u64.wrap ((BitVec.ofInt 64 (u64.wrap ((BitVec.ofInt 64 (u64.wrap ((BitVec.ofInt 64 x&&& BitVec.ofInt 64 y).toNat:Int)) ^^^ BitVec.ofInt 64 (u64.wrap ((BitVec.ofInt 64 x&&& BitVec.ofInt 64 z).toNat:Int))).toNat:Int)) ^^^ BitVec.ofInt 64 (u64.wrap ((BitVec.ofInt 64 y&&& BitVec.ofInt 64 z).toNat:Int))).toNat:Int)
 simp only[N1]
 congr 3
 apply BitVec.eq_of_getLsbD_eq
 intro i _;simp only[BitVec.getLsbD_or,BitVec.getLsbD_and,BitVec.getLsbD_xor]
 cases(BitVec.ofInt 64 x).getLsbD i<;>cases(BitVec.ofInt 64 y).getLsbD i<;>cases(BitVec.ofInt 64 z).getLsbD i<;>rfl
abbrev aCu:Func:=f86
abbrev rwC:aY (List LV) (List Int×Int×Unit):=(ag (ah (fR false false u8)) (jk 1 (aq (ah (aU 0 0)) (jk 1 (aq (ah (aU 1 0)) (ag (ah (aC .i64)) (jk 24 ae)))))))
abbrev aCw:Wk:=.fr (cC 30 [(0,.al),(2,.al),(4,.al),(5,.sym)])
abbrev rwX:aY (List LV) (Unit):=(jk 2 (aq (ah (aU 0 0)) (jk 1 (aq (ah (aU 1 0)) (jk 25 ae)))))
abbrev aHr:Wk:=.fr (cC 30 [(2,.al),(4,.al)])
def rwW:Exit→List Wk
 | .normal=> [aCw,.db 0 0 16 .u64,.db 1 0 16 .u64,.auto]
 | .exit 0=> [aHr,.auto]
 |_=> []
theorem axc(b:List Int)(i:Int)(r m:List Int):cY Tryz.prog [] [] aCu 0 [] rwW ((bg rwC Mc).wr ((b,i,()),(r,m,())))=
 aW.ite (decide (i<(128:Int))) (aW.need ((0:Int)≤i64.wrap (i.tdiv (8:Int))∧i64.wrap (i.tdiv (8:Int))<(16:Int))
 (aW.need ((0:Int)≤i∧i<(↑b.length:Int)) (aW.need ((0:Int)≤i64.wrap (i.tdiv (8:Int))∧i64.wrap (i.tdiv (8:Int))<
 (16:Int)) (aW.leaf Exit.normal ((bg rwC Mc).wr ((b,i64.wrap (i+(1:Int)),PUnit.unit),r,m.set ((0:Nat)+(i64.wrap (i.tdiv
 (8:Int))).toNat) (bq u64 (shl u64 ((List.take (16:Nat) (List.drop (0:Nat) m)).getD (i64.wrap (i.tdiv (8:Int))).toNat
 (0:Int)) (8:Int)) (u64.wrap (b.getD i.toNat (0:Int)))),PUnit.unit)))))) (aW.leaf (Exit.exit (0:Nat)) ((bg rwX Mc).wr (PUnit.unit,
 r,m,PUnit.unit))):=by kernel_rfl
def rwF(x:(List Int×Int×Unit)×List Int×List Int×Unit):aW:=
 .need (x.1.1.length=128∧x.1.2.1=0∧x.2.2.1=List.replicate 16 0) (.leaf (.exit 0) ((bg rwX Mc).wr ((),(x.2.1,iI x.1.1,()))))
theorem an1(x):Ex Tryz.prog [] (.loop (a9 aCu 0)) ((bg rwC Mc).wr x) (rwF x):=by
 obtain⟨⟨b,i,_⟩,r,m,_⟩:=x;refine Ex.need fun⟨h1,h3,h4⟩=>?_;simp only at h1 h3 h4;subst h3 h4
 refine dP (ws:=rwW) (hp:= []) mixed aw (aJ.nil _) 128 (fun k m=>(bg rwC Mc).wr ((b,(k:Int),()),(r,m,()))) (fun m=>(bg rwX Mc).wr ((),(r,m,()))) (I3 b) (fun _ m=>m.length=16)
  (fun k m R hk hm hn hx=>?_) (fun k m _ hm=>by rw[tr];exact hm) 0 (List.replicate 16 0) (by omega) (by simp)
 rw[axc];refine⟨fun hb=>?_,fun hb=>?_⟩
 ·have dU:k<128:=by have:=of_decide_eq_true hb;omega
  have e:i64.wrap ((k:Int).tdiv 8)=((k/8:Nat):Int):=fS k 8 (by omega);rw[e,bI hm,cS k (by omega)];simp only[Int.toNat_natCast,Nat.zero_add];exact⟨by omega,by omega,by omega,hn dU⟩
 ·have:k=128:=by have:=of_decide_eq_false hb;omega
  exact hx this
abbrev aCx:dL:= [(0,dx (bg rwC Mc) 0 [aCw,.auto,.db 0 0 16 .u64,.db 1 0 16 .u64] rwF)]
def S3:ao:=ao.cH [some u8] (bA) (ae) fun x_ y_=>(fun(b:List Int)=>.leaf (some (b.length=128)) (.cG [.agg [.arr (.int .u64) 16 (iI b)],.sc (.bool (.sym true))]) []) x_.1
theorem I9(b:List Int):aN Tryz.prog [] aCx f86 ((bA).wr (b,())) ((ae).wr ()) [.fr [.sym],.fQ 0 0 16 .u64,.auto]=
 End.ite ((↑b.length:Int)!=(128:Int)) (End.leaf (LV.cG [VV.agg [SV.arr (Ty.int u64) (16:Nat) [(0:Int),(0:Int),(0:Int),(0:
 Int),(0:Int),(0:Int),(0:Int),(0:Int),(0:Int),(0:Int),(0:Int),(0:Int),(0:Int),(0:Int),(0:Int),(0:Int)]],VV.sc
 (SV.bool (SB.sym false))]) []) (End.need (b.length=(128:Nat)∧(0:Int)=(0:Int)∧ [(0:Int),(0:Int),(0:Int),(0:Int),(0:Int),(0:
 Int),(0:Int),(0:Int),(0:Int),(0:Int),(0:Int),(0:Int),(0:Int),(0:Int),(0:Int),(0:Int)]=List.replicate (16:Nat) (0:
 Int)) (End.leaf (LV.cG [VV.agg [SV.arr (Ty.int u64) (16:Nat) (iI b)],VV.sc (SV.bool (SB.sym true))]) [])):=by kernel_rfl
theorem WL:S3.Ok Tryz.prog 86:=by
 refine(ao.ba call86 fun x_ y_ Q H_=>?_).sym;obtain⟨b,_⟩:=x_;obtain⟨hn,hq⟩:=H_;have hn:b.length=128:=hn;refine(au mixed aw func86 rfl (LT:=aCx) (ks:= [.fr [.sym],.fQ 0 0 16 .u64,.auto]) (aJ.bW (jc rfl (bQ (hp:= []) an1) jh))).use (D:= []) ?_ hq;show(aN _ _ _ _ ((bA).wr (b,())) ((ae).wr ()) _).sat _;rw[I9];refine⟨fun h=>?_,fun h=>⟨⟨hn,rfl,rfl⟩,rfl,rfl⟩⟩;simp[hn]at h
def oa(m:List Int)(t:Nat)(w:List Int):List Int:=if t<16 then w.set t (m.getD t 0)else EF t w
theorem EH(m:List Int)(t:Nat)(w:List Int):(oa m t w).length=w.length:=by unfold oa;split<;>simp[EF]
theorem zT(m:List Int):∀ (j k:Nat),k+j≤16→m.length=16→upto (oa m) k j (m.take k++List.replicate (80-k) 0)=m.take (k+j)++List.replicate (80-(k+j)) 0
 |0,_,_,_=>rfl
 |j+1,k,h,hm=>by
  have e:oa m k (m.take k++List.replicate (80-k) 0)=m.take (k+1)++List.replicate (80-(k+1)) 0:=by
   unfold oa;have hl:(m.take k).length=k:=(by simp;omega);rw[if_pos (by omega),List.set_append_right _ _ (by omega),hl,Nat.sub_self,show 80-k=(80-(k+1))+1 from by omega,List.replicate_succ,List.set_cons_zero,← List.take_append_getElem (by omega:k<m.length),List.append_assoc];simp[List.getD_eq_getElem?_getD,List.getElem?_eq_getElem (show k<m.length by omega)]
  show upto (oa m) (k+1) j (oa m k _)=_;rw[e,zT m j (k+1) (by omega) hm,show k+1+j=k+(j+1)from by omega]
theorem WM{m:List Int}(hm:m.length=16):upto (oa m) 0 80 (List.replicate 80 0)=dC m:=by
 have h:=zT m 16 0 (by omega) hm;rw[show(80:Nat)=16+64 from rfl,HV];simp only[List.take_zero,List.nil_append,Nat.zero_add,Nat.sub_zero]at h;rw[Nat.zero_add,show List.replicate (16+64) (0:Int)=List.replicate 80 0 from rfl,h,List.take_of_length_le (by omega)];exact zq (n:=80) (fun k (_:List Int)=>16≤k) (fun k _ _ h=>by omega) (fun k w _ h=>by unfold oa;rw[if_neg (by omega)]) 64 16 _ (by omega) (by omega)
abbrev ae3:Func:=f122
abbrev rsC:aY (List LV) (Int×Unit):=(jk 1 (aq (ah (aU 0 0)) (aq (ah (aU 1 0)) (aq (ah (aU 2 0)) (ag (ah (aC .i64)) (jk 52 ae))))))
abbrev aCy:Wk:=.fr (cC 57 [(1,.al),(2,.al),(3,.al),(4,.sym)])
abbrev rsX:aY (List LV) (Unit):=(jk 2 (aq (ah (aU 0 0)) (aq (ah (aU 1 0)) (jk 53 ae))))
abbrev aHt:Wk:=.fr (cC 57 [(2,.al),(3,.al)])
abbrev rsH:aY Hp (List Int×List Int×List Int×Unit):=ag (gJ 137 .u64 16) (ag (gJ 173 .u64 80) (ag (gJ 173 .u64 80) ae))
abbrev ae4:List (FuncId×ao):= [(124,NZ)]
theorem Ja:∀p∈ae4,p.2.Ok Tryz.prog p.1:=aj I8 aw
def rsW:Exit→List Wk
 | .normal=> [aCy,.auto]
 | .exit 0=> [aHt,.auto]
 |_=> []
theorem axd(t:Int)(m r w:List Int):cY Tryz.prog ae4 [] ae3 0 [] rsW ((bg rsC rsH).wr ((t,()),(m,r,w,())))=
 aW.ite (decide (t<(80:Int))) (aW.ite (decide (t<(16:Int))) (aW.need ((0:Int)≤t∧t<(16:Int)) (aW.need ((0:Int)≤t∧t<(80:
 Int)) (aW.leaf Exit.normal ((bg rsC rsH).wr ((i64.wrap (t+(1:Int)),PUnit.unit),m,r,w.set ((0:Nat)+t.toNat) ((List.take (16:Nat)
 (List.drop (0:Nat) m)).getD t.toNat (0:Int)),PUnit.unit))))) (aW.need ((0:Int)≤i64.wrap (t-(15:Int))∧i64.wrap (t-(15
 :Int))<(80:Int)) (aW.need ((0:Int)≤i64.wrap (t-(2:Int))∧i64.wrap (t-(2:Int))<(80:Int)) (aW.need ((0:Int)<
 (19:Int)∧(19:Int)<(64:Int)) (aW.need ((0:Int)<(61:Int)∧(61:Int)<(64:Int)) (aW.need ((0:Int)≤i64.wrap (t-(7:
 Int))∧i64.wrap (t-(7:Int))<(80:Int)) (aW.need ((0:Int)<(1:Int)∧(1:Int)<(64:Int)) (aW.need ((0:Int)<(8:Int)∧(8
 :Int)<(64:Int)) (aW.need ((0:Int)≤i64.wrap (t-(16:Int))∧i64.wrap (t-(16:Int))<(80:Int)) (aW.need ((0:Int)≤
 t∧t<(80:Int)) (aW.leaf Exit.normal ((bg rsC rsH).wr ((i64.wrap (t+(1:Int)),PUnit.unit),m,r,w.set ((0:Nat)+t.toNat)
 (u64.wrap (u64.wrap (u64.wrap (bm u64 (bm u64 (jz ((List.take (80:Nat) (List.drop (0:Nat)
 w)).getD (i64.wrap (t-(2:Int))).toNat (0:Int)) (19:Int)) (jz ((List.take (80:Nat) (List.drop (0:Nat) w)).getD (i64.wrap
 (t-(2:Int))).toNat (0:Int)) (61:Int))) (shr u64 ((List.take (80:Nat) (List.drop (0:Nat) w)).getD (i64.wrap (t-(2:
 Int))).toNat (0:Int)) (6:Int))+(List.take (80:Nat) (List.drop (0:Nat) w)).getD (i64.wrap (t-(7:Int))).toNat (0:Int))+bm
 u64 (bm u64 (jz ((List.take (80:Nat) (List.drop (0:Nat) w)).getD (i64.wrap (t-(15:Int))).toNat (0:Int)) (1:
 Int)) (jz ((List.take (80:Nat) (List.drop (0:Nat) w)).getD (i64.wrap (t-(15:Int))).toNat (0:Int)) (8:Int))) (shr u64
 ((List.take (80:Nat) (List.drop (0:Nat) w)).getD (i64.wrap (t-(15:Int))).toNat (0:Int)) (7:Int)))+(List.take (80:Nat)
 (List.drop (0:Nat) w)).getD (i64.wrap (t-(16:Int))).toNat (0:Int))),PUnit.unit))))))))))))) (aW.leaf (Exit.exit (0:Nat)) ((bg rsX
 scH).wr (PUnit.unit,r,w,PUnit.unit))):=by kernel_rfl
def rsF(x:(Int×Unit)×List Int×List Int×List Int×Unit):aW:=
 .need (x.1.1=0∧x.2.1.length=16∧x.2.2.2.1=List.replicate 80 0) (.leaf (.exit 0) ((bg rsX scH).wr ((),(x.2.2.1,dC x.2.1,()))))
theorem an2(x):Ex Tryz.prog [] (.loop (a9 ae3 0)) ((bg rsC rsH).wr x) (rsF x):=by
 obtain⟨⟨i,_⟩,m,r,w,_⟩:=x;refine Ex.need fun⟨h1,h2,h3⟩=>?_;simp only at h1 h2 h3;subst h1 h3
 have key:=dP (fn:=ae3) (id:=0) (j:=0) (ws:=rsW) (hp:= []) mixed Ja (aJ.nil _) 80 (fun k w=>(bg rsC rsH).wr (((k:Int),()),(m,r,w,()))) (fun w=>(bg rsX scH).wr ((),(r,w,()))) (oa m) (fun _ w=>w.length=80)
  (fun k w R hk hm hn hx=>?_) (fun k w _ hw=>by rw[EH];exact hw) 0 (List.replicate 80 0) (by omega) (by simp)
 ·rw[WM h2]at key;exact key
 rw[axd];refine⟨fun hb=>?_,fun hb=>?_⟩
 ·have dU:k<80:=by have:=of_decide_eq_true hb;omega
  rw[bI hm,bI h2,cS k (by omega)];refine⟨fun G5=>?_,fun G5=>?_⟩
  ·have G5:k<16:=(by have:=of_decide_eq_true G5;omega);have:=hn dU;unfold oa at this;rw[if_pos G5]at this;simp only[Int.toNat_natCast,Nat.zero_add];exact⟨by omega,by omega,this⟩
  ·have G5:16≤k:=(by have:=of_decide_eq_false G5;omega);have:=hn dU;unfold oa at this;rw[if_neg (by omega)]at this;have e2:i64.wrap ((k:Int)-2)=((k-2:Nat):Int):=jY k 2 (by omega) (by omega);have e7:i64.wrap ((k:Int)-7)=((k-7:Nat):Int):=jY k 7 (by omega) (by omega);have e15:i64.wrap ((k:Int)-15)=((k-15:Nat):Int):=jY k 15 (by omega) (by omega);have e16:i64.wrap ((k:Int)-16)=((k-16:Nat):Int):=jY k 16 (by omega) (by omega);rw[e2,e7,e15,e16];simp only[Int.toNat_natCast,Nat.zero_add];exact⟨by omega,by omega,by decide,by decide,by omega,by decide,by decide,by omega,by omega,this⟩
 ·have:k=80:=by have:=of_decide_eq_false hb;omega
  exact hx this
abbrev aCz:dL:= [(0,dx (bg rsC rsH) 0 [aCy,.auto] rsF)]
def S4:ao:=ao.cH [] (scA) (ae) fun x_ y_=>(fun(m:List Int)=>.leaf (some (m.length=16)) (dQ .u64 80 (dC m)) []) x_.1
theorem Jb(m:List Int):aN Tryz.prog ae4 aCz f122 ((scA).wr (m,())) ((ae).wr ()) [.fr [.sym],.auto]=
 End.need ((0:Int)=(0:Int)∧m.length=(16:Nat)∧List.replicate (80:Nat) (0:Int)=List.replicate (80:Nat) (0:Int)) (End.leaf (LV.one
 (VV.agg [SV.arr (Ty.int u64) (80:Nat) (dC m)])) []):=by kernel_rfl
theorem WN:S4.Ok Tryz.prog 122:=by
 refine(ao.ba call122 fun x_ y_ Q H_=>?_).sym;obtain⟨m,_⟩:=x_;obtain⟨hn,hq⟩:=H_;have hn:m.length=16:=hn;refine(au mixed Ja func122 rfl (LT:=aCz) (ks:= [.fr [.sym],.auto]) (aJ.bW (jc rfl (bQ (hp:= []) an2) jh))).use (D:= []) ?_ hq;show(aN _ _ _ _ ((scA).wr (m,())) ((ae).wr ()) _).sat _;rw[Jb];exact⟨⟨rfl,hn,rfl⟩,rfl,rfl⟩
abbrev ats:Func:=f87
abbrev rpC:aY (List LV) (Int×Unit):=(jk 2 (aq (ah (aU 0 0)) (jk 1 (aq (ah (aU 1 0)) (aq (ah (aU 2 0)) (aq (ah (aU 3 0)) (aq (ah (aU 4 0)) (ag (ah (aC .i64)) (jk 105 ae)))))))))
abbrev aCB:Wk:=.fr (cC 114 [(2,.al),(4,.al),(5,.al),(6,.al),(7,.al),(8,.sym)])
abbrev rpX:aY (List LV) (Unit):=(jk 2 (aq (ah (aU 0 0)) (jk 1 (aq (ah (aU 1 0)) (jk 2 (aq (ah (aU 2 0)) (jk 106 ae)))))))
abbrev aHv:Wk:=.fr (cC 114 [(2,.al),(4,.al),(7,.al)])
abbrev ae5:List (FuncId×ao):= [(123,I6),(124,NZ),(122,S4)]
theorem Jc:∀p∈ae5,p.2.Ok Tryz.prog p.1:=aj NY (aj I8 (aj WN aw))
def rpW:Exit→List Wk
 | .normal=> [aCB,.db 4 0 8 .u64,.auto]
 | .exit 0=> [aHv,.auto,.BN 1,.BN 2]
 |_=> []
theorem axe(t:Int)(s r w k x:List Int):cY Tryz.prog ae5 [] ats 0 [] rpW ((bg rpC spH).wr ((t,()),(s,r,w,k,x,())))=
 aW.ite (decide (t<(80:Int))) (aW.need ((0:Int)<(14:Int)∧(14:Int)<(64:Int)) (aW.need ((0:Int)<(18:Int)∧(18:Int)<(64:
 Int)) (aW.need ((0:Int)<(41:Int)∧(41:Int)<(64:Int)) (aW.need ((0:Int)≤t∧t<(80:Int)) (aW.need ((0:Int)≤t∧t<(80:
 Int)) (aW.need ((0:Int)<(28:Int)∧(28:Int)<(64:Int)) (aW.need ((0:Int)<(34:Int)∧(34:Int)<(64:Int)) (aW.need ((0:Int)<
 (39:Int)∧(39:Int)<(64:Int)) (aW.leaf Exit.normal ((bg rpC spH).wr ((i64.wrap (t+(1:Int)),PUnit.unit),s,r,w,k,
 [u64.wrap (u64.wrap (u64.wrap (u64.wrap (u64.wrap (x.getD (7:Nat) (0:Int)+bm u64 (bm
 u64 (jz (x.getD (4:Nat) (0:Int)) (14:Int)) (jz (x.getD (4:Nat) (0:Int)) (18:Int))) (jz (x.getD (4:Nat) (0:Int)) (41:
 Int)))+bm u64 (bd u64 (x.getD (4:Nat) (0:Int)) (x.getD (5:Nat) (0:Int))) (bd u64 (bm u64
 (18446744073709551615:Int) (x.getD (4:Nat) (0:Int))) (x.getD (6:Nat) (0:Int))))+(List.take (80:Nat) (List.drop (0:Nat) k)).getD t.toNat
 (0:Int))+(List.take (80:Nat) (List.drop (0:Nat) w)).getD t.toNat (0:Int))+u64.wrap (bm u64 (bm u64 (jz
 (x.getD (0:Nat) (0:Int)) (28:Int)) (jz (x.getD (0:Nat) (0:Int)) (34:Int))) (jz (x.getD (0:Nat) (0:Int)) (39:Int))+bq
 u64 (bq u64 (bd u64 (x.getD (0:Nat) (0:Int)) (x.getD (1:Nat) (0:Int))) (bd u64 (x.getD (0:Nat) (0
 :Int)) (x.getD (2:Nat) (0:Int)))) (bd u64 (x.getD (1:Nat) (0:Int)) (x.getD (2:Nat) (0:Int))))),x.getD (0:Nat) (0:Int),
 x.getD (1:Nat) (0:Int),x.getD (2:Nat) (0:Int),u64.wrap (x.getD (3:Nat) (0:Int)+u64.wrap (u64.wrap
 (u64.wrap (u64.wrap (x.getD (7:Nat) (0:Int)+bm u64 (bm u64 (jz (x.getD (4:Nat) (0:Int)) (14:Int))
 (jz (x.getD (4:Nat) (0:Int)) (18:Int))) (jz (x.getD (4:Nat) (0:Int)) (41:Int)))+bm u64 (bd u64 (x.getD (4:
 Nat) (0:Int)) (x.getD (5:Nat) (0:Int))) (bd u64 (bm u64 (18446744073709551615:Int) (x.getD (4:Nat) (0:Int)))
 (x.getD (6:Nat) (0:Int))))+(List.take (80:Nat) (List.drop (0:Nat) k)).getD t.toNat (0:Int))+(List.take (80:Nat) (List.drop (0:Nat)
 w)).getD t.toNat (0:Int))),x.getD (4:Nat) (0:Int),x.getD (5:Nat) (0:Int),x.getD (6:Nat) (0:Int)],PUnit.unit))))))))))) (aW.leaf
 (Exit.exit (0:Nat)) ((bg rpX WI).wr (PUnit.unit,s,[r.getD (nat_lit 0) (0:Int),r.getD (nat_lit 1) (0:Int),r.getD (nat_lit 2) (0:Int),
 r.getD (nat_lit 3) (0:Int),r.getD (nat_lit 4) (0:Int),r.getD (nat_lit 5) (0:Int),r.getD (nat_lit 6) (0:Int),r.getD (nat_lit 7) (0:Int)],
 [x.getD (nat_lit 0) (0:Int),x.getD (nat_lit 1) (0:Int),x.getD (nat_lit 2) (0:Int),x.getD (nat_lit 3) (0:Int),x.getD (nat_lit 4) (0:Int),
 x.getD (nat_lit 5) (0:Int),x.getD (nat_lit 6) (0:Int),x.getD (nat_lit 7) (0:Int)],PUnit.unit))):=by kernel_rfl
def rpF(x:(Int×Unit)×List Int×List Int×List Int×List Int×List Int×Unit):aW:=
 .need (x.1.1=0∧x.2.2.2.2.1=fC∧x.2.2.2.1.length=80∧x.2.2.2.2.2.1.length=8) (.leaf (.exit 0) ((bg rpX WI).wr ((),(x.2.1,x.2.2.1,nD x.2.2.2.1 x.2.2.2.2.2.1,()))))
theorem an3(x):Ex Tryz.prog [] (.loop (a9 ats 0)) ((bg rpC spH).wr x) (rpF x):=by
 obtain⟨⟨i,_⟩,s,r,w,k,x,_⟩:=x;refine Ex.need fun⟨h1,h2,h3,h4⟩=>?_;simp only at h1 h2 h3 h4;subst h1 h2
 refine dP (ws:=rpW) (hp:= []) mixed Jc (aJ.nil _) 80 (fun j x=>(bg rpC spH).wr (((j:Int),()),(s,r,w,fC,x,()))) (fun x=>(bg rpX WI).wr ((),(s,r,x,()))) (aw9 w) (fun _ x=>x.length=8)
  (fun j x R hk hm hn hx=>?_) (fun k m _ hm=>rfl) 0 x (by omega) h4
 rw[axe];refine⟨fun hb=>?_,fun hb=>?_⟩
 ·have dU:j<80:=by have:=of_decide_eq_true hb;omega
  rw[bI h3,bI (l:=fC) (n:=80) rfl,cS j (by omega),axb];simp only[Int.toNat_natCast];exact⟨by decide,by decide,by decide,by omega,by omega,by decide,by decide,by decide,hn dU⟩
 ·have:j=80:=by have:=of_decide_eq_false hb;omega
  exact hx this
abbrev aCC:dL:= [(0,dx (bg rpC spH) 0 [aCB,.auto,.db 1 0 8 .u64,.db 4 0 8 .u64] rpF)]
def ae6:ao:=ao.cH [] (stA) (ae) fun x_ y_=>(fun(s m:List Int)=>.leaf (some (s.length=8∧m.length=16)) (dQ .u64 8 (o4 s m)) []) x_.1 x_.2.1
theorem N2(s m:List Int):aN Tryz.prog ae5 aCC f87 ((stA).wr (s,m,())) ((ae).wr ()) [.fr [.sym],.fQ 0 0 8 .u64,.auto]=
 End.need (m.length=(16:Nat)) (End.need ((0:Int)=(0:Int)∧fC=fC∧(dC m).length=(80:Nat)∧s.length=(8:Nat))
 (End.leaf (LV.one (VV.agg [SV.arr (Ty.int u64) (8:Nat) [u64.wrap ((nD (dC m) s).getD (nat_lit 0) (0:Int)+s.getD (0:Nat)
 (0:Int)),u64.wrap ((nD (dC m) s).getD (nat_lit 1) (0:Int)+s.getD (1:Nat) (0:Int)),u64.wrap ((nD (dC m) s).getD
 (nat_lit 2) (0:Int)+s.getD (2:Nat) (0:Int)),u64.wrap ((nD (dC m) s).getD (nat_lit 3) (0:Int)+s.getD (3:Nat) (0:Int)),
 u64.wrap ((nD (dC m) s).getD (nat_lit 4) (0:Int)+s.getD (4:Nat) (0:Int)),u64.wrap ((nD (dC m) s).getD (nat_lit 5)
 (0:Int)+s.getD (5:Nat) (0:Int)),u64.wrap ((nD (dC m) s).getD (nat_lit 6) (0:Int)+s.getD (6:Nat) (0:Int)),
 u64.wrap ((nD (dC m) s).getD (nat_lit 7) (0:Int)+s.getD (7:Nat) (0:Int))]])) [])):=by kernel_rfl
theorem ae7:ae6.Ok Tryz.prog 87:=by
 refine(ao.ba call87 fun x_ y_ Q H_=>?_).sym;obtain⟨s,m,_⟩:=x_;obtain⟨hn,hq⟩:=H_;have hn:s.length=8∧m.length=16:=hn;refine(au mixed Jc func87 rfl (LT:=aCC) (ks:= [.fr [.sym],.fQ 0 0 8 .u64,.auto]) (aJ.bW (jc rfl (bQ (hp:= []) an3) jh))).use (D:= []) ?_ hq;show(aN _ _ _ _ ((stA).wr (s,m,())) ((ae).wr ()) _).sat _;rw[N2];exact⟨hn.2,⟨rfl,rfl,tv hn.2,hn.1⟩,rfl,rfl⟩
structure HH where
 begun:Bool
 s:List Int
 n:Int
 wait:List Int
abbrev cHH:aY (List SV) HH:=(ag jX (ag (tc (.int .u64) 8) (ag (aC .i64) (ag (tc u8 128) ae)))).kB (fun x=>⟨x.1,x.2.1,x.2.2.1,x.2.2.2.1⟩) (fun h=>(h.begun,h.s,h.n,h.wait,())) (fun _=>rfl)
abbrev hI(h:HH):Ev.Item:=.bH (cHH.wr h) 76
abbrev rf:aY Hp (HH×Unit):=ag (kY 76 cHH) ae
abbrev hV(h:HH):LV:=.one (.agg (cHH.wr h))
abbrev zU:Wk:=.bH 0 [.sym,.al,.sym,.al]
def o5:HH:=⟨true,jA,0,List.replicate 128 0⟩
def ae8:ao:=ao.cH [] (ae) (ae) fun x_ y_=>.leaf none (.one (.sc (.ptr 0 0))) [(0,hI o5)]
theorem WO:aN Tryz.prog [(44,aeU)] [] f24 ((ae).wr ()) ((ae).wr ()) [.db 0 1 8 .u64,zU,.auto]=
 End.leaf (LV.one (VV.sc (SV.ptr (0:Nat) (0:Nat)))) [some (Item.bH [SV.bool (SB.sym true),SV.arr (Ty.int u64) (8:Nat) jA,SV.int
 i64 (SI.sym (0:Int)),SV.arr (Ty.int IntKind.u8) (128:Nat) (List.replicate (128:Nat) (0:Int))] (76:Nat))]:=by kernel_rfl
theorem S5:ae8.Ok Tryz.prog 24:=by
 refine(ao.ba call24 fun x_ y_ Q H_=>?_).sym;have hq:=H_.2;refine(au mixed ((aj aeV aw)) func24 rfl (LT:= []) (ks:= [.db 0 1 8 .u64,zU,.auto]) (aJ.nil _)).use (D:= [(0,hI o5)]) ?_ hq;show(aN _ _ _ _ ((ae).wr ()) ((ae).wr ()) _).sat _;rw[WO];exact⟨rfl,rfl⟩
def axf:ao:=ao.cH [] ((aq p0 ae)) (rf) fun x_ y_=>(fun(h:HH)=>.leaf (some (h.begun=true)) (hV h) []) y_.1
theorem ae9(h:HH):aN Tryz.prog [] [] f45 (((aq p0 ae)).wr ()) ((rf).wr (h,())) [.auto]=
 End.ite (!h.begun) End.fail (End.leaf (LV.one (VV.agg [SV.bool (SB.sym h.begun),SV.arr (Ty.int u64) (8:Nat) h.s,SV.int i64 (SI.sym
 h.n),SV.arr (Ty.int IntKind.u8) (128:Nat) h.wait])) [some (Item.bH [SV.bool (SB.sym h.begun),SV.arr (Ty.int u64) (8:Nat) h.s,SV.int
 i64 (SI.sym h.n),SV.arr (Ty.int IntKind.u8) (128:Nat) h.wait] (76:Nat))]):=by kernel_rfl
theorem afa:axf.Ok Tryz.prog 45:=by
 refine(ao.ba call45 fun x_ y_ Q H_=>?_).sym;obtain⟨h,_⟩:=y_;obtain⟨hn,hq⟩:=H_;have hn:h.begun=true:=hn;refine(au mixed aw func45 rfl (LT:= []) (ks:= [.auto]) (aJ.nil _)).use (D:= []) ?_ hq;show(aN _ _ _ _ (((aq p0 ae)).wr ()) ((rf).wr (h,())) _).sat _;rw[ae9];exact⟨fun e=>(by rw[hn]at e;cases e),fun _=>⟨rfl,rfl⟩⟩
def lK(h:HH)(c:Int):HH:=if(h.n+1)%128=0 then⟨h.begun,o4 h.s (iI (h.wait.set (h.n%128).toNat c)),h.n+1,h.wait.set (h.n%128).toNat c⟩else⟨h.begun,h.s,h.n+1,h.wait.set (h.n%128).toNat c⟩
def cf(h:HH)(b:List Int):HH:=b.foldl lK h
structure oq (h:HH):Prop where
 begun:h.begun=true
 n:0≤h.n
 s:h.s.length=8
 wait:h.wait.length=128
theorem EI(h:HH)(c:Int):(lK h c).n=h.n+1:=by unfold lK;split<;>rfl
theorem zV{h:HH}(hh:oq h)(c:Int):oq (lK h c):=by
 obtain⟨h1,h2,h3,h4⟩:=hh;unfold lK
 split
 ·exact⟨h1,by simp only;omega,xb _ _,by simp[h4]⟩
 ·exact⟨h1,by simp only;omega,h3,by simp[h4]⟩
theorem k9:∀ (b:List Int) (h:HH),(cf h b).n=h.n+b.length
 | [],h=>by simp[cf]
 |c::b,h=>by
  show(cf (lK h c) b).n=_;rw[k9 b,EI,List.length_cons];omega
theorem jK:∀ (b:List Int) {h:HH},oq h→oq (cf h b)
 | [],_,hh=>hh
 |c::b,_,hh=>jK b (zV hh c)
theorem gv(h:HH)(a b:List Int):cf h (a++b)=cf (cf h a) b:=by simp[cf]
theorem zW{σ:Type}(g:σ→Int→σ)(b:List Int):∀ (m k:Nat) (s:σ),k+m=b.length→upto (fun k s=>g s (b.getD k 0)) k m s=(b.drop k).foldl g s
 |0,k,s,h=>by rw[List.drop_eq_nil_of_le (by omega)];rfl
 |m+1,k,s,h=>by
  rw[BT (show k<b.length by omega)];exact zW g b m (k+1) _ (by omega)
abbrev axg:Func:=f46
abbrev puC:aY (List LV) (List Int×Int×Int×Unit):=(aq (ah (aU 0 0)) (jk 7 (ag (ah (fR false false u8)) (ag (ah (aC .i64)) (ag (ah (aC .i64)) (jk 44 ae))))))
abbrev aCD:Wk:=.fr (cC 55 [(0,.al),(8,.al),(9,.sym),(10,.sym)])
abbrev puX:aY (List LV) (Unit):=(jk 55 ae)
abbrev aHx:Wk:=.fr (cC 55 [])
abbrev afb:List (FuncId×ao):= [(77,aeW),(78,atr)]
def puW:Exit→List Wk
 | .normal=> [aCD,zU,.auto]
 | .exit 0=> [aHx,zU,.auto]
 |_=> []
theorem axh(h0 h:HH)(b:List Int)(n i:Int):cY Tryz.prog afb [] axg 0 (rf.wr (h0,())) puW ((bg puC rf).wr ((b,n,i,()),(h,())))=
 aW.ite (decide (i<n)) (aW.need ((0:Int)≤i∧i<(↑b.length:Int)) (aW.need ((0:Int)≤h.n.tmod (128:Int)∧h.n.tmod (128:Int)<(128:
 Int)) (aW.ite ((i64.wrap (h.n+(1:Int))).tmod (128:Int)==(0:Int)) (aW.need ((0:Int)≤(0:Int)∧(0:Int)≤(128:Int)∧(128:
 Int)≤(128:Int)) (aW.need ((List.take (128:Nat) (List.drop (0:Nat) (h.wait.set ((0:Nat)+(h.n.tmod (128:Int)).toNat) (b.getD i.toNat (0:
 Int))))).length=(128:Nat)) (aW.need (h.s.length=(8:Nat)∧(16:Nat)=(16:Nat)) (aW.leaf Exit.normal ((bg puC rf).wr ((b,n,
 i64.wrap (i+(1:Int)),PUnit.unit),{begun:=h.begun,s:=o4 h.s (iI (List.take (128:Nat) (List.drop (0:Nat) (h.wait.set ((0:Nat)+(h.n.tmod (128:Int)).toNat) (b.getD i.toNat (0:Int)))))),n:=i64.wrap (h.n+(1:Int)),wait:=h.wait.set ((0:Nat)+(h.n.tmod (128:Int)).toNat) (b.getD i.toNat (0:Int))},
 PUnit.unit)))))) (aW.leaf Exit.normal ((bg puC rf).wr ((b,n,i64.wrap (i+(1:Int)),PUnit.unit),{begun:=h.begun,s:=h.s,n:=i64.wrap (h.n+(1:Int)),wait:=h.wait.set ((0:Nat)+(h.n.tmod (128:Int)).toNat) (b.getD i.toNat (0:Int))},
 PUnit.unit)))))) (aW.leaf (Exit.exit (0:Nat)) ((bg puX rf).wr (PUnit.unit,h,PUnit.unit))):=by kernel_rfl
theorem Jd:∀p∈afb,p.2.Ok Tryz.prog p.1:=aj aeX (aj an0 aw)
def puF(x:(List Int×Int×Int×Unit)×HH×Unit):aW:=
 .need (oq x.2.1∧x.1.2.1=x.1.1.length∧x.1.2.2.1=0∧x.2.1.n+x.1.1.length<2305843009213693952) (.leaf (.exit 0) ((bg puX rf).wr ((),(cf x.2.1 x.1.1,()))))
theorem an5(h0:HH)(x):Ex Tryz.prog (rf.wr (h0,())) (.loop (a9 axg 0)) ((bg puC rf).wr x) (puF x):=by
 obtain⟨⟨b,n,i,_⟩,h,_⟩:=x;refine Ex.need fun⟨h1,h2,h3,h4⟩=>?_;simp only at h1 h2 h3 h4;subst h2 h3;have aLX:(b.length:Int)<2305843009213693952:=by have:=h1.n;omega
 have key:=dP (fn:=axg) (id:=0) (j:=0) (ws:=puW) (hp:=rf.wr (h0,())) mixed Jd (aJ.nil _) b.length (fun k h=>(bg puC rf).wr ((b,(b.length:Int),(k:Int),()),(h,()))) (fun h=>(bg puX rf).wr ((),(h,()))) (fun k h=>lK h (b.getD k 0)) (fun k h=>oq h∧h.n+(b.length-k:Nat)<2305843009213693952)
  (fun k h R hk hm hn hx=>?_) (fun k h _ hh=>⟨zV hh.1 _,by rw[EI];have:=hh.2;omega⟩) 0 h (by omega) ⟨h1,by simpa using h4⟩
 ·rw[Nat.sub_zero,zW lK b _ _ _ (by omega)]at key;exact key
 obtain⟨hh,dU⟩:=hm;obtain⟨g1,g2,g3,g4⟩:=hh;rw[axh];refine⟨fun hb=>?_,fun hb=>?_⟩
 ·have jl:k<b.length:=by have:=of_decide_eq_true hb;omega
  have e1:i64.wrap (h.n+1)=h.n+1:=ar (by omega) (by omega);have e2:h.n.tmod 128=h.n%128:=Int.tmod_eq_emod_of_nonneg g2;have e3:(h.n+1).tmod 128=(h.n+1)%128:=Int.tmod_eq_emod_of_nonneg (by omega);have e4:∀c,List.take 128 (List.drop 0 (h.wait.set (h.n%128).toNat c))=h.wait.set (h.n%128).toNat c:=fun c=>bI (by simp[g4]);rw[e1,e2,e3,cS k (by omega)];simp only[Int.toNat_natCast,Nat.zero_add];rw[e4];have nh:=hn jl;refine⟨⟨by omega,by omega⟩,by omega,fun hz=>?_,fun hz=>?_⟩
  ·have Mi:(h.n+1)%128=0:=(by simpa using hz);rw[lK,if_pos Mi]at nh;exact⟨by omega,by simp[g4],⟨g3,trivial⟩,nh⟩
  ·have Mi:¬ (h.n+1)%128=0:=(by simpa using hz);rw[lK,if_neg Mi]at nh;exact nh
 ·have:k=b.length:=by have:=of_decide_eq_false hb;omega
  exact hx this
abbrev aCE:dL:= [(0,dx (bg puC rf) 1 [aCD,zU,.auto] puF)]
abbrev hbA:aY (List LV) (List Int×Unit):=aq p0 (ag (ah (fR false false u8)) ae)
def afc:ao:=ao.cH [none,some u8] (hbA) (rf) fun x_ y_=>(fun(b:List Int) (h:HH)=>.leaf (some (oq h∧h.n+b.length<2305843009213693952)) (.cG []) [(0,hI (cf h b))]) x_.1 y_.1
theorem WQ(b:List Int)(h:HH):aN Tryz.prog afb aCE f46 ((hbA).wr (b,())) ((rf).wr (h,())) [zU,.auto]=
 End.need (oq h∧(↑b.length:Int)=(↑b.length:Int)∧(0:Int)=(0:Int)∧h.n+(↑b.length:Int)<(2305843009213693952:Int)) (End.leaf
 (LV.cG []) [some (Item.bH [SV.bool (SB.sym (cf h b).begun),SV.arr (Ty.int u64) (8:Nat) (cf h b).s,SV.int i64 (SI.sym (cf h
 b).n),SV.arr (Ty.int IntKind.u8) (128:Nat) (cf h b).wait] (76:Nat))]):=by kernel_rfl
theorem S6:afc.Ok Tryz.prog 46:=by
 refine(ao.ba call46 fun x_ y_ Q H_=>?_).sym;obtain⟨b,_⟩:=x_;obtain⟨h,_⟩:=y_;obtain⟨hn,hq⟩:=H_;have hn:oq h∧h.n+b.length<2305843009213693952:=hn;refine(au mixed Jd func46 rfl (LT:=aCE) (ks:= [zU,.auto]) (aJ.bW (jc rfl (bQ (hp:=rf.wr (h,())) (an5 h)) jh))).use (D:= [(0,hI (cf h b))]) ?_ hq;show(aN _ _ _ _ ((hbA).wr (b,())) ((rf).wr (h,())) _).sat _;rw[WQ];exact⟨⟨hn.1,rfl,rfl,hn.2⟩,rfl,rfl⟩
def zX:ao:=ao.cH [none,some u8] (hbA) (rf) fun x_ y_=>(fun(b:List Int) (h:HH)=>.leaf (some (oq h∧h.n+b.length<2305843009213693952)) (.cG []) [(0,hI (cf h b))]) x_.1 y_.1
theorem N3(b:List Int)(h:HH):aN Tryz.prog [(45,axf),(46,afc)] [] f25 ((hbA).wr (b,())) ((rf).wr (h,())) [zU,.auto]=
 End.need (h.begun=true) (End.need (oq h∧h.n+(↑b.length:Int)<(2305843009213693952:Int)) (End.leaf (LV.cG []) [some (Item.bH [SV.bool
 (SB.sym (cf h b).begun),SV.arr (Ty.int u64) (8:Nat) (cf h b).s,SV.int i64 (SI.sym (cf h b).n),SV.arr (Ty.int IntKind.u8)
 (128:Nat) (cf h b).wait] (76:Nat))])):=by kernel_rfl
theorem tw:zX.Ok Tryz.prog 25:=by
 refine(ao.ba call25 fun x_ y_ Q H_=>?_).sym;obtain⟨b,_⟩:=x_;obtain⟨h,_⟩:=y_;obtain⟨hn,hq⟩:=H_;have hn:oq h∧h.n+b.length<2305843009213693952:=hn;refine(au mixed ((aj afa (aj S6 aw))) func25 rfl (LT:= []) (ks:= [zU,.auto]) (aJ.nil _)).use (D:= [(0,hI (cf h b))]) ?_ hq;show(aN _ _ _ _ ((hbA).wr (b,())) ((rf).wr (h,())) _).sat _;rw[N3];exact⟨hn.1.begun,hn,rfl,rfl⟩
def cD(x:Int):List Int:=(List.range 8).map fun i=>IntKind.u8.wrap (shr .u64 x ((56-8*i:Nat):Int))
def N5:ao:=ao.cH [] ((ag (ah (aC .u64)) ae)) (ae) fun x_ y_=>(fun(x:Int)=>.leaf none (.one (.sc (.sl 0 0))) [(0,.own 0 u8 (cD x))]) x_.1
theorem N6(x:Int):aN Tryz.prog [] [] f75 (((ag (ah (aC .u64)) ae)).wr (x,())) ((ae).wr ()) [.auto,.aE]=
 End.need ((1:Nat)≤(70368744177664:Nat)∧(1:Nat)≤(70368744177664:Nat)) (End.need ((2:Nat)≤(70368744177664:Nat)∧(2:Nat)≤
 (70368744177664:Nat)) (End.need ((3:Nat)≤(70368744177664:Nat)∧(3:Nat)≤(70368744177664:Nat)) (End.need ((4:Nat)≤(70368744177664:
 Nat)∧(4:Nat)≤(70368744177664:Nat)) (End.need ((5:Nat)≤(70368744177664:Nat)∧(5:Nat)≤(70368744177664:Nat)) (End.need ((6:Nat)≤
 (70368744177664:Nat)∧(6:Nat)≤(70368744177664:Nat)) (End.need ((7:Nat)≤(70368744177664:Nat)∧(7:Nat)≤(70368744177664:Nat))
 (End.need ((8:Nat)≤(70368744177664:Nat)∧(8:Nat)≤(70368744177664:Nat)) (End.leaf (LV.one (VV.sc (SV.sl (0:Nat) (0:Nat)))) [some
 (Item.own (0:Nat) (Ty.int IntKind.u8) ([IntKind.u8.wrap (shr u64 x (56:Int))]++ [IntKind.u8.wrap (shr u64 x (48:Int))]++
 [IntKind.u8.wrap (shr u64 x (40:Int))]++ [IntKind.u8.wrap (shr u64 x (32:Int))]++ [IntKind.u8.wrap (shr u64 x (24:
 Int))]++ [IntKind.u8.wrap (shr u64 x (16:Int))]++ [IntKind.u8.wrap (shr u64 x (8:Int))]++ [IntKind.u8.wrap (shr u64 x (0
 :Int))]))])))))))):=by kernel_rfl
theorem Je:N5.Ok Tryz.prog 75:=by
 refine(ao.ba call75 fun x_ y_ Q H_=>?_).sym;obtain⟨x,_⟩:=x_;have hq:=H_.2;refine(au mixed aw func75 rfl (LT:= []) (ks:= [.auto,.aE]) (aJ.nil _)).use (D:= [(0,.own 0 u8 (cD x))]) ?_ hq;show(aN _ _ _ _ (((ag (ah (aC .u64)) ae)).wr (x,())) ((ae).wr ()) _).sat _;rw[N6];exact⟨by omega,by omega,by omega,by omega,by omega,by omega,by omega,by omega,rfl,rfl⟩
def eZ(s:List Int):List Int:=(List.range 8).foldl (fun a i=>a++cD (s.getD i 0)) []
def Jf:ao:=ao.cH [] ((aq p0 ae)) (rf) fun x_ y_=>(fun(h:HH)=>.leaf none (.one (.sc (.sl 1 0))) [(1,.own 0 u8 (eZ h.s))]) y_.1
theorem EJ(h:HH):aN Tryz.prog [(75,N5)] [] f76 (((aq p0 ae)).wr ()) ((rf).wr (h,())) [.auto,.aE]=
 End.need ((8:Nat)≤(70368744177664:Nat)∧(8:Nat)≤(70368744177664:Nat)) (End.need ((16:Nat)≤(70368744177664:Nat)∧(16:Nat)≤
 (70368744177664:Nat)) (End.need ((24:Nat)≤(70368744177664:Nat)∧(24:Nat)≤(70368744177664:Nat)) (End.need ((32:Nat)≤(70368744177664:
 Nat)∧(32:Nat)≤(70368744177664:Nat)) (End.need ((40:Nat)≤(70368744177664:Nat)∧(40:Nat)≤(70368744177664:Nat)) (End.need ((48:Nat)
 ≤(70368744177664:Nat)∧(48:Nat)≤(70368744177664:Nat)) (End.need ((56:Nat)≤(70368744177664:Nat)∧(56:Nat)≤(70368744177664:Nat))
 (End.need ((64:Nat)≤(70368744177664:Nat)∧(64:Nat)≤(70368744177664:Nat)) (End.leaf (LV.one (VV.sc (SV.sl (1:Nat) (0:Nat)))) [some
 (Item.bH [SV.bool (SB.sym h.begun),SV.arr (Ty.int u64) (8:Nat) h.s,SV.int i64 (SI.sym h.n),SV.arr (Ty.int IntKind.u8) (128:Nat)
 h.wait] (76:Nat)),some (Item.own (0:Nat) (Ty.int IntKind.u8) (cD (h.s.getD (0:Nat) (0:Int))++cD (h.s.getD (1:Nat) (0:Int))++
 cD (h.s.getD (2:Nat) (0:Int))++cD (h.s.getD (3:Nat) (0:Int))++cD (h.s.getD (4:Nat) (0:Int))++cD (h.s.getD (5:Nat)
 (0:Int))++cD (h.s.getD (6:Nat) (0:Int))++cD (h.s.getD (7:Nat) (0:Int))))])))))))):=by kernel_rfl
theorem N7:Jf.Ok Tryz.prog 76:=by
 refine(ao.ba call76 fun x_ y_ Q H_=>?_).sym;obtain⟨h,_⟩:=y_;have hq:=H_.2;refine(au mixed ((aj Je aw)) func76 rfl (LT:= []) (ks:= [.auto,.aE]) (aJ.nil _)).use (D:= [(1,.own 0 u8 (eZ h.s))]) ?_ hq;show(aN _ _ _ _ (((aq p0 ae)).wr ()) ((rf).wr (h,())) _).sat _;rw[EJ];exact⟨by omega,by omega,by omega,by omega,by omega,by omega,by omega,by omega,rfl,rfl⟩
abbrev aCF:Func:=f43
abbrev afd:List (FuncId×ao):= [(45,axf),(46,afc),(75,N5),(76,Jf)]
theorem Jg:∀p∈afd,p.2.Ok Tryz.prog p.1:=aj afa (aj S6 (aj Je (aj N7 aw)))
abbrev EK:aY Hp (HH×List Int×HH×Unit):=ag (kY 76 cHH) (ag (gJ 37 .u8 64) (ag (kY 76 cHH) ae))
abbrev afe:Wk:=.bH 2 [.sym,.al,.sym,.al]
abbrev suC:aY (List LV) (Int×Unit):=(jk 2 (aq (ah (aU 1 0)) (aq (ah (aU 2 0)) (ag (ah (aC .u64)) (jk 24 ae)))))
abbrev axi:Wk:=.fr (cC 29 [(2,.al),(3,.al),(4,.sym)])
def suW:Exit→List Wk
 | .normal=> [axi,afe,.auto]
 | .exit 0=> [axi,afe,.auto]
 |_=> []
theorem axj(h0:HH)(g:HH)(r:List Int)(h:HH)(n:Int):cY Tryz.prog afd [] aCF 0 (rf.wr (h0,())) suW ((bg suC EK).wr ((n,()),(g,r,h,())))=
 aW.ite (h.n.tmod (128:Int)!=(112:Int)) (aW.need (oq h∧h.n+(1:Int)<(2305843009213693952:Int)) (aW.leaf Exit.normal ((bg suC
 EK).wr ((n,PUnit.unit),g,r,cf h [(0:Int)],PUnit.unit)))) (aW.leaf (Exit.exit (0:Nat)) ((bg suC EK).wr ((n,PUnit.unit),g,r,h,
 PUnit.unit))):=by kernel_rfl
def ma(h:HH):HH:=cf h (List.replicate ((112-h.n)%128).toNat 0)
theorem WR{h:HH}(hz:¬h.n%128=112):ma (cf h [0])=ma h∧((112-(cf h [0]).n)%128).toNat<((112-h.n)%128).toNat:=by
 have e1:(cf h [0]).n=h.n+1:=by rw[k9];rfl
 have e2:((112-h.n)%128).toNat=((112-(cf h [0]).n)%128).toNat+1:=by rw[e1];omega
 refine⟨?_,by omega⟩;unfold ma;rw[e2,List.replicate_succ];rfl
theorem aff{h:HH}(hz:h.n%128=112):ma h=h:=by
 have e:((112-h.n)%128).toNat=0:=by omega
 unfold ma;rw[e];rfl
def suF(x:(Int×Unit)×HH×List Int×HH×Unit):aW:=
 .need (oq x.2.2.2.1∧x.2.2.2.1.n+128<2305843009213693952) (.leaf (.exit 0) ((bg suC EK).wr (x.1,(x.2.1,x.2.2.1,ma x.2.2.2.1,()))))
theorem an7(h0:HH)(x):Ex Tryz.prog (rf.wr (h0,())) (.loop (a9 aCF 0)) ((bg suC EK).wr x) (suF x):=by
 obtain⟨⟨n,_⟩,g,r,h,_⟩:=x;refine Ex.need fun⟨h1,h2⟩=>?_;simp only at h1 h2
 refine wZ mixed Jg (LT:= []) (ws:=suW) (hp:=rf.wr (h0,())) (aJ.nil _) (fun h:HH=>((112-h.n)%128).toNat) (fun h:HH=>(bg suC EK).wr ((n,()),(g,r,h,()))) (fun h=>oq h∧h.n+(112-h.n)%128<2305843009213693952)
  (fun h=>.leaf (.exit 0) ((bg suC EK).wr ((n,()),(g,r,ma h,())))) (fun h _=>axj h0 g r h n) (fun h R hh hs=>?_) h ⟨h1,by omega⟩
 obtain⟨hh,dU⟩:=hh;have e:h.n.tmod 128=h.n%128:=Int.tmod_eq_emod_of_nonneg hh.n;rw[e];refine⟨fun hb=>?_,fun hb=>?_⟩
 ·have gR:¬h.n%128=112:=by simpa using hb
  obtain⟨k1,k2⟩:=WR gR;have e1:(cf h [0]).n=h.n+1:=by rw[k9];rfl
  refine⟨⟨hh,by omega⟩,.inl ⟨rfl,cf h [0],rfl,⟨jK _ hh,by rw[e1];omega⟩,k2,?_⟩⟩;show(aW.leaf (.exit 0) ((bg suC EK).wr ((n,()),(g,r,ma (cf h [0]),())))).sat R;rw[k1];exact hs
 ·have gR:h.n%128=112:=by simpa using hb
  rw[aff gR]at hs;exact .inr ⟨by simp,hs⟩
abbrev aCG:dL:= [(0,dx (bg suC EK) 1 [axi,afe,.auto] suF)]
def att(h:HH)(n:Int):HH:=cf (cf (ma (cf h [128])) (cD (shr .u64 n 61))) (cD (shl .u64 n 3))
def Jh(h:HH):List Int:=eZ (att h (u64.wrap h.n)).s
theorem EL(x:Int):(cD x).length=8:=rfl
theorem o6(s:List Int):(eZ s).length=64:=rfl
def an8:ao:=ao.cH [] ((aq p0 ae)) (rf) fun x_ y_=>(fun(h:HH)=>.leaf (some (oq h∧h.n<1152921504606846976)) (dQ .u8 64 (Jh h)) []) y_.1
theorem afg(h:HH):aN Tryz.prog afd aCG f43 (((aq p0 ae)).wr ()) ((rf).wr (h,())) [.fr [.sym],zU,.auto]=
 End.need (h.begun=true) (End.need (oq h∧h.n+(1:Int)<(2305843009213693952:Int)) (End.need (oq (cf h [(128:Int)])∧(cf h [(128:
 Int)]).n+(128:Int)<(2305843009213693952:Int)) (End.need (oq (ma (cf h [(128:Int)]))∧(ma (cf h [(128:Int)])).n+(8:Int)<
 (2305843009213693952:Int)) (End.need (oq (cf (ma (cf h [(128:Int)])) (cD (shr u64 (u64.wrap h.n) (61:Int))))∧(cf
 (ma (cf h [(128:Int)])) (cD (shr u64 (u64.wrap h.n) (61:Int)))).n+(8:Int)<(2305843009213693952:Int)) (End.need ((64
 :Nat)≤(64:Nat)) (End.need ((64:Nat)≤(64:Nat)) (End.leaf (LV.one (VV.agg [SV.arr (Ty.int IntKind.u8) (64:Nat) (List.take (64:Nat)
 (List.drop (0:Nat) (eZ (cf (cf (ma (cf h [(128:Int)])) (cD (shr u64 (u64.wrap h.n) (61:Int)))) (cD (shl
 u64 (u64.wrap h.n) (3:Int)))).s)))])) [some (Item.bH [SV.bool (SB.sym h.begun),SV.arr (Ty.int u64) (8:Nat) h.s,SV.int
 i64 (SI.sym h.n),SV.arr (Ty.int IntKind.u8) (128:Nat) h.wait] (76:Nat))]))))))):=by kernel_rfl
theorem N8:an8.Ok Tryz.prog 43:=by
 refine(ao.ba call43 fun x_ y_ Q H_=>?_).sym;obtain⟨h,_⟩:=y_;obtain⟨hn,hq⟩:=H_;have hn:oq h∧h.n<1152921504606846976:=hn;refine(au mixed Jg func43 rfl (LT:=aCG) (ks:= [.fr [.sym],zU,.auto]) (aJ.bW (jc rfl (bQ (hp:=rf.wr (h,())) (an7 h)) jh))).use (D:= []) ?_ hq;show(aN _ _ _ _ (((aq p0 ae)).wr ()) ((rf).wr (h,())) _).sat _;rw[afg];obtain⟨g1,g2⟩:=hn;have g3:=g1.n;have e1:(cf h [128]).n=h.n+1:=by rw[k9];rfl
 have k1:oq (cf h [128]):=jK _ g1;have k2:oq (ma (cf h [128])):=jK _ k1;have e2:(ma (cf h [128])).n≤h.n+128:=by unfold ma;rw[k9,e1,List.length_replicate];omega
 have k3:oq (cf (ma (cf h [128])) (cD (shr .u64 (u64.wrap h.n) 61))):=jK _ k2;have e3:(cf (ma (cf h [128])) (cD (shr .u64 (u64.wrap h.n) 61))).n≤h.n+136:=by rw[k9,EL];omega
 have e4:∀s,List.take 64 (List.drop 0 (eZ s))=eZ s:=fun s=>bI (o6 s);rw[e4];exact⟨g1.begun,⟨g1,by omega⟩,⟨k1,by omega⟩,⟨k2,by omega⟩,⟨k3,by omega⟩,by omega,by omega,rfl,rfl⟩
abbrev ofFn:Func:=f103
abbrev bW:List (FuncId×ao):= [(24,ae8),(25,zX),(43,an8)]
abbrev rrA:aY (List LV) (List (List Int)×Unit):=ag (ah (fR false false (.sl u8))) ae
abbrev ofC:aY (List LV) (List (List Int)×Int×Int×Unit):=(jk 2 (aq (ah (aU 0 0)) (aq (ah (aU 1 0)) (jk 3 (ag (ah (fR false false (.sl u8))) (ag (ah (aC .i64)) (ag (ah (aC .i64)) (jk 9 ae))))))))
abbrev aCI:Wk:=.fr (cC 19 [(2,.al),(3,.al),(7,.al),(8,.sym),(9,.sym)])
abbrev ofX:aY (List LV) (Unit):=(jk 2 (aq (ah (aU 0 0)) (aq (ah (aU 1 0)) (jk 15 ae))))
abbrev aHz:Wk:=.fr (cC 19 [(2,.al),(3,.al)])
abbrev Ji:aY Hp (List Int×HH×Unit):=ag (gJ 37 .u8 64) (ag (kY 76 cHH) ae)
abbrev afh:Wk:=.bH 1 [.sym,.al,.sym,.al]
def ofW:Exit→List Wk
 | .normal=> [aCI,afh,.auto]
 | .exit 0=> [aHz,afh,.auto]
 |_=> []
theorem axk(l:List (List Int))(n i:Int)(r:List Int)(h:HH):cY Tryz.prog bW [] ofFn 0 [] ofW ((bg ofC Ji).wr ((l,n,i,()),(r,h,())))=
 aW.ite (decide (i<n)) (aW.need ((0:Int)≤i∧i<(↑l.length:Int)) (aW.need (oq h∧h.n+(↑(List.length (l.getD i.toNat [])):Int)<
 (2305843009213693952:Int)) (aW.leaf Exit.normal ((bg ofC Ji).wr ((l,n,i64.wrap (i+(1:Int)),PUnit.unit),r,cf h (l.getD i.toNat
 []),PUnit.unit))))) (aW.leaf (Exit.exit (0:Nat)) ((bg ofX Ji).wr (PUnit.unit,r,h,PUnit.unit))):=by kernel_rfl
theorem Jj:∀p∈bW,p.2.Ok Tryz.prog p.1:=aj S5 (aj tw (aj N8 aw))
theorem B4{σ:Type}(g:σ→List Int→σ)(b:List (List Int)):∀ (m k:Nat) (s:σ),k+m=b.length→upto (fun k s=>g s (b.getD k [])) k m s=(b.drop k).foldl g s
 |0,k,s,h=>by rw[List.drop_eq_nil_of_le (by omega)];rfl
 |m+1,k,s,h=>by
  have e:b.drop k=b.getD k []::b.drop (k+1):=by
   rw[List.drop_eq_getElem_cons (by omega:k<b.length),List.getD_eq_getElem?_getD,List.getElem?_eq_getElem (by omega:k<b.length)];rfl
  rw[e];exact B4 g b m (k+1) _ (by omega)
theorem B5:∀ (l:List (List Int)) (h:HH),l.foldl cf h=cf h l.flatten
 | [],h=>rfl
 |b::l,h=>by rw[List.foldl_cons,B5 l,List.flatten_cons,gv]
def aCJ(x:(List (List Int)×Int×Int×Unit)×List Int×HH×Unit):aW:=
 .need (oq x.2.2.1∧x.1.2.1=x.1.1.length∧x.1.2.2.1=0∧x.1.1.length<2305843009213693952∧x.2.2.1.n+x.1.1.flatten.length<2305843009213693952) (.leaf (.exit 0) ((bg ofX Ji).wr ((),(x.2.1,cf x.2.2.1 x.1.1.flatten,()))))
theorem an9(x):Ex Tryz.prog [] (.loop (a9 ofFn 0)) ((bg ofC Ji).wr x) (aCJ x):=by
 obtain⟨⟨l,n,i,_⟩,r,h,_⟩:=x;refine Ex.need fun⟨h1,h2,h3,h4,h5⟩=>?_;simp only at h1 h2 h3 h4 h5;subst h2 h3
 have key:=dP (fn:=ofFn) (id:=0) (j:=0) (ws:=ofW) (hp:= []) mixed Jj (aJ.nil _) l.length (fun k h=>(bg ofC Ji).wr ((l,(l.length:Int),(k:Int),()),(r,h,()))) (fun h=>(bg ofX Ji).wr ((),(r,h,()))) (fun k h=>cf h (l.getD k [])) (fun k h=>oq h∧h.n+(l.drop k).flatten.length<2305843009213693952)
  (fun k h R hk hm hn hx=>?_) (fun k h hk hh=>⟨jK _ hh.1,?_⟩) 0 h (by omega) ⟨h1,h5⟩
 ·rw[Nat.sub_zero,B4 cf l _ _ _ (by omega),B5]at key;exact key
 ·obtain⟨hh,dU⟩:=hm;rw[axk];refine⟨fun hb=>?_,fun hb=>?_⟩
  ·have jl:k<l.length:=by have:=of_decide_eq_true hb;omega
   have e:l.drop k=l.getD k []::l.drop (k+1):=by
    rw[List.drop_eq_getElem_cons jl,List.getD_eq_getElem?_getD,List.getElem?_eq_getElem jl];rfl
   rw[e,List.flatten_cons,List.length_append]at dU;rw[cS k (by omega)];simp only[Int.toNat_natCast];exact⟨by omega,⟨hh,by omega⟩,hn jl⟩
  ·have:k=l.length:=(by have:=of_decide_eq_false hb;omega);exact hx this
 ·have e:l.drop k=l.getD k []::l.drop (k+1):=by
   rw[List.drop_eq_getElem_cons hk,List.getD_eq_getElem?_getD,List.getElem?_eq_getElem hk];rfl
  have h2:=hh.2;rw[e,List.flatten_cons,List.length_append]at h2;rw[k9];omega
abbrev ofLT:dL:= [(0,dx (bg ofC Ji) 0 [aCI,afh,.auto] aCJ)]
theorem qe:oq o5:=⟨rfl,by decide,rfl,rfl⟩
def la(b:List Int):List Int:=Jh (cf o5 b)
theorem N9(b:List Int):(la b).length=64:=rfl
def ofE:ao:=ao.cH [some (.sl u8)] (rrA) (ae) fun x_ y_=>(fun(l:List (List Int))=>.leaf (some (l.length<2305843009213693952∧l.flatten.length<1152921504606846976)) (dQ .u8 64 (la l.flatten)) []) x_.1
theorem aoa(l:List (List Int)):aN Tryz.prog bW ofLT f103 ((rrA).wr (l,())) ((ae).wr ()) [.fr [.sym],.auto]=
 End.need (oq {begun:=true,s:= [(7640891576956012808:Int),(13503953896175478587:Int),(4354685564936845355:Int),(11912009170470909681:Int),(5840696475078001361:Int),(11170449401992604703:Int),(2270897969802886507:Int),(6620516959819538809:Int)],n:=(0:Int),wait:=List.replicate (128:Nat) (0:Int)}
 ∧(↑l.length:Int)=(↑l.length:Int)∧(0:Int)=(0:Int)∧l.length<(2305843009213693952:Nat)∧(0:Int)+(↑l.flatten.length:Int)<
 (2305843009213693952:Int)) (End.need (oq (cf {begun:=true,s:= [(7640891576956012808:Int),(13503953896175478587:Int),(4354685564936845355:Int),(11912009170470909681:Int),(5840696475078001361:Int),(11170449401992604703:Int),(2270897969802886507:Int),(6620516959819538809:Int)],n:=(0:Int),wait:=List.replicate (128:Nat) (0:Int)}
 l.flatten)∧(cf {begun:=true,s:= [(7640891576956012808:Int),(13503953896175478587:Int),(4354685564936845355:Int),(11912009170470909681:Int),(5840696475078001361:Int),(11170449401992604703:Int),(2270897969802886507:Int),(6620516959819538809:Int)],n:=(0:Int),wait:=List.replicate (128:Nat) (0:Int)}
 l.flatten).n<(1152921504606846976:Int)) (End.leaf (LV.one (VV.agg [SV.arr (Ty.int IntKind.u8) (64:Nat) (Jh (cf {begun:=true,s:= [(7640891576956012808:Int),(13503953896175478587:Int),(4354685564936845355:Int),(11912009170470909681:Int),(5840696475078001361:Int),(11170449401992604703:Int),(2270897969802886507:Int),(6620516959819538809:Int)],n:=(0:Int),wait:=List.replicate (128:Nat) (0:Int)}
 l.flatten))])) [])):=by kernel_rfl
theorem atu:ofE.Ok Tryz.prog 103:=by
 refine(ao.ba call103 fun x_ y_ Q H_=>?_).sym;obtain⟨l,_⟩:=x_;obtain⟨hn,hq⟩:=H_;have hn:l.length<2305843009213693952∧l.flatten.length<1152921504606846976:=hn;refine(au mixed Jj func103 rfl (LT:=ofLT) (ks:= [.fr [.sym],.auto]) (aJ.bW (jc rfl (bQ (hp:= []) an9) jh))).use (D:= []) ?_ hq;show(aN _ _ _ _ ((rrA).wr (l,())) ((ae).wr ()) _).sat _;rw[aoa];have e:(cf o5 l.flatten).n=l.flatten.length:=by rw[k9];show(0:Int)+_=_;omega
 exact⟨⟨qe,rfl,rfl,hn.1,by omega⟩,⟨jK _ qe,by show(cf o5 l.flatten).n<_;rw[e];omega⟩,rfl,rfl⟩
def fD(b:List Int):List Int:=la (b.take 160)
def x8:ao:=ao.cH [some u8] (bA) (ae) fun x_ y_=>(fun(b:List Int)=>.leaf (some (b.length<1152921504606846976)) (dQ .u8 64 (fD b)) []) x_.1
theorem Jk(b:List Int):aN Tryz.prog [(103,ofE)] [] f73 ((bA).wr (b,())) ((ae).wr ()) [.fr [.sym],.auto]=
 End.need ((0:Int)≤(0:Int)∧((0:Int)≤if(160:Int)<(↑b.length:Int)then(160:Int)else(↑b.length:Int))∧(if(160:Int)<
 (↑b.length:Int)then(160:Int)else(↑b.length:Int))≤(↑b.length:Int)) (End.need ((1:Nat)<(2305843009213693952:Nat)∧ [List.take ((if
 (160:Int)<(↑b.length:Int)then(160:Int)else(↑b.length:Int))-(0:Int)).toNat (List.drop (0:Nat) b)].flatten.length<
 (1152921504606846976:Nat)) (End.leaf (LV.one (VV.agg [SV.arr (Ty.int IntKind.u8) (64:Nat) (la [List.take ((if(160:Int)<(↑b.length:Int)
 then(160:Int)else(↑b.length:Int))-(0:Int)).toNat (List.drop (0:Nat) b)].flatten)])) [])):=by kernel_rfl
theorem WS:x8.Ok Tryz.prog 73:=by
 refine(ao.ba call73 fun x_ y_ Q H_=>?_).sym;obtain⟨b,_⟩:=x_;obtain⟨hn,hq⟩:=H_;have hn:b.length<1152921504606846976:=hn;refine(au mixed ((aj atu aw)) func73 rfl (LT:= []) (ks:= [.fr [.sym],.auto]) (aJ.nil _)).use (D:= []) ?_ hq;show(aN _ _ _ _ ((bA).wr (b,())) ((ae).wr ()) _).sat _;rw[Jk]
 have e:List.take ((if(160:Int)<b.length then(160:Int)else b.length)-0).toNat (List.drop 0 b)=b.take 160:=by
  rw[List.drop_zero]
  split
  ·rfl
  ·rw[List.take_of_length_le (by omega),List.take_of_length_le (by omega)]
 rw[e,List.flatten_singleton];refine⟨⟨by omega,by split<;>omega,by split<;>omega⟩,⟨by omega,by simp;omega⟩,rfl,rfl⟩
def Oa:ao:=ao.cH [] ((ag (ah (aC .u64)) ae)) (ae) fun x_ y_=>(fun(x:Int)=>.leaf none (.one (.sc (.sl 0 0))) [(0,.own 0 u8 (cD x))]) x_.1
theorem Ob(x:Int):aN Tryz.prog [] [] f55 (((ag (ah (aC .u64)) ae)).wr (x,())) ((ae).wr ()) [.auto,.aE]=
 End.need ((8:Int)=(8:Int)∧(0:Int)≤(8:Int)∧(8:Int)≤(70368744177664:Int)∧(8:Int)≤(70368744177664:Int)) (End.need ((0:Int)
 ≤(0:Int)∧(0:Int)<(8:Int)) (End.need ((0:Int)≤(1:Int)∧(1:Int)<(8:Int)) (End.need ((0:Int)≤(2:Int)∧(2:Int)<(8:
 Int)) (End.need ((0:Int)≤(3:Int)∧(3:Int)<(8:Int)) (End.need ((0:Int)≤(4:Int)∧(4:Int)<(8:Int)) (End.need ((0:Int)≤(5:
 Int)∧(5:Int)<(8:Int)) (End.need ((0:Int)≤(6:Int)∧(6:Int)<(8:Int)) (End.need ((0:Int)≤(7:Int)∧(7:Int)<(8:Int))
 (End.leaf (LV.one (VV.sc (SV.sl (0:Nat) (0:Nat)))) [some (Item.own (0:Nat) (Ty.int IntKind.u8) (((((((((List.replicate (8:Nat) (0:Int)).set
 (0:Nat) (IntKind.u8.wrap (shr u64 x (56:Int)))).set (1:Nat) (IntKind.u8.wrap (shr u64 x (48:Int)))).set (2:Nat)
 (IntKind.u8.wrap (shr u64 x (40:Int)))).set (3:Nat) (IntKind.u8.wrap (shr u64 x (32:Int)))).set (4:Nat) (IntKind.u8.wrap (shr
 u64 x (24:Int)))).set (5:Nat) (IntKind.u8.wrap (shr u64 x (16:Int)))).set (6:Nat) (IntKind.u8.wrap (shr u64 x (8:
 Int)))).set (7:Nat) (IntKind.u8.wrap (shr u64 x (0:Int)))))]))))))))):=by kernel_rfl
theorem Jl:Oa.Ok Tryz.prog 55:=by
 refine(ao.ba call55 fun x_ y_ Q H_=>?_).sym;obtain⟨x,_⟩:=x_;have hq:=H_.2;refine(au mixed aw func55 rfl (LT:= []) (ks:= [.auto,.aE]) (aJ.nil _)).use (D:= [(0,.own 0 u8 (cD x))]) ?_ hq;show(aN _ _ _ _ (((ag (ah (aC .u64)) ae)).wr (x,())) ((ae).wr ()) _).sat _;rw[Ob];exact⟨by omega,by omega,by omega,by omega,by omega,by omega,by omega,by omega,by omega,rfl,rfl⟩
abbrev atv:Func:=f57
abbrev Oc:List (FuncId×ao):= [(86,S3),(87,ae6)]
theorem B6:∀p∈Oc,p.2.Ok Tryz.prog p.1:=aj WL (aj ae7 aw)
abbrev axl:aY (List LV) (List Int×List Int×Unit):=ag (te .u64 8) (ag (ah (fR false false u8)) ae)
abbrev ovC:aY (List LV) (List Int×Unit):=(jk 1 (ag (ah (fR false false u8)) (aq (ah (aU 0 0)) (jk 1 (aq (ah (aU 1 0)) (jk 17 ae))))))
abbrev aCL:Wk:=.fr (cC 22 [(1,.al),(2,.al),(4,.al)])
abbrev ovX:aY (List LV) (Unit):=(jk 2 (aq (ah (aU 0 0)) (jk 1 (aq (ah (aU 1 0)) (jk 17 ae)))))
abbrev aHC:Wk:=.fr (cC 22 [(2,.al),(4,.al)])
abbrev ovH:aY Hp (List Int×List Int×Unit):=ag (gJ 73 .u64 8) (ag (gJ 73 .u64 8) ae)
def ovW:Exit→List Wk
 | .normal=> [aCL,.auto]
 | .exit 0=> [aHC,.auto]
 |_=> []
theorem axm(b s r:List Int):cY Tryz.prog Oc [] atv 0 [] ovW ((bg ovC ovH).wr ((b,()),(s,r,())))=
 aW.ite (decide ((128:Int)≤(↑b.length:Int))) (aW.need ((0:Int)≤(0:Int)∧(0:Int)≤(128:Int)∧(128:Int)≤(↑b.length:Int))
 (aW.need ((List.take (128:Nat) (List.drop (0:Nat) b)).length=(128:Nat)) (aW.need (s.length=(8:Nat)∧(16:Nat)=(16:Nat)) (aW.need
 ((0:Int)≤(128:Int)∧(128:Int)≤(↑b.length:Int)∧(↑b.length:Int)≤(↑b.length:Int)) (aW.leaf Exit.normal ((bg ovC ovH).wr ((List.take
 ((↑b.length:Int)-(128:Int)).toNat (List.drop (128:Nat) b),PUnit.unit),o4 s (iI (List.take (128:Nat) (List.drop (0:Nat) b))),r,
 PUnit.unit))))))) (aW.leaf (Exit.exit (0:Nat)) ((bg ovX ovH).wr (PUnit.unit,s,r,PUnit.unit))):=by kernel_rfl
def tx:Nat→List Int→List Int→List Int
 |0,s,_=>s
 |k+1,s,b=>tx k (o4 s (iI (b.take 128))) (b.drop 128)
def lL(s b:List Int):List Int:=tx (b.length/128) s b
theorem Od{s b:List Int}(h:128≤b.length):lL s b=lL (o4 s (iI (b.take 128))) (b.drop 128):=by
 unfold lL;have e:b.length/128=(b.drop 128).length/128+1:=by rw[List.length_drop];omega
 rw[e];rfl
theorem WT{s b:List Int}(h:b.length<128):lL s b=s:=by
 unfold lL;rw[show b.length/128=0 from by omega];rfl
def ovF(x:(List Int×Unit)×List Int×List Int×Unit):aW:=
 .need (x.2.1.length=8) (.leaf (.exit 0) ((bg ovX ovH).wr ((),(lL x.2.1 x.1.1,x.2.2.1,()))))
theorem aob(x):Ex Tryz.prog [] (.loop (a9 atv 0)) ((bg ovC ovH).wr x) (ovF x):=by
 obtain⟨⟨b,_⟩,s,r,_⟩:=x;refine Ex.need fun h1=>?_;simp only at h1
 refine wZ mixed B6 (LT:= []) (ws:=ovW) (hp:= []) (aJ.nil _) (fun x:List Int×List Int=>x.1.length) (fun x:List Int×List Int=>(bg ovC ovH).wr ((x.1,()),(x.2,r,()))) (fun x=>x.2.length=8)
  (fun x=>.leaf (.exit 0) ((bg ovX ovH).wr ((),(lL x.2 x.1,r,())))) (fun x _=>axm x.1 x.2 r) (fun x R hh hs=>?_) (b,s) h1
 obtain⟨b,s⟩:=x;simp only at hh hs ⊢;refine⟨fun hb=>?_,fun hb=>?_⟩
 ·have gR:128≤b.length:=by have:=of_decide_eq_true hb;omega
  have e1:List.take 128 (List.drop 0 b)=b.take 128:=by rw[List.drop_zero]
  have e2:List.take ((b.length:Int)-128).toNat (List.drop 128 b)=b.drop 128:=by rw[List.take_of_length_le (by simp;omega)]
  rw[e1,e2];rw[Od gR]at hs;exact⟨by omega,by simp;omega,⟨hh,trivial⟩,by omega,.inl ⟨rfl,(b.drop 128,o4 s (iI (b.take 128))),rfl,xb _ _,by simp;omega,hs⟩⟩
 ·have gR:b.length<128:=by have:=of_decide_eq_false hb;omega
  rw[WT gR]at hs;exact .inr ⟨by simp,hs⟩
abbrev aCM:dL:= [(0,dx (bg ovC ovH) 0 [aCL,.db 1 0 8 .u64,.auto] ovF)]
def afi:ao:=ao.cH [none,some u8] (axl) (ae) fun x_ y_=>(fun(s b:List Int)=>.leaf (some (s.length=8)) (dQ .u64 8 (lL s b)) []) x_.1 x_.2.1
theorem Oe(s b:List Int):aN Tryz.prog Oc aCM f57 ((axl).wr (s,b,())) ((ae).wr ()) [.fr [.sym],.auto]=
 End.need (s.length=(8:Nat)) (End.leaf (LV.one (VV.agg [SV.arr (Ty.int u64) (8:Nat) (lL s b)])) []):=by kernel_rfl
theorem afj:afi.Ok Tryz.prog 57:=by
 refine(ao.ba call57 fun x_ y_ Q H_=>?_).sym;obtain⟨s,b,_⟩:=x_;obtain⟨hn,hq⟩:=H_;have hn:s.length=8:=hn;refine(au mixed B6 func57 rfl (LT:=aCM) (ks:= [.fr [.sym],.auto]) (aJ.bW (jc rfl (bQ (hp:= []) aob) jh))).use (D:= []) ?_ hq;show(aN _ _ _ _ ((axl).wr (s,b,())) ((ae).wr ()) _).sat _;rw[Oe];exact⟨hn,rfl,rfl⟩
def S7:ao:=ao.cH [] ((ag (te .u64 8) ae)) (ae) fun x_ y_=>(fun(s:List Int)=>.leaf none (.one (.sc (.sl 0 0))) [(0,.own 0 u8 (eZ s))]) x_.1
theorem Jm(s:List Int):aN Tryz.prog [(55,Oa)] [] f85 (((ag (te .u64 8) ae)).wr (s,())) ((ae).wr ()) [.auto,.aE]=
 End.need ((8:Nat)≤(70368744177664:Nat)∧(8:Nat)≤(70368744177664:Nat)) (End.need ((16:Nat)≤(70368744177664:Nat)∧(16:Nat)≤
 (70368744177664:Nat)) (End.need ((24:Nat)≤(70368744177664:Nat)∧(24:Nat)≤(70368744177664:Nat)) (End.need ((32:Nat)≤(70368744177664:
 Nat)∧(32:Nat)≤(70368744177664:Nat)) (End.need ((40:Nat)≤(70368744177664:Nat)∧(40:Nat)≤(70368744177664:Nat)) (End.need ((48:Nat)
 ≤(70368744177664:Nat)∧(48:Nat)≤(70368744177664:Nat)) (End.need ((56:Nat)≤(70368744177664:Nat)∧(56:Nat)≤(70368744177664:Nat))
 (End.need ((64:Nat)≤(70368744177664:Nat)∧(64:Nat)≤(70368744177664:Nat)) (End.leaf (LV.one (VV.sc (SV.sl (0:Nat) (0:Nat)))) [some
 (Item.own (0:Nat) (Ty.int IntKind.u8) (cD (s.getD (0:Nat) (0:Int))++cD (s.getD (1:Nat) (0:Int))++cD (s.getD (2:Nat) (0:
 Int))++cD (s.getD (3:Nat) (0:Int))++cD (s.getD (4:Nat) (0:Int))++cD (s.getD (5:Nat) (0:Int))++cD (s.getD (6:Nat)
 (0:Int))++cD (s.getD (7:Nat) (0:Int))))])))))))):=by kernel_rfl
theorem WU:S7.Ok Tryz.prog 85:=by
 refine(ao.ba call85 fun x_ y_ Q H_=>?_).sym;obtain⟨s,_⟩:=x_;have hq:=H_.2;refine(au mixed ((aj Jl aw)) func85 rfl (LT:= []) (ks:= [.auto,.aE]) (aJ.nil _)).use (D:= [(0,.own 0 u8 (eZ s))]) ?_ hq;show(aN _ _ _ _ (((ag (te .u64 8) ae)).wr (s,())) ((ae).wr ()) _).sat _;rw[Jm];exact⟨by omega,by omega,by omega,by omega,by omega,by omega,by omega,by omega,rfl,rfl⟩
abbrev axn:Func:=f56
abbrev flC:aY (List LV) (Int×Unit):=(jk 2 (aq (ah (aU 0 0)) (aq (ah (aU 1 0)) (aq (ah (u5 2 0)) (ag (ah (aC .i64)) (jk 14 ae))))))
abbrev aCO:Wk:=.fr (cC 20 [(2,.al),(3,.al),(4,.al),(5,.sym)])
abbrev flX:aY (List LV) (Unit):=(jk 2 (aq (ah (aU 0 0)) (aq (ah (aU 1 0)) (jk 16 ae))))
abbrev aHE:Wk:=.fr (cC 20 [(2,.al),(3,.al)])
abbrev flH:aY Hp (List Int×List Int×List Int×Unit):=ag (gJ 37 .u8 64) (ag (gJ 37 .u8 64) (ag (eX 0 u8) ae))
abbrev axo:aY Hp (List Int×List Int×Unit):=ag (gJ 37 .u8 64) (ag (gJ 37 .u8 64) ae)
def flW:Exit→List Wk
 | .normal=> [aCO,.auto]
 | .exit 0=> [aHE,.auto]
 |_=> []
theorem axp(i:Int)(r o b:List Int):cY Tryz.prog [] [] axn 0 [] flW ((bg flC flH).wr ((i,()),(r,o,b,())))=
 aW.ite (decide (i<(64:Int))) (aW.need ((0:Int)≤i∧i<(↑b.length:Int)) (aW.need ((0:Int)≤i∧i<(64:Int)) (aW.leaf Exit.normal
 ((bg flC flH).wr ((i64.wrap (i+(1:Int)),PUnit.unit),r,o.set ((0:Nat)+i.toNat) (b.getD i.toNat (0:Int)),b,PUnit.unit)))))
 (aW.leaf (Exit.exit (0:Nat)) ((bg flX axo).wr (PUnit.unit,r,o,PUnit.unit))):=by kernel_rfl
def flF(x:(Int×Unit)×List Int×List Int×List Int×Unit):aW:=
 .need (x.1.1=0∧x.2.2.1.length=64∧x.2.2.2.1.length=64) (.leaf (.exit 0) ((bg flX axo).wr ((),(x.2.1,x.2.2.2.1,()))))
theorem aoc(x):Ex Tryz.prog [] (.loop (a9 axn 0)) ((bg flC flH).wr x) (flF x):=by
 obtain⟨⟨i,_⟩,r,o,b,_⟩:=x;refine Ex.need fun⟨h1,h2,h3⟩=>?_;simp only at h1 h2 h3;subst h1
 have key:=dP (fn:=axn) (id:=0) (j:=0) (ws:=flW) (hp:= []) mixed aw (aJ.nil _) 64 (fun k o=>(bg flC flH).wr (((k:Int),()),(r,o,b,()))) (fun o=>(bg flX axo).wr ((),(r,o,()))) (fun k o=>o.set k (b.getD k 0)) (fun _ o=>o.length=64)
  (fun k o R hk hm hn hx=>?_) (fun k o hk hh=>by simpa using hh) 0 o (by omega) h2
 ·rw[Nat.sub_zero,jx _ h2,HW h3]at key;exact key
 rw[axp];refine⟨fun hb=>?_,fun hb=>?_⟩
 ·have jl:k<64:=by have:=of_decide_eq_true hb;omega
  rw[cS k (by omega)];simp only[Int.toNat_natCast,Nat.zero_add];exact⟨by omega,by omega,hn jl⟩
 ·have:k=64:=by have:=of_decide_eq_false hb;omega
  exact hx this
abbrev aCQ:dL:= [(0,dx (bg flC flH) 0 [aCO,.auto,.aE] flF)]
abbrev atx:List (FuncId×ao):= [(85,S7)]
theorem afk:∀p∈atx,p.2.Ok Tryz.prog p.1:=aj WU aw
def afl:ao:=ao.cH [] ((ag (te .u64 8) ae)) (ae) fun x_ y_=>(fun(s:List Int)=>.leaf none (dQ .u8 64 (eZ s)) []) x_.1
theorem Of(s:List Int):aN Tryz.prog atx aCQ f56 (((ag (te .u64 8) ae)).wr (s,())) ((ae).wr ()) [.fr [.sym],.auto]=
 End.need ((0:Int)=(0:Int)∧(64:Nat)=(64:Nat)∧(64:Nat)=(64:Nat)) (End.leaf (LV.one (VV.agg [SV.arr (Ty.int IntKind.u8) (64:Nat)
 (eZ s)])) []):=by kernel_rfl
theorem afm:afl.Ok Tryz.prog 56:=by
 refine(ao.ba call56 fun x_ y_ Q H_=>?_).sym;obtain⟨s,_⟩:=x_;have hq:=H_.2;refine(au mixed afk func56 rfl (LT:=aCQ) (ks:= [.fr [.sym],.auto]) (aJ.bW (jc rfl (bQ (hp:= []) aoc) jh))).use (D:= []) ?_ hq;show(aN _ _ _ _ (((ag (te .u64 8) ae)).wr (s,())) ((ae).wr ()) _).sat _;rw[Of];exact⟨⟨rfl,rfl,rfl⟩,rfl,rfl⟩
abbrev aCR:Func:=f31
abbrev afn:List (FuncId×ao):= [(55,Oa),(58,S2),(57,afi),(56,afl)]
abbrev roC:aY (List LV) (List Int×Unit):=(ag (ah (fR false false u8)) (jk 1 (aq (ah (aU 0 0)) (aq (ah (u5 1 0)) (jk 23 ae)))))
abbrev axq:Wk:=.fr (cC 27 [(0,.al),(2,.al),(3,.al)])
abbrev roH:aY Hp (List Int×List Int×Unit):=ag (gJ 37 .u8 64) (ag (eX 0 u8) ae)
def roW:Exit→List Wk
 | .normal=> [axq,.auto,.aE]
 | .exit 0=> [axq,.auto,.aE]
 |_=> []
theorem axr(b r l:List Int):cY Tryz.prog afn [] aCR 0 [] roW ((bg roC roH).wr ((b,()),(r,l,())))=
 aW.ite ((↑l.length:Int).tmod (128:Int)!=(112:Int)) (aW.need ((l.length+(1:Nat))*(1:Nat)≤(70368744177664:Nat)∧l.length+(1:
 Nat)≤(70368744177664:Nat)) (aW.leaf Exit.normal ((bg roC roH).wr ((b,PUnit.unit),r,l++ [(0:Int)],PUnit.unit)))) (aW.leaf (Exit.exit (0:
 Nat)) ((bg roC roH).wr ((b,PUnit.unit),r,l,PUnit.unit))):=by kernel_rfl
theorem Jo:∀p∈afn,p.2.Ok Tryz.prog p.1:=aj Jl (aj WK (aj afj (aj afm aw)))
def ot(l:List Int):List Int:=l++List.replicate ((112-(l.length:Int))%128).toNat 0
theorem WV{l:List Int}(hz:¬ (l.length:Int)%128=112):ot (l++ [0])=ot l∧((112-((l++ [0]).length:Int))%128).toNat<((112-(l.length:Int))%128).toNat:=by
 have e1:((l++ [(0:Int)]).length:Int)=l.length+1:=by simp
 have e2:((112-(l.length:Int))%128).toNat=((112-((l++ [(0:Int)]).length:Int))%128).toNat+1:=by rw[e1];omega
 refine⟨?_,by omega⟩;unfold ot;rw[e2,List.replicate_succ];simp
theorem afo{l:List Int}(hz:(l.length:Int)%128=112):ot l=l:=by
 have e:((112-(l.length:Int))%128).toNat=0:=by omega
 unfold ot;rw[e];simp
def roF(x:(List Int×Unit)×List Int×List Int×Unit):aW:=
 .need (x.2.2.1.length≤35184372088832) (.leaf (.exit 0) ((bg roC roH).wr (x.1,(x.2.1,ot x.2.2.1,()))))
theorem aof(x):Ex Tryz.prog [] (.loop (a9 aCR 0)) ((bg roC roH).wr x) (roF x):=by
 obtain⟨⟨b,_⟩,r,l,_⟩:=x;refine Ex.need fun h1=>?_;simp only at h1
 refine wZ mixed Jo (LT:= []) (ws:=roW) (hp:= []) (aJ.nil _) (fun l:List Int=>((112-(l.length:Int))%128).toNat) (fun l:List Int=>(bg roC roH).wr ((b,()),(r,l,()))) (fun l=>(l.length:Int)+(112-(l.length:Int))%128<70368744177664)
  (fun l=>.leaf (.exit 0) ((bg roC roH).wr ((b,()),(r,ot l,())))) (fun l _=>axr b r l) (fun l R hh hs=>?_) l (by omega)
 have e:(l.length:Int).tmod 128=(l.length:Int)%128:=Int.tmod_eq_emod_of_nonneg (by omega);rw[e];refine⟨fun hb=>?_,fun hb=>?_⟩
 ·have gR:¬ (l.length:Int)%128=112:=by simpa using hb
  obtain⟨k1,k2⟩:=WV gR;have e1:((l++ [(0:Int)]).length:Int)=l.length+1:=by simp
  refine⟨by omega,.inl ⟨rfl,l++ [0],rfl,by rw[e1];omega,k2,?_⟩⟩;show(aW.leaf (.exit 0) ((bg roC roH).wr ((b,()),(r,ot (l++ [0]),())))).sat R;rw[k1];exact hs
 ·have gR:(l.length:Int)%128=112:=by simpa using hb
  rw[afo gR]at hs;exact .inr ⟨by simp,hs⟩
abbrev aCS:dL:= [(0,dx (bg roC roH) 0 [axq,.auto,.aE] roF)]
def ko(b:List Int):List Int:=eZ (lL jA (ot (b++ [128])++List.replicate 8 0++cD (u64.wrap (8*u64.wrap b.length))))
def axs:ao:=ao.cH [some u8] (bA) (ae) fun x_ y_=>(fun(b:List Int)=>.leaf (some (b.length≤17592186044416)) (dQ .u8 64 (ko b)) []) x_.1
theorem afp(b:List Int):aN Tryz.prog afn aCS f31 ((bA).wr (b,())) ((ae).wr ()) [.fr [.sym],.auto]=
 End.need (b.length*(1:Nat)≤(70368744177664:Nat)∧b.length≤(70368744177664:Nat)) (End.need ((b.length+(1:Nat))*(1:Nat)≤
 (70368744177664:Nat)∧b.length+(1:Nat)≤(70368744177664:Nat)) (End.need ((b++ [(128:Int)]).length≤(35184372088832:Nat)) (End.need ((0
 :Int)≤(8:Int)∧((ot (b++ [(128:Int)])).length+(8:Nat))*(1:Nat)≤(70368744177664:Nat)∧(ot (b++ [(128:Int)])).length+(8:
 Nat)≤(70368744177664:Nat)) (End.need (((ot (b++ [(128:Int)])++List.replicate (8:Nat) (0:Int)).length+(8:Nat))*(1:Nat)≤
 (70368744177664:Nat)∧(ot (b++ [(128:Int)])++List.replicate (8:Nat) (0:Int)).length+(8:Nat)≤(70368744177664:Nat)) (End.need ((8:
 Nat)=(8:Nat)) (End.leaf (LV.one (VV.agg [SV.arr (Ty.int IntKind.u8) (64:Nat) (eZ (lL jA (ot (b++ [(128:Int)])++List.replicate
 (8:Nat) (0:Int)++cD (u64.wrap ((8:Int)*u64.wrap (↑b.length:Int))))))])) [])))))):=by kernel_rfl
theorem afq:axs.Ok Tryz.prog 31:=by
 refine(ao.ba call31 fun x_ y_ Q H_=>?_).sym;obtain⟨b,_⟩:=x_;obtain⟨hn,hq⟩:=H_;have hn:b.length≤17592186044416:=hn;refine(au mixed Jo func31 rfl (LT:=aCS) (ks:= [.fr [.sym],.auto]) (aJ.bW (jc rfl (bQ (hp:= []) aof) jh))).use (D:= []) ?_ hq;show(aN _ _ _ _ ((bA).wr (b,())) ((ae).wr ()) _).sat _;rw[afp];have e:(ot (b++ [128])).length≤b.length+129:=by unfold ot;simp;omega
 exact⟨by omega,by omega,by simp;omega,by omega,by simp;omega,rfl,rfl,rfl⟩
theorem lb(k:Nat)(s b:List Int):tx (k+1) s b=tx k (o4 s (iI (b.take 128))) (b.drop 128):=rfl
theorem zY(s b:List Int):tx 0 s b=s:=rfl
theorem rQ:∀ (k:Nat) (s b c:List Int),b.take (128*k)=c.take (128*k)→128*k≤b.length→128*k≤c.length→tx k s b=tx k s c
 |0,_,_,_,_,_,_=>rfl
 |k+1,s,b,c,h,hb,hc=>by
  have e1:b.take 128=c.take 128:=by
   have:=congrArg (List.take 128) h;rw[List.take_take,List.take_take,Nat.min_eq_left (by omega)]at this;exact this
  have e2:(b.drop 128).take (128*k)=(c.drop 128).take (128*k):=by
   have:=congrArg (List.drop 128) h;rw[List.drop_take,List.drop_take,show 128*(k+1)-128=128*k from by omega]at this;exact this
  rw[lb,lb,e1];exact rQ k _ _ _ e2 (by rw[List.length_drop];omega) (by rw[List.length_drop];omega)
theorem zZ:∀ (k:Nat) (s a b:List Int),a.length=128*k→b.length=128→tx (k+1) s (a++b)=o4 (tx k s a) (iI b)
 |0,s,a,b,ha,hb=>by
  have:a= []:=List.eq_nil_of_length_eq_zero (by omega);subst this;rw[lb,zY,zY,List.nil_append,List.take_of_length_le (by omega)]
 |k+1,s,a,b,ha,hb=>by
  rw[lb (k+1),lb k s a,List.take_append_of_le_length (by omega),List.drop_append_of_le_length (by omega)];exact zZ k _ (a.drop 128) b (by rw[List.length_drop];omega) hb
structure HP (h:HH) (row:List Int):Prop where
 ok:oq h
 n:h.n=row.length
 s:h.s=lL jA row
 wait:h.wait.take (row.length%128)=row.drop (row.length/128*128)
theorem HP.byte{h:HH}{row:List Int}(hp:HP h row)(c:Int):HP (lK h c) (row++ [c]):=by
 obtain⟨h0,h1,h2,h3⟩:=hp;have hw:=h0.wait;have hn:(h.n%128).toNat=row.length%128:=by rw[h1];omega
 have rz:(h.wait.set (row.length%128) c).take (row.length%128+1)=row.drop (row.length/128*128)++ [c]:=by
  rw[List.take_add_one,List.take_set_of_le (Nat.le_refl _),h3];simp[show row.length%128<h.wait.length by omega]
 refine⟨zV h0 c,?_,?_,?_⟩
 ·rw[EI,h1];simp
 ·unfold lK
  by_cases hz:(h.n+1)%128=0
  ·rw[if_pos hz,hn];simp only;have hl:row.length%128=127:=by omega
   have aCT:h.wait.set (row.length%128) c=row.drop (row.length/128*128)++ [c]:=by
    rw[← rz,List.take_of_length_le (by simp;omega)]
   have hk:(row++ [c]).length/128=row.length/128+1:=(by simp;omega);rw[aCT,h2];unfold lL;rw[hk];have e:row++ [c]=row.take (row.length/128*128)++(row.drop (row.length/128*128)++ [c]):=(by rw[← List.append_assoc,List.take_append_drop]);rw[e,zZ _ _ _ _ (by rw[List.length_take];omega) (by simp;omega)]
   congr 1
   exact rQ _ _ _ _ (by rw[List.take_take];congr 1;omega) (by omega) (by rw[List.length_take];omega)
  ·rw[if_neg hz];simp only;have hk:(row++ [c]).length/128=row.length/128:=(by simp;omega);rw[h2];unfold lL;rw[hk];exact rQ _ _ _ _ (by rw[List.take_append_of_le_length (by omega)]) (by omega) (by simp;omega)
 ·have hwb:(lK h c).wait=h.wait.set (row.length%128) c:=by unfold lK;split<;>simp only[hn]
  rw[hwb]
  by_cases hz:(row.length+1)%128=0
  ·have e1:(row++ [c]).length%128=0:=(by simpa using hz);have e2:(row++ [c]).length/128*128=(row++ [c]).length:=(by omega);rw[e1,e2,List.drop_length];rfl
  ·have e1:(row++ [c]).length%128=row.length%128+1:=(by simp;omega);have e2:(row++ [c]).length/128*128=row.length/128*128:=(by simp;omega);rw[e1,e2,rz,List.drop_append_of_le_length (by omega)]
theorem HP.put:∀ (b:List Int) {h:HH} {row:List Int},HP h row→HP (cf h b) (row++b)
 | [],h,row,hp=>by simpa [cf]using hp
 |c::b,h,row,hp=>by
  have:=HP.put b (hp.byte c);rw[List.append_assoc]at this;exact this
theorem HP.new:HP o5 []:=⟨qe,rfl,rfl,rfl⟩
theorem HP.of(b:List Int):HP (cf o5 b) b:=by simpa using HP.new.put b
theorem axt:cD 0=List.replicate 8 0:=by decide
theorem Og{b:List Int}(hb:b.length≤17592186044416):la b=ko b:=by
 unfold la Jh att ko;have hn:(cf o5 b).n=b.length:=(HP.of b).n;have hw:u64.wrap (b.length:Int)=b.length:=wrap_u64 (by omega) (by omega)
 have e1:shr .u64 (b.length:Int) 61=0:=by
  have:=ee .u64 (b.length:Int) 61 (by decide);rw[show((61:Nat):Int)=61 from rfl]at this;rw[this]
  exact Int.ediv_eq_zero_of_lt (by omega) (by have:(2 ^ 61:Nat)=2305843009213693952:=by decide
                                              omega)
 have e2:shl .u64 (b.length:Int) 3=u64.wrap (8*(b.length:Int)):=by
  have:=iE .u64 (b.length:Int) 3 (by decide);rw[show((3:Nat):Int)=3 from rfl]at this;rw[this,Int.mul_comm];rfl
 rw[hn,hw,e1,e2,axt]
 have hp:ma (cf (cf o5 b) [128])=cf o5 (ot (b++ [128])):=by
  unfold ma ot;rw[← gv o5 b,gv o5 (b++ [128]) (List.replicate _ 0),(HP.of (b++ [128])).n]
 rw[hp,← gv,← gv,(HP.of _).s,List.append_assoc]
end Go.Proofs.YtcbjpiangpjbgaaGreat
end
