/- What the laws lean on, part 11: a reader of code, plain facts, and what each function gives; no conditions. -/
import Derived.Test.YtnbkagglkajbkaaGreatC10
set_option linter.unusedVariables false
set_option linter.unusedSimpArgs false
noncomputable section
namespace Go.Proofs.YtnbkagglkajbkaaGreat
open Go Go.Ev Go.Proofs.Tryz
open Go.IntKind (i64 signed u16 u64 wrap)
set_option maxRecDepth 100000
abbrev uiC:aQ (List LV) (Int×Int×Unit):=ae (ah (aA .u64)) (ae (ah (aA .i64)) ag)
abbrev u3C:aQ (List LV) (Int×Int×Int×Unit):=ae (ah (aA .u64)) (ae (ah (aA .u64)) (ae (ah (aA .u64)) ag))
abbrev Xp:aQ (List LV) (Int×Int×Int×Int×Unit):=ae (ah (aA .u64)) (ae (ah (aA .i64)) (ae (ah (aA .i64)) (ae (ah (aA .i64)) ag)))
def T8(x k:Int):Int:=bC .u64 (shl .u64 x (aM .u64 (u64.wrap k) 63)) (shr .u64 x (u64.wrap (64-aM .u64 (u64.wrap k) 63)))
theorem apy(k:Int):aM .u64 (u64.wrap k) 63=k%64:=by
 rw[pN (m:=6) (by decide) _ _ (by decide),mr];exact Int.emod_emod_of_dvd _ (by decide)
def iT(x n:Int):Int:=bC .u64 (shl .u64 x (64-n)) (shr .u64 x n)
theorem aeO{x n:Int}(h0:0<n)(h1:n<64):T8 x (i64.wrap (0-n))=iT x n:=by
 unfold T8 iT
 have e:aM .u64 (u64.wrap (i64.wrap (0-n))) 63=64-n:=by
  rw[apy,wrap_i64 (by omega) (by omega)];omega
 rw[e,wrap_u64 (by omega) (by omega),show(64:Int)-(64-n)=n from by omega]
def apz:an:=an.cm [] (uiC) (ag) fun x_ y_=>(fun(x k:Int)=>.leaf none (nU (T8 x k)) []) x_.1 x_.2.1
theorem Xq(x k:Int):aH Tryz.prog [] [] f320 ((uiC).wr (x,k,())) ((ag).wr ()) [.fr [.sym],.auto]=
 End.need ((0:Int)≤aM u64 (u64.wrap k) (63:Int)) (End.need ((0:Int)≤u64.wrap ((64:Int)-aM u64
 (u64.wrap k) (63:Int))) (End.leaf (LV.one (VV.sc (SV.int u64 (SI.sym (bC u64 (shl u64 x (aM u64
 (u64.wrap k) (63:Int))) (shr u64 x (u64.wrap ((64:Int)-aM u64 (u64.wrap k) (63:Int))))))))) [])):=by kernel_rfl
theorem akY:apz.Ok Tryz.prog 320:=by
 refine(an.aS call320 fun x_ y_ Q H_=>?_).sym;obtain⟨x,k,_⟩:=x_;have hq:=H_.2;refine(ar mixed aw func320 rfl (LT:= []) (ks:= [.fr [.sym],.auto]) (aK.nil _)).use (D:= []) ?_ hq;show(aH _ _ _ _ ((uiC).wr (x,k,())) ((ag).wr ()) _).sat _;rw[Xq];have e:=apy k;refine⟨by omega,by rw[e,wrap_u64 (by omega) (by omega)];omega,rfl,rfl⟩
def aeP:an:=an.cm [] (uiC) (ag) fun x_ y_=>(fun(x k:Int)=>.leaf (some (0<k∧k<64)) (nU (iT x k)) []) x_.1 x_.2.1
theorem Xr(x k:Int):aH Tryz.prog [(320,apz)] [] f294 ((uiC).wr (x,k,())) ((ag).wr ()) [.fr [.sym],.auto]=
 End.leaf (LV.one (VV.sc (SV.int u64 (SI.sym (T8 x (i64.wrap ((0:Int)-k.tmod (64:Int)))))))) []:=by kernel_rfl
theorem T9:aeP.Ok Tryz.prog 294:=by
 refine(an.aS call294 fun x_ y_ Q H_=>?_).sym;obtain⟨x,k,_⟩:=x_;obtain⟨hn,hq⟩:=H_;have hn:0<k∧k<64:=hn;refine(ar mixed ((al akY aw)) func294 rfl (LT:= []) (ks:= [.fr [.sym],.auto]) (aK.nil _)).use (D:= []) ?_ hq;show(aH _ _ _ _ ((uiC).wr (x,k,())) ((ag).wr ()) _).sat _;rw[Xr];have e:k.tmod 64=k:=by rw[Int.tmod_eq_emod_of_nonneg (by omega)];omega
 rw[e,aeO hn.1 hn.2];exact⟨rfl,rfl⟩
def chF(x y z:Int):Int:=ca .u64 (aM .u64 x y) (aM .u64 (ca .u64 18446744073709551615 x) z)
def aeQ(x y z:Int):Int:=ca .u64 (ca .u64 (aM .u64 x y) (aM .u64 x z)) (aM .u64 y z)
def chE:an:=an.cm [] (u3C) (ag) fun x_ y_=>(fun(x y z:Int)=>.leaf none (nU (chF x y z)) []) x_.1 x_.2.1 x_.2.2.1
theorem akZ(x y z:Int):aH Tryz.prog [] [] f236 ((u3C).wr (x,y,z,())) ((ag).wr ()) [.fr [.sym],.auto]=
 End.leaf (LV.one (VV.sc (SV.int u64 (SI.sym (ca u64 (aM u64 x y) (aM u64 (ca u64
 (18446744073709551615:Int) x) z)))))) []:=by kernel_rfl
theorem aww:chE.Ok Tryz.prog 236:=by
 refine(an.aS call236 fun x_ y_ Q H_=>?_).sym;obtain⟨x,y,z,_⟩:=x_;have hq:=H_.2;refine(ar mixed aw func236 rfl (LT:= []) (ks:= [.fr [.sym],.auto]) (aK.nil _)).use (D:= []) ?_ hq;show(aH _ _ _ _ ((u3C).wr (x,y,z,())) ((ag).wr ()) _).sat _;rw[akZ];exact⟨rfl,rfl⟩
def awx:an:=an.cm [] (u3C) (ag) fun x_ y_=>(fun(x y z:Int)=>.leaf none (nU (aeQ x y z)) []) x_.1 x_.2.1 x_.2.2.1
theorem aeR(x y z:Int):aH Tryz.prog [] [] f237 ((u3C).wr (x,y,z,())) ((ag).wr ()) [.fr [.sym],.auto]=
 End.leaf (LV.one (VV.sc (SV.int u64 (SI.sym (ca u64 (ca u64 (aM u64 x y) (aM u64 x z)) (aM
 u64 y z)))))) []:=by kernel_rfl
theorem arN:awx.Ok Tryz.prog 237:=by
 refine(an.aS call237 fun x_ y_ Q H_=>?_).sym;obtain⟨x,y,z,_⟩:=x_;have hq:=H_.2;refine(ar mixed aw func237 rfl (LT:= []) (ks:= [.fr [.sym],.auto]) (aK.nil _)).use (D:= []) ?_ hq;show(aH _ _ _ _ ((u3C).wr (x,y,z,())) ((ag).wr ()) _).sat _;rw[aeR];exact⟨rfl,rfl⟩
def Aq(x a b d:Int):Int:=ca .u64 (ca .u64 (iT x a) (iT x b)) (shr .u64 x d)
def vW(x a b d:Int):Int:=ca .u64 (ca .u64 (iT x a) (iT x b)) (iT x d)
def aeS:an:=an.cm [] (Xp) (ag) fun x_ y_=>(fun(x a b d:Int)=>.leaf (some (0<a∧a<64∧0<b∧b<64∧0≤d)) (nU (Aq x a b d)) []) x_.1 x_.2.1 x_.2.2.1 x_.2.2.2.1
theorem PV(x a b d:Int):aH Tryz.prog [(294,aeP)] [] f293 ((Xp).wr (x,a,b,d,())) ((ag).wr ()) [.fr [.sym],.auto]=
 End.need ((0:Int)<a∧a<(64:Int)) (End.need ((0:Int)<b∧b<(64:Int)) (End.need ((0:Int)≤d) (End.leaf (LV.one (VV.sc (SV.int
 u64 (SI.sym (ca u64 (ca u64 (iT x a) (iT x b)) (shr u64 x d)))))) []))):=by kernel_rfl
theorem aeT:aeS.Ok Tryz.prog 293:=by
 refine(an.aS call293 fun x_ y_ Q H_=>?_).sym;obtain⟨x,a,b,d,_⟩:=x_;obtain⟨hn,hq⟩:=H_;have hn:0<a∧a<64∧0<b∧b<64∧0≤d:=hn;refine(ar mixed ((al T9 aw)) func293 rfl (LT:= []) (ks:= [.fr [.sym],.auto]) (aK.nil _)).use (D:= []) ?_ hq;show(aH _ _ _ _ ((Xp).wr (x,a,b,d,())) ((ag).wr ()) _).sat _;rw[PV];exact⟨⟨hn.1,hn.2.1⟩,⟨hn.2.2.1,hn.2.2.2.1⟩,hn.2.2.2.2,rfl,rfl⟩
def aeU:an:=an.cm [] (Xp) (ag) fun x_ y_=>(fun(x a b d:Int)=>.leaf (some (0<a∧a<64∧0<b∧b<64∧0<d∧d<64)) (nU (vW x a b d)) []) x_.1 x_.2.1 x_.2.2.1 x_.2.2.2.1
theorem PW(x a b d:Int):aH Tryz.prog [(294,aeP)] [] f235 ((Xp).wr (x,a,b,d,())) ((ag).wr ()) [.fr [.sym],.auto]=
 End.need ((0:Int)<a∧a<(64:Int)) (End.need ((0:Int)<b∧b<(64:Int)) (End.need ((0:Int)<d∧d<(64:Int)) (End.leaf (LV.one
 (VV.sc (SV.int u64 (SI.sym (ca u64 (ca u64 (iT x a) (iT x b)) (iT x d)))))) []))):=by kernel_rfl
theorem aeV:aeU.Ok Tryz.prog 235:=by
 refine(an.aS call235 fun x_ y_ Q H_=>?_).sym;obtain⟨x,a,b,d,_⟩:=x_;obtain⟨hn,hq⟩:=H_;have hn:0<a∧a<64∧0<b∧b<64∧0<d∧d<64:=hn;refine(ar mixed ((al T9 aw)) func235 rfl (LT:= []) (ks:= [.fr [.sym],.auto]) (aK.nil _)).use (D:= []) ?_ hq;show(aH _ _ _ _ ((Xp).wr (x,a,b,d,())) ((ag).wr ()) _).sat _;rw[PW];exact⟨⟨hn.1,hn.2.1⟩,⟨hn.2.2.1,hn.2.2.2.1⟩,hn.2.2.2.2,rfl,rfl⟩
def fa:List Int:= [4794697086780616226,8158064640168781261,13096744586834688815,16840607885511220156,4131703408338449720,6480981068601479193,10538285296894168987,12329834152419229976,15566598209576043074,1334009975649890238,2608012711638119052,6128411473006802146,8268148722764581231,9286055187155687089,11230858885718282805,13951009754708518548,16472876342353939154,17275323862435702243,1135362057144423861,2597628984639134821,3308224258029322869,5365058923640841347,6679025012923562964,8573033837759648693,10970295158949994411,12119686244451234320,12683024718118986047,13788192230050041572,14330467153632333762,15395433587784984357,489312712824947311,1452737877330783856,2861767655752347644,3322285676063803686,5560940570517711597,5996557281743188959,7280758554555802590,8532644243296465576,9350256976987008742,10552545826968843579,11727347734174303076,12113106623233404929,14000437183269869457,14369950271660146224,15101387698204529176,15463397548674623760,17586052441742319658,1182934255886127544,1847814050463011016,2177327727835720531,2830643537854262169,3796741975233480872,4115178125766777443,5681478168544905931,6601373596472566643,7507060721942968483,8399075790359081724,8693463985226723168,9568029438360202098,10144078919501101548,10430055236837252648,11840083180663258601,13761210420658862357,14299343276471374635,14566680578165727644,15097957966210449927,16922976911328602910,17689382322260857208,500013540394364858,748580250866718886,1242879168328830382,1977374033974150939,2944078676154940804,3659926193048069267,4368137639120453308,4836135668995329356,5532061633213252278,6448918945643986474,6902733635092675308,7801388544844847127]
def nd:List Int:= [7640891576956012808,13503953896175478587,4354685564936845355,11912009170470909681,5840696475078001361,11170449401992604703,2270897969802886507,6620516959819538809]
def aeW:an:=an.cm [] ag ag fun _ _=>.leaf none (cY .u64 8 nd) []
def Ua:an:=an.cm [] ag ag fun _ _=>.leaf none (cY .u64 80 fa) []
theorem PX:aH Tryz.prog [] [] f104 (ag.wr ()) (ag.wr ()) [.fr [.sym],.eZ 0 0 8 .u64,.auto]= .leaf (cY .u64 8 nd) []:=by kernel_rfl
theorem J5:aH Tryz.prog [] [] f233 (ag.wr ()) (ag.wr ()) [.fr [.sym],.auto]= .leaf (cY .u64 80 fa) []:=by kernel_rfl
theorem aeX:aeW.Ok Tryz.prog 104:=by
 refine(an.aS call104 fun x_ y_ Q h=>?_).sym;refine(ar mixed aw func104 rfl (LT:= []) (ks:= [.fr [.sym],.eZ 0 0 8 .u64,.auto]) (aK.nil _)).use (D:= []) ?_ h.2;show(aH _ _ _ _ (ag.wr ()) (ag.wr ()) _).sat _;rw[PX];exact⟨rfl,rfl⟩
theorem Xs:Ua.Ok Tryz.prog 233:=by
 refine(an.aS call233 fun x_ y_ Q h=>?_).sym;refine(ar mixed aw func233 rfl (LT:= []) (ks:= [.fr [.sym],.auto]) (aK.nil _)).use (D:= []) ?_ h.2;show(aH _ _ _ _ (ag.wr ()) (ag.wr ()) _).sat _;rw[J5];exact⟨rfl,rfl⟩
def J6(b:List Int)(k:Nat)(m:List Int):List Int:=m.set (k/8) (bC .u64 (shl .u64 (m.getD (k/8) 0) 8) (u64.wrap (b.getD k 0)))
def ib(b:List Int):List Int:=upto (J6 b) 0 128 (List.replicate 16 0)
theorem tS(b:List Int)(k:Nat)(m:List Int):(J6 b k m).length=m.length:=by simp[J6]
abbrev awy:Func:=f161
abbrev woC:aQ (List LV) (List Int×Int×Int×Unit):=(jk 2 (ai (ah (aD 0 0)) (jk 1 (ai (ah (aD 1 0)) (jk 6 (ae (ah (gg false false u8)) (ae (ah (aA .i64)) (ae (ah (aA .i64)) (jk 17 ag)))))))))
abbrev awA:Wk:=.fr (cb 31 [(2,.ak),(4,.ak),(11,.ak),(12,.sym),(13,.sym)])
abbrev woX:aQ (List LV) (Unit):=(jk 2 (ai (ah (aD 0 0)) (jk 1 (ai (ah (aD 1 0)) (jk 26 ag)))))
abbrev aBM:Wk:=.fr (cb 31 [(2,.ak),(4,.ak)])
abbrev MK:aQ Hp (List Int×List Int×Unit):=ae (gm 213 .u64 16) (ae (gm 213 .u64 16) ag)
def woW:Exit→List Wk
 | .normal=> [awA,.dz 0 0 16 .u64,.dz 1 0 16 .u64,.auto]
 | .exit 0=> [aBM,.auto]
 |_=> []
theorem arO(b:List Int)(n i:Int)(r m:List Int):ct Tryz.prog [] [] awy 0 [] woW ((aT woC MK).wr ((b,n,i,()),(r,m,())))=
 aG.ite (decide (i<n)) (aG.need ((0:Int)≤i∧i<(↑b.length:Int)) (aG.need ((0:Int)≤i64.wrap (i.tdiv (8:Int))∧
 i64.wrap (i.tdiv (8:Int))<(16:Int)) (aG.need ((0:Int)≤i64.wrap (i.tdiv (8:Int))∧i64.wrap (i.tdiv (8:Int))<
 (16:Int)) (aG.leaf Exit.normal ((aT woC MK).wr ((b,n,i64.wrap (i+(1:Int)),PUnit.unit),r,m.set ((0:Nat)+(i64.wrap
 (i.tdiv (8:Int))).toNat) (bC u64 (shl u64 ((List.take (16:Nat) (List.drop (0:Nat) m)).getD (i64.wrap (i.tdiv (8:
 Int))).toNat (0:Int)) (8:Int)) (u64.wrap (b.getD i.toNat (0:Int)))),PUnit.unit)))))) (aG.leaf (Exit.exit (0:Nat)) ((aT woX MK).wr
 (PUnit.unit,r,m,PUnit.unit))):=by kernel_rfl
def woF(x:(List Int×Int×Int×Unit)×List Int×List Int×Unit):aG:=
 .need (x.1.1.length=128∧x.1.2.1=128∧x.1.2.2.1=0∧x.2.2.1=List.replicate 16 0) (.leaf (.exit 0) ((aT woX MK).wr ((),(x.2.1,ib x.1.1,()))))
theorem ak0(x):Ex Tryz.prog [] (.loop (aP awy 0)) ((aT woC MK).wr x) (woF x):=by
 obtain⟨⟨b,n,i,_⟩,r,m,_⟩:=x;refine Ex.need fun⟨h1,h2,h3,h4⟩=>?_;simp only at h1 h2 h3 h4;subst h2 h3 h4
 refine c8 (ws:=woW) (hp:= []) mixed aw (aK.nil _) 128 (fun k m=>(aT woC MK).wr ((b,128,(k:Int),()),(r,m,()))) (fun m=>(aT woX MK).wr ((),(r,m,()))) (J6 b) (fun _ m=>m.length=16)
  (fun k m R hk hm hn hx=>?_) (fun k m _ hm=>by rw[tS];exact hm) 0 (List.replicate 16 0) (by omega) (by simp)
 rw[arO];refine⟨fun hb=>?_,fun hb=>?_⟩
 ·have dQ:k<128:=by have:=of_decide_eq_true hb;omega
  have e:i64.wrap ((k:Int).tdiv 8)=((k/8:Nat):Int):=fw k 8 (by omega);rw[e,aX hm,bQ k (by omega)];simp only[Int.toNat_natCast,Nat.zero_add];exact⟨by omega,by omega,by omega,hn dQ⟩
 ·have:k=128:=by have:=of_decide_eq_false hb;omega
  exact hx this
abbrev awB:df:= [(0,cJ (aT woC MK) 0 [awA,.dz 0 0 16 .u64,.dz 1 0 16 .u64,.auto] woF)]
def aeY:an:=an.cm [some u8] (bA) (ag) fun x_ y_=>(fun(b:List Int)=>.leaf (some (b.length=128)) (.c6 [.agg [.arr (.int .u64) 16 (ib b)],.sc (.bool (.sym true))]) []) x_.1
theorem PY(b:List Int):aH Tryz.prog [] awB f161 ((bA).wr (b,())) ((ag).wr ()) [.fr [.sym],.eZ 0 0 16 .u64,.auto]=
 End.ite ((↑b.length:Int)!=(128:Int)) (End.leaf (LV.c6 [VV.agg [SV.arr (Ty.int u64) (16:Nat) [(0:Int),(0:Int),(0:Int),(0:
 Int),(0:Int),(0:Int),(0:Int),(0:Int),(0:Int),(0:Int),(0:Int),(0:Int),(0:Int),(0:Int),(0:Int),(0:Int)]],VV.sc
 (SV.bool (SB.sym false))]) []) (End.need (b.length=(128:Nat)∧(↑b.length:Int)=(128:Int)∧(0:Int)=(0:Int)∧ [(0:Int),(0:Int),(0
 :Int),(0:Int),(0:Int),(0:Int),(0:Int),(0:Int),(0:Int),(0:Int),(0:Int),(0:Int),(0:Int),(0:Int),(0:Int),(0:Int)]
 =List.replicate (16:Nat) (0:Int)) (End.leaf (LV.c6 [VV.agg [SV.arr (Ty.int u64) (16:Nat) (ib b)],VV.sc (SV.bool (SB.sym true))])
 [])):=by kernel_rfl
theorem aeZ:aeY.Ok Tryz.prog 161:=by
 refine(an.aS call161 fun x_ y_ Q H_=>?_).sym;obtain⟨b,_⟩:=x_;obtain⟨hn,hq⟩:=H_;have hn:b.length=128:=hn;refine(ar mixed aw func161 rfl (LT:=awB) (ks:= [.fr [.sym],.eZ 0 0 16 .u64,.auto]) (aK.bI (iu rfl (bt (hp:= []) ak0) iE))).use (D:= []) ?_ hq;show(aH _ _ _ _ ((bA).wr (b,())) ((ag).wr ()) _).sat _;rw[PY];refine⟨fun h=>?_,fun h=>⟨⟨hn,by omega,rfl,rfl⟩,rfl,rfl⟩⟩;simp[hn]at h
def GA(t:Nat)(w:List Int):List Int:=w.set t (u64.wrap (u64.wrap (u64.wrap (Aq (w.getD (t-2) 0) 19 61 6+w.getD (t-7) 0)+Aq (w.getD (t-15) 0) 1 8 7)+w.getD (t-16) 0))
def dc(m:List Int):List Int:=upto GA 16 64 (m++List.replicate 64 0)
abbrev awC:Func:=f234
abbrev scA:aQ (List LV) (List Int×Unit):=ae (sG .u64 16) ag
abbrev scC:aQ (List LV) (Int×Unit):=(jk 2 (ai (ah (aD 0 0)) (ai (ah (aD 1 0)) (ae (ah (aA .i64)) (jk 31 ag)))))
abbrev awE:Wk:=.fr (cb 36 [(2,.ak),(3,.ak),(4,.sym)])
abbrev scX:aQ (List LV) (Unit):=(jk 2 (ai (ah (aD 0 0)) (ai (ah (aD 1 0)) (jk 32 ag))))
abbrev aBO:Wk:=.fr (cb 36 [(2,.ak),(3,.ak)])
abbrev scH:aQ Hp (List Int×List Int×Unit):=ae (gm 278 .u64 80) (ae (gm 278 .u64 80) ag)
abbrev ae1:List (FuncId×an):= [(293,aeS)]
theorem J7:∀p∈ae1,p.2.Ok Tryz.prog p.1:=al aeT aw
def scW:Exit→List Wk
 | .normal=> [awE,.auto]
 | .exit 0=> [aBO,.auto]
 |_=> []
theorem arP(t:Int)(r w:List Int):ct Tryz.prog ae1 [] awC 0 [] scW ((aT scC scH).wr ((t,()),(r,w,())))=
 aG.ite (decide (t<(80:Int))) (aG.need ((0:Int)≤i64.wrap (t-(2:Int))∧i64.wrap (t-(2:Int))<(80:Int)) (aG.need
 ((0:Int)<(19:Int)∧(19:Int)<(64:Int)∧(0:Int)<(61:Int)∧(61:Int)<(64:Int)∧(0:Int)≤(6:Int)) (aG.need ((0:Int)≤
 i64.wrap (t-(7:Int))∧i64.wrap (t-(7:Int))<(80:Int)) (aG.need ((0:Int)≤i64.wrap (t-(15:Int))∧
 i64.wrap (t-(15:Int))<(80:Int)) (aG.need ((0:Int)<(1:Int)∧(1:Int)<(64:Int)∧(0:Int)<(8:Int)∧(8:Int)<(64:
 Int)∧(0:Int)≤(7:Int)) (aG.need ((0:Int)≤i64.wrap (t-(16:Int))∧i64.wrap (t-(16:Int))<(80:Int)) (aG.need ((0
 :Int)≤t∧t<(80:Int)) (aG.leaf Exit.normal ((aT scC scH).wr ((i64.wrap (t+(1:Int)),PUnit.unit),r,w.set ((0:Nat)+t.toNat)
 (u64.wrap (u64.wrap (u64.wrap (Aq ((List.take (80:Nat) (List.drop (0:Nat) w)).getD (i64.wrap (t-(2:
 Int))).toNat (0:Int)) (19:Int) (61:Int) (6:Int)+(List.take (80:Nat) (List.drop (0:Nat) w)).getD (i64.wrap (t-(7:Int))).toNat
 (0:Int))+Aq ((List.take (80:Nat) (List.drop (0:Nat) w)).getD (i64.wrap (t-(15:Int))).toNat (0:Int)) (1:Int) (8:Int) (7:
 Int))+(List.take (80:Nat) (List.drop (0:Nat) w)).getD (i64.wrap (t-(16:Int))).toNat (0:Int))),PUnit.unit)))))))))) (aG.leaf
 (Exit.exit (0:Nat)) ((aT scX scH).wr (PUnit.unit,r,w,PUnit.unit))):=by kernel_rfl
def scF(x:(Int×Unit)×List Int×List Int×Unit):aG:=
 .need (x.1.1=16∧x.2.2.1.length=80) (.leaf (.exit 0) ((aT scX scH).wr ((),(x.2.1,upto GA 16 64 x.2.2.1,()))))
theorem wX(t:Nat)(w:List Int):(GA t w).length=w.length:=by simp[GA]
theorem ak1(x):Ex Tryz.prog [] (.loop (aP awC 0)) ((aT scC scH).wr x) (scF x):=by
 obtain⟨⟨i,_⟩,r,w,_⟩:=x;refine Ex.need fun⟨h1,h2⟩=>?_;simp only at h1 h2;subst h1
 refine c8 (ws:=scW) (hp:= []) mixed J7 (aK.nil _) 80 (fun k w=>(aT scC scH).wr (((k:Int),()),(r,w,()))) (fun w=>(aT scX scH).wr ((),(r,w,()))) GA (fun k w=>16≤k∧w.length=80)
  (fun k w R hk hm hn hx=>?_) (fun k m _ hm=>⟨by omega,by rw[wX];exact hm.2⟩) 16 w (by omega) ⟨by omega,h2⟩
 obtain⟨h16,hm⟩:=hm;rw[arP];refine⟨fun hb=>?_,fun hb=>?_⟩
 ·have dQ:k<80:=by have:=of_decide_eq_true hb;omega
  have e2:i64.wrap ((k:Int)-2)=((k-2:Nat):Int):=jr k 2 (by omega) (by omega);have e7:i64.wrap ((k:Int)-7)=((k-7:Nat):Int):=jr k 7 (by omega) (by omega);have e15:i64.wrap ((k:Int)-15)=((k-15:Nat):Int):=jr k 15 (by omega) (by omega);have e16:i64.wrap ((k:Int)-16)=((k-16:Nat):Int):=jr k 16 (by omega) (by omega);rw[e2,e7,e15,e16,aX hm,bQ k (by omega)];simp only[Int.toNat_natCast,Nat.zero_add];exact⟨by omega,by decide,by omega,by omega,by decide,by omega,by omega,hn dQ⟩
 ·have:k=80:=by have:=of_decide_eq_false hb;omega
  exact hx this
abbrev awF:df:= [(0,cJ (aT scC scH) 0 [awE,.auto] scF)]
def ae2:an:=an.cm [] (scA) (ag) fun x_ y_=>(fun(m:List Int)=>.leaf (some (m.length=16)) (cY .u64 80 (dc m)) []) x_.1
theorem PZ(m:List Int):aH Tryz.prog ae1 awF f234 ((scA).wr (m,())) ((ag).wr ()) [.fr [.sym],.auto]=
 End.need ((0:Int)≤(0:Int)∧(0:Int)≤(80:Int)∧(80:Int)≤(80:Int)) (End.need ((0:Int)≤(0:Int)∧(0:Int)≤(16:Int)∧(16:
 Int)≤(16:Int)) (End.need ((16:Int)=(16:Int)∧(List.take (0:Nat) (List.replicate (80:Nat) (0:Int))++(List.take (80:Nat) (List.take
 (16:Nat) (List.drop (0:Nat) m))++List.drop ((0:Nat)+if(80:Nat)≤(List.take (16:Nat) (List.drop (0:Nat) m)).length then(80:Nat)
 else(List.take (16:Nat) (List.drop (0:Nat) m)).length) (List.replicate (80:Nat) (0:Int)))).length=(80:Nat)) (End.leaf (LV.one (VV.agg
 [SV.arr (Ty.int u64) (80:Nat) (upto GA (16:Nat) (64:Nat) (List.take (0:Nat) (List.replicate (80:Nat) (0:Int))++(List.take (80:
 Nat) (List.take (16:Nat) (List.drop (0:Nat) m))++List.drop ((0:Nat)+if(80:Nat)≤(List.take (16:Nat) (List.drop (0:Nat) m)).length
 then(80:Nat)else(List.take (16:Nat) (List.drop (0:Nat) m)).length) (List.replicate (80:Nat) (0:Int)))))])) []))):=by kernel_rfl
theorem ae3:ae2.Ok Tryz.prog 234:=by
 refine(an.aS call234 fun x_ y_ Q H_=>?_).sym;obtain⟨m,_⟩:=x_;obtain⟨hn,hq⟩:=H_;have hn:m.length=16:=hn;refine(ar mixed J7 func234 rfl (LT:=awF) (ks:= [.fr [.sym],.auto]) (aK.bI (iu rfl (bt (hp:= []) ak1) iE))).use (D:= []) ?_ hq;show(aH _ _ _ _ ((scA).wr (m,())) ((ag).wr ()) _).sat _;rw[PZ]
 have e:List.take 0 (List.replicate 80 (0:Int))++(List.take 80 (List.take 16 (List.drop 0 m))++List.drop (0+if 80≤(List.take 16 (List.drop 0 m)).length then 80 else(List.take 16 (List.drop 0 m)).length) (List.replicate 80 0))=m++List.replicate 64 0:=by
  rw[aX hn,hn];simp[List.take_of_length_le (show m.length≤80 by omega)]
 rw[e];refine⟨by omega,by omega,⟨rfl,by simp[hn]⟩,rfl,rfl⟩
def awG(w:List Int)(t:Nat)(x:List Int):Int:=
 u64.wrap (u64.wrap (u64.wrap (u64.wrap (x.getD 7 0+vW (x.getD 4 0) 14 18 41)+chF (x.getD 4 0) (x.getD 5 0) (x.getD 6 0))+fa.getD t 0)+w.getD t 0)
def aBR(x:List Int):Int:=u64.wrap (vW (x.getD 0 0) 28 34 39+aeQ (x.getD 0 0) (x.getD 1 0) (x.getD 2 0))
def arQ(w:List Int)(t:Nat)(x:List Int):List Int:=
 [u64.wrap (awG w t x+aBR x),x.getD 0 0,x.getD 1 0,x.getD 2 0,u64.wrap (x.getD 3 0+awG w t x),x.getD 4 0,x.getD 5 0,x.getD 6 0]
def aBS(x s:List Int):List Int:=(List.range 8).map fun i=>u64.wrap (x.getD i 0+s.getD i 0)
def nf(w x:List Int):List Int:=upto (arQ w) 0 80 x
def oP(s m:List Int):List Int:=aBS (nf (dc m) s) s
theorem tT{m:List Int}(h:m.length=16):(dc m).length=80:=by
 unfold dc;exact fV (f:=GA) (n:=80) (fun(_:Nat) (w:List Int)=>w.length=80) (fun t w _ h=>by rw[wX];exact h) 64 16 (m++List.replicate 64 0) (by omega) (by simp[h])
abbrev awH:Func:=f162
abbrev spC:aQ (List LV) (Int×Unit):=(jk 2 (ai (ah (aD 0 0)) (jk 1 (ai (ah (aD 1 0)) (ai (ah (aD 2 0)) (ai (ah (aD 3 0)) (ai (ah (aD 4 0)) (jk 8 (ae (ah (aA .i64)) (jk 69 ag))))))))))
abbrev awJ:Wk:=.fr (cb 86 [(2,.ak),(4,.ak),(5,.ak),(6,.ak),(7,.ak),(16,.sym)])
abbrev spX:aQ (List LV) (Unit):=(jk 2 (ai (ah (aD 0 0)) (jk 1 (ai (ah (aD 1 0)) (jk 2 (ai (ah (aD 2 0)) (jk 78 ag)))))))
abbrev aBU:Wk:=.fr (cb 86 [(2,.ak),(4,.ak),(7,.ak)])
abbrev Xt:aQ Hp (List Int×List Int×List Int×Unit):=ae (gm 118 .u64 8) (ae (aaY 118 .u64 8) (ae (aaY 118 .u64 8) ag))
abbrev spH:aQ Hp (List Int×List Int×List Int×List Int×List Int×Unit):=ae (gm 118 .u64 8) (ae (gm 118 .u64 8) (ae (gm 278 .u64 80) (ae (gm 278 .u64 80) (ae (gm 118 .u64 8) ag))))
abbrev ae4:List (FuncId×an):= [(233,Ua),(234,ae2),(235,aeU),(236,chE),(237,awx)]
theorem J8:∀p∈ae4,p.2.Ok Tryz.prog p.1:=al Xs (al ae3 (al aeV (al aww (al arN aw))))
def spW:Exit→List Wk
 | .normal=> [awJ,.dz 4 0 8 .u64,.auto]
 | .exit 0=> [aBU,.auto,.Cu 1,.Cu 2]
 |_=> []
theorem arR(t:Int)(s r k w x:List Int):ct Tryz.prog ae4 [] awH 0 [] spW ((aT spC spH).wr ((t,()),(s,r,k,w,x,())))=
 aG.ite (decide (t<(80:Int))) (aG.need ((0:Int)<(14:Int)∧(14:Int)<(64:Int)∧(0:Int)<(18:Int)∧(18:Int)<(64:Int)∧(0:
 Int)<(41:Int)∧(41:Int)<(64:Int)) (aG.need ((0:Int)≤t∧t<(80:Int)) (aG.need ((0:Int)≤t∧t<(80:Int)) (aG.need ((0:Int)
 <(28:Int)∧(28:Int)<(64:Int)∧(0:Int)<(34:Int)∧(34:Int)<(64:Int)∧(0:Int)<(39:Int)∧(39:Int)<(64:Int)) (aG.leaf
 Exit.normal ((aT spC spH).wr ((i64.wrap (t+(1:Int)),PUnit.unit),s,r,k,w,[u64.wrap (u64.wrap (u64.wrap
 (u64.wrap (u64.wrap (x.getD (7:Nat) (0:Int)+vW (x.getD (4:Nat) (0:Int)) (14:Int) (18:Int) (41:Int))+chF (x.getD
 (4:Nat) (0:Int)) (x.getD (5:Nat) (0:Int)) (x.getD (6:Nat) (0:Int)))+(List.take (80:Nat) (List.drop (0:Nat) k)).getD t.toNat (0:
 Int))+(List.take (80:Nat) (List.drop (0:Nat) w)).getD t.toNat (0:Int))+u64.wrap (vW (x.getD (0:Nat) (0:Int)) (28:Int) (34:
 Int) (39:Int)+aeQ (x.getD (0:Nat) (0:Int)) (x.getD (1:Nat) (0:Int)) (x.getD (2:Nat) (0:Int)))),x.getD (0:Nat) (0:Int),x.getD (1
 :Nat) (0:Int),x.getD (2:Nat) (0:Int),u64.wrap (x.getD (3:Nat) (0:Int)+u64.wrap (u64.wrap (u64.wrap
 (u64.wrap (x.getD (7:Nat) (0:Int)+vW (x.getD (4:Nat) (0:Int)) (14:Int) (18:Int) (41:Int))+chF (x.getD (4:Nat) (0:
 Int)) (x.getD (5:Nat) (0:Int)) (x.getD (6:Nat) (0:Int)))+(List.take (80:Nat) (List.drop (0:Nat) k)).getD t.toNat (0:Int))+(List.take
 (80:Nat) (List.drop (0:Nat) w)).getD t.toNat (0:Int))),x.getD (4:Nat) (0:Int),x.getD (5:Nat) (0:Int),x.getD (6:Nat) (0:Int)],
 PUnit.unit))))))) (aG.leaf (Exit.exit (0:Nat)) ((aT spX Xt).wr (PUnit.unit,s,[r.getD (nat_lit 0) (0:Int),r.getD (nat_lit 1) (0:Int),
 r.getD (nat_lit 2) (0:Int),r.getD (nat_lit 3) (0:Int),r.getD (nat_lit 4) (0:Int),r.getD (nat_lit 5) (0:Int),r.getD (nat_lit 6) (0:Int),
 r.getD (nat_lit 7) (0:Int)],[x.getD (nat_lit 0) (0:Int),x.getD (nat_lit 1) (0:Int),x.getD (nat_lit 2) (0:Int),x.getD (nat_lit 3) (0:Int),
 x.getD (nat_lit 4) (0:Int),x.getD (nat_lit 5) (0:Int),x.getD (nat_lit 6) (0:Int),x.getD (nat_lit 7) (0:Int)],PUnit.unit))):=by kernel_rfl
def spF(x:(Int×Unit)×List Int×List Int×List Int×List Int×List Int×Unit):aG:=
 .need (x.1.1=0∧x.2.2.2.1=fa∧x.2.2.2.2.1.length=80∧x.2.2.2.2.2.1.length=8) (.leaf (.exit 0) ((aT spX Xt).wr ((),(x.2.1,x.2.2.1,nf x.2.2.2.2.1 x.2.2.2.2.2.1,()))))
theorem ak2(x):Ex Tryz.prog [] (.loop (aP awH 0)) ((aT spC spH).wr x) (spF x):=by
 obtain⟨⟨i,_⟩,s,r,k,w,x,_⟩:=x;refine Ex.need fun⟨h1,h2,h3,h4⟩=>?_;simp only at h1 h2 h3 h4;subst h1 h2
 refine c8 (ws:=spW) (hp:= []) mixed J8 (aK.nil _) 80 (fun j x=>(aT spC spH).wr (((j:Int),()),(s,r,fa,w,x,()))) (fun x=>(aT spX Xt).wr ((),(s,r,x,()))) (arQ w) (fun _ x=>x.length=8)
  (fun j x R hk hm hn hx=>?_) (fun k m _ hm=>rfl) 0 x (by omega) h4
 rw[arR];refine⟨fun hb=>?_,fun hb=>?_⟩
 ·have dQ:j<80:=by have:=of_decide_eq_true hb;omega
  rw[aX h3,aX (l:=fa) (n:=80) rfl,bQ j (by omega)];simp only[Int.toNat_natCast];exact⟨by decide,by omega,by omega,by decide,hn dQ⟩
 ·have:j=80:=by have:=of_decide_eq_false hb;omega
  exact hx this
abbrev awK:df:= [(0,cJ (aT spC spH) 0 [awJ,.auto,.dz 1 0 8 .u64,.dz 4 0 8 .u64] spF)]
abbrev stA:aQ (List LV) (List Int×List Int×Unit):=ae (sG .u64 8) (ae (sG .u64 16) ag)
def apA:an:=an.cm [] (stA) (ag) fun x_ y_=>(fun(s m:List Int)=>.leaf (some (s.length=8∧m.length=16)) (cY .u64 8 (oP s m)) []) x_.1 x_.2.1
theorem Xu(s m:List Int):aH Tryz.prog ae4 awK f162 ((stA).wr (s,m,())) ((ag).wr ()) [.fr [.sym],.eZ 0 0 8 .u64,.auto]=
 End.need (m.length=(16:Nat)) (End.need ((0:Int)=(0:Int)∧fa=fa∧(dc m).length=(80:Nat)∧s.length=(8:Nat))
 (End.leaf (LV.one (VV.agg [SV.arr (Ty.int u64) (8:Nat) [u64.wrap ((nf (dc m) s).getD (nat_lit 0) (0:Int)+s.getD (0:Nat)
 (0:Int)),u64.wrap ((nf (dc m) s).getD (nat_lit 1) (0:Int)+s.getD (1:Nat) (0:Int)),u64.wrap ((nf (dc m) s).getD
 (nat_lit 2) (0:Int)+s.getD (2:Nat) (0:Int)),u64.wrap ((nf (dc m) s).getD (nat_lit 3) (0:Int)+s.getD (3:Nat) (0:Int)),
 u64.wrap ((nf (dc m) s).getD (nat_lit 4) (0:Int)+s.getD (4:Nat) (0:Int)),u64.wrap ((nf (dc m) s).getD (nat_lit 5)
 (0:Int)+s.getD (5:Nat) (0:Int)),u64.wrap ((nf (dc m) s).getD (nat_lit 6) (0:Int)+s.getD (6:Nat) (0:Int)),
 u64.wrap ((nf (dc m) s).getD (nat_lit 7) (0:Int)+s.getD (7:Nat) (0:Int))]])) [])):=by kernel_rfl
theorem ak3:apA.Ok Tryz.prog 162:=by
 refine(an.aS call162 fun x_ y_ Q H_=>?_).sym;obtain⟨s,m,_⟩:=x_;obtain⟨hn,hq⟩:=H_;have hn:s.length=8∧m.length=16:=hn;refine(ar mixed J8 func162 rfl (LT:=awK) (ks:= [.fr [.sym],.eZ 0 0 8 .u64,.auto]) (aK.bI (iu rfl (bt (hp:= []) ak2) iE))).use (D:= []) ?_ hq;show(aH _ _ _ _ ((stA).wr (s,m,())) ((ag).wr ()) _).sat _;rw[Xu];exact⟨hn.2,⟨rfl,rfl,tT hn.2,hn.1⟩,rfl,rfl⟩
theorem wY(s m:List Int):(oP s m).length=8:=rfl
def Ub:an:=an.cm [] ag ag fun _ _=>.leaf none (cY .u64 8 nd) []
def J9:an:=an.cm [] ag ag fun _ _=>.leaf none (cY .u64 80 fa) []
theorem Ka:aH Tryz.prog [] [] f91 (ag.wr ()) (ag.wr ()) [.fr [.sym],.eZ 0 0 8 .u64,.auto]= .leaf (cY .u64 8 nd) []:=by kernel_rfl
theorem GB:aH Tryz.prog [] [] f210 (ag.wr ()) (ag.wr ()) [.fr [.sym],.auto]= .leaf (cY .u64 80 fa) []:=by kernel_rfl
theorem Xv:Ub.Ok Tryz.prog 91:=by
 refine(an.aS call91 fun x_ y_ Q h=>?_).sym;refine(ar mixed aw func91 rfl (LT:= []) (ks:= [.fr [.sym],.eZ 0 0 8 .u64,.auto]) (aK.nil _)).use (D:= []) ?_ h.2;show(aH _ _ _ _ (ag.wr ()) (ag.wr ()) _).sat _;rw[Ka];exact⟨rfl,rfl⟩
theorem P0:J9.Ok Tryz.prog 210:=by
 refine(an.aS call210 fun x_ y_ Q h=>?_).sym;refine(ar mixed aw func210 rfl (LT:= []) (ks:= [.fr [.sym],.auto]) (aK.nil _)).use (D:= []) ?_ h.2;show(aH _ _ _ _ (ag.wr ()) (ag.wr ()) _).sat _;rw[GB];exact⟨rfl,rfl⟩
def P1:an:=an.cm [] (uiC) (ag) fun x_ y_=>(fun(x n:Int)=>.leaf (some (0<n∧n<64)) (nU (iT x n)) []) x_.1 x_.2.1
theorem P2(x n:Int):aH Tryz.prog [] [] f211 ((uiC).wr (x,n,())) ((ag).wr ()) [.fr [.sym],.auto]=
 End.ite (u64.wrap ((i64.wrap (n.tmod (64:Int)+(64:Int))).tmod (64:Int))==(0:Int)) (End.leaf (LV.one (VV.sc (SV.int
 u64 (SI.sym x)))) []) (End.need ((0:Int)≤u64.wrap ((i64.wrap (n.tmod (64:Int)+(64:Int))).tmod (64:Int))) (End.need
 ((0:Int)≤u64.wrap ((64:Int)-u64.wrap ((i64.wrap (n.tmod (64:Int)+(64:Int))).tmod (64:Int)))) (End.leaf (LV.one
 (VV.sc (SV.int u64 (SI.sym (bC u64 (shr u64 x (u64.wrap ((i64.wrap (n.tmod (64:Int)+(64:Int))).tmod
 (64:Int)))) (shl u64 x (u64.wrap ((64:Int)-u64.wrap ((i64.wrap (n.tmod (64:Int)+(64:Int))).tmod (64:
 Int)))))))))) []))):=by kernel_rfl
theorem Kb:P1.Ok Tryz.prog 211:=by
 refine(an.aS call211 fun x_ y_ Q H_=>?_).sym;obtain⟨x,n,_⟩:=x_;obtain⟨hn,hq⟩:=H_;have hn:0<n∧n<64:=hn;refine(ar mixed aw func211 rfl (LT:= []) (ks:= [.fr [.sym],.auto]) (aK.nil _)).use (D:= []) ?_ hq;show(aH _ _ _ _ ((uiC).wr (x,n,())) ((ag).wr ()) _).sat _;rw[P2];obtain⟨h0,h1⟩:=hn
 have e:u64.wrap ((i64.wrap (n.tmod 64+64)).tmod 64)=n:=by
  have a1:n.tmod 64=n:=by rw[Int.tmod_eq_emod_of_nonneg (by omega)];omega
  rw[a1,wrap_i64 (by omega) (by omega)];have a2:(n+64).tmod 64=n:=by rw[Int.tmod_eq_emod_of_nonneg (by omega)];omega
  rw[a2,wrap_u64 (by omega) (by omega)]
 have e2:u64.wrap (64-n)=64-n:=wrap_u64 (by omega) (by omega);rw[e,e2,jq];exact⟨fun h=>by simp at h;omega,fun _=>⟨by omega,by omega,rfl,rfl⟩⟩
theorem P3(b:BitVec 64):BitVec.ofInt 64 (u64.wrap (b.toNat:Int))=b:=by
 have h:=b.isLt;rw[wrap_u64 (by omega) (by omega)];simp
theorem arS(x y z:Int):bC .u64 (bC .u64 (aM .u64 x y) (aM .u64 x z)) (aM .u64 y z)=aeQ x y z:=by
 unfold aeQ bC ca aM
 show u64.wrap ((BitVec.ofInt 64 (u64.wrap ((BitVec.ofInt 64 (u64.wrap ((BitVec.ofInt 64 x&&& BitVec.ofInt 64 y).toNat:Int))|||BitVec.ofInt 64 (u64.wrap ((BitVec.ofInt 64 x&&& BitVec.ofInt 64 z).toNat:Int))).toNat:Int))|||BitVec.ofInt 64 (u64.wrap ((BitVec.ofInt 64 y&&& BitVec.ofInt 64 z).toNat:Int))).toNat:Int)=
  u64.wrap ((BitVec.ofInt 64 (u64.wrap ((BitVec.ofInt 64 (u64.wrap ((BitVec.ofInt 64 x&&& BitVec.ofInt 64 y).toNat:Int)) ^^^ BitVec.ofInt 64 (u64.wrap ((BitVec.ofInt 64 x&&& BitVec.ofInt 64 z).toNat:Int))).toNat:Int)) ^^^ BitVec.ofInt 64 (u64.wrap ((BitVec.ofInt 64 y&&& BitVec.ofInt 64 z).toNat:Int))).toNat:Int)
 simp only[P3]
 congr 3
 apply BitVec.eq_of_getLsbD_eq
 intro i _;simp only[BitVec.getLsbD_or,BitVec.getLsbD_and,BitVec.getLsbD_xor]
 cases(BitVec.ofInt 64 x).getLsbD i<;>cases(BitVec.ofInt 64 y).getLsbD i<;>cases(BitVec.ofInt 64 z).getLsbD i<;>rfl
abbrev awL:Func:=f143
abbrev rwC:aQ (List LV) (List Int×Int×Unit):=(ae (ah (gg false false u8)) (jk 1 (ai (ah (aD 0 0)) (jk 1 (ai (ah (aD 1 0)) (ae (ah (aA .i64)) (jk 24 ag)))))))
abbrev awN:Wk:=.fr (cb 30 [(0,.ak),(2,.ak),(4,.ak),(5,.sym)])
abbrev rwX:aQ (List LV) (Unit):=(jk 2 (ai (ah (aD 0 0)) (jk 1 (ai (ah (aD 1 0)) (jk 25 ag)))))
abbrev aBW:Wk:=.fr (cb 30 [(2,.ak),(4,.ak)])
def rwW:Exit→List Wk
 | .normal=> [awN,.dz 0 0 16 .u64,.dz 1 0 16 .u64,.auto]
 | .exit 0=> [aBW,.auto]
 |_=> []
theorem arT(b:List Int)(i:Int)(r m:List Int):ct Tryz.prog [] [] awL 0 [] rwW ((aT rwC MK).wr ((b,i,()),(r,m,())))=
 aG.ite (decide (i<(128:Int))) (aG.need ((0:Int)≤i64.wrap (i.tdiv (8:Int))∧i64.wrap (i.tdiv (8:Int))<(16:Int))
 (aG.need ((0:Int)≤i∧i<(↑b.length:Int)) (aG.need ((0:Int)≤i64.wrap (i.tdiv (8:Int))∧i64.wrap (i.tdiv (8:Int))<
 (16:Int)) (aG.leaf Exit.normal ((aT rwC MK).wr ((b,i64.wrap (i+(1:Int)),PUnit.unit),r,m.set ((0:Nat)+(i64.wrap (i.tdiv
 (8:Int))).toNat) (bC u64 (shl u64 ((List.take (16:Nat) (List.drop (0:Nat) m)).getD (i64.wrap (i.tdiv (8:Int))).toNat
 (0:Int)) (8:Int)) (u64.wrap (b.getD i.toNat (0:Int)))),PUnit.unit)))))) (aG.leaf (Exit.exit (0:Nat)) ((aT rwX MK).wr (PUnit.unit,
 r,m,PUnit.unit))):=by kernel_rfl
def rwF(x:(List Int×Int×Unit)×List Int×List Int×Unit):aG:=
 .need (x.1.1.length=128∧x.1.2.1=0∧x.2.2.1=List.replicate 16 0) (.leaf (.exit 0) ((aT rwX MK).wr ((),(x.2.1,ib x.1.1,()))))
theorem ak4(x):Ex Tryz.prog [] (.loop (aP awL 0)) ((aT rwC MK).wr x) (rwF x):=by
 obtain⟨⟨b,i,_⟩,r,m,_⟩:=x;refine Ex.need fun⟨h1,h3,h4⟩=>?_;simp only at h1 h3 h4;subst h3 h4
 refine c8 (ws:=rwW) (hp:= []) mixed aw (aK.nil _) 128 (fun k m=>(aT rwC MK).wr ((b,(k:Int),()),(r,m,()))) (fun m=>(aT rwX MK).wr ((),(r,m,()))) (J6 b) (fun _ m=>m.length=16)
  (fun k m R hk hm hn hx=>?_) (fun k m _ hm=>by rw[tS];exact hm) 0 (List.replicate 16 0) (by omega) (by simp)
 rw[arT];refine⟨fun hb=>?_,fun hb=>?_⟩
 ·have dQ:k<128:=by have:=of_decide_eq_true hb;omega
  have e:i64.wrap ((k:Int).tdiv 8)=((k/8:Nat):Int):=fw k 8 (by omega);rw[e,aX hm,bQ k (by omega)];simp only[Int.toNat_natCast,Nat.zero_add];exact⟨by omega,by omega,by omega,hn dQ⟩
 ·have:k=128:=by have:=of_decide_eq_false hb;omega
  exact hx this
abbrev awO:df:= [(0,cJ (aT rwC MK) 0 [awN,.auto,.dz 0 0 16 .u64,.dz 1 0 16 .u64] rwF)]
def Uc:an:=an.cm [some u8] (bA) (ag) fun x_ y_=>(fun(b:List Int)=>.leaf (some (b.length=128)) (.c6 [.agg [.arr (.int .u64) 16 (ib b)],.sc (.bool (.sym true))]) []) x_.1
theorem Kc(b:List Int):aH Tryz.prog [] awO f143 ((bA).wr (b,())) ((ag).wr ()) [.fr [.sym],.eZ 0 0 16 .u64,.auto]=
 End.ite ((↑b.length:Int)!=(128:Int)) (End.leaf (LV.c6 [VV.agg [SV.arr (Ty.int u64) (16:Nat) [(0:Int),(0:Int),(0:Int),(0:
 Int),(0:Int),(0:Int),(0:Int),(0:Int),(0:Int),(0:Int),(0:Int),(0:Int),(0:Int),(0:Int),(0:Int),(0:Int)]],VV.sc
 (SV.bool (SB.sym false))]) []) (End.need (b.length=(128:Nat)∧(0:Int)=(0:Int)∧ [(0:Int),(0:Int),(0:Int),(0:Int),(0:Int),(0:
 Int),(0:Int),(0:Int),(0:Int),(0:Int),(0:Int),(0:Int),(0:Int),(0:Int),(0:Int),(0:Int)]=List.replicate (16:Nat) (0:
 Int)) (End.leaf (LV.c6 [VV.agg [SV.arr (Ty.int u64) (16:Nat) (ib b)],VV.sc (SV.bool (SB.sym true))]) [])):=by kernel_rfl
theorem Xw:Uc.Ok Tryz.prog 143:=by
 refine(an.aS call143 fun x_ y_ Q H_=>?_).sym;obtain⟨b,_⟩:=x_;obtain⟨hn,hq⟩:=H_;have hn:b.length=128:=hn;refine(ar mixed aw func143 rfl (LT:=awO) (ks:= [.fr [.sym],.eZ 0 0 16 .u64,.auto]) (aK.bI (iu rfl (bt (hp:= []) ak4) iE))).use (D:= []) ?_ hq;show(aH _ _ _ _ ((bA).wr (b,())) ((ag).wr ()) _).sat _;rw[Kc];refine⟨fun h=>?_,fun h=>⟨⟨hn,rfl,rfl⟩,rfl,rfl⟩⟩;simp[hn]at h
def nK(m:List Int)(t:Nat)(w:List Int):List Int:=if t<16 then w.set t (m.getD t 0)else GA t w
theorem GC(m:List Int)(t:Nat)(w:List Int):(nK m t w).length=w.length:=by unfold nK;split<;>simp[GA]
theorem Ar(m:List Int):∀ (j k:Nat),k+j≤16→m.length=16→upto (nK m) k j (m.take k++List.replicate (80-k) 0)=m.take (k+j)++List.replicate (80-(k+j)) 0
 |0,_,_,_=>rfl
 |j+1,k,h,hm=>by
  have e:nK m k (m.take k++List.replicate (80-k) 0)=m.take (k+1)++List.replicate (80-(k+1)) 0:=by
   unfold nK;have hl:(m.take k).length=k:=(by simp;omega);rw[if_pos (by omega),List.set_append_right _ _ (by omega),hl,Nat.sub_self,show 80-k=(80-(k+1))+1 from by omega,List.replicate_succ,List.set_cons_zero,← List.take_append_getElem (by omega:k<m.length),List.append_assoc];simp[List.getD_eq_getElem?_getD,List.getElem?_eq_getElem (show k<m.length by omega)]
  show upto (nK m) (k+1) j (nK m k _)=_;rw[e,Ar m j (k+1) (by omega) hm,show k+1+j=k+(j+1)from by omega]
theorem Xx{m:List Int}(hm:m.length=16):upto (nK m) 0 80 (List.replicate 80 0)=dc m:=by
 have h:=Ar m 16 0 (by omega) hm;rw[show(80:Nat)=16+64 from rfl,IW];simp only[List.take_zero,List.nil_append,Nat.zero_add,Nat.sub_zero]at h;rw[Nat.zero_add,show List.replicate (16+64) (0:Int)=List.replicate 80 0 from rfl,h,List.take_of_length_le (by omega)];exact y5 (n:=80) (fun k (_:List Int)=>16≤k) (fun k _ _ h=>by omega) (fun k w _ h=>by unfold nK;rw[if_neg (by omega)]) 64 16 _ (by omega) (by omega)
abbrev ae5:Func:=f209
abbrev rsC:aQ (List LV) (Int×Unit):=(jk 1 (ai (ah (aD 0 0)) (ai (ah (aD 1 0)) (ai (ah (aD 2 0)) (ae (ah (aA .i64)) (jk 52 ag))))))
abbrev awP:Wk:=.fr (cb 57 [(1,.ak),(2,.ak),(3,.ak),(4,.sym)])
abbrev rsX:aQ (List LV) (Unit):=(jk 2 (ai (ah (aD 0 0)) (ai (ah (aD 1 0)) (jk 53 ag))))
abbrev aBY:Wk:=.fr (cb 57 [(2,.ak),(3,.ak)])
abbrev rsH:aQ Hp (List Int×List Int×List Int×Unit):=ae (gm 213 .u64 16) (ae (gm 278 .u64 80) (ae (gm 278 .u64 80) ag))
abbrev ae6:List (FuncId×an):= [(211,P1)]
theorem Ke:∀p∈ae6,p.2.Ok Tryz.prog p.1:=al Kb aw
def rsW:Exit→List Wk
 | .normal=> [awP,.auto]
 | .exit 0=> [aBY,.auto]
 |_=> []
theorem arU(t:Int)(m r w:List Int):ct Tryz.prog ae6 [] ae5 0 [] rsW ((aT rsC rsH).wr ((t,()),(m,r,w,())))=
 aG.ite (decide (t<(80:Int))) (aG.ite (decide (t<(16:Int))) (aG.need ((0:Int)≤t∧t<(16:Int)) (aG.need ((0:Int)≤t∧t<(80:
 Int)) (aG.leaf Exit.normal ((aT rsC rsH).wr ((i64.wrap (t+(1:Int)),PUnit.unit),m,r,w.set ((0:Nat)+t.toNat) ((List.take (16:Nat)
 (List.drop (0:Nat) m)).getD t.toNat (0:Int)),PUnit.unit))))) (aG.need ((0:Int)≤i64.wrap (t-(15:Int))∧i64.wrap (t-(15
 :Int))<(80:Int)) (aG.need ((0:Int)≤i64.wrap (t-(2:Int))∧i64.wrap (t-(2:Int))<(80:Int)) (aG.need ((0:Int)<
 (19:Int)∧(19:Int)<(64:Int)) (aG.need ((0:Int)<(61:Int)∧(61:Int)<(64:Int)) (aG.need ((0:Int)≤i64.wrap (t-(7:
 Int))∧i64.wrap (t-(7:Int))<(80:Int)) (aG.need ((0:Int)<(1:Int)∧(1:Int)<(64:Int)) (aG.need ((0:Int)<(8:Int)∧(8
 :Int)<(64:Int)) (aG.need ((0:Int)≤i64.wrap (t-(16:Int))∧i64.wrap (t-(16:Int))<(80:Int)) (aG.need ((0:Int)≤
 t∧t<(80:Int)) (aG.leaf Exit.normal ((aT rsC rsH).wr ((i64.wrap (t+(1:Int)),PUnit.unit),m,r,w.set ((0:Nat)+t.toNat)
 (u64.wrap (u64.wrap (u64.wrap (ca u64 (ca u64 (iT ((List.take (80:Nat) (List.drop (0:Nat)
 w)).getD (i64.wrap (t-(2:Int))).toNat (0:Int)) (19:Int)) (iT ((List.take (80:Nat) (List.drop (0:Nat) w)).getD (i64.wrap
 (t-(2:Int))).toNat (0:Int)) (61:Int))) (shr u64 ((List.take (80:Nat) (List.drop (0:Nat) w)).getD (i64.wrap (t-(2:
 Int))).toNat (0:Int)) (6:Int))+(List.take (80:Nat) (List.drop (0:Nat) w)).getD (i64.wrap (t-(7:Int))).toNat (0:Int))+ca
 u64 (ca u64 (iT ((List.take (80:Nat) (List.drop (0:Nat) w)).getD (i64.wrap (t-(15:Int))).toNat (0:Int)) (1:
 Int)) (iT ((List.take (80:Nat) (List.drop (0:Nat) w)).getD (i64.wrap (t-(15:Int))).toNat (0:Int)) (8:Int))) (shr u64
 ((List.take (80:Nat) (List.drop (0:Nat) w)).getD (i64.wrap (t-(15:Int))).toNat (0:Int)) (7:Int)))+(List.take (80:Nat)
 (List.drop (0:Nat) w)).getD (i64.wrap (t-(16:Int))).toNat (0:Int))),PUnit.unit))))))))))))) (aG.leaf (Exit.exit (0:Nat)) ((aT rsX
 scH).wr (PUnit.unit,r,w,PUnit.unit))):=by kernel_rfl
def rsF(x:(Int×Unit)×List Int×List Int×List Int×Unit):aG:=
 .need (x.1.1=0∧x.2.1.length=16∧x.2.2.2.1=List.replicate 80 0) (.leaf (.exit 0) ((aT rsX scH).wr ((),(x.2.2.1,dc x.2.1,()))))
theorem ak5(x):Ex Tryz.prog [] (.loop (aP ae5 0)) ((aT rsC rsH).wr x) (rsF x):=by
 obtain⟨⟨i,_⟩,m,r,w,_⟩:=x;refine Ex.need fun⟨h1,h2,h3⟩=>?_;simp only at h1 h2 h3;subst h1 h3
 have key:=c8 (fn:=ae5) (id:=0) (j:=0) (ws:=rsW) (hp:= []) mixed Ke (aK.nil _) 80 (fun k w=>(aT rsC rsH).wr (((k:Int),()),(m,r,w,()))) (fun w=>(aT rsX scH).wr ((),(r,w,()))) (nK m) (fun _ w=>w.length=80)
  (fun k w R hk hm hn hx=>?_) (fun k w _ hw=>by rw[GC];exact hw) 0 (List.replicate 80 0) (by omega) (by simp)
 ·rw[Xx h2]at key;exact key
 rw[arU];refine⟨fun hb=>?_,fun hb=>?_⟩
 ·have dQ:k<80:=by have:=of_decide_eq_true hb;omega
  rw[aX hm,aX h2,bQ k (by omega)];refine⟨fun h16=>?_,fun h16=>?_⟩
  ·have h16:k<16:=(by have:=of_decide_eq_true h16;omega);have:=hn dQ;unfold nK at this;rw[if_pos h16]at this;simp only[Int.toNat_natCast,Nat.zero_add];exact⟨by omega,by omega,this⟩
  ·have h16:16≤k:=(by have:=of_decide_eq_false h16;omega);have:=hn dQ;unfold nK at this;rw[if_neg (by omega)]at this;have e2:i64.wrap ((k:Int)-2)=((k-2:Nat):Int):=jr k 2 (by omega) (by omega);have e7:i64.wrap ((k:Int)-7)=((k-7:Nat):Int):=jr k 7 (by omega) (by omega);have e15:i64.wrap ((k:Int)-15)=((k-15:Nat):Int):=jr k 15 (by omega) (by omega);have e16:i64.wrap ((k:Int)-16)=((k-16:Nat):Int):=jr k 16 (by omega) (by omega);rw[e2,e7,e15,e16];simp only[Int.toNat_natCast,Nat.zero_add];exact⟨by omega,by omega,by decide,by decide,by omega,by decide,by decide,by omega,by omega,this⟩
 ·have:k=80:=by have:=of_decide_eq_false hb;omega
  exact hx this
abbrev awQ:df:= [(0,cJ (aT rsC rsH) 0 [awP,.auto] rsF)]
def Ud:an:=an.cm [] (scA) (ag) fun x_ y_=>(fun(m:List Int)=>.leaf (some (m.length=16)) (cY .u64 80 (dc m)) []) x_.1
theorem Kf(m:List Int):aH Tryz.prog ae6 awQ f209 ((scA).wr (m,())) ((ag).wr ()) [.fr [.sym],.auto]=
 End.need ((0:Int)=(0:Int)∧m.length=(16:Nat)∧List.replicate (80:Nat) (0:Int)=List.replicate (80:Nat) (0:Int)) (End.leaf (LV.one
 (VV.agg [SV.arr (Ty.int u64) (80:Nat) (dc m)])) []):=by kernel_rfl
theorem Xy:Ud.Ok Tryz.prog 209:=by
 refine(an.aS call209 fun x_ y_ Q H_=>?_).sym;obtain⟨m,_⟩:=x_;obtain⟨hn,hq⟩:=H_;have hn:m.length=16:=hn;refine(ar mixed Ke func209 rfl (LT:=awQ) (ks:= [.fr [.sym],.auto]) (aK.bI (iu rfl (bt (hp:= []) ak5) iE))).use (D:= []) ?_ hq;show(aH _ _ _ _ ((scA).wr (m,())) ((ag).wr ()) _).sat _;rw[Kf];exact⟨⟨rfl,hn,rfl⟩,rfl,rfl⟩
abbrev apB:Func:=f144
abbrev rpC:aQ (List LV) (Int×Unit):=(jk 2 (ai (ah (aD 0 0)) (jk 1 (ai (ah (aD 1 0)) (ai (ah (aD 2 0)) (ai (ah (aD 3 0)) (ai (ah (aD 4 0)) (ae (ah (aA .i64)) (jk 105 ag)))))))))
abbrev awS:Wk:=.fr (cb 114 [(2,.ak),(4,.ak),(5,.ak),(6,.ak),(7,.ak),(8,.sym)])
abbrev rpX:aQ (List LV) (Unit):=(jk 2 (ai (ah (aD 0 0)) (jk 1 (ai (ah (aD 1 0)) (jk 2 (ai (ah (aD 2 0)) (jk 106 ag)))))))
abbrev aB0:Wk:=.fr (cb 114 [(2,.ak),(4,.ak),(7,.ak)])
abbrev ae7:List (FuncId×an):= [(210,J9),(211,P1),(209,Ud)]
theorem Kg:∀p∈ae7,p.2.Ok Tryz.prog p.1:=al P0 (al Kb (al Xy aw))
def rpW:Exit→List Wk
 | .normal=> [awS,.dz 4 0 8 .u64,.auto]
 | .exit 0=> [aB0,.auto,.Cu 1,.Cu 2]
 |_=> []
theorem arV(t:Int)(s r w k x:List Int):ct Tryz.prog ae7 [] apB 0 [] rpW ((aT rpC spH).wr ((t,()),(s,r,w,k,x,())))=
 aG.ite (decide (t<(80:Int))) (aG.need ((0:Int)<(14:Int)∧(14:Int)<(64:Int)) (aG.need ((0:Int)<(18:Int)∧(18:Int)<(64:
 Int)) (aG.need ((0:Int)<(41:Int)∧(41:Int)<(64:Int)) (aG.need ((0:Int)≤t∧t<(80:Int)) (aG.need ((0:Int)≤t∧t<(80:
 Int)) (aG.need ((0:Int)<(28:Int)∧(28:Int)<(64:Int)) (aG.need ((0:Int)<(34:Int)∧(34:Int)<(64:Int)) (aG.need ((0:Int)<
 (39:Int)∧(39:Int)<(64:Int)) (aG.leaf Exit.normal ((aT rpC spH).wr ((i64.wrap (t+(1:Int)),PUnit.unit),s,r,w,k,
 [u64.wrap (u64.wrap (u64.wrap (u64.wrap (u64.wrap (x.getD (7:Nat) (0:Int)+ca u64 (ca
 u64 (iT (x.getD (4:Nat) (0:Int)) (14:Int)) (iT (x.getD (4:Nat) (0:Int)) (18:Int))) (iT (x.getD (4:Nat) (0:Int)) (41:
 Int)))+ca u64 (aM u64 (x.getD (4:Nat) (0:Int)) (x.getD (5:Nat) (0:Int))) (aM u64 (ca u64
 (18446744073709551615:Int) (x.getD (4:Nat) (0:Int))) (x.getD (6:Nat) (0:Int))))+(List.take (80:Nat) (List.drop (0:Nat) k)).getD t.toNat
 (0:Int))+(List.take (80:Nat) (List.drop (0:Nat) w)).getD t.toNat (0:Int))+u64.wrap (ca u64 (ca u64 (iT
 (x.getD (0:Nat) (0:Int)) (28:Int)) (iT (x.getD (0:Nat) (0:Int)) (34:Int))) (iT (x.getD (0:Nat) (0:Int)) (39:Int))+bC
 u64 (bC u64 (aM u64 (x.getD (0:Nat) (0:Int)) (x.getD (1:Nat) (0:Int))) (aM u64 (x.getD (0:Nat) (0
 :Int)) (x.getD (2:Nat) (0:Int)))) (aM u64 (x.getD (1:Nat) (0:Int)) (x.getD (2:Nat) (0:Int))))),x.getD (0:Nat) (0:Int),
 x.getD (1:Nat) (0:Int),x.getD (2:Nat) (0:Int),u64.wrap (x.getD (3:Nat) (0:Int)+u64.wrap (u64.wrap
 (u64.wrap (u64.wrap (x.getD (7:Nat) (0:Int)+ca u64 (ca u64 (iT (x.getD (4:Nat) (0:Int)) (14:Int))
 (iT (x.getD (4:Nat) (0:Int)) (18:Int))) (iT (x.getD (4:Nat) (0:Int)) (41:Int)))+ca u64 (aM u64 (x.getD (4:
 Nat) (0:Int)) (x.getD (5:Nat) (0:Int))) (aM u64 (ca u64 (18446744073709551615:Int) (x.getD (4:Nat) (0:Int)))
 (x.getD (6:Nat) (0:Int))))+(List.take (80:Nat) (List.drop (0:Nat) k)).getD t.toNat (0:Int))+(List.take (80:Nat) (List.drop (0:Nat)
 w)).getD t.toNat (0:Int))),x.getD (4:Nat) (0:Int),x.getD (5:Nat) (0:Int),x.getD (6:Nat) (0:Int)],PUnit.unit))))))))))) (aG.leaf
 (Exit.exit (0:Nat)) ((aT rpX Xt).wr (PUnit.unit,s,[r.getD (nat_lit 0) (0:Int),r.getD (nat_lit 1) (0:Int),r.getD (nat_lit 2) (0:Int),
 r.getD (nat_lit 3) (0:Int),r.getD (nat_lit 4) (0:Int),r.getD (nat_lit 5) (0:Int),r.getD (nat_lit 6) (0:Int),r.getD (nat_lit 7) (0:Int)],
 [x.getD (nat_lit 0) (0:Int),x.getD (nat_lit 1) (0:Int),x.getD (nat_lit 2) (0:Int),x.getD (nat_lit 3) (0:Int),x.getD (nat_lit 4) (0:Int),
 x.getD (nat_lit 5) (0:Int),x.getD (nat_lit 6) (0:Int),x.getD (nat_lit 7) (0:Int)],PUnit.unit))):=by kernel_rfl
def rpF(x:(Int×Unit)×List Int×List Int×List Int×List Int×List Int×Unit):aG:=
 .need (x.1.1=0∧x.2.2.2.2.1=fa∧x.2.2.2.1.length=80∧x.2.2.2.2.2.1.length=8) (.leaf (.exit 0) ((aT rpX Xt).wr ((),(x.2.1,x.2.2.1,nf x.2.2.2.1 x.2.2.2.2.2.1,()))))
theorem ak6(x):Ex Tryz.prog [] (.loop (aP apB 0)) ((aT rpC spH).wr x) (rpF x):=by
 obtain⟨⟨i,_⟩,s,r,w,k,x,_⟩:=x;refine Ex.need fun⟨h1,h2,h3,h4⟩=>?_;simp only at h1 h2 h3 h4;subst h1 h2
 refine c8 (ws:=rpW) (hp:= []) mixed Kg (aK.nil _) 80 (fun j x=>(aT rpC spH).wr (((j:Int),()),(s,r,w,fa,x,()))) (fun x=>(aT rpX Xt).wr ((),(s,r,x,()))) (arQ w) (fun _ x=>x.length=8)
  (fun j x R hk hm hn hx=>?_) (fun k m _ hm=>rfl) 0 x (by omega) h4
 rw[arV];refine⟨fun hb=>?_,fun hb=>?_⟩
 ·have dQ:j<80:=by have:=of_decide_eq_true hb;omega
  rw[aX h3,aX (l:=fa) (n:=80) rfl,bQ j (by omega),arS];simp only[Int.toNat_natCast];exact⟨by decide,by decide,by decide,by omega,by omega,by decide,by decide,by decide,hn dQ⟩
 ·have:j=80:=by have:=of_decide_eq_false hb;omega
  exact hx this
abbrev awT:df:= [(0,cJ (aT rpC spH) 0 [awS,.auto,.dz 1 0 8 .u64,.dz 4 0 8 .u64] rpF)]
def ae8:an:=an.cm [] (stA) (ag) fun x_ y_=>(fun(s m:List Int)=>.leaf (some (s.length=8∧m.length=16)) (cY .u64 8 (oP s m)) []) x_.1 x_.2.1
theorem P4(s m:List Int):aH Tryz.prog ae7 awT f144 ((stA).wr (s,m,())) ((ag).wr ()) [.fr [.sym],.eZ 0 0 8 .u64,.auto]=
 End.need (m.length=(16:Nat)) (End.need ((0:Int)=(0:Int)∧fa=fa∧(dc m).length=(80:Nat)∧s.length=(8:Nat))
 (End.leaf (LV.one (VV.agg [SV.arr (Ty.int u64) (8:Nat) [u64.wrap ((nf (dc m) s).getD (nat_lit 0) (0:Int)+s.getD (0:Nat)
 (0:Int)),u64.wrap ((nf (dc m) s).getD (nat_lit 1) (0:Int)+s.getD (1:Nat) (0:Int)),u64.wrap ((nf (dc m) s).getD
 (nat_lit 2) (0:Int)+s.getD (2:Nat) (0:Int)),u64.wrap ((nf (dc m) s).getD (nat_lit 3) (0:Int)+s.getD (3:Nat) (0:Int)),
 u64.wrap ((nf (dc m) s).getD (nat_lit 4) (0:Int)+s.getD (4:Nat) (0:Int)),u64.wrap ((nf (dc m) s).getD (nat_lit 5)
 (0:Int)+s.getD (5:Nat) (0:Int)),u64.wrap ((nf (dc m) s).getD (nat_lit 6) (0:Int)+s.getD (6:Nat) (0:Int)),
 u64.wrap ((nf (dc m) s).getD (nat_lit 7) (0:Int)+s.getD (7:Nat) (0:Int))]])) [])):=by kernel_rfl
theorem ae9:ae8.Ok Tryz.prog 144:=by
 refine(an.aS call144 fun x_ y_ Q H_=>?_).sym;obtain⟨s,m,_⟩:=x_;obtain⟨hn,hq⟩:=H_;have hn:s.length=8∧m.length=16:=hn;refine(ar mixed Kg func144 rfl (LT:=awT) (ks:= [.fr [.sym],.eZ 0 0 8 .u64,.auto]) (aK.bI (iu rfl (bt (hp:= []) ak6) iE))).use (D:= []) ?_ hq;show(aH _ _ _ _ ((stA).wr (s,m,())) ((ag).wr ()) _).sat _;rw[P4];exact⟨hn.2,⟨rfl,rfl,tT hn.2,hn.1⟩,rfl,rfl⟩
structure HH where
 begun:Bool
 s:List Int
 n:Int
 wait:List Int
abbrev cHH:aQ (List SV) HH:=(ae aaW (ae (sF (.int .u64) 8) (ae (aA .i64) (ae (sF u8 128) ag)))).lV (fun x=>⟨x.1,x.2.1,x.2.2.1,x.2.2.2.1⟩) (fun h=>(h.begun,h.s,h.n,h.wait,())) (fun _=>rfl)
abbrev hI(h:HH):Ev.Item:=.ba (cHH.wr h) 121
abbrev qS:aQ Hp (HH×Unit):=ae (fG 121 cHH) ag
abbrev hV(h:HH):LV:=.one (.agg (cHH.wr h))
abbrev As:Wk:=.ba 0 [.sym,.ak,.sym,.ak]
def vX:HH:=⟨true,nd,0,List.replicate 128 0⟩
def apC:an:=an.cm [] (ag) (ag) fun x_ y_=>.leaf none (.one (.sc (.ptr 0 0))) [(0,hI vX)]
theorem Xz:aH Tryz.prog [(104,aeW)] [] f52 ((ag).wr ()) ((ag).wr ()) [.dz 0 1 8 .u64,As,.auto]=
 End.leaf (LV.one (VV.sc (SV.ptr (0:Nat) (0:Nat)))) [some (Item.ba [SV.bool (SB.sym true),SV.arr (Ty.int u64) (8:Nat) nd,SV.int
 i64 (SI.sym (0:Int)),SV.arr (Ty.int IntKind.u8) (128:Nat) (List.replicate (128:Nat) (0:Int))] (121:Nat))]:=by kernel_rfl
theorem ak7:apC.Ok Tryz.prog 52:=by
 refine(an.aS call52 fun x_ y_ Q H_=>?_).sym;have hq:=H_.2;refine(ar mixed ((al aeX aw)) func52 rfl (LT:= []) (ks:= [.dz 0 1 8 .u64,As,.auto]) (aK.nil _)).use (D:= [(0,hI vX)]) ?_ hq;show(aH _ _ _ _ ((ag).wr ()) ((ag).wr ()) _).sat _;rw[Xz];exact⟨rfl,rfl⟩
def arW:an:=an.cm [] ((ai p0 ag)) (qS) fun x_ y_=>(fun(h:HH)=>.leaf (some (h.begun=true)) (hV h) []) y_.1
theorem afa(h:HH):aH Tryz.prog [] [] f105 (((ai p0 ag)).wr ()) ((qS).wr (h,())) [.auto]=
 End.ite (!h.begun) End.fail (End.leaf (LV.one (VV.agg [SV.bool (SB.sym h.begun),SV.arr (Ty.int u64) (8:Nat) h.s,SV.int i64 (SI.sym
 h.n),SV.arr (Ty.int IntKind.u8) (128:Nat) h.wait])) [some (Item.ba [SV.bool (SB.sym h.begun),SV.arr (Ty.int u64) (8:Nat) h.s,SV.int
 i64 (SI.sym h.n),SV.arr (Ty.int IntKind.u8) (128:Nat) h.wait] (121:Nat))]):=by kernel_rfl
theorem afb:arW.Ok Tryz.prog 105:=by
 refine(an.aS call105 fun x_ y_ Q H_=>?_).sym;obtain⟨h,_⟩:=y_;obtain⟨hn,hq⟩:=H_;have hn:h.begun=true:=hn;refine(ar mixed aw func105 rfl (LT:= []) (ks:= [.auto]) (aK.nil _)).use (D:= []) ?_ hq;show(aH _ _ _ _ (((ai p0 ag)).wr ()) ((qS).wr (h,())) _).sat _;rw[afa];exact⟨fun e=>(by rw[hn]at e;cases e),fun _=>⟨rfl,rfl⟩⟩
def lk(h:HH)(c:Int):HH:=if(h.n+1)%128=0 then⟨h.begun,oP h.s (ib (h.wait.set (h.n%128).toNat c)),h.n+1,h.wait.set (h.n%128).toNat c⟩else⟨h.begun,h.s,h.n+1,h.wait.set (h.n%128).toNat c⟩
def b9(h:HH)(b:List Int):HH:=b.foldl lk h
structure rz (h:HH):Prop where
 begun:h.begun=true
 n:0≤h.n
 s:h.s.length=8
 wait:h.wait.length=128
theorem GD(h:HH)(c:Int):(lk h c).n=h.n+1:=by unfold lk;split<;>rfl
theorem At{h:HH}(hh:rz h)(c:Int):rz (lk h c):=by
 obtain⟨h1,h2,h3,h4⟩:=hh;unfold lk
 split
 ·exact⟨h1,by simp only;omega,wY _ _,by simp[h4]⟩
 ·exact⟨h1,by simp only;omega,h3,by simp[h4]⟩
theorem oQ:∀ (b:List Int) (h:HH),(b9 h b).n=h.n+b.length
 | [],h=>by simp[b9]
 |c::b,h=>by
  show(b9 (lk h c) b).n=_;rw[oQ b,GD,List.length_cons];omega
theorem nh:∀ (b:List Int) {h:HH},rz h→rz (b9 h b)
 | [],_,hh=>hh
 |c::b,_,hh=>nh b (At hh c)
theorem jA(h:HH)(a b:List Int):b9 h (a++b)=b9 (b9 h a) b:=by simp[b9]
theorem Au{σ:Type}(g:σ→Int→σ)(b:List Int):∀ (m k:Nat) (s:σ),k+m=b.length→upto (fun k s=>g s (b.getD k 0)) k m s=(b.drop k).foldl g s
 |0,k,s,h=>by rw[List.drop_eq_nil_of_le (by omega)];rfl
 |m+1,k,s,h=>by
  rw[VX (show k<b.length by omega)];exact Au g b m (k+1) _ (by omega)
abbrev arX:Func:=f106
abbrev puC:aQ (List LV) (List Int×Int×Int×Unit):=(ai (ah (aD 0 0)) (jk 7 (ae (ah (gg false false u8)) (ae (ah (aA .i64)) (ae (ah (aA .i64)) (jk 44 ag))))))
abbrev awU:Wk:=.fr (cb 55 [(0,.ak),(8,.ak),(9,.sym),(10,.sym)])
abbrev puX:aQ (List LV) (Unit):=(jk 55 ag)
abbrev aB2:Wk:=.fr (cb 55 [])
abbrev afc:List (FuncId×an):= [(161,aeY),(162,apA)]
def puW:Exit→List Wk
 | .normal=> [awU,As,.auto]
 | .exit 0=> [aB2,As,.auto]
 |_=> []
theorem arY(h0 h:HH)(b:List Int)(n i:Int):ct Tryz.prog afc [] arX 0 (qS.wr (h0,())) puW ((aT puC qS).wr ((b,n,i,()),(h,())))=
 aG.ite (decide (i<n)) (aG.need ((0:Int)≤i∧i<(↑b.length:Int)) (aG.need ((0:Int)≤h.n.tmod (128:Int)∧h.n.tmod (128:Int)<(128:
 Int)) (aG.ite ((i64.wrap (h.n+(1:Int))).tmod (128:Int)==(0:Int)) (aG.need ((0:Int)≤(0:Int)∧(0:Int)≤(128:Int)∧(128:
 Int)≤(128:Int)) (aG.need ((List.take (128:Nat) (List.drop (0:Nat) (h.wait.set ((0:Nat)+(h.n.tmod (128:Int)).toNat) (b.getD i.toNat (0:
 Int))))).length=(128:Nat)) (aG.need (h.s.length=(8:Nat)∧(16:Nat)=(16:Nat)) (aG.leaf Exit.normal ((aT puC qS).wr ((b,n,
 i64.wrap (i+(1:Int)),PUnit.unit),{begun:=h.begun,s:=oP h.s (ib (List.take (128:Nat) (List.drop (0:Nat) (h.wait.set ((0:Nat)+(h.n.tmod (128:Int)).toNat) (b.getD i.toNat (0:Int)))))),n:=i64.wrap (h.n+(1:Int)),wait:=h.wait.set ((0:Nat)+(h.n.tmod (128:Int)).toNat) (b.getD i.toNat (0:Int))},
 PUnit.unit)))))) (aG.leaf Exit.normal ((aT puC qS).wr ((b,n,i64.wrap (i+(1:Int)),PUnit.unit),{begun:=h.begun,s:=h.s,n:=i64.wrap (h.n+(1:Int)),wait:=h.wait.set ((0:Nat)+(h.n.tmod (128:Int)).toNat) (b.getD i.toNat (0:Int))},
 PUnit.unit)))))) (aG.leaf (Exit.exit (0:Nat)) ((aT puX qS).wr (PUnit.unit,h,PUnit.unit))):=by kernel_rfl
theorem Kh:∀p∈afc,p.2.Ok Tryz.prog p.1:=al aeZ (al ak3 aw)
def puF(x:(List Int×Int×Int×Unit)×HH×Unit):aG:=
 .need (rz x.2.1∧x.1.2.1=x.1.1.length∧x.1.2.2.1=0∧x.2.1.n+x.1.1.length<2305843009213693952) (.leaf (.exit 0) ((aT puX qS).wr ((),(b9 x.2.1 x.1.1,()))))
theorem ak8(h0:HH)(x):Ex Tryz.prog (qS.wr (h0,())) (.loop (aP arX 0)) ((aT puC qS).wr x) (puF x):=by
 obtain⟨⟨b,n,i,_⟩,h,_⟩:=x;refine Ex.need fun⟨h1,h2,h3,h4⟩=>?_;simp only at h1 h2 h3 h4;subst h2 h3;have aGn:(b.length:Int)<2305843009213693952:=by have:=h1.n;omega
 have key:=c8 (fn:=arX) (id:=0) (j:=0) (ws:=puW) (hp:=qS.wr (h0,())) mixed Kh (aK.nil _) b.length (fun k h=>(aT puC qS).wr ((b,(b.length:Int),(k:Int),()),(h,()))) (fun h=>(aT puX qS).wr ((),(h,()))) (fun k h=>lk h (b.getD k 0)) (fun k h=>rz h∧h.n+(b.length-k:Nat)<2305843009213693952)
  (fun k h R hk hm hn hx=>?_) (fun k h _ hh=>⟨At hh.1 _,by rw[GD];have:=hh.2;omega⟩) 0 h (by omega) ⟨h1,by simpa using h4⟩
 ·rw[Nat.sub_zero,Au lk b _ _ _ (by omega)]at key;exact key
 obtain⟨hh,dQ⟩:=hm;obtain⟨g1,g2,g3,g4⟩:=hh;rw[arY];refine⟨fun hb=>?_,fun hb=>?_⟩
 ·have g6:k<b.length:=by have:=of_decide_eq_true hb;omega
  have e1:i64.wrap (h.n+1)=h.n+1:=au (by omega) (by omega);have e2:h.n.tmod 128=h.n%128:=Int.tmod_eq_emod_of_nonneg g2;have e3:(h.n+1).tmod 128=(h.n+1)%128:=Int.tmod_eq_emod_of_nonneg (by omega);have e4:∀c,List.take 128 (List.drop 0 (h.wait.set (h.n%128).toNat c))=h.wait.set (h.n%128).toNat c:=fun c=>aX (by simp[g4]);rw[e1,e2,e3,bQ k (by omega)];simp only[Int.toNat_natCast,Nat.zero_add];rw[e4];have kf:=hn g6;refine⟨⟨by omega,by omega⟩,by omega,fun hz=>?_,fun hz=>?_⟩
  ·have MQ:(h.n+1)%128=0:=(by simpa using hz);rw[lk,if_pos MQ]at kf;exact⟨by omega,by simp[g4],⟨g3,trivial⟩,kf⟩
  ·have MQ:¬ (h.n+1)%128=0:=(by simpa using hz);rw[lk,if_neg MQ]at kf;exact kf
 ·have:k=b.length:=by have:=of_decide_eq_false hb;omega
  exact hx this
abbrev awV:df:= [(0,cJ (aT puC qS) 1 [awU,As,.auto] puF)]
abbrev hbA:aQ (List LV) (List Int×Unit):=ai p0 (ae (ah (gg false false u8)) ag)
def afd:an:=an.cm [none,some u8] (hbA) (qS) fun x_ y_=>(fun(b:List Int) (h:HH)=>.leaf (some (rz h∧h.n+b.length<2305843009213693952)) (.c6 []) [(0,hI (b9 h b))]) x_.1 y_.1
theorem XA(b:List Int)(h:HH):aH Tryz.prog afc awV f106 ((hbA).wr (b,())) ((qS).wr (h,())) [As,.auto]=
 End.need (rz h∧(↑b.length:Int)=(↑b.length:Int)∧(0:Int)=(0:Int)∧h.n+(↑b.length:Int)<(2305843009213693952:Int)) (End.leaf
 (LV.c6 []) [some (Item.ba [SV.bool (SB.sym (b9 h b).begun),SV.arr (Ty.int u64) (8:Nat) (b9 h b).s,SV.int i64 (SI.sym (b9 h
 b).n),SV.arr (Ty.int IntKind.u8) (128:Nat) (b9 h b).wait] (121:Nat))]):=by kernel_rfl
theorem Ue:afd.Ok Tryz.prog 106:=by
 refine(an.aS call106 fun x_ y_ Q H_=>?_).sym;obtain⟨b,_⟩:=x_;obtain⟨h,_⟩:=y_;obtain⟨hn,hq⟩:=H_;have hn:rz h∧h.n+b.length<2305843009213693952:=hn;refine(ar mixed Kh func106 rfl (LT:=awV) (ks:= [As,.auto]) (aK.bI (iu rfl (bt (hp:=qS.wr (h,())) (ak8 h)) iE))).use (D:= [(0,hI (b9 h b))]) ?_ hq;show(aH _ _ _ _ ((hbA).wr (b,())) ((qS).wr (h,())) _).sat _;rw[XA];exact⟨⟨hn.1,rfl,rfl,hn.2⟩,rfl,rfl⟩
def afe:an:=an.cm [none,some u8] (hbA) (qS) fun x_ y_=>(fun(b:List Int) (h:HH)=>.leaf (some (rz h∧h.n+b.length<2305843009213693952)) (.c6 []) [(0,hI (b9 h b))]) x_.1 y_.1
theorem P5(b:List Int)(h:HH):aH Tryz.prog [(105,arW),(106,afd)] [] f53 ((hbA).wr (b,())) ((qS).wr (h,())) [As,.auto]=
 End.need (h.begun=true) (End.need (rz h∧h.n+(↑b.length:Int)<(2305843009213693952:Int)) (End.leaf (LV.c6 []) [some (Item.ba [SV.bool
 (SB.sym (b9 h b).begun),SV.arr (Ty.int u64) (8:Nat) (b9 h b).s,SV.int i64 (SI.sym (b9 h b).n),SV.arr (Ty.int IntKind.u8)
 (128:Nat) (b9 h b).wait] (121:Nat))])):=by kernel_rfl
theorem aff:afe.Ok Tryz.prog 53:=by
 refine(an.aS call53 fun x_ y_ Q H_=>?_).sym;obtain⟨b,_⟩:=x_;obtain⟨h,_⟩:=y_;obtain⟨hn,hq⟩:=H_;have hn:rz h∧h.n+b.length<2305843009213693952:=hn;refine(ar mixed ((al afb (al Ue aw))) func53 rfl (LT:= []) (ks:= [As,.auto]) (aK.nil _)).use (D:= [(0,hI (b9 h b))]) ?_ hq;show(aH _ _ _ _ ((hbA).wr (b,())) ((qS).wr (h,())) _).sat _;rw[P5];exact⟨hn.1.begun,hn,rfl,rfl⟩
def bX(x:Int):List Int:=(List.range 8).map fun i=>IntKind.u8.wrap (shr .u64 x ((56-8*i:Nat):Int))
def P6:an:=an.cm [] ((ae (ah (aA .u64)) ag)) (ag) fun x_ y_=>(fun(x:Int)=>.leaf none (.one (.sc (.sl 0 0))) [(0,.own 0 u8 (bX x))]) x_.1
theorem P7(x:Int):aH Tryz.prog [] [] f107 (((ae (ah (aA .u64)) ag)).wr (x,())) ((ag).wr ()) [.auto,.aF]=
 End.need ((1:Nat)≤(70368744177664:Nat)∧(1:Nat)≤(70368744177664:Nat)) (End.need ((2:Nat)≤(70368744177664:Nat)∧(2:Nat)≤
 (70368744177664:Nat)) (End.need ((3:Nat)≤(70368744177664:Nat)∧(3:Nat)≤(70368744177664:Nat)) (End.need ((4:Nat)≤(70368744177664:
 Nat)∧(4:Nat)≤(70368744177664:Nat)) (End.need ((5:Nat)≤(70368744177664:Nat)∧(5:Nat)≤(70368744177664:Nat)) (End.need ((6:Nat)≤
 (70368744177664:Nat)∧(6:Nat)≤(70368744177664:Nat)) (End.need ((7:Nat)≤(70368744177664:Nat)∧(7:Nat)≤(70368744177664:Nat))
 (End.need ((8:Nat)≤(70368744177664:Nat)∧(8:Nat)≤(70368744177664:Nat)) (End.leaf (LV.one (VV.sc (SV.sl (0:Nat) (0:Nat)))) [some
 (Item.own (0:Nat) (Ty.int IntKind.u8) ([IntKind.u8.wrap (shr u64 x (56:Int))]++ [IntKind.u8.wrap (shr u64 x (48:Int))]++
 [IntKind.u8.wrap (shr u64 x (40:Int))]++ [IntKind.u8.wrap (shr u64 x (32:Int))]++ [IntKind.u8.wrap (shr u64 x (24:
 Int))]++ [IntKind.u8.wrap (shr u64 x (16:Int))]++ [IntKind.u8.wrap (shr u64 x (8:Int))]++ [IntKind.u8.wrap (shr u64 x (0
 :Int))]))])))))))):=by kernel_rfl
theorem Ki:P6.Ok Tryz.prog 107:=by
 refine(an.aS call107 fun x_ y_ Q H_=>?_).sym;obtain⟨x,_⟩:=x_;have hq:=H_.2;refine(ar mixed aw func107 rfl (LT:= []) (ks:= [.auto,.aF]) (aK.nil _)).use (D:= [(0,.own 0 u8 (bX x))]) ?_ hq;show(aH _ _ _ _ (((ae (ah (aA .u64)) ag)).wr (x,())) ((ag).wr ()) _).sat _;rw[P7];exact⟨by omega,by omega,by omega,by omega,by omega,by omega,by omega,by omega,rfl,rfl⟩
def eK(s:List Int):List Int:=(List.range 8).foldl (fun a i=>a++bX (s.getD i 0)) []
def Kj:an:=an.cm [] ((ai p0 ag)) (qS) fun x_ y_=>(fun(h:HH)=>.leaf none (.one (.sc (.sl 1 0))) [(1,.own 0 u8 (eK h.s))]) y_.1
theorem GF(h:HH):aH Tryz.prog [(107,P6)] [] f108 (((ai p0 ag)).wr ()) ((qS).wr (h,())) [.auto,.aF]=
 End.need ((8:Nat)≤(70368744177664:Nat)∧(8:Nat)≤(70368744177664:Nat)) (End.need ((16:Nat)≤(70368744177664:Nat)∧(16:Nat)≤
 (70368744177664:Nat)) (End.need ((24:Nat)≤(70368744177664:Nat)∧(24:Nat)≤(70368744177664:Nat)) (End.need ((32:Nat)≤(70368744177664:
 Nat)∧(32:Nat)≤(70368744177664:Nat)) (End.need ((40:Nat)≤(70368744177664:Nat)∧(40:Nat)≤(70368744177664:Nat)) (End.need ((48:Nat)
 ≤(70368744177664:Nat)∧(48:Nat)≤(70368744177664:Nat)) (End.need ((56:Nat)≤(70368744177664:Nat)∧(56:Nat)≤(70368744177664:Nat))
 (End.need ((64:Nat)≤(70368744177664:Nat)∧(64:Nat)≤(70368744177664:Nat)) (End.leaf (LV.one (VV.sc (SV.sl (1:Nat) (0:Nat)))) [some
 (Item.ba [SV.bool (SB.sym h.begun),SV.arr (Ty.int u64) (8:Nat) h.s,SV.int i64 (SI.sym h.n),SV.arr (Ty.int IntKind.u8) (128:Nat)
 h.wait] (121:Nat)),some (Item.own (0:Nat) (Ty.int IntKind.u8) (bX (h.s.getD (0:Nat) (0:Int))++bX (h.s.getD (1:Nat) (0:Int))++
 bX (h.s.getD (2:Nat) (0:Int))++bX (h.s.getD (3:Nat) (0:Int))++bX (h.s.getD (4:Nat) (0:Int))++bX (h.s.getD (5:Nat)
 (0:Int))++bX (h.s.getD (6:Nat) (0:Int))++bX (h.s.getD (7:Nat) (0:Int))))])))))))):=by kernel_rfl
theorem P8:Kj.Ok Tryz.prog 108:=by
 refine(an.aS call108 fun x_ y_ Q H_=>?_).sym;obtain⟨h,_⟩:=y_;have hq:=H_.2;refine(ar mixed ((al Ki aw)) func108 rfl (LT:= []) (ks:= [.auto,.aF]) (aK.nil _)).use (D:= [(1,.own 0 u8 (eK h.s))]) ?_ hq;show(aH _ _ _ _ (((ai p0 ag)).wr ()) ((qS).wr (h,())) _).sat _;rw[GF];exact⟨by omega,by omega,by omega,by omega,by omega,by omega,by omega,by omega,rfl,rfl⟩
abbrev awW:Func:=f54
abbrev afg:List (FuncId×an):= [(105,arW),(106,afd),(107,P6),(108,Kj)]
theorem Kk:∀p∈afg,p.2.Ok Tryz.prog p.1:=al afb (al Ue (al Ki (al P8 aw)))
abbrev GG:aQ Hp (HH×List Int×HH×Unit):=ae (fG 121 cHH) (ae (gm 41 .u8 64) (ae (fG 121 cHH) ag))
abbrev afh:Wk:=.ba 2 [.sym,.ak,.sym,.ak]
abbrev suC:aQ (List LV) (Int×Unit):=(jk 2 (ai (ah (aD 1 0)) (ai (ah (aD 2 0)) (ae (ah (aA .u64)) (jk 24 ag)))))
abbrev arZ:Wk:=.fr (cb 29 [(2,.ak),(3,.ak),(4,.sym)])
def suW:Exit→List Wk
 | .normal=> [arZ,afh,.auto]
 | .exit 0=> [arZ,afh,.auto]
 |_=> []
theorem ar0(h0:HH)(g:HH)(r:List Int)(h:HH)(n:Int):ct Tryz.prog afg [] awW 0 (qS.wr (h0,())) suW ((aT suC GG).wr ((n,()),(g,r,h,())))=
 aG.ite (h.n.tmod (128:Int)!=(112:Int)) (aG.need (rz h∧h.n+(1:Int)<(2305843009213693952:Int)) (aG.leaf Exit.normal ((aT suC
 GG).wr ((n,PUnit.unit),g,r,b9 h [(0:Int)],PUnit.unit)))) (aG.leaf (Exit.exit (0:Nat)) ((aT suC GG).wr ((n,PUnit.unit),g,r,h,
 PUnit.unit))):=by kernel_rfl
def lN(h:HH):HH:=b9 h (List.replicate ((112-h.n)%128).toNat 0)
theorem XB{h:HH}(hz:¬h.n%128=112):lN (b9 h [0])=lN h∧((112-(b9 h [0]).n)%128).toNat<((112-h.n)%128).toNat:=by
 have e1:(b9 h [0]).n=h.n+1:=by rw[oQ];rfl
 have e2:((112-h.n)%128).toNat=((112-(b9 h [0]).n)%128).toNat+1:=by rw[e1];omega
 refine⟨?_,by omega⟩;unfold lN;rw[e2,List.replicate_succ];rfl
theorem afi{h:HH}(hz:h.n%128=112):lN h=h:=by
 have e:((112-h.n)%128).toNat=0:=by omega
 unfold lN;rw[e];rfl
def suF(x:(Int×Unit)×HH×List Int×HH×Unit):aG:=
 .need (rz x.2.2.2.1∧x.2.2.2.1.n+128<2305843009213693952) (.leaf (.exit 0) ((aT suC GG).wr (x.1,(x.2.1,x.2.2.1,lN x.2.2.2.1,()))))
theorem ala(h0:HH)(x):Ex Tryz.prog (qS.wr (h0,())) (.loop (aP awW 0)) ((aT suC GG).wr x) (suF x):=by
 obtain⟨⟨n,_⟩,g,r,h,_⟩:=x;refine Ex.need fun⟨h1,h2⟩=>?_;simp only at h1 h2
 refine yZ mixed Kk (LT:= []) (ws:=suW) (hp:=qS.wr (h0,())) (aK.nil _) (fun h:HH=>((112-h.n)%128).toNat) (fun h:HH=>(aT suC GG).wr ((n,()),(g,r,h,()))) (fun h=>rz h∧h.n+(112-h.n)%128<2305843009213693952)
  (fun h=>.leaf (.exit 0) ((aT suC GG).wr ((n,()),(g,r,lN h,())))) (fun h _=>ar0 h0 g r h n) (fun h R hh hs=>?_) h ⟨h1,by omega⟩
 obtain⟨hh,dQ⟩:=hh;have e:h.n.tmod 128=h.n%128:=Int.tmod_eq_emod_of_nonneg hh.n;rw[e];refine⟨fun hb=>?_,fun hb=>?_⟩
 ·have iw:¬h.n%128=112:=by simpa using hb
  obtain⟨k1,k2⟩:=XB iw;have e1:(b9 h [0]).n=h.n+1:=by rw[oQ];rfl
  refine⟨⟨hh,by omega⟩,.inl ⟨rfl,b9 h [0],rfl,⟨nh _ hh,by rw[e1];omega⟩,k2,?_⟩⟩;show(aG.leaf (.exit 0) ((aT suC GG).wr ((n,()),(g,r,lN (b9 h [0]),())))).sat R;rw[k1];exact hs
 ·have iw:h.n%128=112:=by simpa using hb
  rw[afi iw]at hs;exact .inr ⟨by simp,hs⟩
abbrev awX:df:= [(0,cJ (aT suC GG) 1 [arZ,afh,.auto] suF)]
def apD(h:HH)(n:Int):HH:=b9 (b9 (lN (b9 h [128])) (bX (shr .u64 n 61))) (bX (shl .u64 n 3))
def alb(h:HH):List Int:=eK (apD h (u64.wrap h.n)).s
theorem GH(x:Int):(bX x).length=8:=rfl
theorem oR(s:List Int):(eK s).length=64:=rfl
def awY:an:=an.cm [] ((ai p0 ag)) (qS) fun x_ y_=>(fun(h:HH)=>.leaf (some (rz h∧h.n<1152921504606846976)) (cY .u8 64 (alb h)) []) y_.1
theorem afj(h:HH):aH Tryz.prog afg awX f54 (((ai p0 ag)).wr ()) ((qS).wr (h,())) [.fr [.sym],As,.auto]=
 End.need (h.begun=true) (End.need (rz h∧h.n+(1:Int)<(2305843009213693952:Int)) (End.need (rz (b9 h [(128:Int)])∧(b9 h [(128:
 Int)]).n+(128:Int)<(2305843009213693952:Int)) (End.need (rz (lN (b9 h [(128:Int)]))∧(lN (b9 h [(128:Int)])).n+(8:Int)<
 (2305843009213693952:Int)) (End.need (rz (b9 (lN (b9 h [(128:Int)])) (bX (shr u64 (u64.wrap h.n) (61:Int))))∧(b9
 (lN (b9 h [(128:Int)])) (bX (shr u64 (u64.wrap h.n) (61:Int)))).n+(8:Int)<(2305843009213693952:Int)) (End.need ((64
 :Nat)≤(64:Nat)) (End.need ((64:Nat)≤(64:Nat)) (End.leaf (LV.one (VV.agg [SV.arr (Ty.int IntKind.u8) (64:Nat) (List.take (64:Nat)
 (List.drop (0:Nat) (eK (b9 (b9 (lN (b9 h [(128:Int)])) (bX (shr u64 (u64.wrap h.n) (61:Int)))) (bX (shl
 u64 (u64.wrap h.n) (3:Int)))).s)))])) [some (Item.ba [SV.bool (SB.sym h.begun),SV.arr (Ty.int u64) (8:Nat) h.s,SV.int
 i64 (SI.sym h.n),SV.arr (Ty.int IntKind.u8) (128:Nat) h.wait] (121:Nat))]))))))):=by kernel_rfl
theorem ar1:awY.Ok Tryz.prog 54:=by
 refine(an.aS call54 fun x_ y_ Q H_=>?_).sym;obtain⟨h,_⟩:=y_;obtain⟨hn,hq⟩:=H_;have hn:rz h∧h.n<1152921504606846976:=hn;refine(ar mixed Kk func54 rfl (LT:=awX) (ks:= [.fr [.sym],As,.auto]) (aK.bI (iu rfl (bt (hp:=qS.wr (h,())) (ala h)) iE))).use (D:= []) ?_ hq;show(aH _ _ _ _ (((ai p0 ag)).wr ()) ((qS).wr (h,())) _).sat _;rw[afj];obtain⟨g1,g2⟩:=hn;have g3:=g1.n;have e1:(b9 h [128]).n=h.n+1:=by rw[oQ];rfl
 have k1:rz (b9 h [128]):=nh _ g1;have k2:rz (lN (b9 h [128])):=nh _ k1;have e2:(lN (b9 h [128])).n≤h.n+128:=by unfold lN;rw[oQ,e1,List.length_replicate];omega
 have k3:rz (b9 (lN (b9 h [128])) (bX (shr .u64 (u64.wrap h.n) 61))):=nh _ k2;have e3:(b9 (lN (b9 h [128])) (bX (shr .u64 (u64.wrap h.n) 61))).n≤h.n+136:=by rw[oQ,GH];omega
 have e4:∀s,List.take 64 (List.drop 0 (eK s))=eK s:=fun s=>aX (oR s);rw[e4];exact⟨g1.begun,⟨g1,by omega⟩,⟨k1,by omega⟩,⟨k2,by omega⟩,⟨k3,by omega⟩,by omega,by omega,rfl,rfl⟩
abbrev ofFn:Func:=f22
abbrev bI:List (FuncId×an):= [(52,apC),(53,afe),(54,awY)]
abbrev rrA:aQ (List LV) (List (List Int)×Unit):=ae (ah (gg false false (.sl u8))) ag
abbrev ofC:aQ (List LV) (List (List Int)×Int×Int×Unit):=(jk 2 (ai (ah (aD 0 0)) (ai (ah (aD 1 0)) (jk 3 (ae (ah (gg false false (.sl u8))) (ae (ah (aA .i64)) (ae (ah (aA .i64)) (jk 9 ag))))))))
abbrev aw0:Wk:=.fr (cb 19 [(2,.ak),(3,.ak),(7,.ak),(8,.sym),(9,.sym)])
abbrev ofX:aQ (List LV) (Unit):=(jk 2 (ai (ah (aD 0 0)) (ai (ah (aD 1 0)) (jk 15 ag))))
abbrev aB4:Wk:=.fr (cb 19 [(2,.ak),(3,.ak)])
abbrev Kl:aQ Hp (List Int×HH×Unit):=ae (gm 41 .u8 64) (ae (fG 121 cHH) ag)
abbrev afk:Wk:=.ba 1 [.sym,.ak,.sym,.ak]
def ofW:Exit→List Wk
 | .normal=> [aw0,afk,.auto]
 | .exit 0=> [aB4,afk,.auto]
 |_=> []
theorem ar2(l:List (List Int))(n i:Int)(r:List Int)(h:HH):ct Tryz.prog bI [] ofFn 0 [] ofW ((aT ofC Kl).wr ((l,n,i,()),(r,h,())))=
 aG.ite (decide (i<n)) (aG.need ((0:Int)≤i∧i<(↑l.length:Int)) (aG.need (rz h∧h.n+(↑(List.length (l.getD i.toNat [])):Int)<
 (2305843009213693952:Int)) (aG.leaf Exit.normal ((aT ofC Kl).wr ((l,n,i64.wrap (i+(1:Int)),PUnit.unit),r,b9 h (l.getD i.toNat
 []),PUnit.unit))))) (aG.leaf (Exit.exit (0:Nat)) ((aT ofX Kl).wr (PUnit.unit,r,h,PUnit.unit))):=by kernel_rfl
theorem Km:∀p∈bI,p.2.Ok Tryz.prog p.1:=al ak7 (al aff (al ar1 aw))
theorem CX{σ:Type}(g:σ→List Int→σ)(b:List (List Int)):∀ (m k:Nat) (s:σ),k+m=b.length→upto (fun k s=>g s (b.getD k [])) k m s=(b.drop k).foldl g s
 |0,k,s,h=>by rw[List.drop_eq_nil_of_le (by omega)];rfl
 |m+1,k,s,h=>by
  have e:b.drop k=b.getD k []::b.drop (k+1):=by
   rw[List.drop_eq_getElem_cons (by omega:k<b.length),List.getD_eq_getElem?_getD,List.getElem?_eq_getElem (by omega:k<b.length)];rfl
  rw[e];exact CX g b m (k+1) _ (by omega)
theorem CY:∀ (l:List (List Int)) (h:HH),l.foldl b9 h=b9 h l.flatten
 | [],h=>rfl
 |b::l,h=>by rw[List.foldl_cons,CY l,List.flatten_cons,jA]
def aw1(x:(List (List Int)×Int×Int×Unit)×List Int×HH×Unit):aG:=
 .need (rz x.2.2.1∧x.1.2.1=x.1.1.length∧x.1.2.2.1=0∧x.1.1.length<2305843009213693952∧x.2.2.1.n+x.1.1.flatten.length<2305843009213693952) (.leaf (.exit 0) ((aT ofX Kl).wr ((),(x.2.1,b9 x.2.2.1 x.1.1.flatten,()))))
theorem alc(x):Ex Tryz.prog [] (.loop (aP ofFn 0)) ((aT ofC Kl).wr x) (aw1 x):=by
 obtain⟨⟨l,n,i,_⟩,r,h,_⟩:=x;refine Ex.need fun⟨h1,h2,h3,h4,h5⟩=>?_;simp only at h1 h2 h3 h4 h5;subst h2 h3
 have key:=c8 (fn:=ofFn) (id:=0) (j:=0) (ws:=ofW) (hp:= []) mixed Km (aK.nil _) l.length (fun k h=>(aT ofC Kl).wr ((l,(l.length:Int),(k:Int),()),(r,h,()))) (fun h=>(aT ofX Kl).wr ((),(r,h,()))) (fun k h=>b9 h (l.getD k [])) (fun k h=>rz h∧h.n+(l.drop k).flatten.length<2305843009213693952)
  (fun k h R hk hm hn hx=>?_) (fun k h hk hh=>⟨nh _ hh.1,?_⟩) 0 h (by omega) ⟨h1,h5⟩
 ·rw[Nat.sub_zero,CX b9 l _ _ _ (by omega),CY]at key;exact key
 ·obtain⟨hh,dQ⟩:=hm;rw[ar2];refine⟨fun hb=>?_,fun hb=>?_⟩
  ·have g6:k<l.length:=by have:=of_decide_eq_true hb;omega
   have e:l.drop k=l.getD k []::l.drop (k+1):=by
    rw[List.drop_eq_getElem_cons g6,List.getD_eq_getElem?_getD,List.getElem?_eq_getElem g6];rfl
   rw[e,List.flatten_cons,List.length_append]at dQ;rw[bQ k (by omega)];simp only[Int.toNat_natCast];exact⟨by omega,⟨hh,by omega⟩,hn g6⟩
  ·have:k=l.length:=(by have:=of_decide_eq_false hb;omega);exact hx this
 ·have e:l.drop k=l.getD k []::l.drop (k+1):=by
   rw[List.drop_eq_getElem_cons hk,List.getD_eq_getElem?_getD,List.getElem?_eq_getElem hk];rfl
  have h2:=hh.2;rw[e,List.flatten_cons,List.length_append]at h2;rw[oQ];omega
abbrev ofLT:df:= [(0,cJ (aT ofC Kl) 0 [aw0,afk,.auto] aw1)]
theorem GI:rz vX:=⟨rfl,by decide,rfl,rfl⟩
def bB(b:List Int):List Int:=alb (b9 vX b)
theorem cI(b:List Int):(bB b).length=64:=rfl
def ofE:an:=an.cm [some (.sl u8)] (rrA) (ag) fun x_ y_=>(fun(l:List (List Int))=>.leaf (some (l.length<2305843009213693952∧l.flatten.length<1152921504606846976)) (cY .u8 64 (bB l.flatten)) []) x_.1
theorem ald(l:List (List Int)):aH Tryz.prog bI ofLT f22 ((rrA).wr (l,())) ((ag).wr ()) [.fr [.sym],.auto]=
 End.need (rz {begun:=true,s:= [(7640891576956012808:Int),(13503953896175478587:Int),(4354685564936845355:Int),(11912009170470909681:Int),(5840696475078001361:Int),(11170449401992604703:Int),(2270897969802886507:Int),(6620516959819538809:Int)],n:=(0:Int),wait:=List.replicate (128:Nat) (0:Int)}
 ∧(↑l.length:Int)=(↑l.length:Int)∧(0:Int)=(0:Int)∧l.length<(2305843009213693952:Nat)∧(0:Int)+(↑l.flatten.length:Int)<
 (2305843009213693952:Int)) (End.need (rz (b9 {begun:=true,s:= [(7640891576956012808:Int),(13503953896175478587:Int),(4354685564936845355:Int),(11912009170470909681:Int),(5840696475078001361:Int),(11170449401992604703:Int),(2270897969802886507:Int),(6620516959819538809:Int)],n:=(0:Int),wait:=List.replicate (128:Nat) (0:Int)}
 l.flatten)∧(b9 {begun:=true,s:= [(7640891576956012808:Int),(13503953896175478587:Int),(4354685564936845355:Int),(11912009170470909681:Int),(5840696475078001361:Int),(11170449401992604703:Int),(2270897969802886507:Int),(6620516959819538809:Int)],n:=(0:Int),wait:=List.replicate (128:Nat) (0:Int)}
 l.flatten).n<(1152921504606846976:Int)) (End.leaf (LV.one (VV.agg [SV.arr (Ty.int IntKind.u8) (64:Nat) (alb (b9 {begun:=true,s:= [(7640891576956012808:Int),(13503953896175478587:Int),(4354685564936845355:Int),(11912009170470909681:Int),(5840696475078001361:Int),(11170449401992604703:Int),(2270897969802886507:Int),(6620516959819538809:Int)],n:=(0:Int),wait:=List.replicate (128:Nat) (0:Int)}
 l.flatten))])) [])):=by kernel_rfl
theorem apE:ofE.Ok Tryz.prog 22:=by
 refine(an.aS call22 fun x_ y_ Q H_=>?_).sym;obtain⟨l,_⟩:=x_;obtain⟨hn,hq⟩:=H_;have hn:l.length<2305843009213693952∧l.flatten.length<1152921504606846976:=hn;refine(ar mixed Km func22 rfl (LT:=ofLT) (ks:= [.fr [.sym],.auto]) (aK.bI (iu rfl (bt (hp:= []) alc) iE))).use (D:= []) ?_ hq;show(aH _ _ _ _ ((rrA).wr (l,())) ((ag).wr ()) _).sat _;rw[ald];have e:(b9 vX l.flatten).n=l.flatten.length:=by rw[oQ];show(0:Int)+_=_;omega
 exact⟨⟨GI,rfl,rfl,hn.1,by omega⟩,⟨nh _ GI,by show(b9 vX l.flatten).n<_;rw[e];omega⟩,rfl,rfl⟩
def eG(b:List Int):List Int:=bB (b.take 160)
def GJ:an:=an.cm [some u8] (bA) (ag) fun x_ y_=>(fun(b:List Int)=>.leaf (some (b.length<1152921504606846976)) (cY .u8 64 (eG b)) []) x_.1
theorem Kn(b:List Int):aH Tryz.prog [(22,ofE)] [] f40 ((bA).wr (b,())) ((ag).wr ()) [.fr [.sym],.auto]=
 End.need ((0:Int)≤(0:Int)∧((0:Int)≤if(160:Int)<(↑b.length:Int)then(160:Int)else(↑b.length:Int))∧(if(160:Int)<
 (↑b.length:Int)then(160:Int)else(↑b.length:Int))≤(↑b.length:Int)) (End.need ((1:Nat)<(2305843009213693952:Nat)∧ [List.take ((if
 (160:Int)<(↑b.length:Int)then(160:Int)else(↑b.length:Int))-(0:Int)).toNat (List.drop (0:Nat) b)].flatten.length<
 (1152921504606846976:Nat)) (End.leaf (LV.one (VV.agg [SV.arr (Ty.int IntKind.u8) (64:Nat) (bB [List.take ((if(160:Int)<(↑b.length:Int)
 then(160:Int)else(↑b.length:Int))-(0:Int)).toNat (List.drop (0:Nat) b)].flatten)])) [])):=by kernel_rfl
theorem CZ:GJ.Ok Tryz.prog 40:=by
 refine(an.aS call40 fun x_ y_ Q H_=>?_).sym;obtain⟨b,_⟩:=x_;obtain⟨hn,hq⟩:=H_;have hn:b.length<1152921504606846976:=hn;refine(ar mixed ((al apE aw)) func40 rfl (LT:= []) (ks:= [.fr [.sym],.auto]) (aK.nil _)).use (D:= []) ?_ hq;show(aH _ _ _ _ ((bA).wr (b,())) ((ag).wr ()) _).sat _;rw[Kn]
 have e:List.take ((if(160:Int)<b.length then(160:Int)else b.length)-0).toNat (List.drop 0 b)=b.take 160:=by
  rw[List.drop_zero]
  split
  ·rfl
  ·rw[List.take_of_length_le (by omega),List.take_of_length_le (by omega)]
 rw[e,List.flatten_singleton];refine⟨⟨by omega,by split<;>omega,by split<;>omega⟩,⟨by omega,by simp;omega⟩,rfl,rfl⟩
def P9:an:=an.cm [] ((ae (ah (aA .u64)) ag)) (ag) fun x_ y_=>(fun(x:Int)=>.leaf none (.one (.sc (.sl 0 0))) [(0,.own 0 u8 (bX x))]) x_.1
theorem Qa(x:Int):aH Tryz.prog [] [] f88 (((ae (ah (aA .u64)) ag)).wr (x,())) ((ag).wr ()) [.auto,.aF]=
 End.need ((8:Int)=(8:Int)∧(0:Int)≤(8:Int)∧(8:Int)≤(70368744177664:Int)∧(8:Int)≤(70368744177664:Int)) (End.need ((0:Int)
 ≤(0:Int)∧(0:Int)<(8:Int)) (End.need ((0:Int)≤(1:Int)∧(1:Int)<(8:Int)) (End.need ((0:Int)≤(2:Int)∧(2:Int)<(8:
 Int)) (End.need ((0:Int)≤(3:Int)∧(3:Int)<(8:Int)) (End.need ((0:Int)≤(4:Int)∧(4:Int)<(8:Int)) (End.need ((0:Int)≤(5:
 Int)∧(5:Int)<(8:Int)) (End.need ((0:Int)≤(6:Int)∧(6:Int)<(8:Int)) (End.need ((0:Int)≤(7:Int)∧(7:Int)<(8:Int))
 (End.leaf (LV.one (VV.sc (SV.sl (0:Nat) (0:Nat)))) [some (Item.own (0:Nat) (Ty.int IntKind.u8) (((((((((List.replicate (8:Nat) (0:Int)).set
 (0:Nat) (IntKind.u8.wrap (shr u64 x (56:Int)))).set (1:Nat) (IntKind.u8.wrap (shr u64 x (48:Int)))).set (2:Nat)
 (IntKind.u8.wrap (shr u64 x (40:Int)))).set (3:Nat) (IntKind.u8.wrap (shr u64 x (32:Int)))).set (4:Nat) (IntKind.u8.wrap (shr
 u64 x (24:Int)))).set (5:Nat) (IntKind.u8.wrap (shr u64 x (16:Int)))).set (6:Nat) (IntKind.u8.wrap (shr u64 x (8:
 Int)))).set (7:Nat) (IntKind.u8.wrap (shr u64 x (0:Int)))))]))))))))):=by kernel_rfl
theorem Ko:P9.Ok Tryz.prog 88:=by
 refine(an.aS call88 fun x_ y_ Q H_=>?_).sym;obtain⟨x,_⟩:=x_;have hq:=H_.2;refine(ar mixed aw func88 rfl (LT:= []) (ks:= [.auto,.aF]) (aK.nil _)).use (D:= [(0,.own 0 u8 (bX x))]) ?_ hq;show(aH _ _ _ _ (((ae (ah (aA .u64)) ag)).wr (x,())) ((ag).wr ()) _).sat _;rw[Qa];exact⟨by omega,by omega,by omega,by omega,by omega,by omega,by omega,by omega,by omega,rfl,rfl⟩
abbrev apF:Func:=f90
abbrev Qb:List (FuncId×an):= [(143,Uc),(144,ae8)]
theorem C0:∀p∈Qb,p.2.Ok Tryz.prog p.1:=al Xw (al ae9 aw)
abbrev ar3:aQ (List LV) (List Int×List Int×Unit):=ae (sG .u64 8) (ae (ah (gg false false u8)) ag)
abbrev ovC:aQ (List LV) (List Int×Unit):=(jk 1 (ae (ah (gg false false u8)) (ai (ah (aD 0 0)) (jk 1 (ai (ah (aD 1 0)) (jk 17 ag))))))
abbrev aw3:Wk:=.fr (cb 22 [(1,.ak),(2,.ak),(4,.ak)])
abbrev ovX:aQ (List LV) (Unit):=(jk 2 (ai (ah (aD 0 0)) (jk 1 (ai (ah (aD 1 0)) (jk 17 ag)))))
abbrev aB7:Wk:=.fr (cb 22 [(2,.ak),(4,.ak)])
abbrev ovH:aQ Hp (List Int×List Int×Unit):=ae (gm 118 .u64 8) (ae (gm 118 .u64 8) ag)
def ovW:Exit→List Wk
 | .normal=> [aw3,.auto]
 | .exit 0=> [aB7,.auto]
 |_=> []
theorem ar4(b s r:List Int):ct Tryz.prog Qb [] apF 0 [] ovW ((aT ovC ovH).wr ((b,()),(s,r,())))=
 aG.ite (decide ((128:Int)≤(↑b.length:Int))) (aG.need ((0:Int)≤(0:Int)∧(0:Int)≤(128:Int)∧(128:Int)≤(↑b.length:Int))
 (aG.need ((List.take (128:Nat) (List.drop (0:Nat) b)).length=(128:Nat)) (aG.need (s.length=(8:Nat)∧(16:Nat)=(16:Nat)) (aG.need
 ((0:Int)≤(128:Int)∧(128:Int)≤(↑b.length:Int)∧(↑b.length:Int)≤(↑b.length:Int)) (aG.leaf Exit.normal ((aT ovC ovH).wr ((List.take
 ((↑b.length:Int)-(128:Int)).toNat (List.drop (128:Nat) b),PUnit.unit),oP s (ib (List.take (128:Nat) (List.drop (0:Nat) b))),r,
 PUnit.unit))))))) (aG.leaf (Exit.exit (0:Nat)) ((aT ovX ovH).wr (PUnit.unit,s,r,PUnit.unit))):=by kernel_rfl
def tU:Nat→List Int→List Int→List Int
 |0,s,_=>s
 |k+1,s,b=>tU k (oP s (ib (b.take 128))) (b.drop 128)
def ln(s b:List Int):List Int:=tU (b.length/128) s b
theorem Qc{s b:List Int}(h:128≤b.length):ln s b=ln (oP s (ib (b.take 128))) (b.drop 128):=by
 unfold ln;have e:b.length/128=(b.drop 128).length/128+1:=by rw[List.length_drop];omega
 rw[e];rfl
theorem XC{s b:List Int}(h:b.length<128):ln s b=s:=by
 unfold ln;rw[show b.length/128=0 from by omega];rfl
def ovF(x:(List Int×Unit)×List Int×List Int×Unit):aG:=
 .need (x.2.1.length=8) (.leaf (.exit 0) ((aT ovX ovH).wr ((),(ln x.2.1 x.1.1,x.2.2.1,()))))
theorem ale(x):Ex Tryz.prog [] (.loop (aP apF 0)) ((aT ovC ovH).wr x) (ovF x):=by
 obtain⟨⟨b,_⟩,s,r,_⟩:=x;refine Ex.need fun h1=>?_;simp only at h1
 refine yZ mixed C0 (LT:= []) (ws:=ovW) (hp:= []) (aK.nil _) (fun x:List Int×List Int=>x.1.length) (fun x:List Int×List Int=>(aT ovC ovH).wr ((x.1,()),(x.2,r,()))) (fun x=>x.2.length=8)
  (fun x=>.leaf (.exit 0) ((aT ovX ovH).wr ((),(ln x.2 x.1,r,())))) (fun x _=>ar4 x.1 x.2 r) (fun x R hh hs=>?_) (b,s) h1
 obtain⟨b,s⟩:=x;simp only at hh hs ⊢;refine⟨fun hb=>?_,fun hb=>?_⟩
 ·have iw:128≤b.length:=by have:=of_decide_eq_true hb;omega
  have e1:List.take 128 (List.drop 0 b)=b.take 128:=by rw[List.drop_zero]
  have e2:List.take ((b.length:Int)-128).toNat (List.drop 128 b)=b.drop 128:=by rw[List.take_of_length_le (by simp;omega)]
  rw[e1,e2];rw[Qc iw]at hs;exact⟨by omega,by simp;omega,⟨hh,trivial⟩,by omega,.inl ⟨rfl,(b.drop 128,oP s (ib (b.take 128))),rfl,wY _ _,by simp;omega,hs⟩⟩
 ·have iw:b.length<128:=by have:=of_decide_eq_false hb;omega
  rw[XC iw]at hs;exact .inr ⟨by simp,hs⟩
abbrev aw4:df:= [(0,cJ (aT ovC ovH) 0 [aw3,.dz 1 0 8 .u64,.auto] ovF)]
def afl:an:=an.cm [none,some u8] (ar3) (ag) fun x_ y_=>(fun(s b:List Int)=>.leaf (some (s.length=8)) (cY .u64 8 (ln s b)) []) x_.1 x_.2.1
theorem Qd(s b:List Int):aH Tryz.prog Qb aw4 f90 ((ar3).wr (s,b,())) ((ag).wr ()) [.fr [.sym],.auto]=
 End.need (s.length=(8:Nat)) (End.leaf (LV.one (VV.agg [SV.arr (Ty.int u64) (8:Nat) (ln s b)])) []):=by kernel_rfl
theorem afm:afl.Ok Tryz.prog 90:=by
 refine(an.aS call90 fun x_ y_ Q H_=>?_).sym;obtain⟨s,b,_⟩:=x_;obtain⟨hn,hq⟩:=H_;have hn:s.length=8:=hn;refine(ar mixed C0 func90 rfl (LT:=aw4) (ks:= [.fr [.sym],.auto]) (aK.bI (iu rfl (bt (hp:= []) ale) iE))).use (D:= []) ?_ hq;show(aH _ _ _ _ ((ar3).wr (s,b,())) ((ag).wr ()) _).sat _;rw[Qd];exact⟨hn,rfl,rfl⟩
def Uf:an:=an.cm [] ((ae (sG .u64 8) ag)) (ag) fun x_ y_=>(fun(s:List Int)=>.leaf none (.one (.sc (.sl 0 0))) [(0,.own 0 u8 (eK s))]) x_.1
theorem Kp(s:List Int):aH Tryz.prog [(88,P9)] [] f142 (((ae (sG .u64 8) ag)).wr (s,())) ((ag).wr ()) [.auto,.aF]=
 End.need ((8:Nat)≤(70368744177664:Nat)∧(8:Nat)≤(70368744177664:Nat)) (End.need ((16:Nat)≤(70368744177664:Nat)∧(16:Nat)≤
 (70368744177664:Nat)) (End.need ((24:Nat)≤(70368744177664:Nat)∧(24:Nat)≤(70368744177664:Nat)) (End.need ((32:Nat)≤(70368744177664:
 Nat)∧(32:Nat)≤(70368744177664:Nat)) (End.need ((40:Nat)≤(70368744177664:Nat)∧(40:Nat)≤(70368744177664:Nat)) (End.need ((48:Nat)
 ≤(70368744177664:Nat)∧(48:Nat)≤(70368744177664:Nat)) (End.need ((56:Nat)≤(70368744177664:Nat)∧(56:Nat)≤(70368744177664:Nat))
 (End.need ((64:Nat)≤(70368744177664:Nat)∧(64:Nat)≤(70368744177664:Nat)) (End.leaf (LV.one (VV.sc (SV.sl (0:Nat) (0:Nat)))) [some
 (Item.own (0:Nat) (Ty.int IntKind.u8) (bX (s.getD (0:Nat) (0:Int))++bX (s.getD (1:Nat) (0:Int))++bX (s.getD (2:Nat) (0:
 Int))++bX (s.getD (3:Nat) (0:Int))++bX (s.getD (4:Nat) (0:Int))++bX (s.getD (5:Nat) (0:Int))++bX (s.getD (6:Nat)
 (0:Int))++bX (s.getD (7:Nat) (0:Int))))])))))))):=by kernel_rfl
theorem XD:Uf.Ok Tryz.prog 142:=by
 refine(an.aS call142 fun x_ y_ Q H_=>?_).sym;obtain⟨s,_⟩:=x_;have hq:=H_.2;refine(ar mixed ((al Ko aw)) func142 rfl (LT:= []) (ks:= [.auto,.aF]) (aK.nil _)).use (D:= [(0,.own 0 u8 (eK s))]) ?_ hq;show(aH _ _ _ _ (((ae (sG .u64 8) ag)).wr (s,())) ((ag).wr ()) _).sat _;rw[Kp];exact⟨by omega,by omega,by omega,by omega,by omega,by omega,by omega,by omega,rfl,rfl⟩
abbrev ar5:Func:=f89
abbrev flC:aQ (List LV) (Int×Unit):=(jk 2 (ai (ah (aD 0 0)) (ai (ah (aD 1 0)) (ai (ah (j0 2 0)) (ae (ah (aA .i64)) (jk 14 ag))))))
abbrev aw6:Wk:=.fr (cb 20 [(2,.ak),(3,.ak),(4,.ak),(5,.sym)])
abbrev flX:aQ (List LV) (Unit):=(jk 2 (ai (ah (aD 0 0)) (ai (ah (aD 1 0)) (jk 16 ag))))
abbrev aB9:Wk:=.fr (cb 20 [(2,.ak),(3,.ak)])
abbrev flH:aQ Hp (List Int×List Int×List Int×Unit):=ae (gm 41 .u8 64) (ae (gm 41 .u8 64) (ae (cE 0 u8) ag))
abbrev ar6:aQ Hp (List Int×List Int×Unit):=ae (gm 41 .u8 64) (ae (gm 41 .u8 64) ag)
def flW:Exit→List Wk
 | .normal=> [aw6,.auto]
 | .exit 0=> [aB9,.auto]
 |_=> []
theorem ar7(i:Int)(r o b:List Int):ct Tryz.prog [] [] ar5 0 [] flW ((aT flC flH).wr ((i,()),(r,o,b,())))=
 aG.ite (decide (i<(64:Int))) (aG.need ((0:Int)≤i∧i<(↑b.length:Int)) (aG.need ((0:Int)≤i∧i<(64:Int)) (aG.leaf Exit.normal
 ((aT flC flH).wr ((i64.wrap (i+(1:Int)),PUnit.unit),r,o.set ((0:Nat)+i.toNat) (b.getD i.toNat (0:Int)),b,PUnit.unit)))))
 (aG.leaf (Exit.exit (0:Nat)) ((aT flX ar6).wr (PUnit.unit,r,o,PUnit.unit))):=by kernel_rfl
def flF(x:(Int×Unit)×List Int×List Int×List Int×Unit):aG:=
 .need (x.1.1=0∧x.2.2.1.length=64∧x.2.2.2.1.length=64) (.leaf (.exit 0) ((aT flX ar6).wr ((),(x.2.1,x.2.2.2.1,()))))
theorem alf(x):Ex Tryz.prog [] (.loop (aP ar5 0)) ((aT flC flH).wr x) (flF x):=by
 obtain⟨⟨i,_⟩,r,o,b,_⟩:=x;refine Ex.need fun⟨h1,h2,h3⟩=>?_;simp only at h1 h2 h3;subst h1
 have key:=c8 (fn:=ar5) (id:=0) (j:=0) (ws:=flW) (hp:= []) mixed aw (aK.nil _) 64 (fun k o=>(aT flC flH).wr (((k:Int),()),(r,o,b,()))) (fun o=>(aT flX ar6).wr ((),(r,o,()))) (fun k o=>o.set k (b.getD k 0)) (fun _ o=>o.length=64)
  (fun k o R hk hm hn hx=>?_) (fun k o hk hh=>by simpa using hh) 0 o (by omega) h2
 ·rw[Nat.sub_zero,CD _ h2,IX h3]at key;exact key
 rw[ar7];refine⟨fun hb=>?_,fun hb=>?_⟩
 ·have g6:k<64:=by have:=of_decide_eq_true hb;omega
  rw[bQ k (by omega)];simp only[Int.toNat_natCast,Nat.zero_add];exact⟨by omega,by omega,hn g6⟩
 ·have:k=64:=by have:=of_decide_eq_false hb;omega
  exact hx this
abbrev aw8:df:= [(0,cJ (aT flC flH) 0 [aw6,.auto,.aF] flF)]
abbrev apH:List (FuncId×an):= [(142,Uf)]
theorem afn:∀p∈apH,p.2.Ok Tryz.prog p.1:=al XD aw
def afo:an:=an.cm [] ((ae (sG .u64 8) ag)) (ag) fun x_ y_=>(fun(s:List Int)=>.leaf none (cY .u8 64 (eK s)) []) x_.1
theorem Qe(s:List Int):aH Tryz.prog apH aw8 f89 (((ae (sG .u64 8) ag)).wr (s,())) ((ag).wr ()) [.fr [.sym],.auto]=
 End.need ((0:Int)=(0:Int)∧(64:Nat)=(64:Nat)∧(64:Nat)=(64:Nat)) (End.leaf (LV.one (VV.agg [SV.arr (Ty.int IntKind.u8) (64:Nat)
 (eK s)])) []):=by kernel_rfl
theorem afp:afo.Ok Tryz.prog 89:=by
 refine(an.aS call89 fun x_ y_ Q H_=>?_).sym;obtain⟨s,_⟩:=x_;have hq:=H_.2;refine(ar mixed afn func89 rfl (LT:=aw8) (ks:= [.fr [.sym],.auto]) (aK.bI (iu rfl (bt (hp:= []) alf) iE))).use (D:= []) ?_ hq;show(aH _ _ _ _ (((ae (sG .u64 8) ag)).wr (s,())) ((ag).wr ()) _).sat _;rw[Qe];exact⟨⟨rfl,rfl,rfl⟩,rfl,rfl⟩
abbrev aw9:Func:=f45
abbrev afq:List (FuncId×an):= [(88,P9),(91,Ub),(90,afl),(89,afo)]
abbrev roC:aQ (List LV) (List Int×Unit):=(ae (ah (gg false false u8)) (jk 1 (ai (ah (aD 0 0)) (ai (ah (j0 1 0)) (jk 23 ag)))))
abbrev ar8:Wk:=.fr (cb 27 [(0,.ak),(2,.ak),(3,.ak)])
abbrev roH:aQ Hp (List Int×List Int×Unit):=ae (gm 41 .u8 64) (ae (cE 0 u8) ag)
def roW:Exit→List Wk
 | .normal=> [ar8,.auto,.aF]
 | .exit 0=> [ar8,.auto,.aF]
 |_=> []
theorem ar9(b r l:List Int):ct Tryz.prog afq [] aw9 0 [] roW ((aT roC roH).wr ((b,()),(r,l,())))=
 aG.ite ((↑l.length:Int).tmod (128:Int)!=(112:Int)) (aG.need ((l.length+(1:Nat))*(1:Nat)≤(70368744177664:Nat)∧l.length+(1:
 Nat)≤(70368744177664:Nat)) (aG.leaf Exit.normal ((aT roC roH).wr ((b,PUnit.unit),r,l++ [(0:Int)],PUnit.unit)))) (aG.leaf (Exit.exit (0:
 Nat)) ((aT roC roH).wr ((b,PUnit.unit),r,l,PUnit.unit))):=by kernel_rfl
theorem Kq:∀p∈afq,p.2.Ok Tryz.prog p.1:=al Ko (al Xv (al afm (al afp aw)))
def nR(l:List Int):List Int:=l++List.replicate ((112-(l.length:Int))%128).toNat 0
theorem XE{l:List Int}(hz:¬ (l.length:Int)%128=112):nR (l++ [0])=nR l∧((112-((l++ [0]).length:Int))%128).toNat<((112-(l.length:Int))%128).toNat:=by
 have e1:((l++ [(0:Int)]).length:Int)=l.length+1:=by simp
 have e2:((112-(l.length:Int))%128).toNat=((112-((l++ [(0:Int)]).length:Int))%128).toNat+1:=by rw[e1];omega
 refine⟨?_,by omega⟩;unfold nR;rw[e2,List.replicate_succ];simp
theorem afr{l:List Int}(hz:(l.length:Int)%128=112):nR l=l:=by
 have e:((112-(l.length:Int))%128).toNat=0:=by omega
 unfold nR;rw[e];simp
def roF(x:(List Int×Unit)×List Int×List Int×Unit):aG:=
 .need (x.2.2.1.length≤35184372088832) (.leaf (.exit 0) ((aT roC roH).wr (x.1,(x.2.1,nR x.2.2.1,()))))
theorem ali(x):Ex Tryz.prog [] (.loop (aP aw9 0)) ((aT roC roH).wr x) (roF x):=by
 obtain⟨⟨b,_⟩,r,l,_⟩:=x;refine Ex.need fun h1=>?_;simp only at h1
 refine yZ mixed Kq (LT:= []) (ws:=roW) (hp:= []) (aK.nil _) (fun l:List Int=>((112-(l.length:Int))%128).toNat) (fun l:List Int=>(aT roC roH).wr ((b,()),(r,l,()))) (fun l=>(l.length:Int)+(112-(l.length:Int))%128<70368744177664)
  (fun l=>.leaf (.exit 0) ((aT roC roH).wr ((b,()),(r,nR l,())))) (fun l _=>ar9 b r l) (fun l R hh hs=>?_) l (by omega)
 have e:(l.length:Int).tmod 128=(l.length:Int)%128:=Int.tmod_eq_emod_of_nonneg (by omega);rw[e];refine⟨fun hb=>?_,fun hb=>?_⟩
 ·have iw:¬ (l.length:Int)%128=112:=by simpa using hb
  obtain⟨k1,k2⟩:=XE iw;have e1:((l++ [(0:Int)]).length:Int)=l.length+1:=by simp
  refine⟨by omega,.inl ⟨rfl,l++ [0],rfl,by rw[e1];omega,k2,?_⟩⟩;show(aG.leaf (.exit 0) ((aT roC roH).wr ((b,()),(r,nR (l++ [0]),())))).sat R;rw[k1];exact hs
 ·have iw:(l.length:Int)%128=112:=by simpa using hb
  rw[afr iw]at hs;exact .inr ⟨by simp,hs⟩
abbrev axa:df:= [(0,cJ (aT roC roH) 0 [ar8,.auto,.aF] roF)]
def gH(b:List Int):List Int:=eK (ln nd (nR (b++ [128])++List.replicate 8 0++bX (u64.wrap (8*u64.wrap b.length))))
def asa:an:=an.cm [some u8] (bA) (ag) fun x_ y_=>(fun(b:List Int)=>.leaf (some (b.length≤17592186044416)) (cY .u8 64 (gH b)) []) x_.1
theorem afs(b:List Int):aH Tryz.prog afq axa f45 ((bA).wr (b,())) ((ag).wr ()) [.fr [.sym],.auto]=
 End.need (b.length*(1:Nat)≤(70368744177664:Nat)∧b.length≤(70368744177664:Nat)) (End.need ((b.length+(1:Nat))*(1:Nat)≤
 (70368744177664:Nat)∧b.length+(1:Nat)≤(70368744177664:Nat)) (End.need ((b++ [(128:Int)]).length≤(35184372088832:Nat)) (End.need ((0
 :Int)≤(8:Int)∧((nR (b++ [(128:Int)])).length+(8:Nat))*(1:Nat)≤(70368744177664:Nat)∧(nR (b++ [(128:Int)])).length+(8:
 Nat)≤(70368744177664:Nat)) (End.need (((nR (b++ [(128:Int)])++List.replicate (8:Nat) (0:Int)).length+(8:Nat))*(1:Nat)≤
 (70368744177664:Nat)∧(nR (b++ [(128:Int)])++List.replicate (8:Nat) (0:Int)).length+(8:Nat)≤(70368744177664:Nat)) (End.need ((8:
 Nat)=(8:Nat)) (End.leaf (LV.one (VV.agg [SV.arr (Ty.int IntKind.u8) (64:Nat) (eK (ln nd (nR (b++ [(128:Int)])++List.replicate
 (8:Nat) (0:Int)++bX (u64.wrap ((8:Int)*u64.wrap (↑b.length:Int))))))])) [])))))):=by kernel_rfl
theorem aft:asa.Ok Tryz.prog 45:=by
 refine(an.aS call45 fun x_ y_ Q H_=>?_).sym;obtain⟨b,_⟩:=x_;obtain⟨hn,hq⟩:=H_;have hn:b.length≤17592186044416:=hn;refine(ar mixed Kq func45 rfl (LT:=axa) (ks:= [.fr [.sym],.auto]) (aK.bI (iu rfl (bt (hp:= []) ali) iE))).use (D:= []) ?_ hq;show(aH _ _ _ _ ((bA).wr (b,())) ((ag).wr ()) _).sat _;rw[afs];have e:(nR (b++ [128])).length≤b.length+129:=by unfold nR;simp;omega
 exact⟨by omega,by omega,by simp;omega,by omega,by simp;omega,rfl,rfl,rfl⟩
end Go.Proofs.YtnbkagglkajbkaaGreat
end
