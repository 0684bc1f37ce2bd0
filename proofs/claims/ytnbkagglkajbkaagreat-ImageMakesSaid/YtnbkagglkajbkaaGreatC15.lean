/- What the laws lean on, part 15: a reader of code, plain facts, and what each function gives; no conditions. -/
import Derived.Test.YtnbkagglkajbkaaGreatC14
set_option linter.unusedVariables false
set_option linter.unusedSimpArgs false
noncomputable section
namespace Go.Proofs.YtnbkagglkajbkaaGreat
open Go Go.Ev BJ Go.Proofs.Tryz
open Go.IntKind (i64 signed u16 u64 wrap)
set_option maxRecDepth 1000000
def apU(m:Int→Int→Int×Int):an:=an.cm [] (ae (ah (aA .u64)) (ae (ah (aA .u64)) ag)) ag fun x _=>.leaf none (.c6 [.sc (.int .u64 (.sym (m x.1 x.2.1).1)),.sc (.int .u64 (.sym (m x.1 x.2.1).2))]) []
abbrev pc(o:Nat):aQ (List LV) (Int×Int×Unit):=ai (ah (aD 0 o)) (ae (ah (aA .u64)) (ae (ah (aA .u64)) ag))
abbrev pd:aQ Hp (Vec Int 10×Unit):=ae (fG 341 (iU .u64 10)) ag
noncomputable section
variable (m:Int→Int→Int×Int) (a:Int→Int→Int→Int×Int)
def lz(k:Nat)(x y:Int)(v:Vec Int 10):Int×Int:=a (v.get (2*k+1)) (m x y).2 0
def pe(k:Nat)(x y:Int)(v:Vec Int 10):Vec Int 10:=Vec.nV (fun _=>(lz m a k x y v).1) (2*k+1) (Vec.nV (fun _=>(a (v.get (2*k)) (m x y).1 (lz m a k x y v).2).1) (2*k) v)
def qX(k:Nat):an:=an.cm [] (pc (2*k)) pd fun x h=>.leaf (some (0≤(lz m a k x.1 x.2.1 h.1).2∧(lz m a k x.1 x.2.1 h.1).2≤1)) (.c6 []) [(0,.ba ((iU .u64 10).wr (pe m a k x.1 x.2.1 h.1)) 341)]
abbrev nv:List (FuncId×an):= [(200,apU m),(201,(lp a).sym)]
abbrev qY:List Wk:= [.ba 0 (List.replicate 10 .sym),.auto]
theorem QJ(x y:Int)(v:Vec Int 10):aH Tryz.prog (nv m a) [] f269 ((pc 0).wr (x,y,())) (pd.wr (v,())) qY=
  .need (0≤(0:Int)∧(0:Int)≤1) (.need (0≤(lz m a 0 x y v).2∧(lz m a 0 x y v).2≤1) (.leaf (.c6 []) [some (.ba ((iU .u64 10).wr (pe m a 0 x y v)) 341)])):=by kernel_rfl
theorem QK(x y:Int)(v:Vec Int 10):aH Tryz.prog (nv m a) [] f269 ((pc 2).wr (x,y,())) (pd.wr (v,())) qY=
  .need (0≤(0:Int)∧(0:Int)≤1) (.need (0≤(lz m a 1 x y v).2∧(lz m a 1 x y v).2≤1) (.leaf (.c6 []) [some (.ba ((iU .u64 10).wr (pe m a 1 x y v)) 341)])):=by kernel_rfl
theorem QL(x y:Int)(v:Vec Int 10):aH Tryz.prog (nv m a) [] f269 ((pc 4).wr (x,y,())) (pd.wr (v,())) qY=
  .need (0≤(0:Int)∧(0:Int)≤1) (.need (0≤(lz m a 2 x y v).2∧(lz m a 2 x y v).2≤1) (.leaf (.c6 []) [some (.ba ((iU .u64 10).wr (pe m a 2 x y v)) 341)])):=by kernel_rfl
theorem QM(x y:Int)(v:Vec Int 10):aH Tryz.prog (nv m a) [] f269 ((pc 6).wr (x,y,())) (pd.wr (v,())) qY=
  .need (0≤(0:Int)∧(0:Int)≤1) (.need (0≤(lz m a 3 x y v).2∧(lz m a 3 x y v).2≤1) (.leaf (.c6 []) [some (.ba ((iU .u64 10).wr (pe m a 3 x y v)) 341)])):=by kernel_rfl
theorem QN(x y:Int)(v:Vec Int 10):aH Tryz.prog (nv m a) [] f269 ((pc 8).wr (x,y,())) (pd.wr (v,())) qY=
  .need (0≤(0:Int)∧(0:Int)≤1) (.need (0≤(lz m a 4 x y v).2∧(lz m a 4 x y v).2≤1) (.leaf (.c6 []) [some (.ba ((iU .u64 10).wr (pe m a 4 x y v)) 341)])):=by kernel_rfl
variable (hm:∀p∈nv m a,p.2.Ok Tryz.prog p.1)
include hm
theorem agy:(qX m a 0).Ok Tryz.prog 269:=by
 refine(an.aS call269 fun x_ y_ Q H_=>?_).sym;obtain⟨x,y,_⟩:=x_;obtain⟨v,_⟩:=y_;obtain⟨hn,hq⟩:=H_;refine(ar mixed hm func269 rfl (LT:= []) (ks:=qY) (aK.nil _)).use (D:= [(0,.ba ((iU .u64 10).wr (pe m a 0 x y v)) 341)]) ?_ hq;show(aH _ _ _ _ ((pc 0).wr (x,y,())) (pd.wr (v,())) _).sat _;rw[QJ];exact⟨by decide,hn,rfl,rfl⟩
theorem agz:(qX m a 1).Ok Tryz.prog 269:=by
 refine(an.aS call269 fun x_ y_ Q H_=>?_).sym;obtain⟨x,y,_⟩:=x_;obtain⟨v,_⟩:=y_;obtain⟨hn,hq⟩:=H_;refine(ar mixed hm func269 rfl (LT:= []) (ks:=qY) (aK.nil _)).use (D:= [(0,.ba ((iU .u64 10).wr (pe m a 1 x y v)) 341)]) ?_ hq;show(aH _ _ _ _ ((pc 2).wr (x,y,())) (pd.wr (v,())) _).sat _;rw[QK];exact⟨by decide,hn,rfl,rfl⟩
theorem agA:(qX m a 2).Ok Tryz.prog 269:=by
 refine(an.aS call269 fun x_ y_ Q H_=>?_).sym;obtain⟨x,y,_⟩:=x_;obtain⟨v,_⟩:=y_;obtain⟨hn,hq⟩:=H_;refine(ar mixed hm func269 rfl (LT:= []) (ks:=qY) (aK.nil _)).use (D:= [(0,.ba ((iU .u64 10).wr (pe m a 2 x y v)) 341)]) ?_ hq;show(aH _ _ _ _ ((pc 4).wr (x,y,())) (pd.wr (v,())) _).sat _;rw[QL];exact⟨by decide,hn,rfl,rfl⟩
theorem agB:(qX m a 3).Ok Tryz.prog 269:=by
 refine(an.aS call269 fun x_ y_ Q H_=>?_).sym;obtain⟨x,y,_⟩:=x_;obtain⟨v,_⟩:=y_;obtain⟨hn,hq⟩:=H_;refine(ar mixed hm func269 rfl (LT:= []) (ks:=qY) (aK.nil _)).use (D:= [(0,.ba ((iU .u64 10).wr (pe m a 3 x y v)) 341)]) ?_ hq;show(aH _ _ _ _ ((pc 6).wr (x,y,())) (pd.wr (v,())) _).sat _;rw[QM];exact⟨by decide,hn,rfl,rfl⟩
theorem agC:(qX m a 4).Ok Tryz.prog 269:=by
 refine(an.aS call269 fun x_ y_ Q H_=>?_).sym;obtain⟨x,y,_⟩:=x_;obtain⟨v,_⟩:=y_;obtain⟨hn,hq⟩:=H_;refine(ar mixed hm func269 rfl (LT:= []) (ks:=qY) (aK.nil _)).use (D:= [(0,.ba ((iU .u64 10).wr (pe m a 4 x y v)) 341)]) ?_ hq;show(aH _ _ _ _ ((pc 8).wr (x,y,())) (pd.wr (v,())) _).sat _;rw[QN];exact⟨by decide,hn,rfl,rfl⟩
omit hm
def UI:an:=(qX m a 0).or ((qX m a 1).or ((qX m a 2).or ((qX m a 3).or (qX m a 4))))
def agD(l:List Prop)(e:Ev.End):Ev.End:=l.foldr Ev.End.need e
theorem A1{R:LV→Hp→Prop}:∀ {l:List Prop} {e:Ev.End},(∀p∈l,p)→e.sat R→(agD l e).sat R
 | [],_,_,h=>h
 |p::l,e,hl,h=>⟨hl p (by simp),A1 (fun q hq=>hl q (by simp[hq])) h⟩
theorem X8(x y:Fe):aH Tryz.prog [(269,UI m a),(270,uD)] [] f193 (mM.wr (x,y,())) [] kK=
  agD (Ax m a x y) (Ev.End.leaf (lR.wr (rE m a cg x y)) []):=by kernel_rfl
end
theorem agE:(apU bm).Ok Tryz.prog 200:=KZ
theorem kD:∀p∈nv bm bo,p.2.Ok Tryz.prog p.1:=al agE (al A0 aw)
theorem QO:(UI bm bo).Ok Tryz.prog 269:=(agy bm bo kD).or ((agz bm bo kD).or ((agA bm bo kD).or ((agB bm bo kD).or (agC bm bo kD))))
theorem X9(x y:Fe):∀p∈Ax bm bo x y,p:=uu x y fy _ fun k=>by
 have:([(0,0),(0,0),(0,0),(0,0),(0,0)]:List (Int×Int)).getD k (0,0)=(0,0):=by
  match k with
  |0=>rfl
  |1=>rfl
  |2=>rfl
  |3=>rfl
  |4=>rfl
  |k+5=>rfl
 rw[this];exact⟨by decide,by decide⟩
def Dm:an:=an.cm [] mM ag fun x _=>.leaf none (lR.wr (mulC x.1 x.2.1)) []
theorem G1:Dm.Ok Tryz.prog 193:=by
 refine(an.aS call193 fun x_ y_ Q H_=>?_).sym;obtain⟨x,y,_⟩:=x_;have hq:=H_.2;refine(ar mixed (al QO (al qo aw)) func193 rfl (LT:= []) (ks:=kK) (aK.nil _)).use (D:= []) ?_ hq;show(aH _ _ _ _ (mM.wr (x,y,())) [] _).sat _;rw[X8];exact A1 (X9 x y) ⟨rfl,rfl⟩
def agF:an:=an.cm [] (rL) (ag) fun x_ y_=>(fun(x:Fe)=>.leaf none (lR.wr (mulC x x)) []) x_.1
theorem agG(x:Fe):aH Tryz.prog [(193,Dm)] [] f273 ((rL).wr (x,())) ((ag).wr ()) [.fr [.sym],.auto]= .leaf (lR.wr (mulC x x)) ([]):=by kernel_rfl
theorem agH:agF.Ok Tryz.prog 273:=by
 refine(an.aS call273 fun x_ y_ Q H_=>?_).sym;obtain⟨x,_⟩:=x_;have hq:=H_.2;refine(ar mixed ((al G1 aw)) func273 rfl (LT:= []) (ks:= [.fr [.sym],.auto]) (aK.nil _)).use (D:= []) ?_ hq;show(aH _ _ _ _ ((rL).wr (x,())) ((ag).wr ()) _).sat _;rw[agG];exact⟨rfl,rfl⟩
theorem al8(u v:dY):decide (u.toList=v.toList)=qF u v:=by
 cases h:qF u v with
 |true=>rw[(nk u v).1 h];simp
 |false=>exact decide_eq_false fun e=>by rw[(nk u v).2 (Vec.toList_inj e)]at h;cases h
def asE:an:=an.cm [] (mM) (ag) fun x_ y_=>(fun(x y:Fe)=>.leaf none (nB (Qv x y)) []) x_.1 x_.2.1
theorem agI(x y:Fe):aH Tryz.prog [(136,x7)] [] f321 ((mM).wr (x,y,())) ((ag).wr ()) [.fr [.sym],.auto]= .leaf (nB (decide ((fh x).toList=(fh y).toList))) []:=by kernel_rfl
theorem agJ:asE.Ok Tryz.prog 321:=by
 refine(an.aS call321 fun x_ y_ Q H_=>?_).sym;obtain⟨x,y,_⟩:=x_;have hq:=H_.2;refine(ar mixed ((al wh aw)) func321 rfl (LT:= []) (ks:= [.fr [.sym],.auto]) (aK.nil _)).use (D:= []) ?_ hq;show(aH _ _ _ _ ((mM).wr (x,y,())) ((ag).wr ()) _).sat _;rw[agI];rw[al8];exact⟨rfl,rfl⟩
def agK:an:=an.cm [] (rL) (ag) fun x_ y_=>(fun(x:Fe)=>.leaf none (nB (fk x)) []) x_.1
theorem QP(x:Fe):aH Tryz.prog [(321,asE)] [] f297 ((rL).wr (x,())) ((ag).wr ()) [.fr [.sym],.auto]= .leaf (nB (fk x)) ([]):=by kernel_rfl
theorem agL:agK.Ok Tryz.prog 297:=by
 refine(an.aS call297 fun x_ y_ Q H_=>?_).sym;obtain⟨x,_⟩:=x_;have hq:=H_.2;refine(ar mixed ((al agJ aw)) func297 rfl (LT:= []) (ks:= [.fr [.sym],.auto]) (aK.nil _)).use (D:= []) ?_ hq;show(aH _ _ _ _ ((rL).wr (x,())) ((ag).wr ()) _).sat _;rw[QP];exact⟨rfl,rfl⟩
def apV:an:=an.cm [] (rL) (ag) fun x_ y_=>(fun(x:Fe)=>.leaf none (nB (o5 x)) []) x_.1
theorem Ya(x:Fe):aH Tryz.prog [(136,x7)] [] f137 ((rL).wr (x,())) ((ag).wr ()) [.fr [.sym],.auto]= .leaf (nB (o5 x)) ([]):=by kernel_rfl
theorem al9:apV.Ok Tryz.prog 137:=by
 refine(an.aS call137 fun x_ y_ Q H_=>?_).sym;obtain⟨x,_⟩:=x_;have hq:=H_.2;refine(ar mixed ((al wh aw)) func137 rfl (LT:= []) (ks:= [.fr [.sym],.auto]) (aK.nil _)).use (D:= []) ?_ hq;show(aH _ _ _ _ ((rL).wr (x,())) ((ag).wr ()) _).sat _;rw[Ya];exact⟨rfl,rfl⟩
theorem kE{l:List Int}(h:l.length=32):(qT l).toList=l:=by
 have e:(qT l).toList=(List.range 32).map fun i=>l.getD i 0:=rfl;rw[e,IX h]
theorem G2(u:dY):qT u.toList=u:=Vec.toList_inj (kE (Vec.cF u))
theorem A2{f:Int→Int}: {n:Nat}→(k:Nat)→(v:Vec Int n)→(Vec.nV f k v).toList=v.toList.modify k f
 |0,k,_=>by simp[Vec.nV,Vec.toList]
 |n+1,0,v=>by simp[Vec.nV,Vec.toList]
 |n+1,k+1,v=>by simp[Vec.nV,Vec.toList,A2 k v.2]
theorem ama{l:List Int}(h:l.length=32){k:Nat}(hk:k<32)(f:Int→Int):qT (l.set k (f (l.getD k 0)))=Vec.nV f k (qT l):=by
 apply Vec.toList_inj
 rw[A2,kE h,kE (by simpa using h),List.getD_eq_getElem?_getD,List.getElem?_eq_getElem (by omega:k<l.length),Option.getD_some]
 apply List.ext_getElem?
 intro i;simp only[List.getElem?_modify,List.getElem?_set]
 by_cases e:k=i
 ·subst e;simp[h,hk]
 ·simp[e]
theorem G3(l:List Int):∀ {k:Nat},k<32→(qT l).get k=l.getD k 0:=by
 have key:∀ (n:Nat) (g:Nat→Int) (k:Nat),k<n→(Vec.ofFn n g).get k=g k:=by
  intro n
  induction n with
  |zero=>intro g k hk;omega
  |succ n ih=>
   intro g k hk
   cases k with
   |zero=>rfl
   |succ k=>exact ih (fun i=>g (i+1)) k (by omega)
 intro k hk;exact key 32 (fun i=>l.getD i 0) k hk
theorem uE(k m:Nat):(k:Int).tmod (m:Int)=((k%m:Nat):Int):=by rw[Int.tmod_eq_emod_of_nonneg (by omega),← Int.natCast_emod]
def apW:an:=an.cm [] ((ae (ah (aA .u8)) (ae (ah (aA .u8)) ag))) (ag) fun x_ y_=>(fun(lo hi:Int)=>.leaf none (al5 (bW lo hi)) []) x_.1 x_.2.1
theorem Yb(lo hi:Int):aH Tryz.prog [] [] f272 (((ae (ah (aA .u8)) (ae (ah (aA .u8)) ag))).wr (lo,hi,())) ((ag).wr ()) kR= .leaf (al5 (bW lo hi)) ([]):=by kernel_rfl
theorem amb:apW.Ok Tryz.prog 272:=by
 refine(an.aS call272 fun x_ y_ Q H_=>?_).sym;obtain⟨lo,hi,_⟩:=x_;have hq:=H_.2;refine(ar mixed aw func272 rfl (LT:= []) (ks:=kR) (aK.nil _)).use (D:= []) ?_ hq;show(aH _ _ _ _ (((ae (ah (aA .u8)) (ae (ah (aA .u8)) ag))).wr (lo,hi,())) ((ag).wr ()) _).sat _;rw[Yb];exact⟨rfl,rfl⟩
abbrev asF:Func:=f271
abbrev poC:aQ (List LV) (Int×Unit):=(jk 2 (ai (ah (aD 0 0)) (ai (ah (aD 1 0)) (ai (ah (aD 2 0)) (ai (ah (aD 3 0)) (ae (ah (aA .i64)) (jk 20 ag)))))))
abbrev amc:Wk:=.fr (cb 27 [(2,.ak),(3,.ak),(4,.ak),(5,.ak),(6,.sym)])
abbrev poX:aQ (List LV) (Unit):=(jk 4 (ai (ah (aD 0 0)) (ai (ah (aD 1 0)) (jk 21 ag))))
abbrev iFe:aQ (Option Ev.Item) Fe:=fG 153 (iU .u64 5)
abbrev poH:aQ Hp (Fe×List Int×Fe×Fe×Unit):=ae iFe (ae (gm 22 .u8 32) (ae iFe (ae iFe ag)))
abbrev Yc:aQ Hp (Fe×Fe×Unit):=ae iFe (ae iFe ag)
abbrev agM:List (FuncId×an):= [(194,G0),(273,agF),(193,Dm)]
theorem K2:∀p∈agM,p.2.Ok Tryz.prog p.1:=al Dl (al agH (al G1 aw))
abbrev K3(i:Nat):Wk:=.ba i (List.replicate 5 .sym)
def poW:Exit→List Wk
 | .normal=> [amc,K3 2,K3 3,.auto]
 | .exit 0=> [.fr (cb 27 [(4,.ak),(5,.ak)]),.auto]
 |_=> []
theorem asG(x r o:Fe)(e:List Int)(i:Int):ct Tryz.prog agM [] asF 0 [] poW ((aT poC poH).wr ((i,()),(x,e,r,o,())))=
 aG.ite (decide ((0:Int)≤i)) (aG.need ((0:Int)≤i64.wrap (i.tdiv (8:Int))∧i64.wrap (i.tdiv (8:Int))<(32:Int))
 (aG.need ((0:Int)≤i.tmod (8:Int)) (aG.ite (aM IntKind.u8 (shr IntKind.u8 ((List.take (32:Nat) (List.drop (0:Nat) e)).getD
 (i64.wrap (i.tdiv (8:Int))).toNat (0:Int)) (i.tmod (8:Int))) (1:Int)==(1:Int)) (aG.leaf Exit.normal ((aT poC poH).wr
 ((i64.wrap (i-(1:Int)),PUnit.unit),x,e,r,mulC (mulC o o) x,PUnit.unit))) (aG.leaf Exit.normal ((aT poC poH).wr ((i64.wrap
 (i-(1:Int)),PUnit.unit),x,e,r,mulC o o,PUnit.unit)))))) (aG.leaf (Exit.exit (0:Nat)) ((aT poX Yc).wr (PUnit.unit,r,o,PUnit.unit))):=by kernel_rfl
theorem amd{e:List Int}(he:e.length=32){j:Nat}(hj:j<256):
  (aM .u8 (shr .u8 ((List.take 32 (List.drop 0 e)).getD (i64.wrap ((j:Int).tdiv 8)).toNat 0) ((j:Int).tmod 8)) 1==1)=C6 (qT e) j:=by
 have e1:i64.wrap ((j:Int).tdiv 8)=((j/8:Nat):Int):=fw j 8 (by omega);have e2:(j:Int).tmod 8=((j%8:Nat):Int):=uE j 8;rw[e1,e2,aX he,Int.toNat_natCast];unfold C6;rw[G3 e (show j/8<32 by omega)]
def poF(x:(Int×Unit)×Fe×List Int×Fe×Fe×Unit):aG:=
 .need (x.1.1=255∧x.2.2.1.length=32) (.leaf (.exit 0) ((aT poX Yc).wr ((),(x.2.2.2.1,eQ (fQ (fun x=>mulC x x) mulC x.2.1 (qT x.2.2.1)) 256 x.2.2.2.2.1,()))))
theorem ame(x):Ex Tryz.prog [] (.loop (aP asF 0)) ((aT poC poH).wr x) (poF x):=by
 obtain⟨⟨i,_⟩,x,e,r,o,_⟩:=x;refine Ex.need fun⟨h1,h2⟩=>?_;simp only at h1 h2;subst h1
 have key:=c8 (fn:=asF) (id:=0) (j:=0) (ws:=poW) (hp:= []) mixed K2 (aK.nil _) 256 (fun k o=>(aT poC poH).wr ((255-(k:Int),()),(x,e,r,o,()))) (fun o=>(aT poX Yc).wr ((),(r,o,()))) (fQ (fun x=>mulC x x) mulC x (qT e)) (fun _ _=>True)
  (fun k o R hk _ hn hx=>?_) (fun _ _ _ _=>trivial) 0 o (by omega) trivial
 ·rw[Nat.sub_zero,mD]at key;exact key
 rw[asG];refine⟨fun hb=>?_,fun hb=>?_⟩
 ·have g6:k<256:=by have:=of_decide_eq_true hb;omega
  have e0:(255-(k:Int))=((255-k:Nat):Int):=by omega
  have kf:=hn g6;have e3:i64.wrap ((255-(k:Int))-1)=255-((k+1:Nat):Int):=by rw[au (by omega) (by omega)];omega
  have hw:i64.wrap ((255-(k:Int)).tdiv 8)=(((255-k)/8:Nat):Int):=by rw[e0];exact fw _ 8 (by omega)
  have ht:(255-(k:Int)).tmod 8=(((255-k)%8:Nat):Int):=by rw[e0];exact uE _ 8
  have D9:=amd h2 (j:=255-k) (by omega);rw[← e0]at D9;rw[D9,e3];refine⟨by rw[hw];omega,by rw[ht];omega,fun hc=>?_,fun hc=>?_⟩
  ·have:fQ (fun x=>mulC x x) mulC x (qT e) k o=mulC (mulC o o) x:=(by unfold fQ;rw[hc,bE];rfl);rw[this]at kf;exact kf
  ·have:fQ (fun x=>mulC x x) mulC x (qT e) k o=mulC o o:=(by unfold fQ;rw[hc,bE];rfl);rw[this]at kf;exact kf
 ·have:k=256:=by have:=of_decide_eq_false hb;omega
  exact hx this
def QQ(x:Fe)(e:List Int)(o:Fe):Fe:=eQ (fQ (fun x=>mulC x x) mulC x (qT e)) 256 o
def aCy(x:(Int×Unit)×Fe×List Int×Fe×Fe×Unit):aG:=
 .need (x.1.1=255∧x.2.2.1.length=32) (.leaf (.exit 0) ((aT poX Yc).wr ((),(x.2.2.2.1,QQ x.2.1 x.2.2.1 x.2.2.2.2.1,()))))
abbrev axQ:df:= [(0,cJ (aT poC poH) 0 [amc,.auto,K3 2,K3 3] aCy)]
abbrev poA:aQ (List LV) (Fe×List Int×Unit):=ae lR (ae cB ag)
abbrev gJ(r:Fe×Bool):LV:=.c6 [.agg ((iU .u64 5).wr r.1),.sc (.bool (.sym r.2))]
def A3(g:Fe→Fe):an:=an.cm [] rL ag fun x _=>.leaf none (lR.wr (g x.1)) []
def lW(g:Fe→Fe→Fe):an:=an.cm [] mM ag fun x _=>.leaf none (lR.wr (g x.1 x.2.1)) []
def Yd(g:Fe→Bool):an:=an.cm [] rL ag fun x _=>.leaf none (nB (g x.1)) []
def e2B(g:Fe→Fe→Bool):an:=an.cm [] mM ag fun x _=>.leaf none (nB (g x.1 x.2.1)) []
def e1P(g:Fe→Fe×Bool):an:=an.cm [] rL ag fun x _=>.leaf none (gJ (g x.1)) []
def e2P(g:Fe→Fe→Fe×Bool):an:=an.cm [] mM ag fun x _=>.leaf none (gJ (g x.1 x.2.1)) []
def G4(g:Int→Fe):an:=an.cm [] QG ag fun x _=>.leaf none (lR.wr (g x.1)) []
def ePw(g:Fe→List Int→Fe):an:=an.cm [] poA ag fun x _=>.leaf (some (x.2.1.length=32)) (lR.wr (g x.1 x.2.1)) []
def eEx(g:Int→Int→List Int):an:=an.cm [] (ae (ah (aA .u8)) (ae (ah (aA .u8)) ag)) ag fun x _=>.leaf none (cY .u8 32 (g x.1 x.2.1)) []
def G5(x:Fe)(e:List Int):Fe:=powC x (qT e)
def A4(lo hi:Int):List Int:=(bW lo hi).toList
theorem K4(x:Fe)(lo hi:Int):G5 x (A4 lo hi)=powC x (bW lo hi):=by unfold G5 A4;rw[G2]
theorem A5(lo hi:Int):(A4 lo hi).length=32:=Vec.cF _
abbrev axT:an:=ePw G5
theorem Ye(p:Fe→List Int→Fe→Fe)(sm:Int→Fe)(x:Fe)(e:List Int):aH Tryz.prog [(194,G4 sm),(273,agF),(193,Dm)] [(0,cJ (aT poC poH) 0 [amc,.auto,K3 2,K3 3] fun x=>.need (x.1.1=255∧x.2.2.1.length=32) (.leaf (.exit 0) ((aT poX Yc).wr ((),(x.2.2.2.1,p x.2.1 x.2.2.1 x.2.2.2.2.1,())))))] f271 (poA.wr (x,e,())) [] kK=
  .need ((255:Int)=255∧e.length=32) (.leaf (lR.wr (p x e (sm 1))) []):=by kernel_rfl
theorem Yf(x:Fe)(e:List Int):aH Tryz.prog agM axQ f271 (poA.wr (x,e,())) [] kK=aH Tryz.prog [(194,G4 a7),(273,agF),(193,Dm)] [(0,cJ (aT poC poH) 0 [amc,.auto,K3 2,K3 3] fun x=>.need (x.1.1=255∧x.2.2.1.length=32) (.leaf (.exit 0) ((aT poX Yc).wr ((),(x.2.2.2.1,QQ x.2.1 x.2.2.1 x.2.2.2.2.1,())))))] f271 (poA.wr (x,e,())) [] kK:=by kernel_rfl
theorem UJ:axT.Ok Tryz.prog 271:=by
 refine(an.aS call271 fun x_ y_ Q H_=>?_).sym;obtain⟨x,e,_⟩:=x_;obtain⟨hn,hq⟩:=H_;have hn:e.length=32:=hn;refine(ar mixed K2 func271 rfl (LT:=axQ) (ks:=kK) (aK.bI (iu rfl (bt (hp:= []) ame) iE))).use (D:= []) ?_ hq;show(aH _ _ _ _ (poA.wr (x,e,())) [] _).sat _;rw[Yf x e,Ye QQ a7 x e];exact⟨⟨rfl,hn⟩,rfl,rfl⟩
theorem Yg:G0=G4 a7:=by kernel_rfl
theorem kF:(G4 a7).Ok Tryz.prog 194:=Yg▸Dl
theorem amf:Dm=lW mulC:=by kernel_rfl
theorem jE:(lW mulC).Ok Tryz.prog 193:=amf▸G1
theorem amg:apS=lW jQ:=by kernel_rfl
theorem K5:(lW jQ).Ok Tryz.prog 266:=amg▸al6
theorem amh:agu=lW kP:=by kernel_rfl
theorem K6:(lW kP).Ok Tryz.prog 265:=amh▸UG
theorem asI:agF=A3 (fun x=>mulC x x):=by kernel_rfl
theorem UK:(A3 (fun x=>mulC x x)).Ok Tryz.prog 273:=asI▸agH
theorem ami:apT=A3 AF:=by kernel_rfl
theorem agN:(A3 AF).Ok Tryz.prog 298:=ami▸al7
theorem asJ:asE=e2B Qv:=by kernel_rfl
theorem amj:(e2B Qv).Ok Tryz.prog 321:=asJ▸agJ
theorem amk:apV=Yd o5:=by kernel_rfl
theorem K7:(Yd o5).Ok Tryz.prog 137:=amk▸al9
theorem agO:agK=Yd fk:=by kernel_rfl
theorem Yh:(Yd fk).Ok Tryz.prog 297:=agO▸agL
theorem aml:apW=eEx A4:=by kernel_rfl
theorem K8:(eEx A4).Ok Tryz.prog 272:=aml▸amb
abbrev axU:an:=A3 jP
theorem Yi(pow:Fe→List Int→Fe)(exp:Int→Int→List Int)(x:Fe):aH Tryz.prog [(271,ePw pow),(272,eEx exp)] [] f195 ((rL).wr (x,())) [] kK= .need ((exp 235 127).length=32) (.leaf (lR.wr (pow x (exp 235 127))) []):=by kernel_rfl
theorem Yj:∀p_∈([(271,ePw G5),(272,eEx A4)]:List (FuncId×an)),p_.2.Ok Tryz.prog p_.1:=(al UJ (al K8 aw))
theorem G6:axU.Ok Tryz.prog 195:=by
 refine(an.aS call195 fun x_ y_ Q H_=>?_).sym;obtain⟨x,_⟩:=x_;have hq:=H_.2;refine(ar (tab:= [(271,ePw G5),(272,eEx A4)]) mixed Yj func195 rfl (LT:= []) (ks:=kK) (aK.nil _)).use (D:= []) ?_ hq;show(aH _ _ _ _ ((rL).wr (x,())) [] _).sat _;rw[Yi G5 A4];rw[K4];exact⟨A5 _ _,rfl,rfl⟩
theorem amm(pw:Fe→dY→Fe)(ex:Int→Int→dY)(ml:Fe→Fe→Fe)(sq ng:Fe→Fe)(sm:Int→Fe)(eq:Fe→Fe→Bool)(od:Fe→Bool)(x:Fe):
  Ay pw ex ml sq ng sm eq od x=bif eq (sq (pw x (ex 254 15))) x then(bif od (pw x (ex 254 15))then ng (pw x (ex 254 15))else pw x (ex 254 15),true)
   else bif eq (sq (ml (pw x (ex 254 15)) (pw (sm 2) (ex 251 31)))) x then(bif od (ml (pw x (ex 254 15)) (pw (sm 2) (ex 251 31)))then ng (ml (pw x (ex 254 15)) (pw (sm 2) (ex 251 31)))else ml (pw x (ex 254 15)) (pw (sm 2) (ex 251 31)),true)else(dX,false):=by
 have agt:∀ (b:Bool) (u v:Fe),dB b u v=bif b then u else v:=fun b u v=>bE b u v;unfold Ay;simp only[agt]
 cases h:eq (sq (pw x (ex 254 15))) x
 ·simp only[Bool.not_false,cond_true,cond_false]
  cases eq (sq (ml (pw x (ex 254 15)) (pw (sm 2) (ex 251 31)))) x<;>rfl
 ·simp only[Bool.not_true,cond_true,cond_false,h]
theorem agP{t1 t2 o1 o2:Bool}{r r2 n1 n2:Fe}{p1 p2:Prop}(h1:p1)(h2:p2){q:Fe×Bool}(hq:q=bif t1 then(bif o1 then n1 else r,true)else bif t2 then(bif o2 then n2 else r2,true)else(dX,false)):
  (Ev.End.need p1 (.ite (!t1) (.need p2 (.ite (!t2) (.leaf (gJ (dX,false)) []) (.ite o2 (.leaf (gJ (n2,true)) []) (.leaf (gJ (r2,true)) [])))) (.ite (!t1) (.leaf (gJ (dX,false)) []) (.ite o1 (.leaf (gJ (n1,true)) []) (.leaf (gJ (r,true)) []))))).sat fun v dP=>v=gJ q∧dP= []:=by
 subst hq;refine⟨h1,?_⟩
 cases t1
 ·refine⟨fun _=>⟨h2,?_⟩,fun h=>(by cases h)⟩
  cases t2
  ·exact⟨fun _=>⟨rfl,rfl⟩,fun h=>(by cases h)⟩
  ·refine⟨fun h=>(by cases h),fun _=>?_⟩
   cases o2
   ·exact⟨fun h=>(by cases h),fun _=>⟨rfl,rfl⟩⟩
   ·exact⟨fun _=>⟨rfl,rfl⟩,fun h=>(by cases h)⟩
 ·refine⟨fun h=>(by cases h),fun _=>⟨fun h=>(by cases h),fun _=>?_⟩⟩
  cases o1
  ·exact⟨fun h=>(by cases h),fun _=>⟨rfl,rfl⟩⟩
  ·exact⟨fun _=>⟨rfl,rfl⟩,fun h=>(by cases h)⟩
theorem amn(x:Fe):mK x=Ay powC bW mulC (fun x=>mulC x x) AF a7 Qv o5 x:=rfl
abbrev asK:an:=e1P mK
theorem QR(pow:Fe→List Int→Fe)(exp:Int→Int→List Int)(mul:Fe→Fe→Fe)(sq neg:Fe→Fe)(eq:Fe→Fe→Bool)(C7:Fe→Bool)(sm:Int→Fe)(x:Fe):aH Tryz.prog [(271,ePw pow),(272,eEx exp),(193,lW mul),(273,A3 sq),(298,A3 neg),(321,e2B eq),(137,Yd C7),(194,G4 sm)] [] f311 ((rL).wr (x,())) [] kK= .need ((exp 254 15).length=32) (.ite (!(eq (sq (pow x (exp 254 15))) x)) (.need ((exp 251 31).length=32) (.ite (!(eq (sq (mul (pow x (exp 254 15)) (pow (sm 2) (exp 251 31)))) x)) (.leaf (gJ (dX,false)) []) (.ite (C7 (mul (pow x (exp 254 15)) (pow (sm 2) (exp 251 31)))) (.leaf (gJ (neg (mul (pow x (exp 254 15)) (pow (sm 2) (exp 251 31))),true)) []) (.leaf (gJ (mul (pow x (exp 254 15)) (pow (sm 2) (exp 251 31)),true)) [])))) (.ite (!(eq (sq (pow x (exp 254 15))) x)) (.leaf (gJ (dX,false)) []) (.ite (C7 (pow x (exp 254 15))) (.leaf (gJ (neg (pow x (exp 254 15)),true)) []) (.leaf (gJ (pow x (exp 254 15),true)) [])))):=by kernel_rfl
theorem QS:∀p_∈([(271,ePw G5),(272,eEx A4),(193,lW mulC),(273,A3 (fun x=>mulC x x)),(298,A3 AF),(321,e2B Qv),(137,Yd o5),(194,G4 a7)]:List (FuncId×an)),p_.2.Ok Tryz.prog p_.1:=(al UJ (al K8 (al jE (al UK (al agN (al amj (al K7 (al kF aw))))))))
theorem agQ:asK.Ok Tryz.prog 311:=by
 refine(an.aS call311 fun x_ y_ Q H_=>?_).sym;obtain⟨x,_⟩:=x_;have hq:=H_.2;refine(ar (tab:= [(271,ePw G5),(272,eEx A4),(193,lW mulC),(273,A3 (fun x=>mulC x x)),(298,A3 AF),(321,e2B Qv),(137,Yd o5),(194,G4 a7)]) mixed QS func311 rfl (LT:= []) (ks:=kK) (aK.nil _)).use (D:= []) ?_ hq;show(aH _ _ _ _ ((rL).wr (x,())) [] _).sat _;rw[QR G5 A4 mulC (fun x=>mulC x x) AF Qv o5 a7];simp only[K4];exact agP (A5 _ _) (A5 _ _) ((amn x).trans (amm _ _ _ _ _ _ _ _ x))
theorem agR(u v:Fe):lP u v=(dB (fk v) dX (mK (mulC u (jP v))).1,bif fk v then fk u else(mK (mulC u (jP v))).2):=by unfold lP;rfl
theorem Yk{z zu:Bool}{s r:Fe×Bool}(hr:r=(dB z dX s.1,bif z then zu else s.2)):(Ev.End.ite z (.leaf (gJ (dX,zu)) []) (.leaf (gJ s) [])).sat fun v dP=>v=gJ r∧dP= []:=by
 subst hr;rw[bE]
 cases z
 ·exact⟨fun h=>(by cases h),fun _=>⟨rfl,rfl⟩⟩
 ·exact⟨fun _=>⟨rfl,rfl⟩,fun h=>(by cases h)⟩
abbrev amo:an:=e2P lP
theorem K9(mul:Fe→Fe→Fe)(inv:Fe→Fe)(isz:Fe→Bool)(sqrt:Fe→Fe×Bool)(u v:Fe):aH Tryz.prog [(193,lW mul),(195,A3 inv),(297,Yd isz),(311,e1P sqrt)] [] f274 ((mM).wr (u,v,())) [] kK= .ite (isz v) (.leaf (gJ (dX,isz u)) []) (.leaf (gJ (sqrt (mul u (inv v)))) []):=by kernel_rfl
theorem La:∀p_∈([(193,lW mulC),(195,A3 jP),(297,Yd fk),(311,e1P mK)]:List (FuncId×an)),p_.2.Ok Tryz.prog p_.1:=(al jE (al G6 (al Yh (al agQ aw))))
theorem Yl:amo.Ok Tryz.prog 274:=by
 refine(an.aS call274 fun x_ y_ Q H_=>?_).sym;obtain⟨u,v,_⟩:=x_;have hq:=H_.2;refine(ar (tab:= [(193,lW mulC),(195,A3 jP),(297,Yd fk),(311,e1P mK)]) mixed La func274 rfl (LT:= []) (ks:=kK) (aK.nil _)).use (D:= []) ?_ hq;show(aH _ _ _ _ ((mM).wr (u,v,())) [] _).sat _;rw[K9 mulC jP fk mK];exact Yk (agR u v)
abbrev A6:aQ LV Pt:=qC (ae aaW (B5 .u64 (B5 .u64 (B5 .u64 (iU .u64 5) 5) 5) 5))
abbrev ptA:aQ (List LV) (Pt×Unit):=ae A6 ag
abbrev asL:aQ (List LV) (Pt×Pt×Unit):=ae A6 (ae A6 ag)
def eFr(g:List Int→Fe):an:=an.cm [] nS ag fun x _=>.leaf none (lR.wr (g x.1)) []
def e0F(c:Fe):an:=an.cm [] ag ag fun _ _=>.leaf none (lR.wr c) []
def e0Q(c:Pt):an:=an.cm [] ag ag fun _ _=>.leaf none (A6.wr c) []
def eAf(g:Fe→Fe→Pt):an:=an.cm [] mM ag fun x _=>.leaf none (A6.wr (g x.1 x.2.1)) []
def Ym(g:Pt→Pt):an:=an.cm [] ptA ag fun x _=>.leaf none (A6.wr (g x.1)) []
def e2Q(g:Pt→Pt→Pt):an:=an.cm [] asL ag fun x _=>.leaf none (A6.wr (g x.1 x.2.1)) []
def A7(b:List Int):Fe:=nm (qT b)
theorem agU:agw=eFr A7:=by kernel_rfl
theorem Yn:(eFr A7).Ok Tryz.prog 295:=agU▸agx
theorem Yo:jD=A7 mH.toList:=by unfold A7;rw[G2];rfl
abbrev asO:an:=e0F jD
theorem QT(frm:List Int→Fe):aH Tryz.prog [(295,eFr frm)] [] f267 ((ag).wr ()) [] kK= .leaf (lR.wr (frm mH.toList)) []:=by kernel_rfl
theorem QU:∀p_∈([(295,eFr A7)]:List (FuncId×an)),p_.2.Ok Tryz.prog p_.1:=(al Yn aw)
theorem Lb:asO.Ok Tryz.prog 267:=by
 refine(an.aS call267 fun x_ y_ Q H_=>?_).sym;have hq:=H_.2;refine(ar (tab:= [(295,eFr A7)]) mixed QU func267 rfl (LT:= []) (ks:=kK) (aK.nil _)).use (D:= []) ?_ hq;show(aH _ _ _ _ ((ag).wr ()) [] _).sat _;rw[QT A7];rw[Yo];exact⟨rfl,rfl⟩
abbrev agV:an:=eAf gN
theorem G7(mul:Fe→Fe→Fe)(sm:Int→Fe)(x y:Fe):aH Tryz.prog [(193,lW mul),(194,G4 sm)] [] f197 ((mM).wr (x,y,())) [] kK= .leaf (A6.wr (true,x,y,sm 1,mul x y)) []:=by kernel_rfl
theorem G8:∀p_∈([(193,lW mulC),(194,G4 a7)]:List (FuncId×an)),p_.2.Ok Tryz.prog p_.1:=(al jE (al kF aw))
theorem A8:agV.Ok Tryz.prog 197:=by
 refine(an.aS call197 fun x_ y_ Q H_=>?_).sym;obtain⟨x,y,_⟩:=x_;have hq:=H_.2;refine(ar (tab:= [(193,lW mulC),(194,G4 a7)]) mixed G8 func197 rfl (LT:= []) (ks:=kK) (aK.nil _)).use (D:= []) ?_ hq;show(aH _ _ _ _ ((mM).wr (x,y,())) [] _).sat _;rw[G7 mulC a7];exact⟨rfl,rfl⟩
abbrev asP:an:=e0Q iF
theorem QV(af:Fe→Fe→Pt)(sm:Int→Fe):aH Tryz.prog [(197,eAf af),(194,G4 sm)] [] f189 ((ag).wr ()) [] kK= .leaf (A6.wr (af dX (sm 1))) []:=by kernel_rfl
theorem QW:∀p_∈([(197,eAf gN),(194,G4 a7)]:List (FuncId×an)),p_.2.Ok Tryz.prog p_.1:=(al A8 (al kF aw))
theorem Lc:asP.Ok Tryz.prog 189:=by
 refine(an.aS call189 fun x_ y_ Q H_=>?_).sym;have hq:=H_.2;refine(ar (tab:= [(197,eAf gN),(194,G4 a7)]) mixed QW func189 rfl (LT:= []) (ks:=kK) (aK.nil _)).use (D:= []) ?_ hq;show(aH _ _ _ _ ((ag).wr ()) [] _).sat _;rw[QV gN a7];exact⟨rfl,rfl⟩
theorem UL(p:Pt):fU p=bif !p.1 then iF else p:=by unfold fU afG;rw[ud]
theorem G9{t:Bool}{V W X:LV}(h1:t=true→V=X)(h2:t=false→W=X):(Ev.End.ite t (.leaf V []) (.leaf W [])).sat fun v dP=>v=X∧dP= []:=⟨fun h=>⟨h1 h,rfl⟩,fun h=>⟨h2 h,rfl⟩⟩
abbrev axW:an:=Ym fU
theorem Yp(z:Pt)(p:Pt):aH Tryz.prog [(189,e0Q z)] [] f198 ((ptA).wr (p,())) [] kK= .ite (!p.1) (.leaf (A6.wr z) []) (.leaf (A6.wr p) []):=by kernel_rfl
theorem Yq:∀p_∈([(189,e0Q iF)]:List (FuncId×an)),p_.2.Ok Tryz.prog p_.1:=(al Lc aw)
theorem UM:axW.Ok Tryz.prog 198:=by
 refine(an.aS call198 fun x_ y_ Q H_=>?_).sym;obtain⟨p,_⟩:=x_;have hq:=H_.2;refine(ar (tab:= [(189,e0Q iF)]) mixed Yq func198 rfl (LT:= []) (ks:=kK) (aK.nil _)).use (D:= []) ?_ hq;show(aH _ _ _ _ ((ptA).wr (p,())) [] _).sat _;rw[Yp iF];exact G9 (fun h=>by rw[UL,h];rfl) (fun h=>by rw[UL,h];rfl)
abbrev asQ:an:=e1P w6
theorem QX(mul add sub:Fe→Fe→Fe)(sq:Fe→Fe)(sm:Int→Fe)(ed:Fe)(ratio:Fe→Fe→Fe×Bool)(y:Fe):aH Tryz.prog [(193,lW mul),(266,lW add),(265,lW sub),(273,A3 sq),(194,G4 sm),(267,e0F ed),(274,e2P ratio)] [] f196 ((rL).wr (y,())) [] kK= .leaf (gJ (ratio (sub (sq y) (sm 1)) (add (mul ed (sq y)) (sm 1)))) []:=by kernel_rfl
theorem QY:∀p_∈([(193,lW mulC),(266,lW jQ),(265,lW kP),(273,A3 (fun x=>mulC x x)),(194,G4 a7),(267,e0F jD),(274,e2P lP)]:List (FuncId×an)),p_.2.Ok Tryz.prog p_.1:=(al jE (al K5 (al K6 (al UK (al kF (al Lb (al Yl aw)))))))
theorem agW:asQ.Ok Tryz.prog 196:=by
 refine(an.aS call196 fun x_ y_ Q H_=>?_).sym;obtain⟨y,_⟩:=x_;have hq:=H_.2;refine(ar (tab:= [(193,lW mulC),(266,lW jQ),(265,lW kP),(273,A3 (fun x=>mulC x x)),(194,G4 a7),(267,e0F jD),(274,e2P lP)]) mixed QY func196 rfl (LT:= []) (ks:=kK) (aK.nil _)).use (D:= []) ?_ hq;show(aH _ _ _ _ ((rL).wr (y,())) [] _).sat _;rw[QX mulC jQ kP (fun x=>mulC x x) a7 jD lP];exact⟨rfl,rfl⟩
abbrev asR:an:=e0Q o6
theorem QZ(mul:Fe→Fe→Fe)(sm:Int→Fe)(inv:Fe→Fe)(root:Fe→Fe×Bool)(af:Fe→Fe→Pt):aH Tryz.prog [(193,lW mul),(194,G4 sm),(195,A3 inv),(196,e1P root),(197,eAf af)] [] f134 ((ag).wr ()) [] kK= .leaf (A6.wr (af (root (mul (sm 4) (inv (sm 5)))).1 (mul (sm 4) (inv (sm 5))))) []:=by kernel_rfl
theorem Q0:∀p_∈([(193,lW mulC),(194,G4 a7),(195,A3 jP),(196,e1P w6),(197,eAf gN)]:List (FuncId×an)),p_.2.Ok Tryz.prog p_.1:=(al jE (al kF (al G6 (al agW (al A8 aw)))))
theorem agX:asR.Ok Tryz.prog 134:=by
 refine(an.aS call134 fun x_ y_ Q H_=>?_).sym;have hq:=H_.2;refine(ar (tab:= [(193,lW mulC),(194,G4 a7),(195,A3 jP),(196,e1P w6),(197,eAf gN)]) mixed Q0 func134 rfl (LT:= []) (ks:=kK) (aK.nil _)).use (D:= []) ?_ hq;show(aH _ _ _ _ ((ag).wr ()) [] _).sat _;rw[QZ mulC a7 jP w6 gN];exact⟨rfl,rfl⟩
def e4Q(g:Fe→Fe→Fe→Fe→Pt):an:=an.cm [] (ae lR (ae lR (ae lR (ae lR ag)))) ag fun x _=>.leaf none (A6.wr (g x.1 x.2.1 x.2.2.1 x.2.2.2.1)) []
abbrev amq:an:=e4Q nq
theorem Ld(mul:Fe→Fe→Fe)(e f g h:Fe):aH Tryz.prog [(193,lW mul)] [] f268 (((ae lR (ae lR (ae lR (ae lR ag))))).wr (e,f,g,h,())) [] kK= .leaf (A6.wr (true,mul e f,mul g h,mul f g,mul e h)) []:=by kernel_rfl
theorem Le:∀p_∈([(193,lW mulC)]:List (FuncId×an)),p_.2.Ok Tryz.prog p_.1:=(al jE aw)
theorem Yr:amq.Ok Tryz.prog 268:=by
 refine(an.aS call268 fun x_ y_ Q H_=>?_).sym;obtain⟨e,f,g,h,_⟩:=x_;have hq:=H_.2;refine(ar (tab:= [(193,lW mulC)]) mixed Le func268 rfl (LT:= []) (ks:=kK) (aK.nil _)).use (D:= []) ?_ hq;show(aH _ _ _ _ (((ae lR (ae lR (ae lR (ae lR ag))))).wr (e,f,g,h,())) [] _).sat _;rw[Ld mulC];exact⟨rfl,rfl⟩
abbrev axX:an:=e2Q eL
theorem Ys(mul add sub:Fe→Fe→Fe)(ed:Fe)(own:Pt→Pt)(Ul:Fe→Fe→Fe→Fe→Pt)(p q:Pt):aH Tryz.prog [(193,lW mul),(266,lW add),(265,lW sub),(267,e0F ed),(198,Ym own),(268,e4Q Ul)] [] f192 ((asL).wr (p,q,())) [] kK= .leaf (A6.wr (addFn mul add sub ed own Ul p q)) []:=by kernel_rfl
theorem Yt:∀p_∈([(193,lW mulC),(266,lW jQ),(265,lW kP),(267,e0F jD),(198,Ym fU),(268,e4Q nq)]:List (FuncId×an)),p_.2.Ok Tryz.prog p_.1:=(al jE (al K5 (al K6 (al Lb (al UM (al Yr aw))))))
theorem Ha:axX.Ok Tryz.prog 192:=by
 refine(an.aS call192 fun x_ y_ Q H_=>?_).sym;obtain⟨p,q,_⟩:=x_;have hq:=H_.2;refine(ar (tab:= [(193,lW mulC),(266,lW jQ),(265,lW kP),(267,e0F jD),(198,Ym fU),(268,e4Q nq)]) mixed Yt func192 rfl (LT:= []) (ks:=kK) (aK.nil _)).use (D:= []) ?_ hq;show(aH _ _ _ _ ((asL).wr (p,q,())) [] _).sat _;rw[Ys mulC jQ kP jD fU nq];exact⟨rfl,rfl⟩
abbrev agY:an:=Ym c5
theorem Hb(add:Pt→Pt→Pt)(p:Pt):aH Tryz.prog [(192,e2Q add)] [] f190 ((ptA).wr (p,())) [] kK= .leaf (A6.wr (add p p)) []:=by kernel_rfl
theorem Hc:∀p_∈([(192,e2Q eL)]:List (FuncId×an)),p_.2.Ok Tryz.prog p_.1:=(al Ha aw)
theorem A9:agY.Ok Tryz.prog 190:=by
 refine(an.aS call190 fun x_ y_ Q H_=>?_).sym;obtain⟨p,_⟩:=x_;have hq:=H_.2;refine(ar (tab:= [(192,e2Q eL)]) mixed Hc func190 rfl (LT:= []) (ks:=kK) (aK.nil _)).use (D:= []) ?_ hq;show(aH _ _ _ _ ((ptA).wr (p,())) [] _).sat _;rw[Hb eL];exact⟨rfl,rfl⟩
def ePl(g:Pt→Fe×Fe):an:=an.cm [] ptA ag fun x _=>.leaf none (.c6 [.agg ((iU .u64 5).wr (g x.1).1),.agg ((iU .u64 5).wr (g x.1).2)]) []
abbrev amr:an:=ePl iV
theorem Lf(mul:Fe→Fe→Fe)(inv:Fe→Fe)(own:Pt→Pt)(p:Pt):aH Tryz.prog [(193,lW mul),(195,A3 inv),(198,Ym own)] [] f135 ((ptA).wr (p,())) [] kK= .leaf (.c6 [.agg ((iU .u64 5).wr (mul (own p).2.1 (inv (own p).2.2.2.1))),.agg ((iU .u64 5).wr (mul (own p).2.2.1 (inv (own p).2.2.2.1)))]) []:=by kernel_rfl
theorem Lg:∀p_∈([(193,lW mulC),(195,A3 jP),(198,Ym fU)]:List (FuncId×an)),p_.2.Ok Tryz.prog p_.1:=(al jE (al G6 (al UM aw)))
theorem Yu:amr.Ok Tryz.prog 135:=by
 refine(an.aS call135 fun x_ y_ Q H_=>?_).sym;obtain⟨p,_⟩:=x_;have hq:=H_.2;refine(ar (tab:= [(193,lW mulC),(195,A3 jP),(198,Ym fU)]) mixed Lg func135 rfl (LT:= []) (ks:=kK) (aK.nil _)).use (D:= []) ?_ hq;show(aH _ _ _ _ ((ptA).wr (p,())) [] _).sat _;rw[Lf mulC jP fU];exact⟨rfl,rfl⟩
def eBy(g:Fe→List Int):an:=an.cm [] rL ag fun x _=>.leaf none (cY .u8 32 (g x.1)) []
def eEn(g:Pt→List Int):an:=an.cm [] ptA ag fun x _=>.leaf none (cY .u8 32 (g x.1)) []
def nw(x:Fe):List Int:=(fh x).toList
def dF(p:Pt):List Int:=(ur p).toList
theorem Yv:x7=eBy nw:=by kernel_rfl
theorem Q1:(eBy nw).Ok Tryz.prog 136:=Yv▸wh
theorem UN{f:Int→Int}(v:dY):(Vec.nV f 31 v).toList=v.toList.set 31 (f (v.toList.getD 31 0)):=by
 have h:=ama (Vec.cF v) (k:=31) (by omega) f;rw[G2]at h;rw[← h,kE (by rw[List.length_set];exact Vec.cF v)]
theorem Dn(p:Pt):dF p=bif o5 (iV p).1 then(nw (iV p).2).set 31 (bC .u8 ((nw (iV p).2).getD 31 0) 128)else nw (iV p).2:=by
 unfold dF ur Az nw;simp only[bE];generalize fh (iV p).2=v
 cases o5 (iV p).1
 ·rfl
 ·exact UN v
abbrev agZ:an:=eEn dF
theorem Hd(pl:Pt→Fe×Fe)(UO:Fe→List Int)(C7:Fe→Bool)(p:Pt):aH Tryz.prog [(135,ePl pl),(136,eBy UO),(137,Yd C7)] [] f81 ((ptA).wr (p,())) [] kK= .ite (C7 (pl p).1) (.leaf (cY .u8 32 ((UO (pl p).2).set 31 (bC .u8 ((UO (pl p).2).getD 31 0) 128))) []) (.leaf (cY .u8 32 (UO (pl p).2)) []):=by kernel_rfl
theorem He:∀p_∈([(135,ePl iV),(136,eBy nw),(137,Yd o5)]:List (FuncId×an)),p_.2.Ok Tryz.prog p_.1:=(al Yu (al Q1 (al K7 aw)))
theorem Ba:agZ.Ok Tryz.prog 81:=by
 refine(an.aS call81 fun x_ y_ Q H_=>?_).sym;obtain⟨p,_⟩:=x_;have hq:=H_.2;refine(ar (tab:= [(135,ePl iV),(136,eBy nw),(137,Yd o5)]) mixed He func81 rfl (LT:= []) (ks:=kK) (aK.nil _)).use (D:= []) ?_ hq;show(aH _ _ _ _ ((ptA).wr (p,())) [] _).sat _;rw[Hd iV nw o5];exact G9 (fun h=>by rw[Dn,h];rfl) (fun h=>by rw[Dn,h];rfl)
abbrev biA:aQ (List LV) (List Int×Int×Unit):=ae cB (ae (ah (aA .i64)) ag)
def Q2(g:List Int→Int→Int):an:=an.cm [] biA ag fun x _=>.leaf (some (x.1.length=32∧0≤x.2.1∧x.2.1<256)) (nI (g x.1 x.2.1)) []
def pg(a:List Int)(i:Int):Int:=mI (qT a) i.toNat
def ap2:an:=an.cm [] (biA) (ag) fun x_ y_=>(fun(a:List Int) (i:Int)=>.leaf (some (a.length=32∧0≤i∧i<256)) (nI (pg a i)) []) x_.1 x_.2.1
theorem Yw(a:List Int)(i:Int):aH Tryz.prog [] [] f191 ((biA).wr (a,i,())) ((ag).wr ()) [.fr [.sym],.auto]=
 End.ite (decide (i<(0:Int))==false) (End.ite (decide ((256:Int)≤i)) (End.leaf (LV.one (VV.sc (SV.int i64 (SI.sym (0:Int))))) [])
 (End.need ((0:Int)≤i64.wrap (i.tdiv (8:Int))∧i64.wrap (i.tdiv (8:Int))<(32:Int)) (End.need ((0:Int)≤i.tmod (8:Int))
 (End.leaf (LV.one (VV.sc (SV.int i64 (SI.sym (i64.wrap (aM IntKind.u8 (shr IntKind.u8 ((List.take (32:Nat) (List.drop (0:Nat)
 a)).getD (i64.wrap (i.tdiv (8:Int))).toNat (0:Int)) (i.tmod (8:Int))) (1:Int))))))) [])))) (End.leaf (LV.one (VV.sc (SV.int i64
 (SI.sym (0:Int))))) []):=by kernel_rfl
theorem ams:ap2.Ok Tryz.prog 191:=by
 refine(an.aS call191 fun x_ y_ Q H_=>?_).sym;obtain⟨a,i,_⟩:=x_;obtain⟨hn,hq⟩:=H_;have hn:a.length=32∧0≤i∧i<256:=hn;refine(ar mixed aw func191 rfl (LT:= []) (ks:= [.fr [.sym],.auto]) (aK.nil _)).use (D:= []) ?_ hq;show(aH _ _ _ _ ((biA).wr (a,i,())) ((ag).wr ()) _).sat _;rw[Yw];obtain⟨ha,h0,h1⟩:=hn;obtain⟨k,rfl⟩:=Int.eq_ofNat_of_zero_le h0;have hk:k<256:=by omega
 have e1:i64.wrap ((k:Int).tdiv 8)=((k/8:Nat):Int):=fw k 8 (by omega);have e2:(k:Int).tmod 8=((k%8:Nat):Int):=uE k 8
 have e:pg a (k:Int)=i64.wrap (aM .u8 (shr .u8 (a.getD (k/8) 0) ((k%8:Nat):Int)) 1):=by
  unfold pg mI;rw[Int.toNat_natCast,G3 a (show k/8<32 by omega)]
 rw[e1,e2,aX ha,Int.toNat_natCast,e];refine⟨fun _=>⟨fun h=>?_,fun _=>⟨by omega,by omega,rfl,rfl⟩⟩,fun h=>?_⟩
 ·have:=of_decide_eq_true h;omega
 ·exfalso;revert h;simp
abbrev Q3:Func:=f133
abbrev muC:aQ (List LV) (Int×Unit):=(jk 2 (ai (ah (aD 0 0)) (ai (ah (aD 1 0)) (ai (ah (aD 2 0)) (ai (ah (aD 3 0)) (ae (ah (aA .i64)) (jk 15 ag)))))))
abbrev axZ:Wk:=.fr (cb 22 [(2,.ak),(3,.ak),(4,.ak),(5,.ak),(6,.sym)])
abbrev muX:aQ (List LV) (Unit):=(jk 4 (ai (ah (aD 0 0)) (ai (ah (aD 1 0)) (jk 16 ag))))
abbrev iPt:aQ (Option Ev.Item) Pt:=fG 155 (ae aaW (B5 .u64 (B5 .u64 (B5 .u64 (iU .u64 5) 5) 5) 5))
abbrev muH:aQ Hp (List Int×Pt×Pt×Pt×Unit):=ae (gm 22 .u8 32) (ae iPt (ae iPt (ae iPt ag)))
abbrev amt:aQ Hp (Pt×Pt×Unit):=ae iPt (ae iPt ag)
abbrev amu(i:Nat):Wk:=.ba i (List.replicate 21 .sym)
def muW:Exit→List Wk
 | .normal=> [axZ,amu 2,amu 3,.auto]
 | .exit 0=> [.fr (cb 22 [(4,.ak),(5,.ak)]),.auto]
 |_=> []
theorem asV(bit:List Int→Int→Int)(dbl:Pt→Pt)(add:Pt→Pt→Pt)(n:List Int)(p r o:Pt)(i:Int):ct Tryz.prog [(191,Q2 bit),(190,Ym dbl),(192,e2Q add)] [] Q3 0 [] muW ((aT muC muH).wr ((i,()),(n,p,r,o,())))=
 aG.ite (decide ((0:Int)≤i)) (aG.need (n.length=(32:Nat)∧(0:Int)≤i∧i<(256:Int)) (aG.ite (bit n i==(1:Int)) (aG.leaf
 Exit.normal ((aT muC muH).wr ((i64.wrap (i-(1:Int)),PUnit.unit),n,p,r,add (dbl o) p,PUnit.unit))) (aG.leaf Exit.normal ((aT muC
 muH).wr ((i64.wrap (i-(1:Int)),PUnit.unit),n,p,r,dbl o,PUnit.unit))))) (aG.leaf (Exit.exit (0:Nat)) ((aT muX amt).wr
 (PUnit.unit,r,o,PUnit.unit))):=by kernel_rfl
abbrev ax1:List (FuncId×an):= [(191,Q2 pg),(190,Ym c5),(192,e2Q eL)]
theorem amv:ap2=Q2 pg:=by kernel_rfl
theorem Lh:(Q2 pg).Ok Tryz.prog 191:=amv▸ams
theorem ag0:∀p∈ax1,p.2.Ok Tryz.prog p.1:=al Lh (al A9 (al Ha aw))
def B9(bit:List Int→Int→Int)(dbl:Pt→Pt)(add:Pt→Pt→Pt)(n:List Int)(p:Pt)(k:Nat)(r:Pt):Pt:=bif bit n (255-(k:Int))==1 then add (dbl r) p else dbl r
theorem amw(x:(Int×Unit)×List Int×Pt×Pt×Pt×Unit):Ex Tryz.prog [] (.loop (aP Q3 0)) ((aT muC muH).wr x) (.need (x.1.1=255∧x.2.1.length=32) (.leaf (.exit 0) ((aT muX amt).wr ((),(x.2.2.2.1,eQ (B9 pg c5 eL x.2.1 x.2.2.1) 256 x.2.2.2.2.1,()))))):=by
 obtain⟨⟨i,_⟩,n,p,r,o,_⟩:=x;refine Ex.need fun⟨h1,h2⟩=>?_;simp only at h1 h2;subst h1
 have key:=c8 (fn:=Q3) (id:=0) (j:=0) (ws:=muW) (hp:= []) mixed ag0 (aK.nil _) 256 (fun k o=>(aT muC muH).wr ((255-(k:Int),()),(n,p,r,o,()))) (fun o=>(aT muX amt).wr ((),(r,o,()))) (B9 pg c5 eL n p) (fun _ _=>True)
  (fun k o R hk _ hn hx=>?_) (fun _ _ _ _=>trivial) 0 o (by omega) trivial
 ·rw[Nat.sub_zero,mD]at key;exact key
 rw[asV];refine⟨fun hb=>?_,fun hb=>?_⟩
 ·have g6:k<256:=by have:=of_decide_eq_true hb;omega
  have kf:=hn g6;have e3:i64.wrap ((255-(k:Int))-1)=255-((k+1:Nat):Int):=by rw[au (by omega) (by omega)];omega
  rw[e3];refine⟨⟨h2,by omega,by omega⟩,fun hc=>?_,fun hc=>?_⟩
  ·have:B9 pg c5 eL n p k o=eL (c5 o) p:=(by unfold B9;rw[hc];rfl);rw[this]at kf;exact kf
  ·have:B9 pg c5 eL n p k o=c5 o:=(by unfold B9;rw[hc];rfl);rw[this]at kf;exact kf
 ·have:k=256:=by have:=of_decide_eq_false hb;omega
  exact hx this
abbrev mpA:aQ (List LV) (List Int×Pt×Unit):=ae cB (ae A6 ag)
def eMu(g:List Int→Pt→Pt):an:=an.cm [] mpA ag fun x _=>.leaf (some (x.1.length=32)) (A6.wr (g x.1 x.2.1)) []
def asW(w:List Int→Pt→Pt→Pt)(x:(Int×Unit)×List Int×Pt×Pt×Pt×Unit):aG:=.need (x.1.1=255∧x.2.1.length=32) (.leaf (.exit 0) ((aT muX amt).wr ((),(x.2.2.2.1,w x.2.1 x.2.2.1 x.2.2.2.2.1,()))))
abbrev asX(w:List Int→Pt→Pt→Pt):df:= [(0,cJ (aT muC muH) 0 [axZ,.auto,amu 2,amu 3] (asW w))]
theorem Q4(z:Pt)(w:List Int→Pt→Pt→Pt)(bit:List Int→Int→Int)(dbl:Pt→Pt)(add:Pt→Pt→Pt)(n:List Int)(p:Pt):aH Tryz.prog [(191,Q2 bit),(190,Ym dbl),(192,e2Q add),(189,e0Q z)] (asX w) Q3 (mpA.wr (n,p,())) [] kK=
  .need ((255:Int)=255∧n.length=32) (.leaf (A6.wr (w n p z)) []):=by kernel_rfl
theorem Li:∃f:List Int→Pt→Pt,∀n p,f n p=AI (qT n) p:=⟨fun n p=>AI (qT n) p,fun _ _=>rfl⟩
def w8:List Int→Pt→Pt:=Classical.choose Li
theorem Lj(n:List Int)(p:Pt):w8 n p=AI (qT n) p:=Classical.choose_spec Li n p
def Bb(n:List Int)(p z:Pt):Pt:=eQ (B9 pg c5 eL n p) 256 z
abbrev asY:an:=eMu w8
theorem amx(n:List Int)(p:Pt)(k:Nat)(hk:k<256)(r:Pt):B9 pg c5 eL n p k r=ic mI c5 eL (qT n) p k r:=by
 unfold B9 ic pg;rw[ud,show(255-(k:Int)).toNat=255-k from by omega]
theorem nx{α:Type}{f g:Nat→α→α}{n:Nat}(h:∀k,k<n→∀r,f k r=g k r)(a:α):∀m,m≤n→eQ f m a=eQ g m a
 |0,_=>rfl
 |m+1,hm=>by
  show f m (eQ f m a)=g m (eQ g m a);rw[nx h a m (by omega),h m (by omega)]
theorem amy(n:List Int)(p:Pt):Bb n p iF=w8 n p:=by
 rw[Lj];unfold Bb AI afH;exact nx (fun k hk r=>amx n p k hk r) iF 256 (Nat.le_refl _)
theorem amz:∀p∈([(191,Q2 pg),(190,Ym c5),(192,e2Q eL),(189,e0Q iF)]:List (FuncId×an)),p.2.Ok Tryz.prog p.1:=al Lh (al A9 (al Ha (al Lc aw)))
theorem ag1{n:List Int}{V W:Pt}(hn:n.length=32)(h:V=W):(Ev.End.need ((255:Int)=255∧n.length=32) (.leaf (A6.wr V) [])).sat fun v dP=>v=A6.wr W∧dP= []:=by
 subst h;exact⟨⟨rfl,hn⟩,rfl,rfl⟩
theorem Yx(n:List Int)(p z:Pt):Bb n p z=eQ (B9 pg c5 eL n p) 256 z:=rfl
theorem ag2(x:(Int×Unit)×List Int×Pt×Pt×Pt×Unit):Ex Tryz.prog [] (.loop (aP Q3 0)) ((aT muC muH).wr x) (asW Bb x):=by
 unfold asW;rw[Yx];exact amw x
theorem asZ:aK Tryz.prog [] (asX Bb) (aJ Q3):=aK.bI (iu rfl (bt (hp:= []) ag2) iE)
theorem ag3:asY.Ok Tryz.prog 133:=by
 refine(an.aS call133 fun x_ y_ Q H_=>?_).sym;obtain⟨n,p,_⟩:=x_;obtain⟨hn,hq⟩:=H_;have hn:n.length=32:=hn
 have hc:iO Tryz.prog 133 (mpA.wr (n,p,())) [] (aH Tryz.prog [(191,Q2 pg),(190,Ym c5),(192,e2Q eL),(189,e0Q iF)] (asX Bb) Q3 (mpA.wr (n,p,())) [] kK):=
  ar mixed amz func133 rfl asZ
 rw[Q4 iF Bb pg c5 eL]at hc;exact hc.use (D:= []) (ag1 hn (amy n p)) hq
def eMb(g:List Int→Pt):an:=an.cm [] nS ag fun x _=>.leaf (some (x.1.length=32)) (A6.wr (g x.1)) []
def gS(n:List Int):Pt:=w8 n o6
abbrev as0:an:=eMb gS
theorem Q5(mu:List Int→Pt→Pt)(b:Pt)(n:List Int):aH Tryz.prog [(133,eMu mu),(134,e0Q b)] [] f80 ((nS).wr (n,())) [] kK= .need (n.length=32) (.leaf (A6.wr (mu n b)) []):=by kernel_rfl
theorem Q6:∀p_∈([(133,eMu w8),(134,e0Q o6)]:List (FuncId×an)),p_.2.Ok Tryz.prog p_.1:=(al ag3 (al agX aw))
theorem Lk:as0.Ok Tryz.prog 80:=by
 refine(an.aS call80 fun x_ y_ Q H_=>?_).sym;obtain⟨n,_⟩:=x_;obtain⟨hn,hq⟩:=H_;have hn:n.length=32:=hn;refine(ar (tab:= [(133,eMu w8),(134,e0Q o6)]) mixed Q6 func80 rfl (LT:= []) (ks:=kK) (aK.nil _)).use (D:= []) ?_ hq;show(aH _ _ _ _ ((nS).wr (n,())) [] _).sat _;rw[Q5 w8 o6];exact⟨hn,rfl,rfl⟩
end Go.Proofs.YtnbkagglkajbkaaGreat
end
noncomputable section
namespace Go.Ev
open Go
open Go.IntKind (i64 signed u16 u64 wrap)
def vd(B:Int):List Int→Int
 | []=>0
 |x::l=>x+B*vd B l
def dg(B:Int):Nat→Int→List Int
 |0,_=> []
 |n+1,x=>x%B::dg B n (x/B)
def dL(B:Int)(l:List Int):Prop:=∀z∈l,0≤z∧z<B
noncomputable section
variable {B:Int}
theorem dL.tail{x:Int}{l:List Int}(h:dL B (x::l)):dL B l:=fun z hz=>h z (List.mem_cons_of_mem _ hz)
theorem dL.head{x:Int}{l:List Int}(h:dL B (x::l)):0≤x∧x<B:=h x (by simp)
theorem dL.take{l:List Int}(h:dL B l)(n:Nat):dL B (l.take n):=fun z hz=>h z (List.mem_of_mem_take hz)
theorem dL.drop{l:List Int}(h:dL B l)(n:Nat):dL B (l.drop n):=fun z hz=>h z (List.mem_of_mem_drop hz)
theorem dL.append{l m:List Int}(h:dL B l)(h':dL B m):dL B (l++m):=fun z hz=>by
 rcases List.mem_append.1 hz with k|k
 ·exact h z k
 ·exact h' z k
theorem dL.set{l:List Int}(h:dL B l){i:Nat}{x:Int}(hx:0≤x∧x<B):dL B (l.set i x):=fun z hz=>by
 rcases List.mem_or_eq_of_mem_set hz with k|k
 ·exact h z k
 ·subst k;exact hx
theorem dL.T7(hB:0<B)(n:Nat):dL B (List.replicate n 0):=fun z hz=>by
 rw[List.eq_of_mem_replicate hz];omega
theorem dL.getD{l:List Int}(hB:0<B)(h:dL B l)(i:Nat):0≤l.getD i 0∧l.getD i 0<B:=by
 rw[List.getD_eq_getElem?_getD];rcases Nat.lt_or_ge i l.length with h1|h1
 ·rw[List.getElem?_eq_getElem h1];exact h _ (List.getElem_mem h1)
 ·rw[List.getElem?_eq_none h1];exact⟨by simp,by simpa using hB⟩
theorem bp:∀ (n:Nat) (x:Int),(dg B n x).length=n
 |0,_=>rfl
 |n+1,x=>by simp[dg,bp n]
theorem jF(hB:0<B):∀ (n:Nat) (x:Int),dL B (dg B n x)
 |0,_=>fun z hz=>by cases hz
 |n+1,x=>fun z hz=>by
  rcases List.mem_cons.1 hz with rfl|hz
  ·exact⟨Int.emod_nonneg _ (by omega),Int.emod_lt_of_pos _ hB⟩
  ·exact jF hB n _ z hz
theorem ag4(hB:0<B)(n:Nat):0<B ^ n:=Int.pow_pos hB
theorem dt(hB:0<B):∀ {l:List Int},dL B l→0≤vd B l
 | [],_=>by simp[vd]
 |x::l,h=>by
  have h1:=dt hB h.tail;have h2:=h.head;have:=Int.mul_nonneg (Int.le_of_lt hB) h1;simp only[vd];omega
theorem lA(hB:0<B):∀ {l:List Int},dL B l→vd B l<B ^ l.length
 | [],_=>by simp[vd]
 |x::l,h=>by
  have h1:=lA hB h.tail;have h2:=h.head;simp only[vd,List.length_cons];have h3:B*(vd B l+1)≤B*B ^ l.length:=Int.mul_le_mul_of_nonneg_left (by omega) (by omega);rw[Int.mul_add,Int.mul_one]at h3;rw[Int.pow_succ,Int.mul_comm (B ^ l.length)];omega
theorem Dp(hB:0<B){x y:Int}(h:0≤x∧x<B):(x+B*y)/B=y∧(x+B*y)%B=x:=by
 rw[Int.add_mul_ediv_left _ _ (by omega),Int.add_mul_emod_self_left,Int.ediv_eq_zero_of_lt h.1 h.2,Int.emod_eq_of_lt h.1 h.2];exact⟨by omega,rfl⟩
theorem Ll(hB:0<B):∀ {l:List Int},dL B l→dg B l.length (vd B l)=l
 | [],_=>rfl
 |x::l,h=>by
  obtain⟨h1,h2⟩:=Dp hB (y:=vd B l) h.head;show(x+B*vd B l)%B::dg B l.length ((x+B*vd B l)/B)=x::l;rw[h1,h2,Ll hB h.tail]
theorem ny(hB:0<B){P:Int}(hP:0<P)(x:Int):x%B+B*(x/B%P)=x%(B*P):=by
 have h1:=Int.emod_nonneg x (show B≠0 by omega);have h2:=Int.emod_lt_of_pos x hB;have h3:=Int.emod_nonneg (x/B) (show P≠0 by omega);have h4:=Int.emod_lt_of_pos (x/B) hP;have e1:=Int.emod_add_mul_ediv x B;have e2:=Int.emod_add_mul_ediv (x/B) P
 have e:x=x%B+B*(x/B%P)+(B*P)*(x/B/P):=by
  rw[Int.mul_assoc,Int.add_assoc,← Int.mul_add,e2,e1]
 have dQ:x%B+B*(x/B%P)<B*P:=by
  have:=Int.mul_le_mul_of_nonneg_left (show x/B%P+1≤P by omega) (show 0≤B by omega);rw[Int.mul_add,Int.mul_one]at this;omega
 have hnn:0≤x%B+B*(x/B%P):=by
  have:=Int.mul_nonneg (show 0≤B by omega) h3;omega
 have key:x%(B*P)=(x%B+B*(x/B%P))%(B*P):=by
  conv=>lhs;rw[e]
  rw[Int.add_mul_emod_self_left]
 rw[key,Int.emod_eq_of_lt hnn dQ]
theorem iG(hB:0<B):∀ (n:Nat) (x:Int),vd B (dg B n x)=x%B ^ n
 |0,x=>by simp[dg,vd,Int.emod_one]
 |n+1,x=>by
  show x%B+B*vd B (dg B n (x/B))=_;rw[iG hB n,ny hB (ag4 hB n),Int.pow_succ,Int.mul_comm (B ^ n)]
theorem as1(hB:0<B){l m:List Int}(hl:dL B l)(hm:dL B m)(hn:l.length=m.length)(h:vd B l=vd B m):l=m:=by
 rw[← Ll hB hl,← Ll hB hm,hn,h]
theorem Dq(hB:0<B){l:List Int}{n:Nat}{x:Int}(hl:dL B l)(hn:l.length=n)(h:vd B l=x%B ^ n):l=dg B n x:=
 as1 hB hl (jF hB n x) (by rw[bp,hn]) (by rw[iG hB,h])
theorem as2(hB:0<B){l:List Int}{n:Nat}{x:Int}(hl:dL B l)(hn:l.length=n)(h:vd B l=x):l=dg B n x:=by
 subst h hn;exact(Ll hB hl).symm
theorem j4(hB:0<B):∀ {n:Nat} {x:Int} {k:Nat},k<n→(dg B n x).getD k 0=x/B ^ k%B
 |0,_,k,h=>absurd h (by omega)
 |n+1,x,0,_=>by simp[dg]
 |n+1,x,k+1,h=>by
  show(x%B::dg B n (x/B)).getD (k+1) 0=_;rw[List.getD_cons_succ,j4 hB (by omega:k<n),Int.ediv_ediv_of_nonneg (by omega),Int.pow_succ,Int.mul_comm (B ^ k)]
theorem amA(hB:0<B){l:List Int}(h:dL B l){k:Nat}(hk:k<l.length):l.getD k 0=vd B l/B ^ k%B:=by
 conv=>lhs;rw[← Ll hB h]
 exact j4 hB hk
theorem qp:∀ (l m:List Int),vd B (l++m)=vd B l+B ^ l.length*vd B m
 | [],m=>by simp[vd]
 |x::l,m=>by
  show x+B*vd B (l++m)=x+B*vd B l+B ^ (l.length+1)*vd B m;rw[qp l m,Int.mul_add,Int.pow_succ,Int.mul_assoc,Int.mul_left_comm B,Int.add_assoc]
theorem rM:∀ {l:List Int} {k:Nat} {x:Int},k<l.length→vd B (l.set k x)=vd B l+(x-l.getD k 0)*B ^ k
 | [],k,_,h=>absurd h (by simp)
 |y::l,0,x,_=>by
  simp only[List.set_cons_zero,vd,List.getD_cons_zero,Int.pow_zero];omega
 |y::l,k+1,x,h=>by
  simp only[List.set_cons_succ,vd,List.getD_cons_succ];rw[rM (by simpa using h),Int.mul_add,Int.pow_succ,Int.mul_comm B ((x-l.getD k 0)*B ^ k),Int.mul_assoc,Int.add_assoc]
theorem Bc(n:Nat):vd B (List.replicate n 0)=0:=by
 induction n with
 |zero=>rfl
 |succ n ih=>rw[List.replicate_succ];simp[vd,ih]
theorem cq{l:List Int}{k:Nat}(hk:k<l.length):vd B (l.take (k+1))=vd B (l.take k)+l.getD k 0*B ^ k:=by
 rw[List.take_add_one,List.getElem?_eq_getElem hk,qp,List.length_take,Nat.min_eq_left (by omega),List.getD_eq_getElem?_getD,List.getElem?_eq_getElem hk];simp[vd,Int.mul_comm]
theorem amB(hB:0<B){l:List Int}(h:dL B l)(k:Nat)(hk:k≤l.length):vd B (l.take k)=vd B l%B ^ k:=by
 have e:vd B l=vd B (l.take k)+B ^ k*vd B (l.drop k):=by
  conv=>lhs;rw[← List.take_append_drop k l,qp,List.length_take,Nat.min_eq_left hk]
 have h1:=dt hB (h.take k);have h2:=lA hB (h.take k);rw[List.length_take,Nat.min_eq_left hk]at h2;rw[e,Int.add_mul_emod_self_left,Int.emod_eq_of_lt h1 h2]
theorem ag5(hB:0<B)(m:Nat):∀ (n:Nat) (x:Int),dg B (n+m) x=dg B n x++dg B m (x/B ^ n)
 |0,x=>by simp[dg]
 |n+1,x=>by
  rw[show n+1+m=(n+m)+1 from by omega];show x%B::dg B (n+m) (x/B)=x%B::dg B n (x/B)++dg B m (x/B ^ (n+1));rw[ag5 hB m n,Int.ediv_ediv_of_nonneg (by omega),Int.pow_succ,Int.mul_comm (B ^ n)];rfl
theorem amC(hB:0<B){n k:Nat}(h:k≤n)(x:Int):(dg B n x).take k=dg B k x:=by
 obtain⟨m,rfl⟩:∃m,n=k+m:=⟨n-k,by omega⟩;rw[ag5 hB];simp[bp]
theorem Hf(hB:0<B)(n:Nat):dg B n 0=List.replicate n 0:=
 (Dq hB (dL.T7 hB n) (by simp) (by rw[Bc];simp)).symm
end
theorem Ca{x:Int}(A C:Int)(hA:0<A)(hC:0<C)(D:Int)(hDp:0<D)(hdiv:A*D∣C):x%C/A%D=x/A%D:=by
 obtain⟨q,rfl⟩:=hdiv
 have hq:0<q:=by
  rcases Int.lt_or_le 0 q with h|h
  ·exact h
  ·have:=Int.mul_nonneg (Int.le_of_lt (Int.mul_pos hA hDp)) (show 0≤ -q by omega);rw[Int.mul_neg]at this;omega
 have e:=ny (B:=A) (P:=D*q) hA (Int.mul_pos hDp hq) x;rw[← Int.mul_assoc]at e;rw[← e];have h1:=Int.emod_nonneg x (show A≠0 by omega);have h2:=Int.emod_lt_of_pos x hA;rw[(Dp hA ⟨h1,h2⟩).1,Int.emod_emod_of_dvd _ (Int.dvd_mul_right D q)]
theorem Dr(V:Int)(k:Nat):V/2 ^ k=2*(V/2 ^ (k+1))+V/2 ^ k%2:=by
 have e:V/2 ^ (k+1)=V/2 ^ k/2:=by rw[Int.pow_succ,Int.ediv_ediv_of_nonneg (by exact Int.le_of_lt (Int.pow_pos (by decide)))]
 rw[e];omega
theorem Lm{L r b:Int}(hL:0<L)(hr:0≤r∧r<L)(hb:0≤b∧b<2):(2*r+b)%L=if 2*r+b<L then 2*r+b else 2*r+b-L:=by
 split
 ·exact Int.emod_eq_of_lt (by omega) (by assumption)
 ·have e:2*r+b=(2*r+b-L)+L*1:=by omega
  conv=>lhs;rw[e]
  rw[Int.add_mul_emod_self_left,Int.emod_eq_of_lt (by omega) (by omega)]
theorem UP(L V b:Int):(2*V+b)%L=(2*(V%L)+b)%L:=by
 have e:=Int.emod_add_mul_ediv V L
 have:2*V+b=2*(V%L)+b+L*(2*(V/L)):=by
  conv=>lhs;rw[← e]
  rw[Int.mul_add,Int.mul_left_comm];omega
 rw[this,Int.add_mul_emod_self_left]
end Go.Ev
end
noncomputable section
namespace Go.Proofs.YtnbkagglkajbkaaGreat
open Go Go.Ev BJ Go.Proofs.Tryz
open Go.IntKind (i64 signed u16 u64 wrap)
theorem Yy{x y c:Int}(hx:uR x)(hy:uR y)(hc:c=0∨c=1):mE x y c=((x-y-c)%18446744073709551616,if x<y+c then 1 else 0):=by
 unfold uR at hx hy;obtain⟨a,rfl⟩:=Int.eq_ofNat_of_zero_le hx.1;obtain⟨b,rfl⟩:=Int.eq_ofNat_of_zero_le hy.1;obtain⟨d,rfl⟩:∃d:Nat,c=(d:Int):=by rcases hc with rfl|rfl;exact⟨0,rfl⟩;exact⟨1,rfl⟩
 simp only[mE,Int.toNat_natCast];have e:(2:Nat) ^ 64=18446744073709551616:=by decide
 rw[e];refine Prod.ext ?_ ?_
 ·show(((a+18446744073709551616-b-d)%18446744073709551616:Nat):Int)=_;omega
 ·show(if a<b+d then(1:Int)else 0)=_
  by_cases h:a<b+d
  ·rw[if_pos h,if_pos (by omega)]
  ·rw[if_neg h,if_neg (by omega)]
theorem lB{B:Int}(hB:1≤B){a b:Nat}(h:a≤b):B ^ a≤B ^ b:=by
 obtain⟨d,rfl⟩:∃d,b=a+d:=⟨b-a,by omega⟩;rw[Int.pow_add];have h1:0<B ^ a:=Int.pow_pos (by omega);have h2:0<B ^ d:=Int.pow_pos (by omega);have:=Int.mul_le_mul_of_nonneg_left (show 1≤B ^ d by omega) (Int.le_of_lt h1);rwa [Int.mul_one]at this
theorem Ln(k m:Nat):(k:Int).tmod (m:Int)=((k%m:Nat):Int):=by rw[Int.tmod_eq_emod_of_nonneg (by omega),← Int.natCast_emod]
abbrev qq:Int:=18446744073709551616
theorem bs:0<qq:=by decide
theorem Hg:qq=256 ^ 8:=by decide
theorem ax2:qq=2 ^ 64:=by decide
theorem ph(s:Nat):((2 ^ (s*8):Nat):Int)=256 ^ s:=by
 rw[Nat.mul_comm,Nat.pow_mul,Int.natCast_pow];rfl
theorem qs{b:Int}(hb:0<b){m:Nat}(hm:0<m){l:List Int}(h:dL (b ^ m) l){k:Nat}(hk:k/m<l.length):l.getD (k/m) 0/b ^ (k%m)%b=vd (b ^ m) l/b ^ k%b:=by
 have hB:0<b ^ m:=Int.pow_pos hb;rw[amA hB h hk];have dQ:=Nat.mod_lt k hm;have e1:(b ^ m)=b ^ (k%m)*b*b ^ (m-(k%m+1)):=by rw[← Int.pow_succ,← Int.pow_add];congr 1;omega
 rw[Ca (b ^ (k%m)) (b ^ m) (Int.pow_pos hb) hB b hb ⟨_,e1⟩];rw[Int.ediv_ediv_of_nonneg (Int.le_of_lt (Int.pow_pos hB)),← Int.pow_mul,← Int.pow_add]
 congr 3
 have:=Nat.div_add_mod k m;exact this
theorem ag6{B:Int}(hB:0<B)(n:Nat)(x:Int):(List.range n).map (fun i=>x/B ^ i%B)=dg B n x:=by
 apply List.ext_getElem?
 intro i;rcases Nat.lt_or_ge i n with h|h
 ·have e:=j4 hB (x:=x) h;rw[List.getD_eq_getElem?_getD,List.getElem?_eq_getElem (by rw[bp];exact h)]at e;rw[List.getElem?_eq_getElem (l:=dg B n x) (by rw[bp];exact h),List.getElem?_map,List.getElem?_range h];simpa using e.symm
 ·rw[List.getElem?_eq_none (by simpa using h),List.getElem?_eq_none (by rw[bp];exact h)]
def uS(b:List Int):List Int:=dg qq 8 (vd 256 b)
def wi(w:List Int):List Int:=dg 256 32 (vd qq w)
theorem amD{b:List Int}(hb:aN b)(hl:b.length≤64){k:Nat}(hk:k<b.length):
  (uS (b.take k)).set (k/8) (bC .u64 ((uS (b.take k)).getD (k/8) 0) (shl .u64 (u64.wrap (b.getD k 0)) ((k%8*8:Nat):Int)))=uS (b.take (k+1)):=by
 have iw:dL 256 b:=hb;have hc:=dL.getD (by decide) iw k;have hV0:=dt (by decide) (iw.take k);have hV1:=lA (by decide) (iw.take k);rw[List.length_take,Nat.min_eq_left (by omega)]at hV1;unfold uS;rw[cq hk];generalize vd 256 (b.take k)=V at*;generalize b.getD k 0=c at*;have hi:k/8<8:=by omega
 have hs:k%8<8:=by omega
 have g6:k=8*(k/8)+k%8:=(Nat.div_add_mod k 8).symm;have hp:(256:Int) ^ k=qq ^ (k/8)*256 ^ (k%8):=by rw[Hg,← Int.pow_mul,← Int.pow_add,← g6]
 have hQ:0<qq ^ (k/8):=Int.pow_pos bs
 have hle:(256:Int) ^ (k%8)*256≤qq:=by
  rw[← Int.pow_succ,Hg];exact lB (by decide) (by omega)
 have hP:(0:Int)<256 ^ (k%8):=Int.pow_pos (by decide);have hdl:V/qq ^ (k/8)<256 ^ (k%8):=Int.ediv_lt_of_lt_mul hQ (by rw[Int.mul_comm,← hp];exact hV1);have hd0:0≤V/qq ^ (k/8):=Int.ediv_nonneg hV0 (Int.le_of_lt hQ)
 have eg:(dg qq 8 V).getD (k/8) 0=V/qq ^ (k/8):=by
  rw[j4 bs hi,Int.emod_eq_of_lt hd0 (by omega)]
 rw[eg];have ew:u64.wrap c=c:=wrap_u64 hc.1 (by omega);have hcP:c*256 ^ (k%8)≤255*256 ^ (k%8):=Int.mul_le_mul_of_nonneg_right (by omega) (by omega);have as3:0≤c*256 ^ (k%8):=Int.mul_nonneg hc.1 (by omega)
 have es:shl .u64 c ((k%8*8:Nat):Int)=c*256 ^ (k%8):=by
  rw[gL .u64 c _ (by simp[IntKind.bits];omega),ph,wrap_u64 as3 (by unfold qq at hle;omega)]
 have hdiv:c*256 ^ (k%8)%((2 ^ (k%8*8):Nat):Int)=0:=by rw[ph];exact Int.mul_emod_left _ _
 have eo:bC .u64 (V/qq ^ (k/8)) (c*256 ^ (k%8))=V/qq ^ (k/8)+c*256 ^ (k%8):=by
  rw[jq,ow (m:=k%8*8) as3 hdiv hd0 (by rw[ph];exact hdl) (by unfold qq at hle;omega),Int.add_comm]
 rw[ew,es,eo];refine Dq bs ((jF bs 8 V).set ⟨by omega,by omega⟩) (by rw[List.length_set,bp]) ?_;rw[rM (by rw[bp];exact hi),eg,iG bs];have e2:(256:Int) ^ 64=qq ^ 8:=by decide
 have hV2:V<qq ^ 8:=Int.lt_of_lt_of_le hV1 (by rw[← e2];exact lB (by decide) (by omega));rw[Int.emod_eq_of_lt hV0 hV2]
 have e3:(V/qq ^ (k/8)+c*256 ^ (k%8)-V/qq ^ (k/8))*qq ^ (k/8)=c*256 ^ k:=by
  rw[hp,Int.mul_comm (qq ^ (k/8)),← Int.mul_assoc];congr 1;omega
 rw[e3]
 have dQ:V+c*256 ^ k<qq ^ 8:=by
  have h1:c*256 ^ k≤255*256 ^ k:=Int.mul_le_mul_of_nonneg_right (by omega) (Int.le_of_lt (Int.pow_pos (by decide)));have h2:(256:Int) ^ (k+1)≤256 ^ 64:=lB (by decide) (by omega);rw[Int.pow_succ]at h2;rw[← e2];omega
 exact(Int.emod_eq_of_lt (Int.add_nonneg hV0 (Int.mul_nonneg hc.1 (Int.le_of_lt (Int.pow_pos (by decide))))) dQ).symm
theorem ag8{w:List Int}(h:dL qq w)(hl:w.length=8){k:Nat}(hk:k<64):IntKind.u8.wrap (shr .u64 (w.getD (k/8) 0) ((k%8*8:Nat):Int))=vd qq w/256 ^ k%256:=by
 rw[cz .u64 _ _ (by simp[IntKind.bits];omega),ph,wrap_u8];have h':dL (256 ^ 8) w:=by rw[← Hg];exact h
 have:=qs (b:=256) (by decide) (by decide:0<8) h' (k:=k) (by omega);rw[this,← Hg]
def nz(w:List Int)(i:Int):Int:=vd qq w/2 ^ i.toNat%2
theorem Yz{w:List Int}(h:dL qq w)(hl:w.length=8){k:Nat}(hk:k<512):aM .u64 (shr .u64 (w.getD (k/64) 0) ((k%64:Nat):Int)) 1=nz w (k:Int):=by
 rw[cz .u64 _ _ (by simp[IntKind.bits];omega),pN (m:=1) (by decide) _ 1 (by decide)];have h':dL (2 ^ 64) w:=by rw[← ax2];exact h
 have:=qs (b:=2) (by decide) (by decide:0<64) h' (k:=k) (by omega);unfold nz;rw[Int.toNat_natCast,ax2,← this];simp
structure Part (k:Nat) (w o:List Int):Prop where
 len:o.length=8
 YA:dL qq o
 rest:∀j,k≤j→o.getD j 0=w.getD j 0
theorem Part.step{k:Nat}{w o:List Int}(h:Part k w o){z:Int}(hk:k<8)(hz:0≤z∧z<qq):Part (k+1) w (o.set k z)∧vd qq ((o.set k z).take (k+1))=vd qq (o.take k)+z*qq ^ k:=by
 obtain⟨h1,h2,h3⟩:=h;have hg:(o.set k z).getD k 0=z:=by rw[List.getD_eq_getElem?_getD];simp[show k<o.length by omega]
 refine⟨⟨by rw[List.length_set,h1],h2.set hz,fun j hj=>?_⟩,?_⟩
 ·rw[← h3 j (by omega),List.getD_eq_getElem?_getD,List.getD_eq_getElem?_getD,List.getElem?_set_ne (by omega)]
 ·rw[cq (by rw[List.length_set];omega),hg,List.take_set_of_le (Nat.le_refl _)]
def jS(w x:List Int):List Int×Int:=(dg qq 8 (vd qq w-vd qq x),if vd qq w<vd qq x then 1 else 0)
def jG(w x:List Int):List Int:=dg qq 8 (vd qq w+vd qq x)
def Ds(sb:Int→Int→Int→Int×Int)(x:List Int)(k:Nat)(o:List Int×Int):List Int×Int:=(o.1.set k (sb (o.1.getD k 0) (x.getD k 0) o.2).1,(sb (o.1.getD k 0) (x.getD k 0) o.2).2)
def UQ(w x:List Int)(k:Nat)(o:List Int×Int):Prop:=Part k w o.1∧(o.2=0∨o.2=1)∧vd qq (o.1.take k)=vd qq (w.take k)-vd qq (x.take k)+o.2*qq ^ k
theorem Dt{w x:List Int}(hw:dL qq w)(hx:dL qq x)(lw:w.length=8)(lx:x.length=8){k:Nat}{o:List Int×Int}(hk:k<8)(h:UQ w x k o):UQ w x (k+1) (Ds mE x k o):=by
 obtain⟨hp,hc,hv⟩:=h;obtain⟨o,c⟩:=o;simp only at hp hc hv;have h1:=dL.getD bs hp.YA k;have h2:=dL.getD bs hx k;have e:=Yy (x:=o.getD k 0) (y:=x.getD k 0) (c:=c) h1 h2 hc;have eD:=hp.rest k (Nat.le_refl _);unfold Ds;rw[e];have hz:0≤(o.getD k 0-x.getD k 0-c)%18446744073709551616∧(o.getD k 0-x.getD k 0-c)%18446744073709551616<qq:=⟨Int.emod_nonneg _ (by decide),Int.emod_lt_of_pos _ (by decide)⟩;obtain⟨p1,p2⟩:=hp.step hk hz;refine⟨p1,by simp only;split<;>simp,?_⟩;simp only;rw[p2,hv,cq (by omega),cq (by omega),eD,Int.pow_succ,Int.mul_comm (qq ^ k) qq,← Int.mul_assoc];rw[eD]at h1;generalize w.getD k 0=a at*;generalize x.getD k 0=b at*
 have key:c+(a-b-c)%18446744073709551616=a-b+(if a<b+c then(1:Int)else 0)*qq:=by
  unfold qq at*
  split<;>omega
 have e2:c*qq ^ k+(a-b-c)%18446744073709551616*qq ^ k=(a-b+(if a<b+c then(1:Int)else 0)*qq)*qq ^ k:=by rw[← key,Int.add_mul]
 rw[Int.add_mul,Int.sub_mul]at e2;omega
theorem ag9{w x:List Int}(hw:dL qq w)(hx:dL qq x)(lw:w.length=8)(lx:x.length=8):upto (Ds mE x) 0 8 (w,0)=jS w x:=by
 have h:=fV (f:=Ds mE x) (UQ w x) (n:=8) (fun k o hk h=>Dt hw hx lw lx hk h) 8 0 (w,0) (by omega) ⟨⟨lw,hw,fun _ _=>rfl⟩,.inl rfl,by simp[vd]⟩;generalize upto (Ds mE x) 0 8 (w,0)=o at*;obtain⟨o,c⟩:=o;obtain⟨hp,hc,hv⟩:=h;simp only at hp hc hv;simp only[Nat.zero_add]at hp hv;rw[List.take_of_length_le (by rw[hp.len];decide),List.take_of_length_le (by omega),List.take_of_length_le (by omega)]at hv;have b1:=dt bs hp.YA;have b2:=lA bs hp.YA;have b3:=dt bs hw;have b4:=lA bs hw;have b5:=dt bs hx;have b6:=lA bs hx;rw[hp.len]at b2;rw[lw]at b4;rw[lx]at b6;unfold jS;refine Prod.ext (Dq bs hp.YA hp.len ?_) ?_
 ·rw[hv];have:vd qq w-vd qq x+c*qq ^ 8=vd qq w-vd qq x+qq ^ 8*c:=by rw[Int.mul_comm]
  have e:vd qq o=vd qq o%qq ^ 8:=(Int.emod_eq_of_lt b1 b2).symm;rw[hv,this,Int.add_mul_emod_self_left]at e;rw[this];exact e
 ·simp only;rcases hc with rfl|rfl
  ·rw[if_neg (by omega)]
  ·rw[if_pos (by omega)]
def Du(ad:Int→Int→Int→Int×Int)(x:List Int)(k:Nat)(o:List Int×Int):List Int×Int:=(o.1.set k (ad (o.1.getD k 0) (x.getD k 0) o.2).1,(ad (o.1.getD k 0) (x.getD k 0) o.2).2)
def amE(w x:List Int)(k:Nat)(o:List Int×Int):Prop:=Part k w o.1∧(o.2=0∨o.2=1)∧vd qq (o.1.take k)+o.2*qq ^ k=vd qq (w.take k)+vd qq (x.take k)
theorem Lo{w x:List Int}(hw:dL qq w)(hx:dL qq x)(lw:w.length=8)(lx:x.length=8){k:Nat}{o:List Int×Int}(hk:k<8)(h:amE w x k o):amE w x (k+1) (Du bo x k o):=by
 obtain⟨hp,hc,hv⟩:=h;obtain⟨o,c⟩:=o;simp only at hp hc hv;have h1:=dL.getD bs hp.YA k;have h2:=dL.getD bs hx k;have e:=j9 (x:=o.getD k 0) (y:=x.getD k 0) (c:=c) h1.1 h2.1 (by omega);have eD:=hp.rest k (Nat.le_refl _);unfold Du;rw[e];have hz:0≤(o.getD k 0+x.getD k 0+c)%18446744073709551616∧(o.getD k 0+x.getD k 0+c)%18446744073709551616<qq:=⟨Int.emod_nonneg _ (by decide),Int.emod_lt_of_pos _ (by decide)⟩;obtain⟨p1,p2⟩:=hp.step hk hz;refine⟨p1,by simp only;unfold qq at h1 h2;omega,?_⟩;simp only;rw[p2,cq (by omega),cq (by omega),eD,Int.pow_succ,Int.mul_comm (qq ^ k) qq,← Int.mul_assoc];rw[eD]at h1;generalize w.getD k 0=a at*;generalize x.getD k 0=b at*
 have key:(a+b+c)%18446744073709551616+(a+b+c)/18446744073709551616*qq=a+b+c:=by
  unfold qq at*;omega
 have e2:(a+b+c)%18446744073709551616*qq ^ k+(a+b+c)/18446744073709551616*qq*qq ^ k=(a+b+c)*qq ^ k:=by rw[← Int.add_mul,key]
 rw[Int.add_mul (a+b),Int.add_mul a]at e2;omega
theorem amF{w x:List Int}(hw:dL qq w)(hx:dL qq x)(lw:w.length=8)(lx:x.length=8):(upto (Du bo x) 0 8 (w,0)).1=jG w x:=by
 have h:=fV (f:=Du bo x) (amE w x) (n:=8) (fun k o hk h=>Lo hw hx lw lx hk h) 8 0 (w,0) (by omega) ⟨⟨lw,hw,fun _ _=>rfl⟩,.inl rfl,by simp[vd]⟩;generalize upto (Du bo x) 0 8 (w,0)=o at*;obtain⟨o,c⟩:=o;obtain⟨hp,hc,hv⟩:=h;simp only at hp hc hv;simp only[Nat.zero_add]at hp hv;rw[List.take_of_length_le (by rw[hp.len];decide),List.take_of_length_le (by omega),List.take_of_length_le (by omega)]at hv;have b1:=dt bs hp.YA;have b2:=lA bs hp.YA;rw[hp.len]at b2;unfold jG;refine Dq bs hp.YA hp.len ?_;rw[← hv,Int.mul_comm,Int.add_mul_emod_self_left,Int.emod_eq_of_lt b1 b2]
def gy:List Int:= [6346243789798364141,1503914060200516822,0,1152921504606846976,0,0,0,0]
def ll:Int:=7237005577332262213973186563042994240857116359379907606001950938285454250989
theorem fq:0<ll:=by decide
theorem YB:vd qq gy=ll:=by decide+kernel
theorem aha:gy.length=8∧dL qq gy:=⟨rfl,by unfold dL gy;decide⟩
def lS(r:List Int)(b:Int):List Int:=r.set 0 (bC .u64 (r.getD 0 0) b)
def Q7(and:List Int→List Int→List Int)(less:List Int→List Int→List Int×Int)(bit:List Int→Int→Int)(o w:List Int)(k:Nat)(r:List Int):List Int:=
 bif (less (lS (and r r) (bit w (511-(k:Int)))) o).2==0 then(less (lS (and r r) (bit w (511-(k:Int)))) o).1 else lS (and r r) (bit w (511-(k:Int)))
theorem amG(w:List Int)(i:Int):0≤nz w i∧nz w i<2:=by unfold nz;omega
theorem qq8:(2:Int) ^ 254≤qq ^ 8:=by decide+kernel
theorem Lp:ll+ll<2 ^ 254:=by decide+kernel
theorem UR{R b:Int}(hR:0≤R∧R<ll)(hb:0≤b∧b<2):lS (dg qq 8 (R+R)) b=dg qq 8 (2*R+b):=by
 have h1:2*R+b<qq ^ 8:=Int.lt_of_lt_of_le (by have:=Lp;omega) qq8;have h2:R+R<qq ^ 8:=Int.lt_of_lt_of_le (by have:=Lp;omega) qq8;have hg:(dg qq 8 (R+R)).getD 0 0=(R+R)%qq:=by rw[j4 bs (by decide)];simp
 have hm:0≤(R+R)%qq:=Int.emod_nonneg (R+R) (show qq≠0 by decide);have hl:(R+R)%qq<18446744073709551616:=Int.emod_lt_of_pos (R+R) bs
 have hev:(R+R)%qq%2=0:=by
  show(R+R)%18446744073709551616%2=0;omega
 have hv:vd qq (dg qq 8 (R+R))=R+R:=by rw[iG bs,Int.emod_eq_of_lt (by omega) h2]
 unfold lS;rw[hg];generalize (R+R)%qq=M at*;rw[ow (m:=1) hm (by simpa using hev) hb.1 (by simpa using hb.2) (by omega)];refine Dq bs ((jF bs 8 _).set ⟨by omega,(by omega:M+b<18446744073709551616)⟩) (by rw[List.length_set,bp]) ?_;rw[rM (by rw[bp];decide),hg,hv,Int.emod_eq_of_lt (by omega) h1,Int.pow_zero,Int.mul_one];omega
theorem ahb{V:Int}{w:List Int}(hw:vd qq w=V){k:Nat}(hk:k<512):Q7 jG jS nz gy w k (dg qq 8 (V/2 ^ (512-k)%ll))=dg qq 8 (V/2 ^ (512-(k+1))%ll):=by
 have hlq:∀ {x:Int},x<ll+ll→x<qq ^ 8:=fun h=>Int.lt_of_lt_of_le (Int.lt_trans h Lp) qq8;have e0:=Dr V (512-(k+1));rw[show 512-(k+1)+1=512-k from by omega]at e0
 have eb:nz w (511-(k:Int))=V/2 ^ (512-(k+1))%2:=by
  unfold nz;rw[hw,show(511-(k:Int)).toNat=512-(k+1)from by omega]
 have hb:0≤V/2 ^ (512-(k+1))%2∧V/2 ^ (512-(k+1))%2<2:=by omega
 have hR:0≤V/2 ^ (512-k)%ll∧V/2 ^ (512-k)%ll<ll:=⟨Int.emod_nonneg _ (by have:=fq;omega),Int.emod_lt_of_pos _ fq⟩
 have em:(V/2 ^ (512-(k+1)))%ll=(2*(V/2 ^ (512-k)%ll)+V/2 ^ (512-(k+1))%2)%ll:=by
  conv=>lhs;rw[e0]
  exact UP _ _ _
 rw[em,Lm fq hR hb]
 have es:jG (dg qq 8 (V/2 ^ (512-k)%ll)) (dg qq 8 (V/2 ^ (512-k)%ll))=dg qq 8 (V/2 ^ (512-k)%ll+V/2 ^ (512-k)%ll):=by
  unfold jG;rw[iG bs,Int.emod_eq_of_lt hR.1 (hlq (by omega))]
 unfold Q7;rw[eb,es,UR hR hb];generalize V/2 ^ (512-k)%ll=R at*;generalize V/2 ^ (512-(k+1))%2=b at*
 have el:jS (dg qq 8 (2*R+b)) gy=(dg qq 8 (2*R+b-ll),if 2*R+b<ll then 1 else 0):=by
  unfold jS;rw[YB,iG bs,Int.emod_eq_of_lt (by omega) (hlq (by omega))]
 rw[el]
 by_cases h:2*R+b<ll
 ·rw[if_pos h,if_pos h];rfl
 ·rw[if_neg h,if_neg h];rfl
def wj(w:List Int):List Int:=dg 256 32 (vd qq w%ll)
def Lq(mu:Int→Int→Int×Int)(ad:Int→Int→Int→Int×Int)(x y c o:Int):Int×Int:=
 ((ad o (ad (mu x y).2 c 0).1 0).1,u64.wrap (u64.wrap ((mu x y).1+(ad (mu x y).2 c 0).2)+(ad o (ad (mu x y).2 c 0).1 0).2))
theorem ahc{x y c o:Int}(hx:uR x)(hy:uR y)(hc:uR c)(ho:uR o):uR (Lq bm bo x y c o).1∧uR (Lq bm bo x y c o).2∧(Lq bm bo x y c o).1+qq*(Lq bm bo x y c o).2=o+x*y+c:=by
 unfold Lq;rw[C9 hx hy];unfold uR at*;have Cl:0≤x*y:=Int.mul_nonneg hx.1 hy.1;have MJ:x*y≤18446744073709551615*18446744073709551615:=Int.mul_le_mul (by omega) (by omega) hy.1 (by decide);simp only;generalize x*y=m at*;have q0:0≤m%18446744073709551616:=by omega
 rw[j9 q0 hc.1 (by decide)];simp only;rw[j9 ho.1 (by omega) (by decide)];simp only;rw[wrap_u64 (n:=m/18446744073709551616+(m%18446744073709551616+c+0)/18446744073709551616) (by omega) (by omega),wrap_u64 (by omega) (by omega)];unfold qq;omega
def Lr(mu:Int→Int→Int×Int)(ad:Int→Int→Int→Int×Int)(a b:List Int)(u:Nat)(j:Nat)(s:Int×List Int):Int×List Int:=
 ((Lq mu ad (a.getD u 0) (b.getD j 0) s.1 (s.2.getD (u+j) 0)).2,s.2.set (u+j) (Lq mu ad (a.getD u 0) (b.getD j 0) s.1 (s.2.getD (u+j) 0)).1)
def ahd(mu:Int→Int→Int×Int)(ad:Int→Int→Int→Int×Int)(a b:List Int)(u:Nat)(o:List Int):List Int:=
 (upto (Lr mu ad a b u) 0 4 (0,o)).2.set (u+4) (upto (Lr mu ad a b u) 0 4 (0,o)).1
structure amH (a b o:List Int) (u j:Nat) (s:Int×List Int):Prop where
 len:s.2.length=8
 YA:dL qq s.2
 car:uR s.1
 rest:∀i,u+4≤i→s.2.getD i 0=o.getD i 0
 val:vd qq s.2+s.1*qq ^ (u+j)=vd qq o+a.getD u 0*vd qq (b.take j)*qq ^ u
theorem Dv{a b o:List Int}(ha:dL qq a)(hb:dL qq b)(lb:b.length=8){u j:Nat}(hu:u<4)(hj:j<4){s:Int×List Int}(h:amH a b o u j s):amH a b o u (j+1) (Lr bm bo a b u j s):=by
 obtain⟨h1,h2,h3,h4,h5⟩:=h;obtain⟨c,s⟩:=s;simp only at h1 h2 h3 h4 h5;have dQ:u+j<s.length:=by omega
 obtain⟨g1,g2,g3⟩:=ahc (dL.getD bs ha u) (dL.getD bs hb j) h3 (dL.getD bs h2 (u+j));unfold Lr;simp only;generalize Lq bm bo (a.getD u 0) (b.getD j 0) c (s.getD (u+j) 0)=p at*;refine⟨by rw[List.length_set];exact h1,h2.set g1,g2,fun i hi=>?_,?_⟩
 ·rw[← h4 i hi,List.getD_eq_getElem?_getD,List.getD_eq_getElem?_getD,List.getElem?_set_ne (by omega)]
 ·simp only;rw[rM dQ,cq (by omega),show u+(j+1)=(u+j)+1 from by omega,Int.pow_succ];generalize s.getD (u+j) 0=o0 at*;generalize a.getD u 0=x at*;generalize b.getD j 0=y at*
  have e1:x*(vd qq (b.take j)+y*qq ^ j)*qq ^ u=x*vd qq (b.take j)*qq ^ u+x*y*qq ^ (u+j):=by
   rw[Int.mul_add,Int.add_mul,Int.pow_add,Int.mul_comm (qq ^ u),← Int.mul_assoc x y (qq ^ j),Int.mul_assoc (x*y) (qq ^ j)]
  have e2:(p.1+qq*p.2)*qq ^ (u+j)=(o0+x*y+c)*qq ^ (u+j):=by rw[g3]
  have e3:p.2*(qq ^ (u+j)*qq)=qq*p.2*qq ^ (u+j):=by
   rw[Int.mul_comm (qq ^ (u+j)),← Int.mul_assoc,Int.mul_comm p.2]
  rw[e1,e3,Int.sub_mul];rw[Int.add_mul,Int.add_mul (o0+x*y),Int.add_mul o0]at e2;omega
structure amI (a b:List Int) (u:Nat) (o:List Int):Prop where
 len:o.length=8
 YA:dL qq o
 rest:∀i,u+4≤i→o.getD i 0=0
 val:vd qq o=vd qq (a.take u)*vd qq (b.take 4)
theorem wm{a b o:List Int}(ha:dL qq a)(hb:dL qq b)(la:a.length=8)(lb:b.length=8){u:Nat}(hu:u<4)(h:amI a b u o):amI a b (u+1) (ahd bm bo a b u o):=by
 have k:=fV (f:=Lr bm bo a b u) (amH a b o u) (n:=4) (fun j s hj hs=>Dv ha hb lb hu hj hs) 4 0 (0,o) (by omega) ⟨h.len,h.YA,by unfold uR;omega,fun _ _=>rfl,by simp[vd]⟩;unfold ahd;generalize upto (Lr bm bo a b u) 0 4 (0,o)=s at*;obtain⟨c,s⟩:=s;obtain⟨k1,k2,k3,k4,k5⟩:=k;simp only at k1 k2 k3 k4 k5;simp only;refine⟨by rw[List.length_set];exact k1,k2.set k3,fun i hi=>?_,?_⟩
 ·rw[List.getD_eq_getElem?_getD,List.getElem?_set_ne (by omega),← List.getD_eq_getElem?_getD,k4 i (by omega),h.rest i (by omega)]
 ·have e0:s.getD (u+4) 0=0:=by rw[k4 _ (Nat.le_refl _),h.rest _ (Nat.le_refl _)]
  rw[rM (by omega),e0,Int.sub_zero,show u+4=u+(0+4)from by omega,k5,h.val,cq (l:=a) (by omega),Nat.zero_add,Int.add_mul,Int.mul_assoc (a.getD u 0) (qq ^ u),Int.mul_comm (qq ^ u),Int.mul_assoc]
def lT(a b:List Int):List Int:=dg qq 8 (vd qq (a.take 4)*vd qq (b.take 4))
theorem YC{a b:List Int}(ha:dL qq a)(hb:dL qq b)(la:a.length=8)(lb:b.length=8):upto (ahd bm bo a b) 0 4 (List.replicate 8 0)=lT a b:=by
 have h:=fV (f:=ahd bm bo a b) (amI a b) (n:=4) (fun u o hu ho=>wm ha hb la lb hu ho) 4 0 (List.replicate 8 0) (by omega) ⟨by simp,dL.T7 bs 8,fun i _=>by
  rw[List.getD_eq_getElem?_getD,List.getElem?_replicate];split<;>rfl,by rw[Bc];simp[vd]⟩
 exact as2 bs h.YA h.len h.val
theorem ahe(b:List Int):(uS b).length=8∧dL qq (uS b):=⟨bp _ _,jF bs _ _⟩
theorem US{b:List Int}(hb:aN b)(hl:b.length≤64):vd qq (uS b)=vd 256 b:=by
 unfold uS;have h1:=dt (by decide) (show dL 256 b from hb);have h2:=lA (by decide) (show dL 256 b from hb);have e:(256:Int) ^ 64=qq ^ 8:=by decide+kernel
 have h3:(256:Int) ^ b.length≤256 ^ 64:=lB (by decide) hl;rw[iG bs,Int.emod_eq_of_lt h1 (by rw[← e];omega)]
theorem Ls{b:List Int}(hb:aN b)(hl:b.length=32):vd qq ((uS b).take 4)=vd 256 b:=by
 unfold uS;have h1:=dt (by decide) (show dL 256 b from hb);have h2:=lA (by decide) (show dL 256 b from hb);have e:(256:Int) ^ 32=qq ^ 4:=by decide+kernel
 rw[hl]at h2;rw[amC bs (by decide),iG bs,Int.emod_eq_of_lt h1 (by rw[← e];exact h2)]
end Go.Proofs.YtnbkagglkajbkaaGreat
end
