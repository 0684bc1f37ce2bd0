/- What the laws lean on, part 13: a reader of code, plain facts, and what each function gives; no conditions. -/
import Derived.Laws.Externs
import Derived.Test.YtnbkagglkajbkaaGreatA12
set_option linter.unusedVariables false
set_option linter.unusedSimpArgs false
noncomputable section
namespace Go.Proofs.YtnbkagglkajbkaaGreat
open Go Go.Ev Go.Proofs.Tryz
open Go.IntKind (i64 signed u16 u64 wrap)
set_option maxRecDepth 100000
structure HH where
 begun:Bool
 s:List Int
 n:Int
 wait:List Int
abbrev cHH:aM (List SV) HH:=(ae yX (ae (so (.int .u64) 8) (ae (aA .i64) (ae (so u8 128) ag)))).kE (fun x=>⟨x.1,x.2.1,x.2.2.1,x.2.2.2.1⟩) (fun h=>(h.begun,h.s,h.n,h.wait,())) (fun _=>rfl)
abbrev hI(h:HH):Ev.Item:=.aW (cHH.wr h) 121
abbrev sI:aM Hp (HH×Unit):=ae (dH 121 cHH) ag
abbrev hV(h:HH):LV:=.one (.agg (cHH.wr h))
abbrev De:Wk:=.aW 0 [.sym,.al,.sym,.al]
def x8:HH:=⟨true,oG,0,List.replicate 128 0⟩
def atS:an:=an.cl [] (ag) (ag) fun x_ y_=>.leaf none (.one (.sc (.ptr 0 0))) [(0,hI x8)]
theorem abi:aG Tryz.prog [(104,aiX)] [] f52 ((ag).wr ()) ((ag).wr ()) [.eG 0 1 8 .u64,De,.auto]=
 End.leaf (LV.one (VV.sc (SV.ptr (0:Nat) (0:Nat)))) [some (Item.aW [SV.bool (SB.sym true),SV.arr (Ty.int u64) (8:Nat) oG,SV.int
 i64 (SI.sym (0:Int)),SV.arr (Ty.int IntKind.u8) (128:Nat) (List.replicate (128:Nat) (0:Int))] (121:Nat))]:=by kernel_rfl
theorem aps:atS.Ok Tryz.prog 52:=by
 refine(an.aN call52 fun x_ y_ Q H_=>?_).sym;have hq:=H_.2;refine(ar mixed ((aj aiY ax)) func52 rfl (LT:= []) (ks:= [.eG 0 1 8 .u64,De,.auto]) (aH.nil _)).use (D:= [(0,hI x8)]) ?_ hq;show(aG _ _ _ _ ((ag).wr ()) ((ag).wr ()) _).sat _;rw[abi];exact⟨rfl,rfl⟩
def awj:an:=an.cl [] ((ai p0 ag)) (sI) fun x_ y_=>(fun(h:HH)=>.leaf (some (h.begun=true)) (hV h) []) y_.1
theorem ajb(h:HH):aG Tryz.prog [] [] f105 (((ai p0 ag)).wr ()) ((sI).wr (h,())) [.auto]=
 End.ite (!h.begun) End.fail (End.leaf (LV.one (VV.agg [SV.bool (SB.sym h.begun),SV.arr (Ty.int u64) (8:Nat) h.s,SV.int i64 (SI.sym
 h.n),SV.arr (Ty.int IntKind.u8) (128:Nat) h.wait])) [some (Item.aW [SV.bool (SB.sym h.begun),SV.arr (Ty.int u64) (8:Nat) h.s,SV.int
 i64 (SI.sym h.n),SV.arr (Ty.int IntKind.u8) (128:Nat) h.wait] (121:Nat))]):=by kernel_rfl
theorem ajc:awj.Ok Tryz.prog 105:=by
 refine(an.aN call105 fun x_ y_ Q H_=>?_).sym;obtain⟨h,_⟩:=y_;obtain⟨hn,hq⟩:=H_;have hn:h.begun=true:=hn;refine(ar mixed ax func105 rfl (LT:= []) (ks:= [.auto]) (aH.nil _)).use (D:= []) ?_ hq;show(aG _ _ _ _ (((ai p0 ag)).wr ()) ((sI).wr (h,())) _).sat _;rw[ajb];exact⟨fun e=>(by rw[hn]at e;cases e),fun _=>⟨rfl,rfl⟩⟩
def mo(h:HH)(c:Int):HH:=if(h.n+1)%128=0 then⟨h.begun,qE h.s (jf (h.wait.set (h.n%128).toNat c)),h.n+1,h.wait.set (h.n%128).toNat c⟩else⟨h.begun,h.s,h.n+1,h.wait.set (h.n%128).toNat c⟩
def cq(h:HH)(b:List Int):HH:=b.foldl mo h
structure tq (h:HH):Prop where
 begun:h.begun=true
 n:0≤h.n
 s:h.s.length=8
 wait:h.wait.length=128
theorem Jg(h:HH)(c:Int):(mo h c).n=h.n+1:=by unfold mo;split<;>rfl
theorem Df{h:HH}(hh:tq h)(c:Int):tq (mo h c):=by
 obtain⟨h1,h2,h3,h4⟩:=hh;unfold mo
 split
 ·exact⟨h1,by simp only;omega,y9 _ _,by simp[h4]⟩
 ·exact⟨h1,by simp only;omega,h3,by simp[h4]⟩
theorem qF:∀ (b:List Int) (h:HH),(cq h b).n=h.n+b.length
 | [],h=>by simp[cq]
 |c::b,h=>by
  show(cq (mo h c) b).n=_;rw[qF b,Jg,List.length_cons];omega
theorem oI:∀ (b:List Int) {h:HH},tq h→tq (cq h b)
 | [],_,hh=>hh
 |c::b,_,hh=>oI b (Df hh c)
theorem kp(h:HH)(a b:List Int):cq h (a++b)=cq (cq h a) b:=by simp[cq]
theorem Dg{σ:Type}(g:σ→Int→σ)(b:List Int):∀ (m k:Nat) (s:σ),k+m=b.length→upto (fun k s=>g s (b.getD k 0)) k m s=(b.drop k).foldl g s
 |0,k,s,h=>by rw[List.drop_eq_nil_of_le (by omega)];rfl
 |m+1,k,s,h=>by
  rw[rv (show k<b.length by omega)];exact Dg g b m (k+1) _ (by omega)
abbrev awk:Func:=f106
abbrev puC:aM (List LV) (List Int×Int×Int×Unit):=(ai (ah (aC 0 0)) (jk 7 (ae (ah (fh false false u8)) (ae (ah (aA .i64)) (ae (ah (aA .i64)) (jk 44 ag))))))
abbrev aAX:Wk:=.fr (cu 55 [(0,.al),(8,.al),(9,.sym),(10,.sym)])
abbrev puX:aM (List LV) (Unit):=(jk 55 ag)
abbrev aFx:Wk:=.fr (cu 55 [])
abbrev ajd:List (FuncId×an):= [(161,aiZ),(162,atP)]
def puW:Exit→List Wk
 | .normal=> [aAX,De,.auto]
 | .exit 0=> [aFx,De,.auto]
 |_=> []
theorem awl(h0 h:HH)(b:List Int)(n i:Int):cO Tryz.prog ajd [] awk 0 (sI.wr (h0,())) puW ((aS puC sI).wr ((b,n,i,()),(h,())))=
 aK.ite (decide (i<n)) (aK.need ((0:Int)≤i∧i<(↑b.length:Int)) (aK.need ((0:Int)≤h.n.tmod (128:Int)∧h.n.tmod (128:Int)<(128:
 Int)) (aK.ite ((i64.wrap (h.n+(1:Int))).tmod (128:Int)==(0:Int)) (aK.need ((0:Int)≤(0:Int)∧(0:Int)≤(128:Int)∧(128:
 Int)≤(128:Int)) (aK.need ((List.take (128:Nat) (List.drop (0:Nat) (h.wait.set ((0:Nat)+(h.n.tmod (128:Int)).toNat) (b.getD i.toNat (0:
 Int))))).length=(128:Nat)) (aK.need (h.s.length=(8:Nat)∧(16:Nat)=(16:Nat)) (aK.leaf Exit.normal ((aS puC sI).wr ((b,n,
 i64.wrap (i+(1:Int)),PUnit.unit),{begun:=h.begun,s:=qE h.s (jf (List.take (128:Nat) (List.drop (0:Nat) (h.wait.set ((0:Nat)+(h.n.tmod (128:Int)).toNat) (b.getD i.toNat (0:Int)))))),n:=i64.wrap (h.n+(1:Int)),wait:=h.wait.set ((0:Nat)+(h.n.tmod (128:Int)).toNat) (b.getD i.toNat (0:Int))},
 PUnit.unit)))))) (aK.leaf Exit.normal ((aS puC sI).wr ((b,n,i64.wrap (i+(1:Int)),PUnit.unit),{begun:=h.begun,s:=h.s,n:=i64.wrap (h.n+(1:Int)),wait:=h.wait.set ((0:Nat)+(h.n.tmod (128:Int)).toNat) (b.getD i.toNat (0:Int))},
 PUnit.unit)))))) (aK.leaf (Exit.exit (0:Nat)) ((aS puX sI).wr (PUnit.unit,h,PUnit.unit))):=by kernel_rfl
theorem Nd:∀p∈ajd,p.2.Ok Tryz.prog p.1:=aj ai0 (aj apn ax)
def puF(x:(List Int×Int×Int×Unit)×HH×Unit):aK:=
 .need (tq x.2.1∧x.1.2.1=x.1.1.length∧x.1.2.2.1=0∧x.2.1.n+x.1.1.length<2305843009213693952) (.leaf (.exit 0) ((aS puX sI).wr ((),(cq x.2.1 x.1.1,()))))
theorem apt(h0:HH)(x):Ex Tryz.prog (sI.wr (h0,())) (.loop (aO awk 0)) ((aS puC sI).wr x) (puF x):=by
 obtain⟨⟨b,n,i,_⟩,h,_⟩:=x;refine Ex.need fun⟨h1,h2,h3,h4⟩=>?_;simp only at h1 h2 h3 h4;subst h2 h3;have aJS:(b.length:Int)<2305843009213693952:=by have:=h1.n;omega
 have key:=dN (fn:=awk) (id:=0) (j:=0) (ws:=puW) (hp:=sI.wr (h0,())) mixed Nd (aH.nil _) b.length (fun k h=>(aS puC sI).wr ((b,(b.length:Int),(k:Int),()),(h,()))) (fun h=>(aS puX sI).wr ((),(h,()))) (fun k h=>mo h (b.getD k 0)) (fun k h=>tq h∧h.n+(b.length-k:Nat)<2305843009213693952)
  (fun k h R hk hm hn hx=>?_) (fun k h _ hh=>⟨Df hh.1 _,by rw[Jg];have:=hh.2;omega⟩) 0 h (by omega) ⟨h1,by simpa using h4⟩
 ·rw[Nat.sub_zero,Dg mo b _ _ _ (by omega)]at key;exact key
 obtain⟨hh,dL⟩:=hm;obtain⟨g1,g2,g3,g4⟩:=hh;rw[awl];refine⟨fun hb=>?_,fun hb=>?_⟩
 ·have jz:k<b.length:=by have:=of_decide_eq_true hb;omega
  have e1:i64.wrap (h.n+1)=h.n+1:=ao (by omega) (by omega);have e2:h.n.tmod 128=h.n%128:=Int.tmod_eq_emod_of_nonneg g2;have e3:(h.n+1).tmod 128=(h.n+1)%128:=Int.tmod_eq_emod_of_nonneg (by omega);have e4:∀c,List.take 128 (List.drop 0 (h.wait.set (h.n%128).toNat c))=h.wait.set (h.n%128).toNat c:=fun c=>aY (by simp[g4]);rw[e1,e2,e3,cJ k (by omega)];simp only[Int.toNat_natCast,Nat.zero_add];rw[e4];have ob:=hn jz;refine⟨⟨by omega,by omega⟩,by omega,fun hz=>?_,fun hz=>?_⟩
  ·have PL:(h.n+1)%128=0:=(by simpa using hz);rw[mo,if_pos PL]at ob;exact⟨by omega,by simp[g4],⟨g3,trivial⟩,ob⟩
  ·have PL:¬ (h.n+1)%128=0:=(by simpa using hz);rw[mo,if_neg PL]at ob;exact ob
 ·have:k=b.length:=by have:=of_decide_eq_false hb;omega
  exact hx this
abbrev aAY:dG:= [(0,dc (aS puC sI) 1 [aAX,De,.auto] puF)]
abbrev hbA:aM (List LV) (List Int×Unit):=ai p0 (ae (ah (fh false false u8)) ag)
def aje:an:=an.cl [none,some u8] (hbA) (sI) fun x_ y_=>(fun(b:List Int) (h:HH)=>.leaf (some (tq h∧h.n+b.length<2305843009213693952)) (.cj []) [(0,hI (cq h b))]) x_.1 y_.1
theorem abj(b:List Int)(h:HH):aG Tryz.prog ajd aAY f106 ((hbA).wr (b,())) ((sI).wr (h,())) [De,.auto]=
 End.need (tq h∧(↑b.length:Int)=(↑b.length:Int)∧(0:Int)=(0:Int)∧h.n+(↑b.length:Int)<(2305843009213693952:Int)) (End.leaf
 (LV.cj []) [some (Item.aW [SV.bool (SB.sym (cq h b).begun),SV.arr (Ty.int u64) (8:Nat) (cq h b).s,SV.int i64 (SI.sym (cq h
 b).n),SV.arr (Ty.int IntKind.u8) (128:Nat) (cq h b).wait] (121:Nat))]):=by kernel_rfl
theorem XA:aje.Ok Tryz.prog 106:=by
 refine(an.aN call106 fun x_ y_ Q H_=>?_).sym;obtain⟨b,_⟩:=x_;obtain⟨h,_⟩:=y_;obtain⟨hn,hq⟩:=H_;have hn:tq h∧h.n+b.length<2305843009213693952:=hn;refine(ar mixed Nd func106 rfl (LT:=aAY) (ks:= [De,.auto]) (aH.bK (js rfl (bD (hp:=sI.wr (h,())) (apt h)) jt))).use (D:= [(0,hI (cq h b))]) ?_ hq;show(aG _ _ _ _ ((hbA).wr (b,())) ((sI).wr (h,())) _).sat _;rw[abj];exact⟨⟨hn.1,rfl,rfl,hn.2⟩,rfl,rfl⟩
def ajf:an:=an.cl [none,some u8] (hbA) (sI) fun x_ y_=>(fun(b:List Int) (h:HH)=>.leaf (some (tq h∧h.n+b.length<2305843009213693952)) (.cj []) [(0,hI (cq h b))]) x_.1 y_.1
theorem Tm(b:List Int)(h:HH):aG Tryz.prog [(105,awj),(106,aje)] [] f53 ((hbA).wr (b,())) ((sI).wr (h,())) [De,.auto]=
 End.need (h.begun=true) (End.need (tq h∧h.n+(↑b.length:Int)<(2305843009213693952:Int)) (End.leaf (LV.cj []) [some (Item.aW [SV.bool
 (SB.sym (cq h b).begun),SV.arr (Ty.int u64) (8:Nat) (cq h b).s,SV.int i64 (SI.sym (cq h b).n),SV.arr (Ty.int IntKind.u8)
 (128:Nat) (cq h b).wait] (121:Nat))])):=by kernel_rfl
theorem ajg:ajf.Ok Tryz.prog 53:=by
 refine(an.aN call53 fun x_ y_ Q H_=>?_).sym;obtain⟨b,_⟩:=x_;obtain⟨h,_⟩:=y_;obtain⟨hn,hq⟩:=H_;have hn:tq h∧h.n+b.length<2305843009213693952:=hn;refine(ar mixed ((aj ajc (aj XA ax))) func53 rfl (LT:= []) (ks:= [De,.auto]) (aH.nil _)).use (D:= [(0,hI (cq h b))]) ?_ hq;show(aG _ _ _ _ ((hbA).wr (b,())) ((sI).wr (h,())) _).sat _;rw[Tm];exact⟨hn.1.begun,hn,rfl,rfl⟩
def ck(x:Int):List Int:=(List.range 8).map fun i=>IntKind.u8.wrap (shr .u64 x ((56-8*i:Nat):Int))
def Tn:an:=an.cl [] ((ae (ah (aA .u64)) ag)) (ag) fun x_ y_=>(fun(x:Int)=>.leaf none (.one (.sc (.sl 0 0))) [(0,.own 0 u8 (ck x))]) x_.1
theorem To(x:Int):aG Tryz.prog [] [] f107 (((ae (ah (aA .u64)) ag)).wr (x,())) ((ag).wr ()) [.auto,.aE]=
 End.need ((1:Nat)≤(70368744177664:Nat)∧(1:Nat)≤(70368744177664:Nat)) (End.need ((2:Nat)≤(70368744177664:Nat)∧(2:Nat)≤
 (70368744177664:Nat)) (End.need ((3:Nat)≤(70368744177664:Nat)∧(3:Nat)≤(70368744177664:Nat)) (End.need ((4:Nat)≤(70368744177664:
 Nat)∧(4:Nat)≤(70368744177664:Nat)) (End.need ((5:Nat)≤(70368744177664:Nat)∧(5:Nat)≤(70368744177664:Nat)) (End.need ((6:Nat)≤
 (70368744177664:Nat)∧(6:Nat)≤(70368744177664:Nat)) (End.need ((7:Nat)≤(70368744177664:Nat)∧(7:Nat)≤(70368744177664:Nat))
 (End.need ((8:Nat)≤(70368744177664:Nat)∧(8:Nat)≤(70368744177664:Nat)) (End.leaf (LV.one (VV.sc (SV.sl (0:Nat) (0:Nat)))) [some
 (Item.own (0:Nat) (Ty.int IntKind.u8) ([IntKind.u8.wrap (shr u64 x (56:Int))]++ [IntKind.u8.wrap (shr u64 x (48:Int))]++
 [IntKind.u8.wrap (shr u64 x (40:Int))]++ [IntKind.u8.wrap (shr u64 x (32:Int))]++ [IntKind.u8.wrap (shr u64 x (24:
 Int))]++ [IntKind.u8.wrap (shr u64 x (16:Int))]++ [IntKind.u8.wrap (shr u64 x (8:Int))]++ [IntKind.u8.wrap (shr u64 x (0
 :Int))]))])))))))):=by kernel_rfl
theorem Nf:Tn.Ok Tryz.prog 107:=by
 refine(an.aN call107 fun x_ y_ Q H_=>?_).sym;obtain⟨x,_⟩:=x_;have hq:=H_.2;refine(ar mixed ax func107 rfl (LT:= []) (ks:= [.auto,.aE]) (aH.nil _)).use (D:= [(0,.own 0 u8 (ck x))]) ?_ hq;show(aG _ _ _ _ (((ae (ah (aA .u64)) ag)).wr (x,())) ((ag).wr ()) _).sat _;rw[To];exact⟨by omega,by omega,by omega,by omega,by omega,by omega,by omega,by omega,rfl,rfl⟩
def fb(s:List Int):List Int:=(List.range 8).foldl (fun a i=>a++ck (s.getD i 0)) []
def Ng:an:=an.cl [] ((ai p0 ag)) (sI) fun x_ y_=>(fun(h:HH)=>.leaf none (.one (.sc (.sl 1 0))) [(1,.own 0 u8 (fb h.s))]) y_.1
theorem Jh(h:HH):aG Tryz.prog [(107,Tn)] [] f108 (((ai p0 ag)).wr ()) ((sI).wr (h,())) [.auto,.aE]=
 End.need ((8:Nat)≤(70368744177664:Nat)∧(8:Nat)≤(70368744177664:Nat)) (End.need ((16:Nat)≤(70368744177664:Nat)∧(16:Nat)≤
 (70368744177664:Nat)) (End.need ((24:Nat)≤(70368744177664:Nat)∧(24:Nat)≤(70368744177664:Nat)) (End.need ((32:Nat)≤(70368744177664:
 Nat)∧(32:Nat)≤(70368744177664:Nat)) (End.need ((40:Nat)≤(70368744177664:Nat)∧(40:Nat)≤(70368744177664:Nat)) (End.need ((48:Nat)
 ≤(70368744177664:Nat)∧(48:Nat)≤(70368744177664:Nat)) (End.need ((56:Nat)≤(70368744177664:Nat)∧(56:Nat)≤(70368744177664:Nat))
 (End.need ((64:Nat)≤(70368744177664:Nat)∧(64:Nat)≤(70368744177664:Nat)) (End.leaf (LV.one (VV.sc (SV.sl (1:Nat) (0:Nat)))) [some
 (Item.aW [SV.bool (SB.sym h.begun),SV.arr (Ty.int u64) (8:Nat) h.s,SV.int i64 (SI.sym h.n),SV.arr (Ty.int IntKind.u8) (128:Nat)
 h.wait] (121:Nat)),some (Item.own (0:Nat) (Ty.int IntKind.u8) (ck (h.s.getD (0:Nat) (0:Int))++ck (h.s.getD (1:Nat) (0:Int))++
 ck (h.s.getD (2:Nat) (0:Int))++ck (h.s.getD (3:Nat) (0:Int))++ck (h.s.getD (4:Nat) (0:Int))++ck (h.s.getD (5:Nat)
 (0:Int))++ck (h.s.getD (6:Nat) (0:Int))++ck (h.s.getD (7:Nat) (0:Int))))])))))))):=by kernel_rfl
theorem Tp:Ng.Ok Tryz.prog 108:=by
 refine(an.aN call108 fun x_ y_ Q H_=>?_).sym;obtain⟨h,_⟩:=y_;have hq:=H_.2;refine(ar mixed ((aj Nf ax)) func108 rfl (LT:= []) (ks:= [.auto,.aE]) (aH.nil _)).use (D:= [(1,.own 0 u8 (fb h.s))]) ?_ hq;show(aG _ _ _ _ (((ai p0 ag)).wr ()) ((sI).wr (h,())) _).sat _;rw[Jh];exact⟨by omega,by omega,by omega,by omega,by omega,by omega,by omega,by omega,rfl,rfl⟩
abbrev aAZ:Func:=f54
abbrev ajh:List (FuncId×an):= [(105,awj),(106,aje),(107,Tn),(108,Ng)]
theorem Nh:∀p∈ajh,p.2.Ok Tryz.prog p.1:=aj ajc (aj XA (aj Nf (aj Tp ax)))
abbrev Ji:aM Hp (HH×List Int×HH×Unit):=ae (dH 121 cHH) (ae (gL 41 .u8 64) (ae (dH 121 cHH) ag))
abbrev aji:Wk:=.aW 2 [.sym,.al,.sym,.al]
abbrev suC:aM (List LV) (Int×Unit):=(jk 2 (ai (ah (aC 1 0)) (ai (ah (aC 2 0)) (ae (ah (aA .u64)) (jk 24 ag)))))
abbrev awm:Wk:=.fr (cu 29 [(2,.al),(3,.al),(4,.sym)])
def suW:Exit→List Wk
 | .normal=> [awm,aji,.auto]
 | .exit 0=> [awm,aji,.auto]
 |_=> []
theorem awn(h0:HH)(g:HH)(r:List Int)(h:HH)(n:Int):cO Tryz.prog ajh [] aAZ 0 (sI.wr (h0,())) suW ((aS suC Ji).wr ((n,()),(g,r,h,())))=
 aK.ite (h.n.tmod (128:Int)!=(112:Int)) (aK.need (tq h∧h.n+(1:Int)<(2305843009213693952:Int)) (aK.leaf Exit.normal ((aS suC
 Ji).wr ((n,PUnit.unit),g,r,cq h [(0:Int)],PUnit.unit)))) (aK.leaf (Exit.exit (0:Nat)) ((aS suC Ji).wr ((n,PUnit.unit),g,r,h,
 PUnit.unit))):=by kernel_rfl
def mT(h:HH):HH:=cq h (List.replicate ((112-h.n)%128).toNat 0)
theorem abk{h:HH}(hz:¬h.n%128=112):mT (cq h [0])=mT h∧((112-(cq h [0]).n)%128).toNat<((112-h.n)%128).toNat:=by
 have e1:(cq h [0]).n=h.n+1:=by rw[qF];rfl
 have e2:((112-h.n)%128).toNat=((112-(cq h [0]).n)%128).toNat+1:=by rw[e1];omega
 refine⟨?_,by omega⟩;unfold mT;rw[e2,List.replicate_succ];rfl
theorem ajj{h:HH}(hz:h.n%128=112):mT h=h:=by
 have e:((112-h.n)%128).toNat=0:=by omega
 unfold mT;rw[e];rfl
def suF(x:(Int×Unit)×HH×List Int×HH×Unit):aK:=
 .need (tq x.2.2.2.1∧x.2.2.2.1.n+128<2305843009213693952) (.leaf (.exit 0) ((aS suC Ji).wr (x.1,(x.2.1,x.2.2.1,mT x.2.2.2.1,()))))
theorem apv(h0:HH)(x):Ex Tryz.prog (sI.wr (h0,())) (.loop (aO aAZ 0)) ((aS suC Ji).wr x) (suF x):=by
 obtain⟨⟨n,_⟩,g,r,h,_⟩:=x;refine Ex.need fun⟨h1,h2⟩=>?_;simp only at h1 h2
 refine yY mixed Nh (LT:= []) (ws:=suW) (hp:=sI.wr (h0,())) (aH.nil _) (fun h:HH=>((112-h.n)%128).toNat) (fun h:HH=>(aS suC Ji).wr ((n,()),(g,r,h,()))) (fun h=>tq h∧h.n+(112-h.n)%128<2305843009213693952)
  (fun h=>.leaf (.exit 0) ((aS suC Ji).wr ((n,()),(g,r,mT h,())))) (fun h _=>awn h0 g r h n) (fun h R hh hs=>?_) h ⟨h1,by omega⟩
 obtain⟨hh,dL⟩:=hh;have e:h.n.tmod 128=h.n%128:=Int.tmod_eq_emod_of_nonneg hh.n;rw[e];refine⟨fun hb=>?_,fun hb=>?_⟩
 ·have gV:¬h.n%128=112:=by simpa using hb
  obtain⟨k1,k2⟩:=abk gV;have e1:(cq h [0]).n=h.n+1:=by rw[qF];rfl
  refine⟨⟨hh,by omega⟩,.inl ⟨rfl,cq h [0],rfl,⟨oI _ hh,by rw[e1];omega⟩,k2,?_⟩⟩;show(aK.leaf (.exit 0) ((aS suC Ji).wr ((n,()),(g,r,mT (cq h [0]),())))).sat R;rw[k1];exact hs
 ·have gV:h.n%128=112:=by simpa using hb
  rw[ajj gV]at hs;exact .inr ⟨by simp,hs⟩
abbrev aA0:dG:= [(0,dc (aS suC Ji) 1 [awm,aji,.auto] suF)]
def atT(h:HH)(n:Int):HH:=cq (cq (mT (cq h [128])) (ck (shr .u64 n 61))) (ck (shl .u64 n 3))
def apw(h:HH):List Int:=fb (atT h (u64.wrap h.n)).s
theorem Jj(x:Int):(ck x).length=8:=rfl
theorem qG(s:List Int):(fb s).length=64:=rfl
def aA1:an:=an.cl [] ((ai p0 ag)) (sI) fun x_ y_=>(fun(h:HH)=>.leaf (some (tq h∧h.n<1152921504606846976)) (dO .u8 64 (apw h)) []) y_.1
theorem ajk(h:HH):aG Tryz.prog ajh aA0 f54 (((ai p0 ag)).wr ()) ((sI).wr (h,())) [.fr [.sym],De,.auto]=
 End.need (h.begun=true) (End.need (tq h∧h.n+(1:Int)<(2305843009213693952:Int)) (End.need (tq (cq h [(128:Int)])∧(cq h [(128:
 Int)]).n+(128:Int)<(2305843009213693952:Int)) (End.need (tq (mT (cq h [(128:Int)]))∧(mT (cq h [(128:Int)])).n+(8:Int)<
 (2305843009213693952:Int)) (End.need (tq (cq (mT (cq h [(128:Int)])) (ck (shr u64 (u64.wrap h.n) (61:Int))))∧(cq
 (mT (cq h [(128:Int)])) (ck (shr u64 (u64.wrap h.n) (61:Int)))).n+(8:Int)<(2305843009213693952:Int)) (End.need ((64
 :Nat)≤(64:Nat)) (End.need ((64:Nat)≤(64:Nat)) (End.leaf (LV.one (VV.agg [SV.arr (Ty.int IntKind.u8) (64:Nat) (List.take (64:Nat)
 (List.drop (0:Nat) (fb (cq (cq (mT (cq h [(128:Int)])) (ck (shr u64 (u64.wrap h.n) (61:Int)))) (ck (shl
 u64 (u64.wrap h.n) (3:Int)))).s)))])) [some (Item.aW [SV.bool (SB.sym h.begun),SV.arr (Ty.int u64) (8:Nat) h.s,SV.int
 i64 (SI.sym h.n),SV.arr (Ty.int IntKind.u8) (128:Nat) h.wait] (121:Nat))]))))))):=by kernel_rfl
theorem awo:aA1.Ok Tryz.prog 54:=by
 refine(an.aN call54 fun x_ y_ Q H_=>?_).sym;obtain⟨h,_⟩:=y_;obtain⟨hn,hq⟩:=H_;have hn:tq h∧h.n<1152921504606846976:=hn;refine(ar mixed Nh func54 rfl (LT:=aA0) (ks:= [.fr [.sym],De,.auto]) (aH.bK (js rfl (bD (hp:=sI.wr (h,())) (apv h)) jt))).use (D:= []) ?_ hq;show(aG _ _ _ _ (((ai p0 ag)).wr ()) ((sI).wr (h,())) _).sat _;rw[ajk];obtain⟨g1,g2⟩:=hn;have g3:=g1.n;have e1:(cq h [128]).n=h.n+1:=by rw[qF];rfl
 have k1:tq (cq h [128]):=oI _ g1;have k2:tq (mT (cq h [128])):=oI _ k1;have e2:(mT (cq h [128])).n≤h.n+128:=by unfold mT;rw[qF,e1,List.length_replicate];omega
 have k3:tq (cq (mT (cq h [128])) (ck (shr .u64 (u64.wrap h.n) 61))):=oI _ k2;have e3:(cq (mT (cq h [128])) (ck (shr .u64 (u64.wrap h.n) 61))).n≤h.n+136:=by rw[qF,Jj];omega
 have e4:∀s,List.take 64 (List.drop 0 (fb s))=fb s:=fun s=>aY (qG s);rw[e4];exact⟨g1.begun,⟨g1,by omega⟩,⟨k1,by omega⟩,⟨k2,by omega⟩,⟨k3,by omega⟩,by omega,by omega,rfl,rfl⟩
abbrev ofFn:Func:=f22
abbrev bK:List (FuncId×an):= [(52,atS),(53,ajf),(54,aA1)]
abbrev rrA:aM (List LV) (List (List Int)×Unit):=ae (ah (fh false false (.sl u8))) ag
abbrev ofC:aM (List LV) (List (List Int)×Int×Int×Unit):=(jk 2 (ai (ah (aC 0 0)) (ai (ah (aC 1 0)) (jk 3 (ae (ah (fh false false (.sl u8))) (ae (ah (aA .i64)) (ae (ah (aA .i64)) (jk 9 ag))))))))
abbrev aA3:Wk:=.fr (cu 19 [(2,.al),(3,.al),(7,.al),(8,.sym),(9,.sym)])
abbrev ofX:aM (List LV) (Unit):=(jk 2 (ai (ah (aC 0 0)) (ai (ah (aC 1 0)) (jk 15 ag))))
abbrev aFz:Wk:=.fr (cu 19 [(2,.al),(3,.al)])
abbrev Ni:aM Hp (List Int×HH×Unit):=ae (gL 41 .u8 64) (ae (dH 121 cHH) ag)
abbrev ajl:Wk:=.aW 1 [.sym,.al,.sym,.al]
def ofW:Exit→List Wk
 | .normal=> [aA3,ajl,.auto]
 | .exit 0=> [aFz,ajl,.auto]
 |_=> []
theorem awp(l:List (List Int))(n i:Int)(r:List Int)(h:HH):cO Tryz.prog bK [] ofFn 0 [] ofW ((aS ofC Ni).wr ((l,n,i,()),(r,h,())))=
 aK.ite (decide (i<n)) (aK.need ((0:Int)≤i∧i<(↑l.length:Int)) (aK.need (tq h∧h.n+(↑(List.length (l.getD i.toNat [])):Int)<
 (2305843009213693952:Int)) (aK.leaf Exit.normal ((aS ofC Ni).wr ((l,n,i64.wrap (i+(1:Int)),PUnit.unit),r,cq h (l.getD i.toNat
 []),PUnit.unit))))) (aK.leaf (Exit.exit (0:Nat)) ((aS ofX Ni).wr (PUnit.unit,r,h,PUnit.unit))):=by kernel_rfl
theorem Nj:∀p∈bK,p.2.Ok Tryz.prog p.1:=aj aps (aj ajg (aj awo ax))
theorem Fy{σ:Type}(g:σ→List Int→σ)(b:List (List Int)):∀ (m k:Nat) (s:σ),k+m=b.length→upto (fun k s=>g s (b.getD k [])) k m s=(b.drop k).foldl g s
 |0,k,s,h=>by rw[List.drop_eq_nil_of_le (by omega)];rfl
 |m+1,k,s,h=>by
  have e:b.drop k=b.getD k []::b.drop (k+1):=by
   rw[List.drop_eq_getElem_cons (by omega:k<b.length),List.getD_eq_getElem?_getD,List.getElem?_eq_getElem (by omega:k<b.length)];rfl
  rw[e];exact Fy g b m (k+1) _ (by omega)
theorem Fz:∀ (l:List (List Int)) (h:HH),l.foldl cq h=cq h l.flatten
 | [],h=>rfl
 |b::l,h=>by rw[List.foldl_cons,Fz l,List.flatten_cons,kp]
def aA4(x:(List (List Int)×Int×Int×Unit)×List Int×HH×Unit):aK:=
 .need (tq x.2.2.1∧x.1.2.1=x.1.1.length∧x.1.2.2.1=0∧x.1.1.length<2305843009213693952∧x.2.2.1.n+x.1.1.flatten.length<2305843009213693952) (.leaf (.exit 0) ((aS ofX Ni).wr ((),(x.2.1,cq x.2.2.1 x.1.1.flatten,()))))
theorem apx(x):Ex Tryz.prog [] (.loop (aO ofFn 0)) ((aS ofC Ni).wr x) (aA4 x):=by
 obtain⟨⟨l,n,i,_⟩,r,h,_⟩:=x;refine Ex.need fun⟨h1,h2,h3,h4,h5⟩=>?_;simp only at h1 h2 h3 h4 h5;subst h2 h3
 have key:=dN (fn:=ofFn) (id:=0) (j:=0) (ws:=ofW) (hp:= []) mixed Nj (aH.nil _) l.length (fun k h=>(aS ofC Ni).wr ((l,(l.length:Int),(k:Int),()),(r,h,()))) (fun h=>(aS ofX Ni).wr ((),(r,h,()))) (fun k h=>cq h (l.getD k [])) (fun k h=>tq h∧h.n+(l.drop k).flatten.length<2305843009213693952)
  (fun k h R hk hm hn hx=>?_) (fun k h hk hh=>⟨oI _ hh.1,?_⟩) 0 h (by omega) ⟨h1,h5⟩
 ·rw[Nat.sub_zero,Fy cq l _ _ _ (by omega),Fz]at key;exact key
 ·obtain⟨hh,dL⟩:=hm;rw[awp];refine⟨fun hb=>?_,fun hb=>?_⟩
  ·have jz:k<l.length:=by have:=of_decide_eq_true hb;omega
   have e:l.drop k=l.getD k []::l.drop (k+1):=by
    rw[List.drop_eq_getElem_cons jz,List.getD_eq_getElem?_getD,List.getElem?_eq_getElem jz];rfl
   rw[e,List.flatten_cons,List.length_append]at dL;rw[cJ k (by omega)];simp only[Int.toNat_natCast];exact⟨by omega,⟨hh,by omega⟩,hn jz⟩
  ·have:k=l.length:=(by have:=of_decide_eq_false hb;omega);exact hx this
 ·have e:l.drop k=l.getD k []::l.drop (k+1):=by
   rw[List.drop_eq_getElem_cons hk,List.getD_eq_getElem?_getD,List.getElem?_eq_getElem hk];rfl
  have h2:=hh.2;rw[e,List.flatten_cons,List.length_append]at h2;rw[qF];omega
abbrev ofLT:dG:= [(0,dc (aS ofC Ni) 0 [aA3,ajl,.auto] aA4)]
theorem Jk:tq x8:=⟨rfl,by decide,rfl,rfl⟩
def gp(b:List Int):List Int:=apw (cq x8 b)
theorem Dh(b:List Int):(gp b).length=64:=rfl
def ofE:an:=an.cl [some (.sl u8)] (rrA) (ag) fun x_ y_=>(fun(l:List (List Int))=>.leaf (some (l.length<2305843009213693952∧l.flatten.length<1152921504606846976)) (dO .u8 64 (gp l.flatten)) []) x_.1
theorem apy(l:List (List Int)):aG Tryz.prog bK ofLT f22 ((rrA).wr (l,())) ((ag).wr ()) [.fr [.sym],.auto]=
 End.need (tq {begun:=true,s:= [(7640891576956012808:Int),(13503953896175478587:Int),(4354685564936845355:Int),(11912009170470909681:Int),(5840696475078001361:Int),(11170449401992604703:Int),(2270897969802886507:Int),(6620516959819538809:Int)],n:=(0:Int),wait:=List.replicate (128:Nat) (0:Int)}
 ∧(↑l.length:Int)=(↑l.length:Int)∧(0:Int)=(0:Int)∧l.length<(2305843009213693952:Nat)∧(0:Int)+(↑l.flatten.length:Int)<
 (2305843009213693952:Int)) (End.need (tq (cq {begun:=true,s:= [(7640891576956012808:Int),(13503953896175478587:Int),(4354685564936845355:Int),(11912009170470909681:Int),(5840696475078001361:Int),(11170449401992604703:Int),(2270897969802886507:Int),(6620516959819538809:Int)],n:=(0:Int),wait:=List.replicate (128:Nat) (0:Int)}
 l.flatten)∧(cq {begun:=true,s:= [(7640891576956012808:Int),(13503953896175478587:Int),(4354685564936845355:Int),(11912009170470909681:Int),(5840696475078001361:Int),(11170449401992604703:Int),(2270897969802886507:Int),(6620516959819538809:Int)],n:=(0:Int),wait:=List.replicate (128:Nat) (0:Int)}
 l.flatten).n<(1152921504606846976:Int)) (End.leaf (LV.one (VV.agg [SV.arr (Ty.int IntKind.u8) (64:Nat) (apw (cq {begun:=true,s:= [(7640891576956012808:Int),(13503953896175478587:Int),(4354685564936845355:Int),(11912009170470909681:Int),(5840696475078001361:Int),(11170449401992604703:Int),(2270897969802886507:Int),(6620516959819538809:Int)],n:=(0:Int),wait:=List.replicate (128:Nat) (0:Int)}
 l.flatten))])) [])):=by kernel_rfl
theorem atU:ofE.Ok Tryz.prog 22:=by
 refine(an.aN call22 fun x_ y_ Q H_=>?_).sym;obtain⟨l,_⟩:=x_;obtain⟨hn,hq⟩:=H_;have hn:l.length<2305843009213693952∧l.flatten.length<1152921504606846976:=hn;refine(ar mixed Nj func22 rfl (LT:=ofLT) (ks:= [.fr [.sym],.auto]) (aH.bK (js rfl (bD (hp:= []) apx) jt))).use (D:= []) ?_ hq;show(aG _ _ _ _ ((rrA).wr (l,())) ((ag).wr ()) _).sat _;rw[apy];have e:(cq x8 l.flatten).n=l.flatten.length:=by rw[qF];show(0:Int)+_=_;omega
 exact⟨⟨Jk,rfl,rfl,hn.1,by omega⟩,⟨oI _ Jk,by show(cq x8 l.flatten).n<_;rw[e];omega⟩,rfl,rfl⟩
def fI(b:List Int):List Int:=gp (b.take 160)
def Aj:an:=an.cl [some u8] (bA) (ag) fun x_ y_=>(fun(b:List Int)=>.leaf (some (b.length<1152921504606846976)) (dO .u8 64 (fI b)) []) x_.1
theorem Nk(b:List Int):aG Tryz.prog [(22,ofE)] [] f40 ((bA).wr (b,())) ((ag).wr ()) [.fr [.sym],.auto]=
 End.need ((0:Int)≤(0:Int)∧((0:Int)≤if(160:Int)<(↑b.length:Int)then(160:Int)else(↑b.length:Int))∧(if(160:Int)<
 (↑b.length:Int)then(160:Int)else(↑b.length:Int))≤(↑b.length:Int)) (End.need ((1:Nat)<(2305843009213693952:Nat)∧ [List.take ((if
 (160:Int)<(↑b.length:Int)then(160:Int)else(↑b.length:Int))-(0:Int)).toNat (List.drop (0:Nat) b)].flatten.length<
 (1152921504606846976:Nat)) (End.leaf (LV.one (VV.agg [SV.arr (Ty.int IntKind.u8) (64:Nat) (gp [List.take ((if(160:Int)<(↑b.length:Int)
 then(160:Int)else(↑b.length:Int))-(0:Int)).toNat (List.drop (0:Nat) b)].flatten)])) [])):=by kernel_rfl
theorem abl:Aj.Ok Tryz.prog 40:=by
 refine(an.aN call40 fun x_ y_ Q H_=>?_).sym;obtain⟨b,_⟩:=x_;obtain⟨hn,hq⟩:=H_;have hn:b.length<1152921504606846976:=hn;refine(ar mixed ((aj atU ax)) func40 rfl (LT:= []) (ks:= [.fr [.sym],.auto]) (aH.nil _)).use (D:= []) ?_ hq;show(aG _ _ _ _ ((bA).wr (b,())) ((ag).wr ()) _).sat _;rw[Nk]
 have e:List.take ((if(160:Int)<b.length then(160:Int)else b.length)-0).toNat (List.drop 0 b)=b.take 160:=by
  rw[List.drop_zero]
  split
  ·rfl
  ·rw[List.take_of_length_le (by omega),List.take_of_length_le (by omega)]
 rw[e,List.flatten_singleton];refine⟨⟨by omega,by split<;>omega,by split<;>omega⟩,⟨by omega,by simp;omega⟩,rfl,rfl⟩
def Tq:an:=an.cl [] ((ae (ah (aA .u64)) ag)) (ag) fun x_ y_=>(fun(x:Int)=>.leaf none (.one (.sc (.sl 0 0))) [(0,.own 0 u8 (ck x))]) x_.1
theorem Ts(x:Int):aG Tryz.prog [] [] f88 (((ae (ah (aA .u64)) ag)).wr (x,())) ((ag).wr ()) [.auto,.aE]=
 End.need ((8:Int)=(8:Int)∧(0:Int)≤(8:Int)∧(8:Int)≤(70368744177664:Int)∧(8:Int)≤(70368744177664:Int)) (End.need ((0:Int)
 ≤(0:Int)∧(0:Int)<(8:Int)) (End.need ((0:Int)≤(1:Int)∧(1:Int)<(8:Int)) (End.need ((0:Int)≤(2:Int)∧(2:Int)<(8:
 Int)) (End.need ((0:Int)≤(3:Int)∧(3:Int)<(8:Int)) (End.need ((0:Int)≤(4:Int)∧(4:Int)<(8:Int)) (End.need ((0:Int)≤(5:
 Int)∧(5:Int)<(8:Int)) (End.need ((0:Int)≤(6:Int)∧(6:Int)<(8:Int)) (End.need ((0:Int)≤(7:Int)∧(7:Int)<(8:Int))
 (End.leaf (LV.one (VV.sc (SV.sl (0:Nat) (0:Nat)))) [some (Item.own (0:Nat) (Ty.int IntKind.u8) (((((((((List.replicate (8:Nat) (0:Int)).set
 (0:Nat) (IntKind.u8.wrap (shr u64 x (56:Int)))).set (1:Nat) (IntKind.u8.wrap (shr u64 x (48:Int)))).set (2:Nat)
 (IntKind.u8.wrap (shr u64 x (40:Int)))).set (3:Nat) (IntKind.u8.wrap (shr u64 x (32:Int)))).set (4:Nat) (IntKind.u8.wrap (shr
 u64 x (24:Int)))).set (5:Nat) (IntKind.u8.wrap (shr u64 x (16:Int)))).set (6:Nat) (IntKind.u8.wrap (shr u64 x (8:
 Int)))).set (7:Nat) (IntKind.u8.wrap (shr u64 x (0:Int)))))]))))))))):=by kernel_rfl
theorem Nl:Tq.Ok Tryz.prog 88:=by
 refine(an.aN call88 fun x_ y_ Q H_=>?_).sym;obtain⟨x,_⟩:=x_;have hq:=H_.2;refine(ar mixed ax func88 rfl (LT:= []) (ks:= [.auto,.aE]) (aH.nil _)).use (D:= [(0,.own 0 u8 (ck x))]) ?_ hq;show(aG _ _ _ _ (((ae (ah (aA .u64)) ag)).wr (x,())) ((ag).wr ()) _).sat _;rw[Ts];exact⟨by omega,by omega,by omega,by omega,by omega,by omega,by omega,by omega,by omega,rfl,rfl⟩
abbrev atV:Func:=f90
abbrev Tt:List (FuncId×an):= [(143,Xy),(144,ai9)]
theorem FA:∀p∈Tt,p.2.Ok Tryz.prog p.1:=aj abf (aj aja ax)
abbrev awq:aM (List LV) (List Int×List Int×Unit):=ae (uA .u64 8) (ae (ah (fh false false u8)) ag)
abbrev ovC:aM (List LV) (List Int×Unit):=(jk 1 (ae (ah (fh false false u8)) (ai (ah (aC 0 0)) (jk 1 (ai (ah (aC 1 0)) (jk 17 ag))))))
abbrev aA6:Wk:=.fr (cu 22 [(1,.al),(2,.al),(4,.al)])
abbrev ovX:aM (List LV) (Unit):=(jk 2 (ai (ah (aC 0 0)) (jk 1 (ai (ah (aC 1 0)) (jk 17 ag)))))
abbrev aFC:Wk:=.fr (cu 22 [(2,.al),(4,.al)])
abbrev ovH:aM Hp (List Int×List Int×Unit):=ae (gL 118 .u64 8) (ae (gL 118 .u64 8) ag)
def ovW:Exit→List Wk
 | .normal=> [aA6,.auto]
 | .exit 0=> [aFC,.auto]
 |_=> []
theorem awr(b s r:List Int):cO Tryz.prog Tt [] atV 0 [] ovW ((aS ovC ovH).wr ((b,()),(s,r,())))=
 aK.ite (decide ((128:Int)≤(↑b.length:Int))) (aK.need ((0:Int)≤(0:Int)∧(0:Int)≤(128:Int)∧(128:Int)≤(↑b.length:Int))
 (aK.need ((List.take (128:Nat) (List.drop (0:Nat) b)).length=(128:Nat)) (aK.need (s.length=(8:Nat)∧(16:Nat)=(16:Nat)) (aK.need
 ((0:Int)≤(128:Int)∧(128:Int)≤(↑b.length:Int)∧(↑b.length:Int)≤(↑b.length:Int)) (aK.leaf Exit.normal ((aS ovC ovH).wr ((List.take
 ((↑b.length:Int)-(128:Int)).toNat (List.drop (128:Nat) b),PUnit.unit),qE s (jf (List.take (128:Nat) (List.drop (0:Nat) b))),r,
 PUnit.unit))))))) (aK.leaf (Exit.exit (0:Nat)) ((aS ovX ovH).wr (PUnit.unit,s,r,PUnit.unit))):=by kernel_rfl
def wa:Nat→List Int→List Int→List Int
 |0,s,_=>s
 |k+1,s,b=>wa k (qE s (jf (b.take 128))) (b.drop 128)
def mq(s b:List Int):List Int:=wa (b.length/128) s b
theorem Tu{s b:List Int}(h:128≤b.length):mq s b=mq (qE s (jf (b.take 128))) (b.drop 128):=by
 unfold mq;have e:b.length/128=(b.drop 128).length/128+1:=by rw[List.length_drop];omega
 rw[e];rfl
theorem abm{s b:List Int}(h:b.length<128):mq s b=s:=by
 unfold mq;rw[show b.length/128=0 from by omega];rfl
def ovF(x:(List Int×Unit)×List Int×List Int×Unit):aK:=
 .need (x.2.1.length=8) (.leaf (.exit 0) ((aS ovX ovH).wr ((),(mq x.2.1 x.1.1,x.2.2.1,()))))
theorem apz(x):Ex Tryz.prog [] (.loop (aO atV 0)) ((aS ovC ovH).wr x) (ovF x):=by
 obtain⟨⟨b,_⟩,s,r,_⟩:=x;refine Ex.need fun h1=>?_;simp only at h1
 refine yY mixed FA (LT:= []) (ws:=ovW) (hp:= []) (aH.nil _) (fun x:List Int×List Int=>x.1.length) (fun x:List Int×List Int=>(aS ovC ovH).wr ((x.1,()),(x.2,r,()))) (fun x=>x.2.length=8)
  (fun x=>.leaf (.exit 0) ((aS ovX ovH).wr ((),(mq x.2 x.1,r,())))) (fun x _=>awr x.1 x.2 r) (fun x R hh hs=>?_) (b,s) h1
 obtain⟨b,s⟩:=x;simp only at hh hs ⊢;refine⟨fun hb=>?_,fun hb=>?_⟩
 ·have gV:128≤b.length:=by have:=of_decide_eq_true hb;omega
  have e1:List.take 128 (List.drop 0 b)=b.take 128:=by rw[List.drop_zero]
  have e2:List.take ((b.length:Int)-128).toNat (List.drop 128 b)=b.drop 128:=by rw[List.take_of_length_le (by simp;omega)]
  rw[e1,e2];rw[Tu gV]at hs;exact⟨by omega,by simp;omega,⟨hh,trivial⟩,by omega,.inl ⟨rfl,(b.drop 128,qE s (jf (b.take 128))),rfl,y9 _ _,by simp;omega,hs⟩⟩
 ·have gV:b.length<128:=by have:=of_decide_eq_false hb;omega
  rw[abm gV]at hs;exact .inr ⟨by simp,hs⟩
abbrev aA7:dG:= [(0,dc (aS ovC ovH) 0 [aA6,.eG 1 0 8 .u64,.auto] ovF)]
def ajm:an:=an.cl [none,some u8] (awq) (ag) fun x_ y_=>(fun(s b:List Int)=>.leaf (some (s.length=8)) (dO .u64 8 (mq s b)) []) x_.1 x_.2.1
theorem Tv(s b:List Int):aG Tryz.prog Tt aA7 f90 ((awq).wr (s,b,())) ((ag).wr ()) [.fr [.sym],.auto]=
 End.need (s.length=(8:Nat)) (End.leaf (LV.one (VV.agg [SV.arr (Ty.int u64) (8:Nat) (mq s b)])) []):=by kernel_rfl
theorem ajn:ajm.Ok Tryz.prog 90:=by
 refine(an.aN call90 fun x_ y_ Q H_=>?_).sym;obtain⟨s,b,_⟩:=x_;obtain⟨hn,hq⟩:=H_;have hn:s.length=8:=hn;refine(ar mixed FA func90 rfl (LT:=aA7) (ks:= [.fr [.sym],.auto]) (aH.bK (js rfl (bD (hp:= []) apz) jt))).use (D:= []) ?_ hq;show(aG _ _ _ _ ((awq).wr (s,b,())) ((ag).wr ()) _).sat _;rw[Tv];exact⟨hn,rfl,rfl⟩
def XB:an:=an.cl [] ((ae (uA .u64 8) ag)) (ag) fun x_ y_=>(fun(s:List Int)=>.leaf none (.one (.sc (.sl 0 0))) [(0,.own 0 u8 (fb s))]) x_.1
theorem Nm(s:List Int):aG Tryz.prog [(88,Tq)] [] f142 (((ae (uA .u64 8) ag)).wr (s,())) ((ag).wr ()) [.auto,.aE]=
 End.need ((8:Nat)≤(70368744177664:Nat)∧(8:Nat)≤(70368744177664:Nat)) (End.need ((16:Nat)≤(70368744177664:Nat)∧(16:Nat)≤
 (70368744177664:Nat)) (End.need ((24:Nat)≤(70368744177664:Nat)∧(24:Nat)≤(70368744177664:Nat)) (End.need ((32:Nat)≤(70368744177664:
 Nat)∧(32:Nat)≤(70368744177664:Nat)) (End.need ((40:Nat)≤(70368744177664:Nat)∧(40:Nat)≤(70368744177664:Nat)) (End.need ((48:Nat)
 ≤(70368744177664:Nat)∧(48:Nat)≤(70368744177664:Nat)) (End.need ((56:Nat)≤(70368744177664:Nat)∧(56:Nat)≤(70368744177664:Nat))
 (End.need ((64:Nat)≤(70368744177664:Nat)∧(64:Nat)≤(70368744177664:Nat)) (End.leaf (LV.one (VV.sc (SV.sl (0:Nat) (0:Nat)))) [some
 (Item.own (0:Nat) (Ty.int IntKind.u8) (ck (s.getD (0:Nat) (0:Int))++ck (s.getD (1:Nat) (0:Int))++ck (s.getD (2:Nat) (0:
 Int))++ck (s.getD (3:Nat) (0:Int))++ck (s.getD (4:Nat) (0:Int))++ck (s.getD (5:Nat) (0:Int))++ck (s.getD (6:Nat)
 (0:Int))++ck (s.getD (7:Nat) (0:Int))))])))))))):=by kernel_rfl
theorem abn:XB.Ok Tryz.prog 142:=by
 refine(an.aN call142 fun x_ y_ Q H_=>?_).sym;obtain⟨s,_⟩:=x_;have hq:=H_.2;refine(ar mixed ((aj Nl ax)) func142 rfl (LT:= []) (ks:= [.auto,.aE]) (aH.nil _)).use (D:= [(0,.own 0 u8 (fb s))]) ?_ hq;show(aG _ _ _ _ (((ae (uA .u64 8) ag)).wr (s,())) ((ag).wr ()) _).sat _;rw[Nm];exact⟨by omega,by omega,by omega,by omega,by omega,by omega,by omega,by omega,rfl,rfl⟩
abbrev aws:Func:=f89
abbrev flC:aM (List LV) (Int×Unit):=(jk 2 (ai (ah (aC 0 0)) (ai (ah (aC 1 0)) (ai (ah (ke 2 0)) (ae (ah (aA .i64)) (jk 14 ag))))))
abbrev aA9:Wk:=.fr (cu 20 [(2,.al),(3,.al),(4,.al),(5,.sym)])
abbrev flX:aM (List LV) (Unit):=(jk 2 (ai (ah (aC 0 0)) (ai (ah (aC 1 0)) (jk 16 ag))))
abbrev aFE:Wk:=.fr (cu 20 [(2,.al),(3,.al)])
abbrev flH:aM Hp (List Int×List Int×List Int×Unit):=ae (gL 41 .u8 64) (ae (gL 41 .u8 64) (ae (bS 0 u8) ag))
abbrev awt:aM Hp (List Int×List Int×Unit):=ae (gL 41 .u8 64) (ae (gL 41 .u8 64) ag)
def flW:Exit→List Wk
 | .normal=> [aA9,.auto]
 | .exit 0=> [aFE,.auto]
 |_=> []
theorem awu(i:Int)(r o b:List Int):cO Tryz.prog [] [] aws 0 [] flW ((aS flC flH).wr ((i,()),(r,o,b,())))=
 aK.ite (decide (i<(64:Int))) (aK.need ((0:Int)≤i∧i<(↑b.length:Int)) (aK.need ((0:Int)≤i∧i<(64:Int)) (aK.leaf Exit.normal
 ((aS flC flH).wr ((i64.wrap (i+(1:Int)),PUnit.unit),r,o.set ((0:Nat)+i.toNat) (b.getD i.toNat (0:Int)),b,PUnit.unit)))))
 (aK.leaf (Exit.exit (0:Nat)) ((aS flX awt).wr (PUnit.unit,r,o,PUnit.unit))):=by kernel_rfl
def flF(x:(Int×Unit)×List Int×List Int×List Int×Unit):aK:=
 .need (x.1.1=0∧x.2.2.1.length=64∧x.2.2.2.1.length=64) (.leaf (.exit 0) ((aS flX awt).wr ((),(x.2.1,x.2.2.2.1,()))))
theorem apA(x):Ex Tryz.prog [] (.loop (aO aws 0)) ((aS flC flH).wr x) (flF x):=by
 obtain⟨⟨i,_⟩,r,o,b,_⟩:=x;refine Ex.need fun⟨h1,h2,h3⟩=>?_;simp only at h1 h2 h3;subst h1
 have key:=dN (fn:=aws) (id:=0) (j:=0) (ws:=flW) (hp:= []) mixed ax (aH.nil _) 64 (fun k o=>(aS flC flH).wr (((k:Int),()),(r,o,b,()))) (fun o=>(aS flX awt).wr ((),(r,o,()))) (fun k o=>o.set k (b.getD k 0)) (fun _ o=>o.length=64)
  (fun k o R hk hm hn hx=>?_) (fun k o hk hh=>by simpa using hh) 0 o (by omega) h2
 ·rw[Nat.sub_zero,jJ _ h2,Lp h3]at key;exact key
 rw[awu];refine⟨fun hb=>?_,fun hb=>?_⟩
 ·have jz:k<64:=by have:=of_decide_eq_true hb;omega
  rw[cJ k (by omega)];simp only[Int.toNat_natCast,Nat.zero_add];exact⟨by omega,by omega,hn jz⟩
 ·have:k=64:=by have:=of_decide_eq_false hb;omega
  exact hx this
abbrev aBb:dG:= [(0,dc (aS flC flH) 0 [aA9,.auto,.aE] flF)]
abbrev atX:List (FuncId×an):= [(142,XB)]
theorem ajo:∀p∈atX,p.2.Ok Tryz.prog p.1:=aj abn ax
def ajp:an:=an.cl [] ((ae (uA .u64 8) ag)) (ag) fun x_ y_=>(fun(s:List Int)=>.leaf none (dO .u8 64 (fb s)) []) x_.1
theorem Tw(s:List Int):aG Tryz.prog atX aBb f89 (((ae (uA .u64 8) ag)).wr (s,())) ((ag).wr ()) [.fr [.sym],.auto]=
 End.need ((0:Int)=(0:Int)∧(64:Nat)=(64:Nat)∧(64:Nat)=(64:Nat)) (End.leaf (LV.one (VV.agg [SV.arr (Ty.int IntKind.u8) (64:Nat)
 (fb s)])) []):=by kernel_rfl
theorem ajq:ajp.Ok Tryz.prog 89:=by
 refine(an.aN call89 fun x_ y_ Q H_=>?_).sym;obtain⟨s,_⟩:=x_;have hq:=H_.2;refine(ar mixed ajo func89 rfl (LT:=aBb) (ks:= [.fr [.sym],.auto]) (aH.bK (js rfl (bD (hp:= []) apA) jt))).use (D:= []) ?_ hq;show(aG _ _ _ _ (((ae (uA .u64 8) ag)).wr (s,())) ((ag).wr ()) _).sat _;rw[Tw];exact⟨⟨rfl,rfl,rfl⟩,rfl,rfl⟩
abbrev aBc:Func:=f45
abbrev ajr:List (FuncId×an):= [(88,Tq),(91,Xx),(90,ajm),(89,ajp)]
abbrev roC:aM (List LV) (List Int×Unit):=(ae (ah (fh false false u8)) (jk 1 (ai (ah (aC 0 0)) (ai (ah (ke 1 0)) (jk 23 ag)))))
abbrev awv:Wk:=.fr (cu 27 [(0,.al),(2,.al),(3,.al)])
abbrev roH:aM Hp (List Int×List Int×Unit):=ae (gL 41 .u8 64) (ae (bS 0 u8) ag)
def roW:Exit→List Wk
 | .normal=> [awv,.auto,.aE]
 | .exit 0=> [awv,.auto,.aE]
 |_=> []
theorem aww(b r l:List Int):cO Tryz.prog ajr [] aBc 0 [] roW ((aS roC roH).wr ((b,()),(r,l,())))=
 aK.ite ((↑l.length:Int).tmod (128:Int)!=(112:Int)) (aK.need ((l.length+(1:Nat))*(1:Nat)≤(70368744177664:Nat)∧l.length+(1:
 Nat)≤(70368744177664:Nat)) (aK.leaf Exit.normal ((aS roC roH).wr ((b,PUnit.unit),r,l++ [(0:Int)],PUnit.unit)))) (aK.leaf (Exit.exit (0:
 Nat)) ((aS roC roH).wr ((b,PUnit.unit),r,l,PUnit.unit))):=by kernel_rfl
theorem Nn:∀p∈ajr,p.2.Ok Tryz.prog p.1:=aj Nl (aj abe (aj ajn (aj ajq ax)))
def pG(l:List Int):List Int:=l++List.replicate ((112-(l.length:Int))%128).toNat 0
theorem abo{l:List Int}(hz:¬ (l.length:Int)%128=112):pG (l++ [0])=pG l∧((112-((l++ [0]).length:Int))%128).toNat<((112-(l.length:Int))%128).toNat:=by
 have e1:((l++ [(0:Int)]).length:Int)=l.length+1:=by simp
 have e2:((112-(l.length:Int))%128).toNat=((112-((l++ [(0:Int)]).length:Int))%128).toNat+1:=by rw[e1];omega
 refine⟨?_,by omega⟩;unfold pG;rw[e2,List.replicate_succ];simp
theorem ajs{l:List Int}(hz:(l.length:Int)%128=112):pG l=l:=by
 have e:((112-(l.length:Int))%128).toNat=0:=by omega
 unfold pG;rw[e];simp
def roF(x:(List Int×Unit)×List Int×List Int×Unit):aK:=
 .need (x.2.2.1.length≤35184372088832) (.leaf (.exit 0) ((aS roC roH).wr (x.1,(x.2.1,pG x.2.2.1,()))))
theorem apD(x):Ex Tryz.prog [] (.loop (aO aBc 0)) ((aS roC roH).wr x) (roF x):=by
 obtain⟨⟨b,_⟩,r,l,_⟩:=x;refine Ex.need fun h1=>?_;simp only at h1
 refine yY mixed Nn (LT:= []) (ws:=roW) (hp:= []) (aH.nil _) (fun l:List Int=>((112-(l.length:Int))%128).toNat) (fun l:List Int=>(aS roC roH).wr ((b,()),(r,l,()))) (fun l=>(l.length:Int)+(112-(l.length:Int))%128<70368744177664)
  (fun l=>.leaf (.exit 0) ((aS roC roH).wr ((b,()),(r,pG l,())))) (fun l _=>aww b r l) (fun l R hh hs=>?_) l (by omega)
 have e:(l.length:Int).tmod 128=(l.length:Int)%128:=Int.tmod_eq_emod_of_nonneg (by omega);rw[e];refine⟨fun hb=>?_,fun hb=>?_⟩
 ·have gV:¬ (l.length:Int)%128=112:=by simpa using hb
  obtain⟨k1,k2⟩:=abo gV;have e1:((l++ [(0:Int)]).length:Int)=l.length+1:=by simp
  refine⟨by omega,.inl ⟨rfl,l++ [0],rfl,by rw[e1];omega,k2,?_⟩⟩;show(aK.leaf (.exit 0) ((aS roC roH).wr ((b,()),(r,pG (l++ [0]),())))).sat R;rw[k1];exact hs
 ·have gV:(l.length:Int)%128=112:=by simpa using hb
  rw[ajs gV]at hs;exact .inr ⟨by simp,hs⟩
abbrev aBd:dG:= [(0,dc (aS roC roH) 0 [awv,.auto,.aE] roF)]
def kO(b:List Int):List Int:=fb (mq oG (pG (b++ [128])++List.replicate 8 0++ck (u64.wrap (8*u64.wrap b.length))))
def awx:an:=an.cl [some u8] (bA) (ag) fun x_ y_=>(fun(b:List Int)=>.leaf (some (b.length≤17592186044416)) (dO .u8 64 (kO b)) []) x_.1
theorem ajt(b:List Int):aG Tryz.prog ajr aBd f45 ((bA).wr (b,())) ((ag).wr ()) [.fr [.sym],.auto]=
 End.need (b.length*(1:Nat)≤(70368744177664:Nat)∧b.length≤(70368744177664:Nat)) (End.need ((b.length+(1:Nat))*(1:Nat)≤
 (70368744177664:Nat)∧b.length+(1:Nat)≤(70368744177664:Nat)) (End.need ((b++ [(128:Int)]).length≤(35184372088832:Nat)) (End.need ((0
 :Int)≤(8:Int)∧((pG (b++ [(128:Int)])).length+(8:Nat))*(1:Nat)≤(70368744177664:Nat)∧(pG (b++ [(128:Int)])).length+(8:
 Nat)≤(70368744177664:Nat)) (End.need (((pG (b++ [(128:Int)])++List.replicate (8:Nat) (0:Int)).length+(8:Nat))*(1:Nat)≤
 (70368744177664:Nat)∧(pG (b++ [(128:Int)])++List.replicate (8:Nat) (0:Int)).length+(8:Nat)≤(70368744177664:Nat)) (End.need ((8:
 Nat)=(8:Nat)) (End.leaf (LV.one (VV.agg [SV.arr (Ty.int IntKind.u8) (64:Nat) (fb (mq oG (pG (b++ [(128:Int)])++List.replicate
 (8:Nat) (0:Int)++ck (u64.wrap ((8:Int)*u64.wrap (↑b.length:Int))))))])) [])))))):=by kernel_rfl
theorem aju:awx.Ok Tryz.prog 45:=by
 refine(an.aN call45 fun x_ y_ Q H_=>?_).sym;obtain⟨b,_⟩:=x_;obtain⟨hn,hq⟩:=H_;have hn:b.length≤17592186044416:=hn;refine(ar mixed Nn func45 rfl (LT:=aBd) (ks:= [.fr [.sym],.auto]) (aH.bK (js rfl (bD (hp:= []) apD) jt))).use (D:= []) ?_ hq;show(aG _ _ _ _ ((bA).wr (b,())) ((ag).wr ()) _).sat _;rw[ajt];have e:(pG (b++ [128])).length≤b.length+129:=by unfold pG;simp;omega
 exact⟨by omega,by omega,by simp;omega,by omega,by simp;omega,rfl,rfl,rfl⟩
theorem lO(k:Nat)(s b:List Int):wa (k+1) s b=wa k (qE s (jf (b.take 128))) (b.drop 128):=rfl
theorem Di(s b:List Int):wa 0 s b=s:=rfl
theorem tr:∀ (k:Nat) (s b c:List Int),b.take (128*k)=c.take (128*k)→128*k≤b.length→128*k≤c.length→wa k s b=wa k s c
 |0,_,_,_,_,_,_=>rfl
 |k+1,s,b,c,h,hb,hc=>by
  have e1:b.take 128=c.take 128:=by
   have:=congrArg (List.take 128) h;rw[List.take_take,List.take_take,Nat.min_eq_left (by omega)]at this;exact this
  have e2:(b.drop 128).take (128*k)=(c.drop 128).take (128*k):=by
   have:=congrArg (List.drop 128) h;rw[List.drop_take,List.drop_take,show 128*(k+1)-128=128*k from by omega]at this;exact this
  rw[lO,lO,e1];exact tr k _ _ _ e2 (by rw[List.length_drop];omega) (by rw[List.length_drop];omega)
theorem Dj:∀ (k:Nat) (s a b:List Int),a.length=128*k→b.length=128→wa (k+1) s (a++b)=qE (wa k s a) (jf b)
 |0,s,a,b,ha,hb=>by
  have:a= []:=List.eq_nil_of_length_eq_zero (by omega);subst this;rw[lO,Di,Di,List.nil_append,List.take_of_length_le (by omega)]
 |k+1,s,a,b,ha,hb=>by
  rw[lO (k+1),lO k s a,List.take_append_of_le_length (by omega),List.drop_append_of_le_length (by omega)];exact Dj k _ (a.drop 128) b (by rw[List.length_drop];omega) hb
structure HP (h:HH) (row:List Int):Prop where
 ok:tq h
 n:h.n=row.length
 s:h.s=mq oG row
 wait:h.wait.take (row.length%128)=row.drop (row.length/128*128)
theorem HP.byte{h:HH}{row:List Int}(hp:HP h row)(c:Int):HP (mo h c) (row++ [c]):=by
 obtain⟨h0,h1,h2,h3⟩:=hp;have hw:=h0.wait;have hn:(h.n%128).toNat=row.length%128:=by rw[h1];omega
 have sP:(h.wait.set (row.length%128) c).take (row.length%128+1)=row.drop (row.length/128*128)++ [c]:=by
  rw[List.take_add_one,List.take_set_of_le (Nat.le_refl _),h3];simp[show row.length%128<h.wait.length by omega]
 refine⟨Df h0 c,?_,?_,?_⟩
 ·rw[Jg,h1];simp
 ·unfold mo
  by_cases hz:(h.n+1)%128=0
  ·rw[if_pos hz,hn];simp only;have hl:row.length%128=127:=by omega
   have aBe:h.wait.set (row.length%128) c=row.drop (row.length/128*128)++ [c]:=by
    rw[← sP,List.take_of_length_le (by simp;omega)]
   have hk:(row++ [c]).length/128=row.length/128+1:=(by simp;omega);rw[aBe,h2];unfold mq;rw[hk];have e:row++ [c]=row.take (row.length/128*128)++(row.drop (row.length/128*128)++ [c]):=(by rw[← List.append_assoc,List.take_append_drop]);rw[e,Dj _ _ _ _ (by rw[List.length_take];omega) (by simp;omega)]
   congr 1
   exact tr _ _ _ _ (by rw[List.take_take];congr 1;omega) (by omega) (by rw[List.length_take];omega)
  ·rw[if_neg hz];simp only;have hk:(row++ [c]).length/128=row.length/128:=(by simp;omega);rw[h2];unfold mq;rw[hk];exact tr _ _ _ _ (by rw[List.take_append_of_le_length (by omega)]) (by omega) (by simp;omega)
 ·have hwb:(mo h c).wait=h.wait.set (row.length%128) c:=by unfold mo;split<;>simp only[hn]
  rw[hwb]
  by_cases hz:(row.length+1)%128=0
  ·have e1:(row++ [c]).length%128=0:=(by simpa using hz);have e2:(row++ [c]).length/128*128=(row++ [c]).length:=(by omega);rw[e1,e2,List.drop_length];rfl
  ·have e1:(row++ [c]).length%128=row.length%128+1:=(by simp;omega);have e2:(row++ [c]).length/128*128=row.length/128*128:=(by simp;omega);rw[e1,e2,sP,List.drop_append_of_le_length (by omega)]
theorem HP.put:∀ (b:List Int) {h:HH} {row:List Int},HP h row→HP (cq h b) (row++b)
 | [],h,row,hp=>by simpa [cq]using hp
 |c::b,h,row,hp=>by
  have:=HP.put b (hp.byte c);rw[List.append_assoc]at this;exact this
theorem HP.new:HP x8 []:=⟨Jk,rfl,rfl,rfl⟩
theorem HP.of(b:List Int):HP (cq x8 b) b:=by simpa using HP.new.put b
theorem awy:ck 0=List.replicate 8 0:=by decide
theorem Tx{b:List Int}(hb:b.length≤17592186044416):gp b=kO b:=by
 unfold gp apw atT kO;have hn:(cq x8 b).n=b.length:=(HP.of b).n;have hw:u64.wrap (b.length:Int)=b.length:=wrap_u64 (by omega) (by omega)
 have e1:shr .u64 (b.length:Int) 61=0:=by
  have:=c9 .u64 (b.length:Int) 61 (by decide);rw[show((61:Nat):Int)=61 from rfl]at this;rw[this]
  exact Int.ediv_eq_zero_of_lt (by omega) (by have:(2 ^ 61:Nat)=2305843009213693952:=by decide
                                              omega)
 have e2:shl .u64 (b.length:Int) 3=u64.wrap (8*(b.length:Int)):=by
  have:=gd .u64 (b.length:Int) 3 (by decide);rw[show((3:Nat):Int)=3 from rfl]at this;rw[this,Int.mul_comm];rfl
 rw[hn,hw,e1,e2,awy]
 have hp:mT (cq (cq x8 b) [128])=cq x8 (pG (b++ [128])):=by
  unfold mT pG;rw[← kp x8 b,kp x8 (b++ [128]) (List.replicate _ 0),(HP.of (b++ [128])).n]
 rw[hp,← kp,← kp,(HP.of _).s,List.append_assoc]
abbrev awz:Func:=f242
abbrev vaC:aM (List LV) (Int×List Int×Int×Int×Unit):=(jk 3 (ae (ah (aA .u64)) (jk 3 (ae (ah (fh false false u8)) (ae (ah (aA .i64)) (ae (ah (aA .i64)) (jk 13 ag)))))))
abbrev aBg:Wk:=.fr (cu 23 [(3,.sym),(7,.al),(8,.sym),(9,.sym)])
abbrev vaX:aM (List LV) (Int×Unit):=(jk 3 (ae (ah (aA .u64)) (jk 19 ag)))
abbrev aFG:Wk:=.fr (cu 23 [(3,.sym)])
def vaW:Exit→List Wk
 | .normal=> [aBg,.auto]
 | .exit 0=> [aFG,.auto]
 |_=> []
theorem awA(x:Int)(l:List Int)(n i:Int):cO Tryz.prog [] [] awz 0 [] vaW ((aS vaC ag).wr ((x,l,n,i,()),()))=
 aK.ite (decide (i<n)) (aK.need ((0:Int)≤i∧i<(↑l.length:Int)) (aK.need ((0:Int)≤i64.wrap ((8:Int)*i)) (aK.leaf
 Exit.normal ((aS vaC ag).wr ((bn u64 x (shl u64 (u64.wrap (l.getD i.toNat (0:Int))) (i64.wrap ((8:Int)*
 i))),l,n,i64.wrap (i+(1:Int)),PUnit.unit),PUnit.unit))))) (aK.leaf (Exit.exit (0:Nat)) ((aS vaX ag).wr ((x,PUnit.unit),
 PUnit.unit))):=by kernel_rfl
def vaF(x:(Int×List Int×Int×Int×Unit)×Unit):aK:=
 .need (x.1.1=0∧x.1.2.1.length=8∧ay x.1.2.1∧x.1.2.2.1=x.1.2.1.length∧x.1.2.2.2.1=0) (.leaf (.exit 0) ((aS vaX ag).wr ((bJ x.1.2.1,()),())))
theorem aBh{l:List Int}{k:Nat}(hl:ay l)(h8:l.length=8)(hk:k<8):
  bn .u64 (bJ (l.take k)) (shl .u64 (u64.wrap (l.getD k 0)) (i64.wrap (8*(k:Int))))=bJ (l.take (k+1)):=by
 have hc:By (l.getD k 0):=lf hl k
 have e0:l.take (k+1)=l.take k++ [l.getD k 0]:=by
  rw[List.take_add_one];simp[List.getD_eq_getElem?_getD,List.getElem?_eq_getElem (show k<l.length by omega)]
 have hlen:(l.take k).length=k:=by rw[List.length_take];omega
 obtain⟨r1,r2,_⟩:=fF (hl.take k) (by omega);rw[hlen]at r2;obtain⟨hc0,hc1⟩:=hc;have e1:i64.wrap (8*(k:Int))=((8*k:Nat):Int):=by rw[ao (by omega) (by omega)];omega
 have hpw:((2 ^ (8*k):Nat):Int)=256 ^ k:=by rw[Nat.pow_mul,Int.natCast_pow];rfl
 have hle:(256:Int) ^ k≤256 ^ 7:=by
  have:(256:Nat) ^ k≤256 ^ 7:=Nat.pow_le_pow_right (by omega) (by omega)
  exact_mod_cast this
 have h7:(256:Int) ^ 7=72057594037927936:=by decide
 have jB:(0:Int)<256 ^ k:=Int.pow_pos (by omega);have hmul:l.getD k 0*256 ^ k≤255*256 ^ k:=Int.mul_le_mul_of_nonneg_right (by omega) (by omega);have aBi:0≤l.getD k 0*256 ^ k:=Int.mul_nonneg hc0 (by omega)
 rw[e0,Fw (hl.take k) ⟨hc0,hc1⟩ (by omega),hlen,e1,wrap_u64 hc0 (by omega),gd .u64 _ _ (by show 8*k≤64;omega),hpw,wrap_u64 (by omega) (by omega),gY,
  ow (m:=8*k) aBi (by rw[hpw];exact Int.mul_emod_left _ _) r1 (by rw[hpw];exact r2) (by omega)]
 omega
theorem apE(x):Ex Tryz.prog [] (.loop (aO awz 0)) ((aS vaC ag).wr x) (vaF x):=by
 obtain⟨⟨y,l,n,i,_⟩,_⟩:=x;refine Ex.need fun⟨h1,h2,h3,h4,h5⟩=>?_;simp only at h1 h2 h3 h4 h5;subst h1 h4 h5
 have key:=dN (fn:=awz) (id:=0) (j:=0) (ws:=vaW) (hp:= []) mixed ax (aH.nil _) 8 (fun k (_:Unit)=>(aS vaC ag).wr ((bJ (l.take k),l,(l.length:Int),(k:Int),()),())) (fun _=>(aS vaX ag).wr ((bJ (l.take 8),()),())) (fun _ u=>u) (fun _ _=>True)
  (fun k u R hk _ hn hx=>?_) (fun _ _ _ _=>trivial) 0 () (by omega) trivial
 ·rw[List.take_of_length_le (show l.length≤8 by omega)]at key;exact key
 rw[awA];refine⟨fun hb=>?_,fun hb=>?_⟩
 ·have jz:k<8:=by have:=of_decide_eq_true hb;omega
  have e:=aBh h3 h2 jz;rw[Int.toNat_natCast,e,cJ k (by omega)];refine⟨by omega,?_,hn jz⟩;rw[ao (by omega) (by omega)];omega
 ·have:k=8:=by have:=of_decide_eq_false hb;omega
  subst this;exact hx rfl
abbrev aBj:dG:= [(0,dc (aS vaC ag) 0 [aBg,.auto] vaF)]
def ajv:an:=an.cl [some u8] (bA) (ag) fun x_ y_=>(fun(l:List Int)=>.leaf (some (8≤l.length∧ay l)) (nU (bJ (l.take 8))) []) x_.1
theorem Tz(l:List Int):aG Tryz.prog [] aBj f242 ((bA).wr (l,())) ((ag).wr ()) [.fr [.sym],.auto]=
 End.need ((0:Int)≤(0:Int)∧(0:Int)≤(8:Int)∧(8:Int)≤(↑l.length:Int)) (End.need ((0:Int)=(0:Int)∧(List.take (8:Nat)
 (List.drop (0:Nat) l)).length=(8:Nat)∧ay (List.take (8:Nat) (List.drop (0:Nat) l))∧(↑(List.take (8:Nat) (List.drop (0:Nat)
 l)).length:Int)=(↑(List.take (8:Nat) (List.drop (0:Nat) l)).length:Int)∧(0:Int)=(0:Int)) (End.leaf (LV.one (VV.sc (SV.int u64
 (SI.sym (bJ (List.take (8:Nat) (List.drop (0:Nat) l))))))) [])):=by kernel_rfl
theorem ajw:ajv.Ok Tryz.prog 242:=by
 refine(an.aN call242 fun x_ y_ Q H_=>?_).sym;obtain⟨l,_⟩:=x_;obtain⟨hn,hq⟩:=H_;have hn:8≤l.length∧ay l:=hn;refine(ar mixed ax func242 rfl (LT:=aBj) (ks:= [.fr [.sym],.auto]) (aH.bK (js rfl (bD (hp:= []) apE) jt))).use (D:= []) ?_ hq;show(aG _ _ _ _ ((bA).wr (l,())) ((ag).wr ()) _).sat _;rw[Tz];obtain⟨h1,h2⟩:=hn;rw[List.drop_zero];exact⟨by omega,⟨rfl,by simp;omega,h2.take 8,rfl,rfl⟩,rfl,rfl⟩
structure MM where
 ver:Int
 lh:Int
 len:Int
 list:List Int
 plain:List Int
abbrev cMM:aM (List SV) MM:=(z5 ag).kE (fun x=>⟨x.1,x.2.1,x.2.2.1,x.2.2.2.1,x.2.2.2.2.1⟩) (fun m=>(m.ver,m.lh,m.len,m.list,m.plain,())) (fun _=>rfl)
def mm0:MM:=⟨0,0,0,List.replicate 64 0,List.replicate 64 0⟩
abbrev aBk(r:MM×Bool):LV:=.cj [.agg (cMM.wr r.1),.sc (.bool (.sym r.2))]
def df(b:List Int):MM:=⟨bJ (b.take 8),bJ ((b.drop 8).take 8),bJ ((b.drop 16).take 8),(b.drop 24).take 64,(b.drop 88).take 64⟩
def gP(b:List Int):MM×Bool:=
 if b.length=152∧eC (df b).ver (df b).lh (df b).len=true then(df b,true)else(mm0,false)
def apF:an:=an.cl [some u8] (bA) (ag) fun x_ y_=>(fun(b:List Int)=>.leaf (some (ay b)) (aBk (gP b)) []) x_.1
theorem ajx(b:List Int):aG Tryz.prog [(242,ajv),(55,CJ)] [] f170 ((bA).wr (b,())) ((ag).wr ()) [.fr [.sym],.auto]=
 End.ite (((↑b.length:Int)!=(152:Int))==false) (End.need ((0:Int)≤(16:Int)∧(16:Int)≤(↑b.length:Int)∧(↑b.length:Int)≤
 (↑b.length:Int)) (End.need ((8:Nat)≤(List.take ((↑b.length:Int)-(16:Int)).toNat (List.drop (16:Nat) b)).length∧ay (List.take
 ((↑b.length:Int)-(16:Int)).toNat (List.drop (16:Nat) b))) (End.ite (decide ((131072:Int)<bJ (List.take (8:Nat) (List.take ((↑b.length:
 Int)-(16:Int)).toNat (List.drop (16:Nat) b))))) (End.leaf (LV.cj [VV.agg [SV.int u64 (SI.sym (0:Int)),SV.int u64 (SI.sym (0:
 Int)),SV.int i64 (SI.sym (0:Int)),SV.arr (Ty.int IntKind.u8) (64:Nat) (List.replicate (64:Nat) (0:Int)),SV.arr (Ty.int IntKind.u8)
 (64:Nat) (List.replicate (64:Nat) (0:Int))],VV.sc (SV.bool (SB.sym false))]) []) (End.need ((8:Nat)≤b.length∧ay b) (End.need ((0:Int)
 ≤(8:Int)∧(8:Int)≤(↑b.length:Int)∧(↑b.length:Int)≤(↑b.length:Int)) (End.need ((8:Nat)≤(List.take ((↑b.length:Int)-(8:
 Int)).toNat (List.drop (8:Nat) b)).length∧ay (List.take ((↑b.length:Int)-(8:Int)).toNat (List.drop (8:Nat) b))) (End.need ((0:Int)≤
 (16:Int)∧(16:Int)≤(↑b.length:Int)∧(↑b.length:Int)≤(↑b.length:Int)) (End.need ((8:Nat)≤(List.take ((↑b.length:Int)-(16:
 Int)).toNat (List.drop (16:Nat) b)).length∧ay (List.take ((↑b.length:Int)-(16:Int)).toNat (List.drop (16:Nat) b))) (End.need ((0:Int)
 ≤(24:Int)∧(24:Int)≤(↑b.length:Int)∧(↑b.length:Int)≤(↑b.length:Int)) (End.need ((64:Nat)≤(List.take ((↑b.length:Int)-(24:
 Int)).toNat (List.drop (24:Nat) b)).length) (End.need ((64:Nat)≤(List.take ((↑b.length:Int)-(24:Int)).toNat (List.drop (24:Nat)
 b)).length) (End.need ((0:Int)≤(88:Int)∧(88:Int)≤(↑b.length:Int)∧(↑b.length:Int)≤(↑b.length:Int)) (End.need ((64:Nat)≤
 (List.take ((↑b.length:Int)-(88:Int)).toNat (List.drop (88:Nat) b)).length) (End.need ((64:Nat)≤(List.take ((↑b.length:Int)-(88:
 Int)).toNat (List.drop (88:Nat) b)).length) (End.ite (!eC (bJ (List.take (8:Nat) b)) (bJ (List.take (8:Nat) (List.take ((↑b.length:Int)
 -(8:Int)).toNat (List.drop (8:Nat) b)))) (i64.wrap (bJ (List.take (8:Nat) (List.take ((↑b.length:Int)-(16:Int)).toNat (List.drop
 (16:Nat) b)))))) (End.leaf (LV.cj [VV.agg [SV.int u64 (SI.sym (0:Int)),SV.int u64 (SI.sym (0:Int)),SV.int i64 (SI.sym
 (0:Int)),SV.arr (Ty.int IntKind.u8) (64:Nat) (List.replicate (64:Nat) (0:Int)),SV.arr (Ty.int IntKind.u8) (64:Nat) (List.replicate (64:
 Nat) (0:Int))],VV.sc (SV.bool (SB.sym false))]) []) (End.leaf (LV.cj [VV.agg [SV.int u64 (SI.sym (bJ (List.take (8:Nat) b))),SV.int
 u64 (SI.sym (bJ (List.take (8:Nat) (List.take ((↑b.length:Int)-(8:Int)).toNat (List.drop (8:Nat) b))))),SV.int i64 (SI.sym
 (i64.wrap (bJ (List.take (8:Nat) (List.take ((↑b.length:Int)-(16:Int)).toNat (List.drop (16:Nat) b)))))),SV.arr (Ty.int
 IntKind.u8) (64:Nat) (List.take (64:Nat) (List.drop (0:Nat) (List.take ((↑b.length:Int)-(24:Int)).toNat (List.drop (24:Nat) b)))),SV.arr
 (Ty.int IntKind.u8) (64:Nat) (List.take (64:Nat) (List.drop (0:Nat) (List.take ((↑b.length:Int)-(88:Int)).toNat (List.drop (88:Nat)
 b))))],VV.sc (SV.bool (SB.sym true))]) [])))))))))))))))) (End.leaf (LV.cj [VV.agg [SV.int u64 (SI.sym (0:Int)),SV.int u64 (SI.sym
 (0:Int)),SV.int i64 (SI.sym (0:Int)),SV.arr (Ty.int IntKind.u8) (64:Nat) (List.replicate (64:Nat) (0:Int)),SV.arr (Ty.int
 IntKind.u8) (64:Nat) (List.replicate (64:Nat) (0:Int))],VV.sc (SV.bool (SB.sym false))]) []):=by kernel_rfl
theorem awC:apF.Ok Tryz.prog 170:=by
 refine(an.aN call170 fun x_ y_ Q H_=>?_).sym;obtain⟨b,_⟩:=x_;obtain⟨hn,hq⟩:=H_;have hn:ay b:=hn;refine(ar mixed ((aj ajw (aj MD ax))) func170 rfl (LT:= []) (ks:= [.fr [.sym],.auto]) (aH.nil _)).use (D:= []) ?_ hq;show(aG _ _ _ _ ((bA).wr (b,())) ((ag).wr ()) _).sat _;rw[ajx];refine⟨fun h0=>?_,fun h0=>?_⟩
 ·have hl:b.length=152:=by have:((b.length:Int)!=152)=false:=by simpa using h0
                           simp at this;omega
  have e:∀k:Nat,k≤152→List.take ((b.length:Int)-(k:Int)).toNat (List.drop k b)=b.drop k:=fun k hk=>by rw[List.take_of_length_le (by rw[List.length_drop];omega)]
  have e8:List.take ((b.length:Int)-8).toNat (List.drop 8 b)=b.drop 8:=e 8 (by omega);have e16:List.take ((b.length:Int)-16).toNat (List.drop 16 b)=b.drop 16:=e 16 (by omega);have e24:List.take ((b.length:Int)-24).toNat (List.drop 24 b)=b.drop 24:=e 24 (by omega);have e88:List.take ((b.length:Int)-88).toNat (List.drop 88 b)=b.drop 88:=e 88 (by omega);rw[e8,e16,e24,e88];obtain⟨r1,r2,_⟩:=fF ((hn.drop 16).take 8) (by rw[List.length_take];omega);refine⟨by omega,⟨by simp;omega,hn.drop 16⟩,fun h1=>?_,fun h1=>?_⟩
  ·have h1:=of_decide_eq_true h1
   have eg:gP b=(mm0,false):=if_neg fun⟨_,hr⟩=>by
    have:=(la hr).2;simp only[df]at this;omega
   rw[eg];exact⟨rfl,rfl⟩
  ·have h1:=of_decide_eq_false h1;have ew:i64.wrap (bJ ((b.drop 16).take 8))=bJ ((b.drop 16).take 8):=ao (by omega) (by omega);rw[ew];refine⟨⟨by omega,hn⟩,by omega,⟨by simp;omega,hn.drop 8⟩,by omega,⟨by simp;omega,hn.drop 16⟩,by omega,by simp;omega,by simp;omega,by omega,by simp;omega,by simp;omega,fun h2=>?_,fun h2=>?_⟩
   ·have eg:gP b=(mm0,false):=if_neg fun⟨_,hr⟩=>by
     have rp:eC (bJ (b.take 8)) (bJ ((b.drop 8).take 8)) (bJ ((b.drop 16).take 8))=true:=hr;rw[rp]at h2;cases h2
    rw[eg];exact⟨rfl,rfl⟩
   ·have VT:eC (bJ (b.take 8)) (bJ ((b.drop 8).take 8)) (bJ ((b.drop 16).take 8))=true:=(by simpa using h2);have eg:gP b=(df b,true):=if_pos ⟨hl,VT⟩;rw[eg];exact⟨rfl,rfl⟩
 ·have hl:¬b.length=152:=fun e=>by rw[e]at h0;simp at h0
  have eg:gP b=(mm0,false):=if_neg fun⟨h,_⟩=>hl h;rw[eg];exact⟨rfl,rfl⟩
abbrev awD:Func:=f172
abbrev rgC:aM (List LV) (List Int×Int×Unit):=(ae (ah (fh false false u8)) (jk 1 (ai (ah (aC 0 0)) (jk 1 (ai (ah (aC 1 0)) (ae (ah (aA .i64)) (jk 43 ag)))))))
abbrev aBm:Wk:=.fr (cu 49 [(0,.al),(2,.al),(4,.al),(5,.sym)])
abbrev rgX:aM (List LV) (List Int×Unit):=(ae (ah (fh false false u8)) (jk 1 (ai (ah (aC 0 0)) (jk 1 (ai (ah (aC 1 0)) (jk 44 ag))))))
abbrev aFI:Wk:=.fr (cu 49 [(0,.al),(2,.al),(4,.al)])
abbrev rgH:aM Hp (MM×MM×Unit):=ae (dH 43 cMM) (ae (dH 43 cMM) ag)
abbrev abp(i:Nat):Wk:=.aW i [.sym,.sym,.sym,.al,.al]
def rgW:Exit→List Wk
 | .normal=> [aBm,abp 0,abp 1,.auto]
 | .exit 0=> [aFI,abp 0,abp 1,.auto]
 |_=> []
theorem awE(b:List Int)(i:Int)(r m:MM):cO Tryz.prog [] [] awD 0 [] rgW ((aS rgC rgH).wr ((b,i,()),(r,m,())))=
 aK.ite (decide (i<(64:Int))) (aK.need ((0:Int)≤i64.wrap ((24:Int)+i)∧i64.wrap ((24:Int)+i)<(↑b.length:Int))
 (aK.need ((0:Int)≤i∧i<(64:Int)) (aK.need ((0:Int)≤i64.wrap ((88:Int)+i)∧i64.wrap ((88:Int)+i)<(↑b.length:
 Int)) (aK.need ((0:Int)≤i∧i<(64:Int)) (aK.leaf Exit.normal ((aS rgC rgH).wr ((b,i64.wrap (i+(1:Int)),PUnit.unit),r,{ver:=m.ver,lh:=m.lh,len:=m.len,list:=m.list.set ((0:Nat)+i.toNat) (b.getD (i64.wrap ((24:Int)+i)).toNat (0:Int)),plain:=m.plain.set ((0:Nat)+i.toNat) (b.getD (i64.wrap ((88:Int)+i)).toNat (0:Int))},
 PUnit.unit))))))) (aK.leaf (Exit.exit (0:Nat)) ((aS rgX rgH).wr ((b,PUnit.unit),r,m,PUnit.unit))):=by kernel_rfl
def rgS(b:List Int)(m:MM):MM:= {m with list:=(b.drop 24).take 64,plain:=(b.drop 88).take 64}
def rgF(x:(List Int×Int×Unit)×MM×MM×Unit):aK:=
 .need (x.1.1.length=152∧x.1.2.1=0∧x.2.2.1.list.length=64∧x.2.2.1.plain.length=64) (.leaf (.exit 0) ((aS rgX rgH).wr ((x.1.1,()),(x.2.1,rgS x.1.1 x.2.2.1,()))))
theorem apG(x):Ex Tryz.prog [] (.loop (aO awD 0)) ((aS rgC rgH).wr x) (rgF x):=by
 obtain⟨⟨b,i,_⟩,r,m,_⟩:=x;refine Ex.need fun⟨h1,h2,h3,h4⟩=>?_;simp only at h1 h2 h3 h4;subst h2
 have key:=dN (fn:=awD) (id:=0) (j:=0) (ws:=rgW) (hp:= []) mixed ax (aH.nil _) 64 (fun k (o:List Int×List Int)=>(aS rgC rgH).wr ((b,(k:Int),()),(r,{m with list:=o.1,plain:=o.2},()))) (fun(o:List Int×List Int)=>(aS rgX rgH).wr ((b,()),(r,{m with list:=o.1,plain:=o.2},())))
  (fun k (o:List Int×List Int)=>(o.1.set k (b.getD (24+k) 0),o.2.set k (b.getD (88+k) 0))) (fun _ o=>o.1.length=64∧o.2.length=64)
  (fun k o R hk hm hn hx=>?_) (fun k o hk hh=>by simpa using hh) 0 (m.list,m.plain) (by omega) ⟨h3,h4⟩
 ·rw[Nat.sub_zero,xx (fun k (o:List Int)=>o.set k (b.getD (24+k) 0)) (fun k (o:List Int)=>o.set k (b.getD (88+k) 0)),jJ (fun k=>b.getD (24+k) 0) h3,jJ (fun k=>b.getD (88+k) 0) h4,hY (by omega),hY (by omega)]at key;exact key
 rw[awE];refine⟨fun hb=>?_,fun hb=>?_⟩
 ·have jz:k<64:=by have:=of_decide_eq_true hb;omega
  have e1:i64.wrap (24+(k:Int))=((24+k:Nat):Int):=by rw[ao (by omega) (by omega)];omega
  have e2:i64.wrap (88+(k:Int))=((88+k:Nat):Int):=by rw[ao (by omega) (by omega)];omega
  rw[e1,e2,cJ k (by omega)];simp only[Int.toNat_natCast,Nat.zero_add];exact⟨by omega,by omega,by omega,by omega,hn jz⟩
 ·have:k=64:=by have:=of_decide_eq_false hb;omega
  exact hx this
abbrev aBn:dG:= [(0,dc (aS rgC rgH) 0 [aBm,abp 0,abp 1,.auto] rgF)]
abbrev atZ:List (FuncId×an):= [(158,atM),(50,ahP)]
theorem ajy:∀p∈atZ,p.2.Ok Tryz.prog p.1:=aj apg (aj Xe ax)
theorem No:∀ {l:List Int},ay l→l.length≤8→eY l.length (bJ l)=l
 | [],_,_=>rfl
 |x::l,hb,hl=>by
  simp only[List.length_cons]at hl;have gV:ay l:=fun z hz=>hb z (by simp[hz]);obtain⟨h1,h2,h3⟩:=fF gV (by omega);have hx:By x:=hb x (by simp);have e:=h3 x hx (by omega);obtain⟨x0,x1⟩:=hx;show bJ (x::l)%256::eY l.length (bJ (x::l)/256)=x::l;rw[show bJ (x::l)%256=x from by omega,show bJ (x::l)/256=bJ l from by omega,No gV (by omega)]
theorem apH{b:List Int}(hb:ay b)(hl:b.length=152):lZ (df b).ver (df b).lh (df b).len (df b).list (df b).plain=if eC (df b).ver (df b).lh (df b).len=true then b else []:=by
 unfold lZ
 split
 ·have k:∀n,n+8≤152→eY 8 (bJ ((b.drop n).take 8))=(b.drop n).take 8:=fun n hn=>by
   have:=No ((hb.drop n).take 8) (by rw[List.length_take];omega);rwa [show((b.drop n).take 8).length=8 from by rw[List.length_take,List.length_drop];omega]at this
  have k0:=k 0 (by omega);rw[List.drop_zero]at k0;simp only[df];rw[k0,k 8 (by omega),k 16 (by omega),List.take_take,List.take_take,Nat.min_self];have e1:b=b.take 8++b.drop 8:=(List.take_append_drop 8 b).symm
  have e2:b.drop 8=(b.drop 8).take 8++b.drop 16:=by
   have:=(List.take_append_drop 8 (b.drop 8)).symm;rwa [List.drop_drop]at this
  have e3:b.drop 16=(b.drop 16).take 8++b.drop 24:=by
   have:=(List.take_append_drop 8 (b.drop 16)).symm;rwa [List.drop_drop]at this
  have e4:b.drop 24=(b.drop 24).take 64++b.drop 88:=by
   have:=(List.take_append_drop 64 (b.drop 24)).symm;rwa [List.drop_drop]at this
  have e5:(b.drop 88).take 64=b.drop 88:=List.take_of_length_le (by rw[List.length_drop];omega);rw[e5,List.append_assoc,List.append_assoc,List.append_assoc,← e4,← e3,← e2,← e1]
 ·rfl
theorem abq{n:Nat}(h:n≤8):(256:Int) ^ n≤18446744073709551616:=by
 rcases(show n=0∨n=1∨n=2∨n=3∨n=4∨n=5∨n=6∨n=7∨n=8 by omega)with rfl|rfl|rfl|rfl|rfl|rfl|rfl|rfl|rfl<;>decide
theorem FB{b:List Int}(h:0<b.length):cV [] b=false:=by
 cases e:cV [] b with
 |false=>rfl
 |true=>have:=nO e;simp at this;omega
theorem apI{b:List Int}(hb:ay b)(hl:b.length=152):
  cV (lZ (df b).ver (df b).lh (i64.wrap (df b).len) (df b).list (df b).plain) b=eC (df b).ver (df b).lh (df b).len∧(eC (df b).ver (df b).lh (df b).len=true→i64.wrap (df b).len=(df b).len):=by
 have hln:((b.drop 16).take 8).length=8:=by rw[List.length_take,List.length_drop];omega
 obtain⟨r1,r2,_⟩:=fF ((hb.drop 16).take 8) (by omega);rw[hln]at r2;have h8:(256:Int) ^ 8=18446744073709551616:=by decide
 have hlen:(df b).len=bJ ((b.drop 16).take 8):=rfl;rw[← hlen]at r1 r2
 by_cases h:(df b).len<9223372036854775808
 ·have e:i64.wrap (df b).len=(df b).len:=ao (by omega) (by omega);rw[e,apH hb hl];refine⟨?_,fun _=>rfl⟩
  cases eC (df b).ver (df b).lh (df b).len with
  |true=>exact te b
  |false=>exact FB (by omega)
 ·have e:eC (df b).ver (df b).lh (df b).len=false:=by simp only[eC];exact decide_eq_false (by omega)
  have ew:i64.wrap (df b).len<0:=by rw[IntKind.wrap_i64];omega
  have e2:eC (df b).ver (df b).lh (i64.wrap (df b).len)=false:=by simp only[eC];exact decide_eq_false (by omega)
  have e3:lZ (df b).ver (df b).lh (i64.wrap (df b).len) (df b).list (df b).plain= []:=by unfold lZ;rw[e2];rfl
  rw[e3,e];exact⟨FB (by omega),fun h=>(by cases h)⟩
def at0:an:=an.cl [some u8] (bA) (ag) fun x_ y_=>(fun(b:List Int)=>.leaf (some (ay b)) (aBk (gP b)) []) x_.1
theorem abr(b:List Int):aG Tryz.prog atZ aBn f172 ((bA).wr (b,())) ((ag).wr ()) [.fr [.sym],.auto]=
 End.ite ((↑b.length:Int)!=(152:Int)) (End.leaf (LV.cj [VV.agg [SV.int u64 (SI.sym (0:Int)),SV.int u64 (SI.sym (0:Int)),
 SV.int i64 (SI.sym (0:Int)),SV.arr (Ty.int IntKind.u8) (64:Nat) (List.replicate (64:Nat) (0:Int)),SV.arr (Ty.int IntKind.u8) (64:
 Nat) (List.replicate (64:Nat) (0:Int))],VV.sc (SV.bool (SB.sym false))]) []) (End.need ((0:Int)≤(0:Int)∧(0:Int)≤(8:Int)∧(8:Int)
 ≤(↑b.length:Int)) (End.need ((List.take (8:Nat) (List.drop (0:Nat) b)).length≤(70368744177664:Nat)) (End.need ((0:Int)≤(8:Int)∧(8:
 Int)≤(16:Int)∧(16:Int)≤(↑b.length:Int)) (End.need ((List.take (8:Nat) (List.drop (8:Nat) b)).length≤(70368744177664:Nat)) (End.need
 ((0:Int)≤(16:Int)∧(16:Int)≤(24:Int)∧(24:Int)≤(↑b.length:Int)) (End.need ((List.take (8:Nat) (List.drop (16:Nat) b)).length≤
 (70368744177664:Nat)) (End.need (b.length=(152:Nat)∧(0:Int)=(0:Int)∧(64:Nat)=(64:Nat)∧(64:Nat)=(64:Nat)) (End.need ((0:
 Int)≤bJ (List.take (8:Nat) (List.drop (0:Nat) b))∧bJ (List.take (8:Nat) (List.drop (0:Nat) b))<(18446744073709551616:Int)∧(0:
 Int)≤bJ (List.take (8:Nat) (List.drop (8:Nat) b))∧bJ (List.take (8:Nat) (List.drop (8:Nat) b))<(18446744073709551616:Int)) (End.ite
 (!cV (lZ (bJ (List.take (8:Nat) (List.drop (0:Nat) b))) (bJ (List.take (8:Nat) (List.drop (8:Nat) b))) (i64.wrap (bJ
 (List.take (8:Nat) (List.drop (16:Nat) b)))) (List.take (64:Nat) (List.drop (24:Nat) b)) (List.take (64:Nat) (List.drop (88:Nat) b))) b)
 (End.leaf (LV.cj [VV.agg [SV.int u64 (SI.sym (0:Int)),SV.int u64 (SI.sym (0:Int)),SV.int i64 (SI.sym (0:Int)),SV.arr
 (Ty.int IntKind.u8) (64:Nat) (List.replicate (64:Nat) (0:Int)),SV.arr (Ty.int IntKind.u8) (64:Nat) (List.replicate (64:Nat) (0:Int))],
 VV.sc (SV.bool (SB.sym false))]) []) (End.leaf (LV.cj [VV.agg [SV.int u64 (SI.sym (bJ (List.take (8:Nat) (List.drop (0:Nat) b)))),
 SV.int u64 (SI.sym (bJ (List.take (8:Nat) (List.drop (8:Nat) b)))),SV.int i64 (SI.sym (i64.wrap (bJ (List.take (8:
 Nat) (List.drop (16:Nat) b))))),SV.arr (Ty.int IntKind.u8) (64:Nat) (List.take (64:Nat) (List.drop (24:Nat) b)),SV.arr (Ty.int IntKind.u8)
 (64:Nat) (List.take (64:Nat) (List.drop (88:Nat) b))],VV.sc (SV.bool (SB.sym true))]) [])))))))))):=by kernel_rfl
theorem apJ:at0.Ok Tryz.prog 172:=by
 refine(an.aN call172 fun x_ y_ Q H_=>?_).sym;obtain⟨b,_⟩:=x_;obtain⟨hn,hq⟩:=H_;have hn:ay b:=hn;refine(ar mixed ajy func172 rfl (LT:=aBn) (ks:= [.fr [.sym],.auto]) (aH.bK (js rfl (bD (hp:= []) apG) jt))).use (D:= []) ?_ hq;show(aG _ _ _ _ ((bA).wr (b,())) ((ag).wr ()) _).sat _;rw[abr];refine⟨fun h0=>?_,fun h0=>?_⟩
 ·have hl:¬b.length=152:=fun e=>by rw[e]at h0;simp at h0
  have eg:gP b=(mm0,false):=if_neg fun⟨h,_⟩=>hl h;rw[eg];exact⟨rfl,rfl⟩
 ·have hl:b.length=152:=by have:((b.length:Int)!=152)=false:=by simpa using h0
                           simp at this;omega
  have hr:∀k:Nat,0≤bJ ((b.drop k).take 8)∧bJ ((b.drop k).take 8)<18446744073709551616:=fun k=>by
   obtain⟨r1,r2,_⟩:=fF ((hn.drop k).take 8) (by rw[List.length_take];omega);exact⟨r1,Int.lt_of_lt_of_le r2 (abq (by rw[List.length_take];omega))⟩
  obtain⟨m1,m2⟩:=apI hn hl;have m1':cV (lZ (bJ (b.take 8)) (bJ ((b.drop 8).take 8)) (i64.wrap (bJ ((b.drop 16).take 8))) ((b.drop 24).take 64) ((b.drop 88).take 64)) b=eC (df b).ver (df b).lh (df b).len:=m1;have h0':=hr 0;rw[List.drop_zero]at h0' ⊢;rw[m1'];refine⟨by omega,by simp;omega,by omega,by simp;omega,by omega,by simp;omega,⟨hl,rfl,rfl,rfl⟩,⟨h0'.1,h0'.2,(hr 8).1,(hr 8).2⟩,fun h2=>?_,fun h2=>?_⟩
  ·have eg:gP b=(mm0,false):=if_neg fun⟨_,hr⟩=>(by rw[hr]at h2;cases h2);rw[eg];exact⟨rfl,rfl⟩
  ·have VT:eC (df b).ver (df b).lh (df b).len=true:=(by simpa using h2);have eg:gP b=(df b,true):=if_pos ⟨hl,VT⟩;have ew:i64.wrap (bJ ((b.drop 16).take 8))=bJ ((b.drop 16).take 8):=m2 VT;rw[eg,ew];exact⟨rfl,rfl⟩
def Np:an:=an.cl [some u8] (bA) (ag) fun x_ y_=>(fun(b:List Int)=>.leaf (some (b.length<4294967296)) (dO .u8 64 (fI b)) []) x_.1
theorem Jl(b:List Int):aG Tryz.prog [(45,awx)] [] f95 ((bA).wr (b,())) ((ag).wr ()) [.fr [.sym],.auto]=
 End.ite (decide ((160:Int)<(↑b.length:Int))) (End.need ((0:Int)≤(0:Int)∧(0:Int)≤(160:Int)∧(160:Int)≤(↑b.length:Int))
 (End.need ((List.take (160:Nat) (List.drop (0:Nat) b)).length≤(17592186044416:Nat)) (End.leaf (LV.one (VV.agg [SV.arr (Ty.int IntKind.u8) (64:
 Nat) (kO (List.take (160:Nat) (List.drop (0:Nat) b)))])) []))) (End.need (b.length≤(17592186044416:Nat)) (End.leaf (LV.one (VV.agg [SV.arr
 (Ty.int IntKind.u8) (64:Nat) (kO b)])) [])):=by kernel_rfl
theorem TA:Np.Ok Tryz.prog 95:=by
 refine(an.aN call95 fun x_ y_ Q H_=>?_).sym;obtain⟨b,_⟩:=x_;obtain⟨hn,hq⟩:=H_;have hn:b.length<4294967296:=hn;refine(ar mixed ((aj aju ax)) func95 rfl (LT:= []) (ks:= [.fr [.sym],.auto]) (aH.nil _)).use (D:= []) ?_ hq;show(aG _ _ _ _ ((bA).wr (b,())) ((ag).wr ()) _).sat _;rw[Jl];rw[List.drop_zero];refine⟨fun h=>?_,fun h=>?_⟩
 ·have h:=of_decide_eq_true h;rw[← Tx (by simp;omega)];exact⟨by omega,by simp;omega,rfl,rfl⟩
 ·have h:=of_decide_eq_false h;rw[← Tx (by omega)];have e:fI b=gp b:=by unfold fI;rw[List.take_of_length_le (by omega)]
  rw[e];exact⟨by omega,rfl,rfl⟩
end Go.Proofs.YtnbkagglkajbkaaGreat
end
noncomputable section
namespace Go.Ev
open Go
open Go.IntKind (i64 signed u16 u64 wrap)
def Vec(α:Type):Nat→Type
 |0=>Unit
 |n+1=>α×Vec α n
namespace Vec
variable {α β γ:Type}
def toList: {n:Nat}→Vec α n→List α
 |0,_=> []
 |_+1,v=>v.1::toList v.2
def map(f:α→β): {n:Nat}→Vec α n→Vec β n
 |0,_=>()
 |_+1,v=>(f v.1,map f v.2)
def zip(f:α→β→γ): {n:Nat}→Vec α n→Vec β n→Vec γ n
 |0,_,_=>()
 |_+1,v,u=>(f v.1 u.1,zip f v.2 u.2)
def ofFn:(n:Nat)→(Nat→α)→Vec α n
 |0,_=>()
 |n+1,f=>(f 0,ofFn n fun i=>f (i+1))
def get[Inhabited α]: {n:Nat}→Vec α n→Nat→α
 |0,_,_=>default
 |_+1,v,0=>v.1
 |_+1,v,i+1=>get v.2 i
theorem eW: {n:Nat}→(v:Vec α n)→v.toList.length=n
 |0,_=>rfl
 |_+1,v=>by simp[toList,eW v.2]
theorem toList_inj: {n:Nat}→ {v u:Vec α n}→v.toList=u.toList→v=u
 |0,_,_,_=>rfl
 |n+1,v,u,h=>by
  simp only[toList,List.cons.injEq]at h;exact Prod.ext h.1 (toList_inj h.2)
end Vec
def gw{α:Type}(f:Nat→α→α):Nat→α→α
 |0,a=>a
 |k+1,a=>f k (gw f k a)
theorem nP{α:Type}(f:Nat→α→α)(a:α):∀n,upto f 0 n a=gw f n a
 |0=>rfl
 |n+1=>by rw[Fc,nP f a n,Nat.zero_add];rfl
def bU(x y c:Int):Int×Int:=((((x.toNat+y.toNat+c.toNat)%2 ^ 64:Nat):Int),(((x.toNat+y.toNat+c.toNat)/2 ^ 64:Nat):Int))
def nQ(x y b:Int):Int×Int:=((((x.toNat+2 ^ 64-y.toNat-b.toNat)%2 ^ 64:Nat):Int),if x.toNat<y.toNat+b.toNat then 1 else 0)
def aFK(p:Prop):Option Prop→Option Prop
 |none=>some p
 |some q=>some (p∧q)
abbrev cU3:aM (List LV) (Int×Int×Int×Unit):=ae (ah (aA .u64)) (ae (ah (aA .u64)) (ae (ah (aA .u64)) ag))
def nR(g:Int→Int→Int→Int×Int):an:=an.of [] cU3 ag fun x _=>.leaf (some (0≤x.2.2.1∧x.2.2.1≤1)) (.cj [.sc (.int .u64 (.sym (g x.1 x.2.1 x.2.2.1).1)),.sc (.int .u64 (.sym (g x.1 x.2.1 x.2.2.1).2))]) []
theorem XC{P:Program}{f:FuncId}{g:Int→Int→Int→Int×Int}(h:∀ (a b c:Int) (w:World),0≤c→c≤1→(callFunc f #[.int .u64 a,.int .u64 b,.int .u64 c]).run P w= .ok (.value (.tuple #[.int .u64 (g a b c).1,.int .u64 (g a b c).2])) w):
  (nR g).Ok P f:=by
 refine⟨fun args hp Q hq=>?_⟩;simp only[nR,an.of]at hq
 split at hq
 ·rename_i x y hx hy;rw[cU3.ok hx];obtain⟨a,b,c,_⟩:=x;obtain⟨⟨h0,h1⟩,hq⟩:=hq;intro β w vals hh eh
  cases eh with
  |cons e1 eh=>cases eh with
   |cons e2 eh=>cases eh with
    |cons e3 eh=>
     cases eh
     simp only[LV.den,VV.den,SV.den,ah,aA,SI.val]at e1 e2 e3;subst e1 e2 e3;exact .inl ⟨_,h a b c w h0 h1,_,β,_,hp,rfl,⟨[],hq,rfl⟩,⟨_,rfl,.cons rfl (.cons rfl .nil)⟩,hh⟩
 ·exact hq.elim
theorem FC{P:Program}(n:String)(a b c:Int)(w:World)(hc:¬c.toNat>1):
  (Extern.MathBitsCarry.three n #[.int .u64 a,.int .u64 b,.int .u64 c]).run P w= .ok (a.toNat,b.toNat,c.toNat) w:=by
 have e:Extern.MathBitsCarry.three n #[.int .u64 a,.int .u64 b,.int .u64 c]=(do
  let c:=(← asInt (.int .u64 c)).toNat
  if c>1 then unsupported (.noEntry ("extern/math/bits."++n++": a carry that is neither 0 nor 1"))
  pure ((← asInt (.int .u64 a)).toNat,(← asInt (.int .u64 b)).toNat,c)):=rfl
 rw[e];have sQ:¬ 1<c.toNat:=hc;simp[asInt,asIntOf];omega
theorem TB{P:Program}{f:FuncId}{fn:Func}(hf:P.funcs[f]? =some fn)(ajz:(fn.name=="runtime.NumGoroutine")=false)(hb:fn.body.isNone=true)(hn:Extern.findNext fn=none)
  {e:Array Value→Sem Value} (he:Extern.find fn=some e) (hee:e=(Extern.MathBitsCarry.rows.getD 0 ("",fun _=>pure undef)).2):(nR bU).Ok P f:=by
 refine XC fun a b c w h0 h1=>?_;rw[run_callFunc_extern hf ajz hb hn he,hee];have hc:¬c.toNat>1:=by omega
 simp[Extern.MathBitsCarry.rows,FC _ _ _ _ _ hc,Extern.MathBitsCarry.pair,Extern.MathBitsCarry.m64,bU]
theorem TC{P:Program}{f:FuncId}{fn:Func}(hf:P.funcs[f]? =some fn)(ajz:(fn.name=="runtime.NumGoroutine")=false)(hb:fn.body.isNone=true)(hn:Extern.findNext fn=none)
  {e:Array Value→Sem Value} (he:Extern.find fn=some e) (hee:e=(Extern.MathBitsCarry.rows.getD 1 ("",fun _=>pure undef)).2):(nR nQ).Ok P f:=by
 refine XC fun a b c w h0 h1=>?_;rw[run_callFunc_extern hf ajz hb hn he,hee];have hc:¬c.toNat>1:=by omega
 simp[Extern.MathBitsCarry.rows,FC _ _ _ _ _ hc,Extern.MathBitsCarry.pair,Extern.MathBitsCarry.m64,nQ]
 split<;>rfl
def qH(k:IntKind){Y:Type}(r:aM (List SV) Y):(n:Nat)→aM (List SV) (Vec Int n×Y)
 |0=>r.kE (fun y=>((),y)) (fun p=>p.2) (fun _=>rfl)
 |n+1=>(ae (aA k) (qH k r n)).kE (fun p=>((p.1,p.2.1),p.2.2)) (fun p=>(p.1.1,(p.1.2,p.2))) (fun _=>rfl)
def ju(k:IntKind):(n:Nat)→aM (List SV) (Vec Int n)
 |0=>ag
 |n+1=>ae (aA k) (ju k n)
def kP(l:List Int):Vec Int 32:=Vec.ofFn 32 fun i=>l.getD i 0
end Go.Ev
end
noncomputable section
namespace BJ
def aX(n:Nat):Prop:=2≤n∧∀m,m∣n→m=1∨m=n
theorem x9:∀n:Nat,2≤n→∃q,aX q∧q∣n:=by
 intro n
 induction n using Nat.strongRecOn with
 |_ n ih=>
  intro h
  by_cases hp:∀m,m∣n→m=1∨m=n
  ·exact⟨n,⟨h,hp⟩,Nat.dvd_refl n⟩
  ·have⟨m,hm⟩:=Classical.not_forall.1 hp;have⟨hd,hn⟩:=Classical.not_imp.1 hm;have h1:m≠1:=fun e=>hn (.inl e);have h2:m≠n:=fun e=>hn (.inr e);have hle:m≤n:=Nat.le_of_dvd (by omega) hd
   have h0:m≠0:=by
    rintro rfl
    have:=Nat.eq_zero_of_zero_dvd hd;omega
   obtain⟨q,hq,hqm⟩:=ih m (by omega) (by omega);exact⟨q,hq,Nat.dvd_trans hqm hd⟩
theorem aX.coprime{q a:Nat}(hq:aX q)(h:¬q∣a):Nat.Coprime q a:=by
 rcases hq.2 (Nat.gcd q a) (Nat.gcd_dvd_left q a)with h1|h1
 ·exact h1
 ·exact absurd (h1▸Nat.gcd_dvd_right q a) h
theorem aX.dvd_mul{q a b:Nat}(hq:aX q)(h:q∣a*b):q∣a∨q∣b:=by
 by_cases ha:q∣a
 ·exact .inl ha
 ·exact .inr ((hq.coprime ha).dvd_of_dvd_mul_left h)
theorem aX.Nq{q:Nat}(hq:aX q):∀l:List Nat,(∀x∈l,aX x)→q∣l.foldr (· * ·) 1→q∈l
 | [],_,h=>by
  have:q=1:=Nat.eq_one_of_dvd_one h;have:=hq.1;omega
 |x::l,hl,h=>by
  rcases hq.dvd_mul h with h|h
  ·rcases(hl x (by simp)).2 q h with h1|h1
   ·have:=hq.1;omega
   ·simp[h1]
  ·exact List.mem_cons_of_mem _ (hq.Nq l (fun y hy=>hl y (by simp[hy])) h)
def pm(n:Nat):Nat→Nat→Nat→Nat
 |0,_,_=>1%n
 |f+1,a,e=>if e%2=1 then a*pm n f (a*a%n) (e/2)%n else pm n f (a*a%n) (e/2)
theorem XD(n:Nat):∀f a e,e<2 ^ f→pm n f a e=a ^ e%n:=by
 intro f
 induction f with
 |zero=>intro a e h;have:e=0:=by simpa using h
        subst this;simp[pm]
 |succ f ih=>
  intro a e h;have h2:e/2<2 ^ f:=by rw[Nat.pow_succ]at h;omega
  have hk:(a*a%n) ^ (e/2)%n=a ^ (2*(e/2))%n:=by
   rw[← Nat.pow_mod,Nat.pow_mul,Nat.pow_two]
  simp only[pm,ih _ _ h2,hk]
  split
  ·rename_i ho;rw[Nat.mul_mod,Nat.mod_mod,← Nat.mul_mod,Nat.mul_comm,← Nat.pow_succ]
   congr 2;omega
  ·rename_i ho
   congr 2;omega
theorem mr{n a k:Nat}(hn:2≤n)(h:a ^ k%n=1)(j:Nat):a ^ (k*j)%n=1:=by
 rw[Nat.pow_mul,Nat.pow_mod,h,Nat.one_pow,Nat.mod_eq_of_lt hn]
theorem Jm{n a m:Nat}(hm:0<m)(h:a ^ m%n=1):
  ∃k,0<k∧a ^ k%n=1∧∀j,0<j→j<k→a ^ j%n≠1:=by
 induction m using Nat.strongRecOn with
 |_ m ih=>
  by_cases hs:∃j,0<j∧j<m∧a ^ j%n=1
  ·obtain⟨j,h0,h1,h2⟩:=hs;exact ih j h1 h0 h2
  ·exact⟨m,hm,h,fun j h0 h1 h2=>hs ⟨j,h0,h1,h2⟩⟩
theorem FD{n a k m:Nat}(hn:2≤n)(hk:0<k)(h1:a ^ k%n=1)(Zg:∀j,0<j→j<k→a ^ j%n≠1)
  (hm:a ^ m%n=1):k∣m:=by
 have e:a ^ m=a ^ (k*(m/k))*a ^ (m%k):=by
  rw[← Nat.pow_add,Nat.div_add_mod]
 rw[e,Nat.mul_mod,mr hn h1,Nat.one_mul,Nat.mod_mod]at hm
 by_cases hr:m%k=0
 ·exact Nat.dvd_of_mod_eq_zero hr
 ·exact absurd hm (Zg _ (by omega) (Nat.mod_lt _ hk))
theorem wb:∀ (m:Nat) (l:List Nat),l.Nodup→(∀x∈l,1≤x∧x≤m)→m≤l.length→∀x,1≤x→x≤m→x∈l
 |0,_,_,_,_,x,h1,h2=>by omega
 |m+1,l,hd,hl,hlen,x,h1,h2=>by
  have Ey:m+1∈l:=by
   refine Classical.byContradiction fun sC=>?_
   have PC:∀y∈l,1≤y∧y≤m:=fun y hy=>by
    have:=hl y hy;have:y≠m+1:=fun e=>sC (e▸hy);omega
   have:=length_le m l hd PC;omega
  have hd':(l.erase (m+1)).Nodup:=hd.erase _;have aHT:(l.erase (m+1)).length=l.length-1:=List.length_erase_of_mem Ey
  have PC:∀y∈l.erase (m+1),1≤y∧y≤m:=fun y hy=>by
   have KJ:=(List.Nodup.mem_erase_iff hd).1 hy;have:=hl y KJ.2;have:=KJ.1;omega
  by_cases hx:x=m+1
  ·exact hx▸Ey
  ·exact List.mem_of_mem_erase (wb m (l.erase (m+1)) hd' PC (by omega) x h1 (by omega))
where
 length_le:∀ (m:Nat) (l:List Nat),l.Nodup→(∀x∈l,1≤x∧x≤m)→l.length≤m
  |0,l,_,hl=>by
   cases l with
   |nil=>simp
   |cons a l=>have:=hl a (by simp);omega
  |m+1,l,hd,hl=>by
   have hd':(l.erase (m+1)).Nodup:=hd.erase _
   have PC:∀y∈l.erase (m+1),1≤y∧y≤m:=fun y hy=>by
    have KJ:=(List.Nodup.mem_erase_iff hd).1 hy;have:=hl y KJ.2;have:=KJ.1;omega
   have:=length_le m _ hd' PC;have h3:= @List.length_erase Nat _ _ (m+1) l
   split at h3<;>omega
def oJ(n a:Nat):Prop:=2≤n∧a ^ (n-1)%n=1∧∀x,x%n≠0→∃i,a ^ i%n=x%n
theorem aBo{n a:Nat}{l:List Nat}(hn:2≤n)(hl:∀q∈l,aX q)(hp:l.foldr (· * ·) 1=n-1)
  (h1:a ^ (n-1)%n=1) (hq:∀q∈l,a ^ ((n-1)/q)%n≠1):oJ n a:=by
 refine⟨hn,h1,?_⟩
 by_cases hn2:n=2
 ·subst hn2;intro x hx;exact⟨0,by simp;omega⟩
 obtain⟨k,hk,hk1,Zg⟩:=Jm (m:=n-1) (by omega) h1;have aFL:=FD hn hk hk1 Zg h1
 have hkn:k=n-1:=by
  refine Classical.byContradiction fun gJ=>?_;obtain⟨c,hc⟩:=aFL
  have hc2:2≤c:=by
   rcases Nat.lt_or_ge c 2 with h|h
   ·have:c=0∨c=1:=(by omega);rcases this with rfl|rfl
    ·simp at hc;omega
    ·simp at hc;omega
   ·exact h
  obtain⟨q,hqp,c',rfl⟩:=x9 c hc2;have Ey:q∈l:=hqp.Nq l hl (by rw[hp,hc];exact⟨k*c',by rw[Nat.mul_left_comm]⟩);refine hq q Ey ?_
  have:(n-1)/q=k*c':=by
   rw[hc,Nat.mul_left_comm];exact Nat.mul_div_cancel_left _ (by have:=hqp.1;omega)
  rw[this];exact mr hn hk1 c'
 subst hkn
 have hinv:∀i,a ^ i%n≠0:=by
  intro i h0;have:a ^ ((n-1)*(i+1))%n=1:=mr hn h1 _
  have e:(n-1)*(i+1)=i+((n-1)*(i+1)-i):=by
   have:i≤(n-1)*(i+1):=Nat.le_trans (by omega) (Nat.le_mul_of_pos_left (i+1) (by omega));omega
  rw[e,Nat.pow_add,Nat.mul_mod,h0,Nat.zero_mul,Nat.zero_mod]at this;omega
 have Zr:∀i j,i<j→j<n-1→a ^ i%n≠a ^ j%n:=by
  intro i j hij hj he
  have e1:a ^ (j+(n-1-i))%n=1:=by
   rw[Nat.pow_add,Nat.mul_mod,← he,← Nat.mul_mod,← Nat.pow_add];have:i+(n-1-i)=n-1:=(by omega);rw[this];exact h1
  have e2:j+(n-1-i)=(n-1)+(j-i):=by omega
  rw[e2,Nat.pow_add,Nat.mul_mod,h1,Nat.one_mul,Nat.mod_mod]at e1;exact Zg (j-i) (by omega) (by omega) e1
 intro x hx
 have hnd:((List.range (n-1)).map fun i=>a ^ i%n).Nodup:=by
  rw[List.nodup_iff_pairwise_ne,List.pairwise_map];refine List.Pairwise.imp_of_mem ?_ (List.pairwise_lt_range (n:=n-1));intro i j hi hj hij;exact Zr i j hij (by simpa using hj)
 have:=wb (n-1) _ hnd (fun y hy=>by
  obtain⟨i,_,rfl⟩:=List.mem_map.1 hy;have:=hinv i;have:=Nat.mod_lt (a ^ i) (show 0<n by omega);omega) (by simp) (x%n) (by omega) (by have:=Nat.mod_lt x (show 0<n by omega);omega)
 obtain⟨i,_,hi⟩:=List.mem_map.1 this;exact⟨i,hi⟩
theorem oJ.TD{n a:Nat}(h:oJ n a){x:Nat}(hx:x%n≠0):x ^ (n-1)%n=1:=by
 obtain⟨hn,h1,hs⟩:=h;obtain⟨i,hi⟩:=hs x hx;rw[Nat.pow_mod,← hi,← Nat.pow_mod,← Nat.pow_mul,Nat.mul_comm];exact mr hn h1 i
theorem oJ.kQ{n a:Nat}(h:oJ n a):aX n:=by
 refine⟨h.1,fun m hm=>?_⟩;refine Classical.byContradiction fun gJ=>?_;have hn:=h.1;have hle:m≤n:=Nat.le_of_dvd (by omega) hm;have h1:m≠1:=fun e=>gJ (.inl e);have h2:m≠n:=fun e=>gJ (.inr e)
 have h0:m≠0:=by
  rintro rfl
  have:=Nat.eq_zero_of_zero_dvd hm;omega
 have hf:=h.TD (x:=m) (by rw[Nat.mod_eq_of_lt (by omega)];exact h0)
 have hd:m∣m ^ (n-1):=by
  rw[show n-1=(n-2)+1 from by omega,Nat.pow_succ];exact Nat.dvd_mul_left m _
 have:m∣m ^ (n-1)%n:=(Nat.dvd_mod_iff hm).2 hd;rw[hf]at this;exact h1 (Nat.eq_one_of_dvd_one this)
def check(n a f:Nat)(l:List Nat):Bool:=
 decide (2≤n)&&decide (n-1<2 ^ f)&&l.foldr (· * ·) 1==n-1&&pm n f a (n-1)==1&&l.all fun q=>pm n f a ((n-1)/q)!=1
theorem ct{n a f:Nat}{l:List Nat}(hl:∀q∈l,aX q)(h:check n a f l=true):oJ n a:=by
 simp only[check,Bool.and_eq_true,decide_eq_true_eq,beq_iff_eq,List.all_eq_true,bne_iff_ne]at h;obtain⟨⟨⟨⟨hn,hf⟩,hp⟩,h1⟩,hq⟩:=h;refine aBo hn hl hp ?_ ?_
 ·rw[← XD n f a _ hf];exact h1
 ·intro q hm;rw[← XD n f a _ (Nat.lt_of_le_of_lt (Nat.div_le_self _ _) hf)];exact hq q hm
def XE(n:Nat):Nat→Nat→Bool
 |0,_=>true
 |k+1,d=>if d*d>n then true else n%d !=0&&XE n k (d+1)
theorem TE(n:Nat):∀k d,XE n k d=true→(d+k)*(d+k)>n→∀m,d≤m→m*m≤n→¬m∣n:=by
 intro k
 induction k with
 |zero=>intro d _ hgt m h1 h2;exfalso;have:=Nat.mul_le_mul h1 h1;simp at hgt;omega
 |succ k ih=>
  intro d h hgt m h1 h2 hd;unfold XE at h
  split at h
  ·have:=Nat.mul_le_mul h1 h1;omega
  ·simp only[Bool.and_eq_true,bne_iff_ne]at h
   by_cases he:m=d
   ·subst he;exact h.1 (Nat.mod_eq_zero_of_dvd hd)
   ·exact ih (d+1) h.2 (by rw[show d+1+k=d+(k+1) by omega];exact hgt) m (by omega) h2 hd
theorem ba{n:Nat}(k:Nat)(hn:2≤n)(hk:(2+k)*(2+k)>n)(h:XE n k 2=true):aX n:=by
 have hs:=TE n k 2 h hk;refine⟨hn,fun m hm=>?_⟩;refine Classical.byContradiction fun gJ=>?_;have h1:m≠1:=fun e=>gJ (.inl e);have h2:m≠n:=fun e=>gJ (.inr e);obtain⟨c,hc⟩:=hm;have h0:m≠0:=by rintro rfl;simp at hc;omega
 have hc0:c≠0:=by rintro rfl;simp at hc;omega
 have hc1:c≠1:=by rintro rfl;simp at hc;omega
 by_cases hmc:m≤c
 ·exact hs m (by omega) (by rw[hc];exact Nat.mul_le_mul_left m hmc) ⟨c,hc⟩
 ·exact hs c (by omega) (by rw[hc];exact Nat.mul_le_mul_right c (by omega)) ⟨m,by rw[hc,Nat.mul_comm]⟩
end BJ
end
