/- What the laws lean on, part 11: a reader of code, plain facts, and what each function gives; no conditions. -/
import Derived.Laws.Externs
import Derived.Test.YtnbkagglkajbkaaGreatB10
set_option linter.unusedVariables false
set_option linter.unusedSimpArgs false
noncomputable section
namespace Go.Proofs.YtnbkagglkajbkaaGreat
open Go Go.Ev Go.Proofs.Tryz
open Go.IntKind (i64 signed u16 u64 wrap)
set_option maxRecDepth 100000
structure HH where
 begun:Bool
 s:List Int
 n:Int
 wait:List Int
abbrev cHH:aW (List SV) HH:=(ae ja (ae (se (.int .u64) 8) (ae (ay .i64) (ae (se u8 128) ag)))).nH (fun x=>⟨x.1,x.2.1,x.2.2.1,x.2.2.2.1⟩) (fun h=>(h.begun,h.s,h.n,h.wait,())) (fun _=>rfl)
abbrev hI(h:HH):Ev.Item:=.bm (cHH.wr h) 121
abbrev rL:aW Hp (HH×Unit):=ae (iF 121 cHH) ag
abbrev hV(h:HH):LV:=.one (.agg (cHH.wr h))
abbrev Bg:Wk:=.bm 0 [.sym,.an,.sym,.an]
def J9:HH:=⟨true,Be,0,List.replicate 128 0⟩
def alf:ar:=ar.dx [] (ag) (ag) fun x_ y_=>.leaf none (.one (.sc (.ptr 0 0))) [(0,hI J9)]
theorem V8:aT Tryz.prog [(104,abV)] [] f52 ((ag).wr ()) ((ag).wr ()) [.j7 0 1 8 .u64,Bg,.auto]=
 End.leaf (LV.one (VV.sc (SV.ptr (0:Nat) (0:Nat)))) [some (Item.bm [SV.bool (SB.sym true),SV.arr (Ty.int u64) (8:Nat) Be,SV.int
 i64 (SI.sym (0:Int)),SV.arr (Ty.int IntKind.u8) (128:Nat) (List.replicate (128:Nat) (0:Int))] (121:Nat))]:=by kernel_rfl
theorem ahz:alf.Ok Tryz.prog 52:=by
 refine(ar.br call52 fun x_ y_ Q H_=>?_).sym;have hq:=H_.2;refine(aA mixed ((aj abW aE)) func52 rfl (LT:= []) (ks:= [.j7 0 1 8 .u64,Bg,.auto]) (aO.nil _)).use (D:= [(0,hI J9)]) ?_ hq;show(aT _ _ _ _ ((ag).wr ()) ((ag).wr ()) _).sat _;rw[V8];exact⟨rfl,rfl⟩
def anz:ar:=ar.dx [] ((ak p0 ag)) (rL) fun x_ y_=>(fun(h:HH)=>.leaf (some (h.begun=true)) (hV h) []) y_.1
theorem ab3(h:HH):aT Tryz.prog [] [] f105 (((ak p0 ag)).wr ()) ((rL).wr (h,())) [.auto]=
 End.ite (!h.begun) End.fail (End.leaf (LV.one (VV.agg [SV.bool (SB.sym h.begun),SV.arr (Ty.int u64) (8:Nat) h.s,SV.int i64 (SI.sym
 h.n),SV.arr (Ty.int IntKind.u8) (128:Nat) h.wait])) [some (Item.bm [SV.bool (SB.sym h.begun),SV.arr (Ty.int u64) (8:Nat) h.s,SV.int
 i64 (SI.sym h.n),SV.arr (Ty.int IntKind.u8) (128:Nat) h.wait] (121:Nat))]):=by kernel_rfl
theorem ab4:anz.Ok Tryz.prog 105:=by
 refine(ar.br call105 fun x_ y_ Q H_=>?_).sym;obtain⟨h,_⟩:=y_;obtain⟨hn,hq⟩:=H_;have hn:h.begun=true:=hn;refine(aA mixed aE func105 rfl (LT:= []) (ks:= [.auto]) (aO.nil _)).use (D:= []) ?_ hq;show(aT _ _ _ _ (((ak p0 ag)).wr ()) ((rL).wr (h,())) _).sat _;rw[ab3];exact⟨fun e=>(by rw[hn]at e;cases e),fun _=>⟨rfl,rfl⟩⟩
def lS(h:HH)(c:Int):HH:=if(h.n+1)%128=0 then⟨h.begun,Bf h.s (pQ (h.wait.set (h.n%128).toNat c)),h.n+1,h.wait.set (h.n%128).toNat c⟩else⟨h.begun,h.s,h.n+1,h.wait.set (h.n%128).toNat c⟩
def cA(h:HH)(b:List Int):HH:=b.foldl lS h
structure sB (h:HH):Prop where
 begun:h.begun=true
 n:0≤h.n
 s:h.s.length=8
 wait:h.wait.length=128
theorem Gv(h:HH)(c:Int):(lS h c).n=h.n+1:=by unfold lS;split<;>rfl
theorem Bh{h:HH}(hh:sB h)(c:Int):sB (lS h c):=by
 obtain⟨h1,h2,h3,h4⟩:=hh;unfold lS
 split
 ·exact⟨h1,by simp only;omega,J8 _ _,by simp[h4]⟩
 ·exact⟨h1,by simp only;omega,h3,by simp[h4]⟩
theorem pS:∀ (b:List Int) (h:HH),(cA h b).n=h.n+b.length
 | [],h=>by simp[cA]
 |c::b,h=>by
  show(cA (lS h c) b).n=_;rw[pS b,Gv,List.length_cons];omega
theorem nY:∀ (b:List Int) {h:HH},sB h→sB (cA h b)
 | [],_,hh=>hh
 |c::b,_,hh=>nY b (Bh hh c)
theorem Ka(h:HH)(a b:List Int):cA h (a++b)=cA (cA h a) b:=by simp[cA]
theorem Bi{σ:Type}(g:σ→Int→σ)(b:List Int):∀ (m k:Nat) (s:σ),k+m=b.length→upto (fun k s=>g s (b.getD k 0)) k m s=(b.drop k).foldl g s
 |0,k,s,h=>by rw[List.drop_eq_nil_of_le (by omega)];rfl
 |m+1,k,s,h=>by
  rw[UL (show k<b.length by omega)];exact Bi g b m (k+1) _ (by omega)
abbrev anA:Func:=f106
abbrev puC:aW (List LV) (List Int×Int×Int×Unit):=(ak (ah (aP 0 0)) (jk 7 (ae (ah (e9 false false u8)) (ae (ah (ay .i64)) (ae (ah (ay .i64)) (jk 44 ag))))))
abbrev aq5:Wk:=.fr (dK 55 [(0,.an),(8,.an),(9,.sym),(10,.sym)])
abbrev puX:aW (List LV) (Unit):=(jk 55 ag)
abbrev ave:Wk:=.fr (dK 55 [])
abbrev ab5:List (FuncId×ar):= [(161,abX),(162,ale)]
def puW:Exit→List Wk
 | .normal=> [aq5,Bg,.auto]
 | .exit 0=> [ave,Bg,.auto]
 |_=> []
theorem anB(h0 h:HH)(b:List Int)(n i:Int):ee Tryz.prog ab5 [] anA 0 (rL.wr (h0,())) puW ((bD puC rL).wr ((b,n,i,()),(h,())))=
 aZ.ite (decide (i<n)) (aZ.need ((0:Int)≤i∧i<(↑b.length:Int)) (aZ.need ((0:Int)≤h.n.tmod (128:Int)∧h.n.tmod (128:Int)<(128:
 Int)) (aZ.ite ((i64.wrap (h.n+(1:Int))).tmod (128:Int)==(0:Int)) (aZ.need ((0:Int)≤(0:Int)∧(0:Int)≤(128:Int)∧(128:
 Int)≤(128:Int)) (aZ.need ((List.take (128:Nat) (List.drop (0:Nat) (h.wait.set ((0:Nat)+(h.n.tmod (128:Int)).toNat) (b.getD i.toNat (0:
 Int))))).length=(128:Nat)) (aZ.need (h.s.length=(8:Nat)∧(16:Nat)=(16:Nat)) (aZ.leaf Exit.normal ((bD puC rL).wr ((b,n,
 i64.wrap (i+(1:Int)),PUnit.unit),{begun:=h.begun,s:=Bf h.s (pQ (List.take (128:Nat) (List.drop (0:Nat) (h.wait.set ((0:Nat)+(h.n.tmod (128:Int)).toNat) (b.getD i.toNat (0:Int)))))),n:=i64.wrap (h.n+(1:Int)),wait:=h.wait.set ((0:Nat)+(h.n.tmod (128:Int)).toNat) (b.getD i.toNat (0:Int))},
 PUnit.unit)))))) (aZ.leaf Exit.normal ((bD puC rL).wr ((b,n,i64.wrap (i+(1:Int)),PUnit.unit),{begun:=h.begun,s:=h.s,n:=i64.wrap (h.n+(1:Int)),wait:=h.wait.set ((0:Nat)+(h.n.tmod (128:Int)).toNat) (b.getD i.toNat (0:Int))},
 PUnit.unit)))))) (aZ.leaf (Exit.exit (0:Nat)) ((bD puX rL).wr (PUnit.unit,h,PUnit.unit))):=by kernel_rfl
theorem Kb:∀p∈ab5,p.2.Ok Tryz.prog p.1:=aj abY (aj ahy aE)
def puF(x:(List Int×Int×Int×Unit)×HH×Unit):aZ:=
 .need (sB x.2.1∧x.1.2.1=x.1.1.length∧x.1.2.2.1=0∧x.2.1.n+x.1.1.length<2305843009213693952) (.leaf (.exit 0) ((bD puX rL).wr ((),(cA x.2.1 x.1.1,()))))
theorem ahA(h0:HH)(x):Ex Tryz.prog (rL.wr (h0,())) (.loop (aV anA 0)) ((bD puC rL).wr x) (puF x):=by
 obtain⟨⟨b,n,i,_⟩,h,_⟩:=x;refine Ex.need fun⟨h1,h2,h3,h4⟩=>?_;simp only at h1 h2 h3 h4;subst h2 h3;have aze:(b.length:Int)<2305843009213693952:=by have:=h1.n;omega
 have key:=gJ (fn:=anA) (id:=0) (j:=0) (ws:=puW) (hp:=rL.wr (h0,())) mixed Kb (aO.nil _) b.length (fun k h=>(bD puC rL).wr ((b,(b.length:Int),(k:Int),()),(h,()))) (fun h=>(bD puX rL).wr ((),(h,()))) (fun k h=>lS h (b.getD k 0)) (fun k h=>sB h∧h.n+(b.length-k:Nat)<2305843009213693952)
  (fun k h R hk hm hn hx=>?_) (fun k h _ hh=>⟨Bh hh.1 _,by rw[Gv];have:=hh.2;omega⟩) 0 h (by omega) ⟨h1,by simpa using h4⟩
 ·rw[Nat.sub_zero,Bi lS b _ _ _ (by omega)]at key;exact key
 obtain⟨hh,eV⟩:=hm;obtain⟨g1,g2,g3,g4⟩:=hh;rw[anB];refine⟨fun hb=>?_,fun hb=>?_⟩
 ·have l9:k<b.length:=by have:=of_decide_eq_true hb;omega
  have e1:i64.wrap (h.n+1)=h.n+1:=ax (by omega) (by omega);have e2:h.n.tmod 128=h.n%128:=Int.tmod_eq_emod_of_nonneg g2;have e3:(h.n+1).tmod 128=(h.n+1)%128:=Int.tmod_eq_emod_of_nonneg (by omega);have e4:∀c,List.take 128 (List.drop 0 (h.wait.set (h.n%128).toNat c))=h.wait.set (h.n%128).toNat c:=fun c=>bU (by simp[g4]);rw[e1,e2,e3,dY k (by omega)];simp only[Int.toNat_natCast,Nat.zero_add];rw[e4];have vS:=hn l9;refine⟨⟨by omega,by omega⟩,by omega,fun hz=>?_,fun hz=>?_⟩
  ·have Mh:(h.n+1)%128=0:=(by simpa using hz);rw[lS,if_pos Mh]at vS;exact⟨by omega,by simp[g4],⟨g3,trivial⟩,vS⟩
  ·have Mh:¬ (h.n+1)%128=0:=(by simpa using hz);rw[lS,if_neg Mh]at vS;exact vS
 ·have:k=b.length:=by have:=of_decide_eq_false hb;omega
  exact hx this
abbrev aq6:fq:= [(0,fF (bD puC rL) 1 [aq5,Bg,.auto] puF)]
abbrev hbA:aW (List LV) (List Int×Unit):=ak p0 (ae (ah (e9 false false u8)) ag)
def ab6:ar:=ar.dx [none,some u8] (hbA) (rL) fun x_ y_=>(fun(b:List Int) (h:HH)=>.leaf (some (sB h∧h.n+b.length<2305843009213693952)) (.cT []) [(0,hI (cA h b))]) x_.1 y_.1
theorem V9(b:List Int)(h:HH):aT Tryz.prog ab5 aq6 f106 ((hbA).wr (b,())) ((rL).wr (h,())) [Bg,.auto]=
 End.need (sB h∧(↑b.length:Int)=(↑b.length:Int)∧(0:Int)=(0:Int)∧h.n+(↑b.length:Int)<(2305843009213693952:Int)) (End.leaf
 (LV.cT []) [some (Item.bm [SV.bool (SB.sym (cA h b).begun),SV.arr (Ty.int u64) (8:Nat) (cA h b).s,SV.int i64 (SI.sym (cA h
 b).n),SV.arr (Ty.int IntKind.u8) (128:Nat) (cA h b).wait] (121:Nat))]):=by kernel_rfl
theorem SO:ab6.Ok Tryz.prog 106:=by
 refine(ar.br call106 fun x_ y_ Q H_=>?_).sym;obtain⟨b,_⟩:=x_;obtain⟨h,_⟩:=y_;obtain⟨hn,hq⟩:=H_;have hn:sB h∧h.n+b.length<2305843009213693952:=hn;refine(aA mixed Kb func106 rfl (LT:=aq6) (ks:= [Bg,.auto]) (aO.cU (nJ rfl (cN (hp:=rL.wr (h,())) (ahA h)) oI))).use (D:= [(0,hI (cA h b))]) ?_ hq;show(aT _ _ _ _ ((hbA).wr (b,())) ((rL).wr (h,())) _).sat _;rw[V9];exact⟨⟨hn.1,rfl,rfl,hn.2⟩,rfl,rfl⟩
def ab7:ar:=ar.dx [none,some u8] (hbA) (rL) fun x_ y_=>(fun(b:List Int) (h:HH)=>.leaf (some (sB h∧h.n+b.length<2305843009213693952)) (.cT []) [(0,hI (cA h b))]) x_.1 y_.1
theorem O0(b:List Int)(h:HH):aT Tryz.prog [(105,anz),(106,ab6)] [] f53 ((hbA).wr (b,())) ((rL).wr (h,())) [Bg,.auto]=
 End.need (h.begun=true) (End.need (sB h∧h.n+(↑b.length:Int)<(2305843009213693952:Int)) (End.leaf (LV.cT []) [some (Item.bm [SV.bool
 (SB.sym (cA h b).begun),SV.arr (Ty.int u64) (8:Nat) (cA h b).s,SV.int i64 (SI.sym (cA h b).n),SV.arr (Ty.int IntKind.u8)
 (128:Nat) (cA h b).wait] (121:Nat))])):=by kernel_rfl
theorem ab8:ab7.Ok Tryz.prog 53:=by
 refine(ar.br call53 fun x_ y_ Q H_=>?_).sym;obtain⟨b,_⟩:=x_;obtain⟨h,_⟩:=y_;obtain⟨hn,hq⟩:=H_;have hn:sB h∧h.n+b.length<2305843009213693952:=hn;refine(aA mixed ((aj ab4 (aj SO aE))) func53 rfl (LT:= []) (ks:= [Bg,.auto]) (aO.nil _)).use (D:= [(0,hI (cA h b))]) ?_ hq;show(aT _ _ _ _ ((hbA).wr (b,())) ((rL).wr (h,())) _).sat _;rw[O0];exact⟨hn.1.begun,hn,rfl,rfl⟩
def dX(x:Int):List Int:=(List.range 8).map fun i=>IntKind.u8.wrap (shr .u64 x ((56-8*i:Nat):Int))
def O1:ar:=ar.dx [] ((ae (ah (ay .u64)) ag)) (ag) fun x_ y_=>(fun(x:Int)=>.leaf none (.one (.sc (.sl 0 0))) [(0,.own 0 u8 (dX x))]) x_.1
theorem O2(x:Int):aT Tryz.prog [] [] f107 (((ae (ah (ay .u64)) ag)).wr (x,())) ((ag).wr ()) [.auto,.aN]=
 End.need ((1:Nat)≤(70368744177664:Nat)∧(1:Nat)≤(70368744177664:Nat)) (End.need ((2:Nat)≤(70368744177664:Nat)∧(2:Nat)≤
 (70368744177664:Nat)) (End.need ((3:Nat)≤(70368744177664:Nat)∧(3:Nat)≤(70368744177664:Nat)) (End.need ((4:Nat)≤(70368744177664:
 Nat)∧(4:Nat)≤(70368744177664:Nat)) (End.need ((5:Nat)≤(70368744177664:Nat)∧(5:Nat)≤(70368744177664:Nat)) (End.need ((6:Nat)≤
 (70368744177664:Nat)∧(6:Nat)≤(70368744177664:Nat)) (End.need ((7:Nat)≤(70368744177664:Nat)∧(7:Nat)≤(70368744177664:Nat))
 (End.need ((8:Nat)≤(70368744177664:Nat)∧(8:Nat)≤(70368744177664:Nat)) (End.leaf (LV.one (VV.sc (SV.sl (0:Nat) (0:Nat)))) [some
 (Item.own (0:Nat) (Ty.int IntKind.u8) ([IntKind.u8.wrap (shr u64 x (56:Int))]++ [IntKind.u8.wrap (shr u64 x (48:Int))]++
 [IntKind.u8.wrap (shr u64 x (40:Int))]++ [IntKind.u8.wrap (shr u64 x (32:Int))]++ [IntKind.u8.wrap (shr u64 x (24:
 Int))]++ [IntKind.u8.wrap (shr u64 x (16:Int))]++ [IntKind.u8.wrap (shr u64 x (8:Int))]++ [IntKind.u8.wrap (shr u64 x (0
 :Int))]))])))))))):=by kernel_rfl
theorem Kc:O1.Ok Tryz.prog 107:=by
 refine(ar.br call107 fun x_ y_ Q H_=>?_).sym;obtain⟨x,_⟩:=x_;have hq:=H_.2;refine(aA mixed aE func107 rfl (LT:= []) (ks:= [.auto,.aN]) (aO.nil _)).use (D:= [(0,.own 0 u8 (dX x))]) ?_ hq;show(aT _ _ _ _ (((ae (ah (ay .u64)) ag)).wr (x,())) ((ag).wr ()) _).sat _;rw[O2];exact⟨by omega,by omega,by omega,by omega,by omega,by omega,by omega,by omega,rfl,rfl⟩
def kY(s:List Int):List Int:=(List.range 8).foldl (fun a i=>a++dX (s.getD i 0)) []
def Ke:ar:=ar.dx [] ((ak p0 ag)) (rL) fun x_ y_=>(fun(h:HH)=>.leaf none (.one (.sc (.sl 1 0))) [(1,.own 0 u8 (kY h.s))]) y_.1
theorem Gw(h:HH):aT Tryz.prog [(107,O1)] [] f108 (((ak p0 ag)).wr ()) ((rL).wr (h,())) [.auto,.aN]=
 End.need ((8:Nat)≤(70368744177664:Nat)∧(8:Nat)≤(70368744177664:Nat)) (End.need ((16:Nat)≤(70368744177664:Nat)∧(16:Nat)≤
 (70368744177664:Nat)) (End.need ((24:Nat)≤(70368744177664:Nat)∧(24:Nat)≤(70368744177664:Nat)) (End.need ((32:Nat)≤(70368744177664:
 Nat)∧(32:Nat)≤(70368744177664:Nat)) (End.need ((40:Nat)≤(70368744177664:Nat)∧(40:Nat)≤(70368744177664:Nat)) (End.need ((48:Nat)
 ≤(70368744177664:Nat)∧(48:Nat)≤(70368744177664:Nat)) (End.need ((56:Nat)≤(70368744177664:Nat)∧(56:Nat)≤(70368744177664:Nat))
 (End.need ((64:Nat)≤(70368744177664:Nat)∧(64:Nat)≤(70368744177664:Nat)) (End.leaf (LV.one (VV.sc (SV.sl (1:Nat) (0:Nat)))) [some
 (Item.bm [SV.bool (SB.sym h.begun),SV.arr (Ty.int u64) (8:Nat) h.s,SV.int i64 (SI.sym h.n),SV.arr (Ty.int IntKind.u8) (128:Nat)
 h.wait] (121:Nat)),some (Item.own (0:Nat) (Ty.int IntKind.u8) (dX (h.s.getD (0:Nat) (0:Int))++dX (h.s.getD (1:Nat) (0:Int))++
 dX (h.s.getD (2:Nat) (0:Int))++dX (h.s.getD (3:Nat) (0:Int))++dX (h.s.getD (4:Nat) (0:Int))++dX (h.s.getD (5:Nat)
 (0:Int))++dX (h.s.getD (6:Nat) (0:Int))++dX (h.s.getD (7:Nat) (0:Int))))])))))))):=by kernel_rfl
theorem O3:Ke.Ok Tryz.prog 108:=by
 refine(ar.br call108 fun x_ y_ Q H_=>?_).sym;obtain⟨h,_⟩:=y_;have hq:=H_.2;refine(aA mixed ((aj Kc aE)) func108 rfl (LT:= []) (ks:= [.auto,.aN]) (aO.nil _)).use (D:= [(1,.own 0 u8 (kY h.s))]) ?_ hq;show(aT _ _ _ _ (((ak p0 ag)).wr ()) ((rL).wr (h,())) _).sat _;rw[Gw];exact⟨by omega,by omega,by omega,by omega,by omega,by omega,by omega,by omega,rfl,rfl⟩
abbrev aq7:Func:=f54
abbrev ab9:List (FuncId×ar):= [(105,anz),(106,ab6),(107,O1),(108,Ke)]
theorem Kf:∀p∈ab9,p.2.Ok Tryz.prog p.1:=aj ab4 (aj SO (aj Kc (aj O3 aE)))
abbrev Gx:aW Hp (HH×List Int×HH×Unit):=ae (iF 121 cHH) (ae (oJ 41 .u8 64) (ae (iF 121 cHH) ag))
abbrev aca:Wk:=.bm 2 [.sym,.an,.sym,.an]
abbrev suC:aW (List LV) (Int×Unit):=(jk 2 (ak (ah (aP 1 0)) (ak (ah (aP 2 0)) (ae (ah (ay .u64)) (jk 24 ag)))))
abbrev anD:Wk:=.fr (dK 29 [(2,.an),(3,.an),(4,.sym)])
def suW:Exit→List Wk
 | .normal=> [anD,aca,.auto]
 | .exit 0=> [anD,aca,.auto]
 |_=> []
theorem anE(h0:HH)(g:HH)(r:List Int)(h:HH)(n:Int):ee Tryz.prog ab9 [] aq7 0 (rL.wr (h0,())) suW ((bD suC Gx).wr ((n,()),(g,r,h,())))=
 aZ.ite (h.n.tmod (128:Int)!=(112:Int)) (aZ.need (sB h∧h.n+(1:Int)<(2305843009213693952:Int)) (aZ.leaf Exit.normal ((bD suC
 Gx).wr ((n,PUnit.unit),g,r,cA h [(0:Int)],PUnit.unit)))) (aZ.leaf (Exit.exit (0:Nat)) ((bD suC Gx).wr ((n,PUnit.unit),g,r,h,
 PUnit.unit))):=by kernel_rfl
def nZ(h:HH):HH:=cA h (List.replicate ((112-h.n)%128).toNat 0)
theorem Wa{h:HH}(hz:¬h.n%128=112):nZ (cA h [0])=nZ h∧((112-(cA h [0]).n)%128).toNat<((112-h.n)%128).toNat:=by
 have e1:(cA h [0]).n=h.n+1:=by rw[pS];rfl
 have e2:((112-h.n)%128).toNat=((112-(cA h [0]).n)%128).toNat+1:=by rw[e1];omega
 refine⟨?_,by omega⟩;unfold nZ;rw[e2,List.replicate_succ];rfl
theorem acb{h:HH}(hz:h.n%128=112):nZ h=h:=by
 have e:((112-h.n)%128).toNat=0:=by omega
 unfold nZ;rw[e];rfl
def suF(x:(Int×Unit)×HH×List Int×HH×Unit):aZ:=
 .need (sB x.2.2.2.1∧x.2.2.2.1.n+128<2305843009213693952) (.leaf (.exit 0) ((bD suC Gx).wr (x.1,(x.2.1,x.2.2.1,nZ x.2.2.2.1,()))))
theorem ahC(h0:HH)(x):Ex Tryz.prog (rL.wr (h0,())) (.loop (aV aq7 0)) ((bD suC Gx).wr x) (suF x):=by
 obtain⟨⟨n,_⟩,g,r,h,_⟩:=x;refine Ex.need fun⟨h1,h2⟩=>?_;simp only at h1 h2
 refine Rw mixed Kf (LT:= []) (ws:=suW) (hp:=rL.wr (h0,())) (aO.nil _) (fun h:HH=>((112-h.n)%128).toNat) (fun h:HH=>(bD suC Gx).wr ((n,()),(g,r,h,()))) (fun h=>sB h∧h.n+(112-h.n)%128<2305843009213693952)
  (fun h=>.leaf (.exit 0) ((bD suC Gx).wr ((n,()),(g,r,nZ h,())))) (fun h _=>anE h0 g r h n) (fun h R hh hs=>?_) h ⟨h1,by omega⟩
 obtain⟨hh,eV⟩:=hh;have e:h.n.tmod 128=h.n%128:=Int.tmod_eq_emod_of_nonneg hh.n;rw[e];refine⟨fun hb=>?_,fun hb=>?_⟩
 ·have j5:¬h.n%128=112:=by simpa using hb
  obtain⟨k1,k2⟩:=Wa j5;have e1:(cA h [0]).n=h.n+1:=by rw[pS];rfl
  refine⟨⟨hh,by omega⟩,.inl ⟨rfl,cA h [0],rfl,⟨nY _ hh,by rw[e1];omega⟩,k2,?_⟩⟩;show(aZ.leaf (.exit 0) ((bD suC Gx).wr ((n,()),(g,r,nZ (cA h [0]),())))).sat R;rw[k1];exact hs
 ·have j5:h.n%128=112:=by simpa using hb
  rw[acb j5]at hs;exact .inr ⟨by simp,hs⟩
abbrev aq8:fq:= [(0,fF (bD suC Gx) 1 [anD,aca,.auto] suF)]
def aq9(h:HH)(n:Int):HH:=cA (cA (nZ (cA h [128])) (dX (shr .u64 n 61))) (dX (shl .u64 n 3))
def anF(h:HH):List Int:=kY (aq9 h (u64.wrap h.n)).s
theorem Gy(x:Int):(dX x).length=8:=rfl
theorem Bj(s:List Int):(kY s).length=64:=rfl
def ara:ar:=ar.dx [] ((ak p0 ag)) (rL) fun x_ y_=>(fun(h:HH)=>.leaf (some (sB h∧h.n<1152921504606846976)) (jq .u8 64 (anF h)) []) y_.1
theorem acd(h:HH):aT Tryz.prog ab9 aq8 f54 (((ak p0 ag)).wr ()) ((rL).wr (h,())) [.fr [.sym],Bg,.auto]=
 End.need (h.begun=true) (End.need (sB h∧h.n+(1:Int)<(2305843009213693952:Int)) (End.need (sB (cA h [(128:Int)])∧(cA h [(128:
 Int)]).n+(128:Int)<(2305843009213693952:Int)) (End.need (sB (nZ (cA h [(128:Int)]))∧(nZ (cA h [(128:Int)])).n+(8:Int)<
 (2305843009213693952:Int)) (End.need (sB (cA (nZ (cA h [(128:Int)])) (dX (shr u64 (u64.wrap h.n) (61:Int))))∧(cA
 (nZ (cA h [(128:Int)])) (dX (shr u64 (u64.wrap h.n) (61:Int)))).n+(8:Int)<(2305843009213693952:Int)) (End.need ((64
 :Nat)≤(64:Nat)) (End.need ((64:Nat)≤(64:Nat)) (End.leaf (LV.one (VV.agg [SV.arr (Ty.int IntKind.u8) (64:Nat) (List.take (64:Nat)
 (List.drop (0:Nat) (kY (cA (cA (nZ (cA h [(128:Int)])) (dX (shr u64 (u64.wrap h.n) (61:Int)))) (dX (shl
 u64 (u64.wrap h.n) (3:Int)))).s)))])) [some (Item.bm [SV.bool (SB.sym h.begun),SV.arr (Ty.int u64) (8:Nat) h.s,SV.int
 i64 (SI.sym h.n),SV.arr (Ty.int IntKind.u8) (128:Nat) h.wait] (121:Nat))]))))))):=by kernel_rfl
theorem anG:ara.Ok Tryz.prog 54:=by
 refine(ar.br call54 fun x_ y_ Q H_=>?_).sym;obtain⟨h,_⟩:=y_;obtain⟨hn,hq⟩:=H_;have hn:sB h∧h.n<1152921504606846976:=hn;refine(aA mixed Kf func54 rfl (LT:=aq8) (ks:= [.fr [.sym],Bg,.auto]) (aO.cU (nJ rfl (cN (hp:=rL.wr (h,())) (ahC h)) oI))).use (D:= []) ?_ hq;show(aT _ _ _ _ (((ak p0 ag)).wr ()) ((rL).wr (h,())) _).sat _;rw[acd];obtain⟨g1,g2⟩:=hn;have g3:=g1.n;have e1:(cA h [128]).n=h.n+1:=by rw[pS];rfl
 have k1:sB (cA h [128]):=nY _ g1;have k2:sB (nZ (cA h [128])):=nY _ k1;have e2:(nZ (cA h [128])).n≤h.n+128:=by unfold nZ;rw[pS,e1,List.length_replicate];omega
 have k3:sB (cA (nZ (cA h [128])) (dX (shr .u64 (u64.wrap h.n) 61))):=nY _ k2;have e3:(cA (nZ (cA h [128])) (dX (shr .u64 (u64.wrap h.n) 61))).n≤h.n+136:=by rw[pS,Gy];omega
 have e4:∀s,List.take 64 (List.drop 0 (kY s))=kY s:=fun s=>bU (Bj s);rw[e4];exact⟨g1.begun,⟨g1,by omega⟩,⟨k1,by omega⟩,⟨k2,by omega⟩,⟨k3,by omega⟩,by omega,by omega,rfl,rfl⟩
abbrev ofFn:Func:=f22
abbrev cU:List (FuncId×ar):= [(52,alf),(53,ab7),(54,ara)]
abbrev rrA:aW (List LV) (List (List Int)×Unit):=ae (ah (e9 false false (.sl u8))) ag
abbrev ofC:aW (List LV) (List (List Int)×Int×Int×Unit):=(jk 2 (ak (ah (aP 0 0)) (ak (ah (aP 1 0)) (jk 3 (ae (ah (e9 false false (.sl u8))) (ae (ah (ay .i64)) (ae (ah (ay .i64)) (jk 9 ag))))))))
abbrev arc:Wk:=.fr (dK 19 [(2,.an),(3,.an),(7,.an),(8,.sym),(9,.sym)])
abbrev ofX:aW (List LV) (Unit):=(jk 2 (ak (ah (aP 0 0)) (ak (ah (aP 1 0)) (jk 15 ag))))
abbrev avg:Wk:=.fr (dK 19 [(2,.an),(3,.an)])
abbrev Kg:aW Hp (List Int×HH×Unit):=ae (oJ 41 .u8 64) (ae (iF 121 cHH) ag)
abbrev ace:Wk:=.bm 1 [.sym,.an,.sym,.an]
def ofW:Exit→List Wk
 | .normal=> [arc,ace,.auto]
 | .exit 0=> [avg,ace,.auto]
 |_=> []
theorem anH(l:List (List Int))(n i:Int)(r:List Int)(h:HH):ee Tryz.prog cU [] ofFn 0 [] ofW ((bD ofC Kg).wr ((l,n,i,()),(r,h,())))=
 aZ.ite (decide (i<n)) (aZ.need ((0:Int)≤i∧i<(↑l.length:Int)) (aZ.need (sB h∧h.n+(↑(List.length (l.getD i.toNat [])):Int)<
 (2305843009213693952:Int)) (aZ.leaf Exit.normal ((bD ofC Kg).wr ((l,n,i64.wrap (i+(1:Int)),PUnit.unit),r,cA h (l.getD i.toNat
 []),PUnit.unit))))) (aZ.leaf (Exit.exit (0:Nat)) ((bD ofX Kg).wr (PUnit.unit,r,h,PUnit.unit))):=by kernel_rfl
theorem Kh:∀p∈cU,p.2.Ok Tryz.prog p.1:=aj ahz (aj ab8 (aj anG aE))
theorem DE{σ:Type}(g:σ→List Int→σ)(b:List (List Int)):∀ (m k:Nat) (s:σ),k+m=b.length→upto (fun k s=>g s (b.getD k [])) k m s=(b.drop k).foldl g s
 |0,k,s,h=>by rw[List.drop_eq_nil_of_le (by omega)];rfl
 |m+1,k,s,h=>by
  have e:b.drop k=b.getD k []::b.drop (k+1):=by
   rw[List.drop_eq_getElem_cons (by omega:k<b.length),List.getD_eq_getElem?_getD,List.getElem?_eq_getElem (by omega:k<b.length)];rfl
  rw[e];exact DE g b m (k+1) _ (by omega)
theorem DF:∀ (l:List (List Int)) (h:HH),l.foldl cA h=cA h l.flatten
 | [],h=>rfl
 |b::l,h=>by rw[List.foldl_cons,DF l,List.flatten_cons,Ka]
def ard(x:(List (List Int)×Int×Int×Unit)×List Int×HH×Unit):aZ:=
 .need (sB x.2.2.1∧x.1.2.1=x.1.1.length∧x.1.2.2.1=0∧x.1.1.length<2305843009213693952∧x.2.2.1.n+x.1.1.flatten.length<2305843009213693952) (.leaf (.exit 0) ((bD ofX Kg).wr ((),(x.2.1,cA x.2.2.1 x.1.1.flatten,()))))
theorem ahD(x):Ex Tryz.prog [] (.loop (aV ofFn 0)) ((bD ofC Kg).wr x) (ard x):=by
 obtain⟨⟨l,n,i,_⟩,r,h,_⟩:=x;refine Ex.need fun⟨h1,h2,h3,h4,h5⟩=>?_;simp only at h1 h2 h3 h4 h5;subst h2 h3
 have key:=gJ (fn:=ofFn) (id:=0) (j:=0) (ws:=ofW) (hp:= []) mixed Kh (aO.nil _) l.length (fun k h=>(bD ofC Kg).wr ((l,(l.length:Int),(k:Int),()),(r,h,()))) (fun h=>(bD ofX Kg).wr ((),(r,h,()))) (fun k h=>cA h (l.getD k [])) (fun k h=>sB h∧h.n+(l.drop k).flatten.length<2305843009213693952)
  (fun k h R hk hm hn hx=>?_) (fun k h hk hh=>⟨nY _ hh.1,?_⟩) 0 h (by omega) ⟨h1,h5⟩
 ·rw[Nat.sub_zero,DE cA l _ _ _ (by omega),DF]at key;exact key
 ·obtain⟨hh,eV⟩:=hm;rw[anH];refine⟨fun hb=>?_,fun hb=>?_⟩
  ·have l9:k<l.length:=by have:=of_decide_eq_true hb;omega
   have e:l.drop k=l.getD k []::l.drop (k+1):=by
    rw[List.drop_eq_getElem_cons l9,List.getD_eq_getElem?_getD,List.getElem?_eq_getElem l9];rfl
   rw[e,List.flatten_cons,List.length_append]at eV;rw[dY k (by omega)];simp only[Int.toNat_natCast];exact⟨by omega,⟨hh,by omega⟩,hn l9⟩
  ·have:k=l.length:=(by have:=of_decide_eq_false hb;omega);exact hx this
 ·have e:l.drop k=l.getD k []::l.drop (k+1):=by
   rw[List.drop_eq_getElem_cons hk,List.getD_eq_getElem?_getD,List.getElem?_eq_getElem hk];rfl
  have h2:=hh.2;rw[e,List.flatten_cons,List.length_append]at h2;rw[pS];omega
abbrev ofLT:fq:= [(0,fF (bD ofC Kg) 0 [arc,ace,.auto] ard)]
theorem Gz:sB J9:=⟨rfl,by decide,rfl,rfl⟩
def aJ(b:List Int):List Int:=anF (cA J9 b)
theorem cR(b:List Int):(aJ b).length=64:=rfl
def ofE:ar:=ar.dx [some (.sl u8)] (rrA) (ag) fun x_ y_=>(fun(l:List (List Int))=>.leaf (some (l.length<2305843009213693952∧l.flatten.length<1152921504606846976)) (jq .u8 64 (aJ l.flatten)) []) x_.1
theorem ahE(l:List (List Int)):aT Tryz.prog cU ofLT f22 ((rrA).wr (l,())) ((ag).wr ()) [.fr [.sym],.auto]=
 End.need (sB {begun:=true,s:= [(7640891576956012808:Int),(13503953896175478587:Int),(4354685564936845355:Int),(11912009170470909681:Int),(5840696475078001361:Int),(11170449401992604703:Int),(2270897969802886507:Int),(6620516959819538809:Int)],n:=(0:Int),wait:=List.replicate (128:Nat) (0:Int)}
 ∧(↑l.length:Int)=(↑l.length:Int)∧(0:Int)=(0:Int)∧l.length<(2305843009213693952:Nat)∧(0:Int)+(↑l.flatten.length:Int)<
 (2305843009213693952:Int)) (End.need (sB (cA {begun:=true,s:= [(7640891576956012808:Int),(13503953896175478587:Int),(4354685564936845355:Int),(11912009170470909681:Int),(5840696475078001361:Int),(11170449401992604703:Int),(2270897969802886507:Int),(6620516959819538809:Int)],n:=(0:Int),wait:=List.replicate (128:Nat) (0:Int)}
 l.flatten)∧(cA {begun:=true,s:= [(7640891576956012808:Int),(13503953896175478587:Int),(4354685564936845355:Int),(11912009170470909681:Int),(5840696475078001361:Int),(11170449401992604703:Int),(2270897969802886507:Int),(6620516959819538809:Int)],n:=(0:Int),wait:=List.replicate (128:Nat) (0:Int)}
 l.flatten).n<(1152921504606846976:Int)) (End.leaf (LV.one (VV.agg [SV.arr (Ty.int IntKind.u8) (64:Nat) (anF (cA {begun:=true,s:= [(7640891576956012808:Int),(13503953896175478587:Int),(4354685564936845355:Int),(11912009170470909681:Int),(5840696475078001361:Int),(11170449401992604703:Int),(2270897969802886507:Int),(6620516959819538809:Int)],n:=(0:Int),wait:=List.replicate (128:Nat) (0:Int)}
 l.flatten))])) [])):=by kernel_rfl
theorem alg:ofE.Ok Tryz.prog 22:=by
 refine(ar.br call22 fun x_ y_ Q H_=>?_).sym;obtain⟨l,_⟩:=x_;obtain⟨hn,hq⟩:=H_;have hn:l.length<2305843009213693952∧l.flatten.length<1152921504606846976:=hn;refine(aA mixed Kh func22 rfl (LT:=ofLT) (ks:= [.fr [.sym],.auto]) (aO.cU (nJ rfl (cN (hp:= []) ahD) oI))).use (D:= []) ?_ hq;show(aT _ _ _ _ ((rrA).wr (l,())) ((ag).wr ()) _).sat _;rw[ahE];have e:(cA J9 l.flatten).n=l.flatten.length:=by rw[pS];show(0:Int)+_=_;omega
 exact⟨⟨Gz,rfl,rfl,hn.1,by omega⟩,⟨nY _ Gz,by show(cA J9 l.flatten).n<_;rw[e];omega⟩,rfl,rfl⟩
def ct(b:List Int):List Int:=aJ (b.take 160)
def rh:ar:=ar.dx [some u8] (bA) (ag) fun x_ y_=>(fun(b:List Int)=>.leaf (some (b.length<1152921504606846976)) (jq .u8 64 (ct b)) []) x_.1
theorem Ki(b:List Int):aT Tryz.prog [(22,ofE)] [] f40 ((bA).wr (b,())) ((ag).wr ()) [.fr [.sym],.auto]=
 End.need ((0:Int)≤(0:Int)∧((0:Int)≤if(160:Int)<(↑b.length:Int)then(160:Int)else(↑b.length:Int))∧(if(160:Int)<
 (↑b.length:Int)then(160:Int)else(↑b.length:Int))≤(↑b.length:Int)) (End.need ((1:Nat)<(2305843009213693952:Nat)∧ [List.take ((if
 (160:Int)<(↑b.length:Int)then(160:Int)else(↑b.length:Int))-(0:Int)).toNat (List.drop (0:Nat) b)].flatten.length<
 (1152921504606846976:Nat)) (End.leaf (LV.one (VV.agg [SV.arr (Ty.int IntKind.u8) (64:Nat) (aJ [List.take ((if(160:Int)<(↑b.length:Int)
 then(160:Int)else(↑b.length:Int))-(0:Int)).toNat (List.drop (0:Nat) b)].flatten)])) [])):=by kernel_rfl
theorem wY:rh.Ok Tryz.prog 40:=by
 refine(ar.br call40 fun x_ y_ Q H_=>?_).sym;obtain⟨b,_⟩:=x_;obtain⟨hn,hq⟩:=H_;have hn:b.length<1152921504606846976:=hn;refine(aA mixed ((aj alg aE)) func40 rfl (LT:= []) (ks:= [.fr [.sym],.auto]) (aO.nil _)).use (D:= []) ?_ hq;show(aT _ _ _ _ ((bA).wr (b,())) ((ag).wr ()) _).sat _;rw[Ki]
 have e:List.take ((if(160:Int)<b.length then(160:Int)else b.length)-0).toNat (List.drop 0 b)=b.take 160:=by
  rw[List.drop_zero]
  split
  ·rfl
  ·rw[List.take_of_length_le (by omega),List.take_of_length_le (by omega)]
 rw[e,List.flatten_singleton];refine⟨⟨by omega,by split<;>omega,by split<;>omega⟩,⟨by omega,by simp;omega⟩,rfl,rfl⟩
def uQ:Nat→List Int→List Int→List Int
 |0,s,_=>s
 |k+1,s,b=>uQ k (Bf s (pQ (b.take 128))) (b.drop 128)
def acf(s b:List Int):List Int:=uQ (b.length/128) s b
theorem kZ(k:Nat)(s b:List Int):uQ (k+1) s b=uQ k (Bf s (pQ (b.take 128))) (b.drop 128):=rfl
theorem Bk(s b:List Int):uQ 0 s b=s:=rfl
theorem sC:∀ (k:Nat) (s b c:List Int),b.take (128*k)=c.take (128*k)→128*k≤b.length→128*k≤c.length→uQ k s b=uQ k s c
 |0,_,_,_,_,_,_=>rfl
 |k+1,s,b,c,h,hb,hc=>by
  have e1:b.take 128=c.take 128:=by
   have:=congrArg (List.take 128) h;rw[List.take_take,List.take_take,Nat.min_eq_left (by omega)]at this;exact this
  have e2:(b.drop 128).take (128*k)=(c.drop 128).take (128*k):=by
   have:=congrArg (List.drop 128) h;rw[List.drop_take,List.drop_take,show 128*(k+1)-128=128*k from by omega]at this;exact this
  rw[kZ,kZ,e1];exact sC k _ _ _ e2 (by rw[List.length_drop];omega) (by rw[List.length_drop];omega)
theorem Bl:∀ (k:Nat) (s a b:List Int),a.length=128*k→b.length=128→uQ (k+1) s (a++b)=Bf (uQ k s a) (pQ b)
 |0,s,a,b,ha,hb=>by
  have:a= []:=List.eq_nil_of_length_eq_zero (by omega);subst this;rw[kZ,Bk,Bk,List.nil_append,List.take_of_length_le (by omega)]
 |k+1,s,a,b,ha,hb=>by
  rw[kZ (k+1),kZ k s a,List.take_append_of_le_length (by omega),List.drop_append_of_le_length (by omega)];exact Bl k _ (a.drop 128) b (by rw[List.length_drop];omega) hb
structure HP (h:HH) (row:List Int):Prop where
 ok:sB h
 n:h.n=row.length
 s:h.s=acf Be row
 wait:h.wait.take (row.length%128)=row.drop (row.length/128*128)
theorem HP.byte{h:HH}{row:List Int}(hp:HP h row)(c:Int):HP (lS h c) (row++ [c]):=by
 obtain⟨h0,h1,h2,h3⟩:=hp;have hw:=h0.wait;have hn:(h.n%128).toNat=row.length%128:=by rw[h1];omega
 have rV:(h.wait.set (row.length%128) c).take (row.length%128+1)=row.drop (row.length/128*128)++ [c]:=by
  rw[List.take_add_one,List.take_set_of_le (Nat.le_refl _),h3];simp[show row.length%128<h.wait.length by omega]
 refine⟨Bh h0 c,?_,?_,?_⟩
 ·rw[Gv,h1];simp
 ·unfold lS
  by_cases hz:(h.n+1)%128=0
  ·rw[if_pos hz,hn];simp only;have hl:row.length%128=127:=by omega
   have are:h.wait.set (row.length%128) c=row.drop (row.length/128*128)++ [c]:=by
    rw[← rV,List.take_of_length_le (by simp;omega)]
   have hk:(row++ [c]).length/128=row.length/128+1:=(by simp;omega);rw[are,h2];unfold acf;rw[hk];have e:row++ [c]=row.take (row.length/128*128)++(row.drop (row.length/128*128)++ [c]):=(by rw[← List.append_assoc,List.take_append_drop]);rw[e,Bl _ _ _ _ (by rw[List.length_take];omega) (by simp;omega)]
   congr 1
   exact sC _ _ _ _ (by rw[List.take_take];congr 1;omega) (by omega) (by rw[List.length_take];omega)
  ·rw[if_neg hz];simp only;have hk:(row++ [c]).length/128=row.length/128:=(by simp;omega);rw[h2];unfold acf;rw[hk];exact sC _ _ _ _ (by rw[List.take_append_of_le_length (by omega)]) (by omega) (by simp;omega)
 ·have hwb:(lS h c).wait=h.wait.set (row.length%128) c:=by unfold lS;split<;>simp only[hn]
  rw[hwb]
  by_cases hz:(row.length+1)%128=0
  ·have e1:(row++ [c]).length%128=0:=(by simpa using hz);have e2:(row++ [c]).length/128*128=(row++ [c]).length:=(by omega);rw[e1,e2,List.drop_length];rfl
  ·have e1:(row++ [c]).length%128=row.length%128+1:=(by simp;omega);have e2:(row++ [c]).length/128*128=row.length/128*128:=(by simp;omega);rw[e1,e2,rV,List.drop_append_of_le_length (by omega)]
theorem HP.put:∀ (b:List Int) {h:HH} {row:List Int},HP h row→HP (cA h b) (row++b)
 | [],h,row,hp=>by simpa [cA]using hp
 |c::b,h,row,hp=>by
  have:=HP.put b (hp.byte c);rw[List.append_assoc]at this;exact this
theorem HP.new:HP J9 []:=⟨Gz,rfl,rfl,rfl⟩
theorem HP.of(b:List Int):HP (cA J9 b) b:=by simpa using HP.new.put b
abbrev anI:Func:=f242
abbrev vaC:aW (List LV) (Int×List Int×Int×Int×Unit):=(jk 3 (ae (ah (ay .u64)) (jk 3 (ae (ah (e9 false false u8)) (ae (ah (ay .i64)) (ae (ah (ay .i64)) (jk 13 ag)))))))
abbrev arh:Wk:=.fr (dK 23 [(3,.sym),(7,.an),(8,.sym),(9,.sym)])
abbrev vaX:aW (List LV) (Int×Unit):=(jk 3 (ae (ah (ay .u64)) (jk 19 ag)))
abbrev avj:Wk:=.fr (dK 23 [(3,.sym)])
def vaW:Exit→List Wk
 | .normal=> [arh,.auto]
 | .exit 0=> [avj,.auto]
 |_=> []
theorem anJ(x:Int)(l:List Int)(n i:Int):ee Tryz.prog [] [] anI 0 [] vaW ((bD vaC ag).wr ((x,l,n,i,()),()))=
 aZ.ite (decide (i<n)) (aZ.need ((0:Int)≤i∧i<(↑l.length:Int)) (aZ.need ((0:Int)≤i64.wrap ((8:Int)*i)) (aZ.leaf
 Exit.normal ((bD vaC ag).wr ((bp u64 x (shl u64 (u64.wrap (l.getD i.toNat (0:Int))) (i64.wrap ((8:Int)*
 i))),l,n,i64.wrap (i+(1:Int)),PUnit.unit),PUnit.unit))))) (aZ.leaf (Exit.exit (0:Nat)) ((bD vaX ag).wr ((x,PUnit.unit),
 PUnit.unit))):=by kernel_rfl
def vaF(x:(Int×List Int×Int×Int×Unit)×Unit):aZ:=
 .need (x.1.1=0∧x.1.2.1.length=8∧al x.1.2.1∧x.1.2.2.1=x.1.2.1.length∧x.1.2.2.2.1=0) (.leaf (.exit 0) ((bD vaX ag).wr ((dW x.1.2.1,()),())))
theorem ari{l:List Int}{k:Nat}(hl:al l)(h8:l.length=8)(hk:k<8):
  bp .u64 (dW (l.take k)) (shl .u64 (u64.wrap (l.getD k 0)) (i64.wrap (8*(k:Int))))=dW (l.take (k+1)):=by
 have hc:By (l.getD k 0):=ahr hl k
 have e0:l.take (k+1)=l.take k++ [l.getD k 0]:=by
  rw[List.take_add_one];simp[List.getD_eq_getElem?_getD,List.getElem?_eq_getElem (show k<l.length by omega)]
 have hlen:(l.take k).length=k:=by rw[List.length_take];omega
 obtain⟨r1,r2,_⟩:=ia (hl.take k) (by omega);rw[hlen]at r2;obtain⟨XU,hc1⟩:=hc;have e1:i64.wrap (8*(k:Int))=((8*k:Nat):Int):=by rw[ax (by omega) (by omega)];omega
 have hpw:((2 ^ (8*k):Nat):Int)=256 ^ k:=by rw[Nat.pow_mul,Int.natCast_pow];rfl
 have hle:(256:Int) ^ k≤256 ^ 7:=by
  have:(256:Nat) ^ k≤256 ^ 7:=Nat.pow_le_pow_right (by omega) (by omega)
  exact_mod_cast this
 have h7:(256:Int) ^ 7=72057594037927936:=by decide
 have iT:(0:Int)<256 ^ k:=Int.pow_pos (by omega);have hmul:l.getD k 0*256 ^ k≤255*256 ^ k:=Int.mul_le_mul_of_nonneg_right (by omega) (by omega);have arj:0≤l.getD k 0*256 ^ k:=Int.mul_nonneg XU (by omega)
 rw[e0,DD (hl.take k) ⟨XU,hc1⟩ (by omega),hlen,e1,wrap_u64 XU (by omega),g6 .u64 _ _ (by show 8*k≤64;omega),hpw,wrap_u64 (by omega) (by omega),iG,
  nK (m:=8*k) arj (by rw[hpw];exact Int.mul_emod_left _ _) r1 (by rw[hpw];exact r2) (by omega)]
 omega
theorem ahF(x):Ex Tryz.prog [] (.loop (aV anI 0)) ((bD vaC ag).wr x) (vaF x):=by
 obtain⟨⟨y,l,n,i,_⟩,_⟩:=x;refine Ex.need fun⟨h1,h2,h3,h4,h5⟩=>?_;simp only at h1 h2 h3 h4 h5;subst h1 h4 h5
 have key:=gJ (fn:=anI) (id:=0) (j:=0) (ws:=vaW) (hp:= []) mixed aE (aO.nil _) 8 (fun k (_:Unit)=>(bD vaC ag).wr ((dW (l.take k),l,(l.length:Int),(k:Int),()),())) (fun _=>(bD vaX ag).wr ((dW (l.take 8),()),())) (fun _ u=>u) (fun _ _=>True)
  (fun k u R hk _ hn hx=>?_) (fun _ _ _ _=>trivial) 0 () (by omega) trivial
 ·rw[List.take_of_length_le (show l.length≤8 by omega)]at key;exact key
 rw[anJ];refine⟨fun hb=>?_,fun hb=>?_⟩
 ·have l9:k<8:=by have:=of_decide_eq_true hb;omega
  have e:=ari h3 h2 l9;rw[Int.toNat_natCast,e,dY k (by omega)];refine⟨by omega,?_,hn l9⟩;rw[ax (by omega) (by omega)];omega
 ·have:k=8:=by have:=of_decide_eq_false hb;omega
  subst this;exact hx rfl
abbrev ark:fq:= [(0,fF (bD vaC ag) 0 [arh,.auto] vaF)]
def acg:ar:=ar.dx [some u8] (bA) (ag) fun x_ y_=>(fun(l:List Int)=>.leaf (some (8≤l.length∧al l)) (nU (dW (l.take 8))) []) x_.1
theorem O4(l:List Int):aT Tryz.prog [] ark f242 ((bA).wr (l,())) ((ag).wr ()) [.fr [.sym],.auto]=
 End.need ((0:Int)≤(0:Int)∧(0:Int)≤(8:Int)∧(8:Int)≤(↑l.length:Int)) (End.need ((0:Int)=(0:Int)∧(List.take (8:Nat)
 (List.drop (0:Nat) l)).length=(8:Nat)∧al (List.take (8:Nat) (List.drop (0:Nat) l))∧(↑(List.take (8:Nat) (List.drop (0:Nat)
 l)).length:Int)=(↑(List.take (8:Nat) (List.drop (0:Nat) l)).length:Int)∧(0:Int)=(0:Int)) (End.leaf (LV.one (VV.sc (SV.int u64
 (SI.sym (dW (List.take (8:Nat) (List.drop (0:Nat) l))))))) [])):=by kernel_rfl
theorem ach:acg.Ok Tryz.prog 242:=by
 refine(ar.br call242 fun x_ y_ Q H_=>?_).sym;obtain⟨l,_⟩:=x_;obtain⟨hn,hq⟩:=H_;have hn:8≤l.length∧al l:=hn;refine(aA mixed aE func242 rfl (LT:=ark) (ks:= [.fr [.sym],.auto]) (aO.cU (nJ rfl (cN (hp:= []) ahF) oI))).use (D:= []) ?_ hq;show(aT _ _ _ _ ((bA).wr (l,())) ((ag).wr ()) _).sat _;rw[O4];obtain⟨h1,h2⟩:=hn;rw[List.drop_zero];exact⟨by omega,⟨rfl,by simp;omega,h2.take 8,rfl,rfl⟩,rfl,rfl⟩
structure MM where
 ver:Int
 gM:Int
 len:Int
 list:List Int
 plain:List Int
abbrev cMM:aW (List SV) MM:=(uC ag).nH (fun x=>⟨x.1,x.2.1,x.2.2.1,x.2.2.2.1,x.2.2.2.2.1⟩) (fun m=>(m.ver,m.gM,m.len,m.list,m.plain,())) (fun _=>rfl)
def mm0:MM:=⟨0,0,0,List.replicate 64 0,List.replicate 64 0⟩
abbrev avk(r:MM×Bool):LV:=.cT [.agg (cMM.wr r.1),.sc (.bool (.sym r.2))]
def CK(b:List Int):MM:=⟨dW (b.take 8),dW ((b.drop 8).take 8),dW ((b.drop 16).take 8),(b.drop 24).take 64,(b.drop 88).take 64⟩
def k8(b:List Int):MM×Bool:=
 if b.length=152∧hZ (CK b).ver (CK b).gM (CK b).len=true then(CK b,true)else(mm0,false)
def ahG:ar:=ar.dx [some u8] (bA) (ag) fun x_ y_=>(fun(b:List Int)=>.leaf (some (al b)) (avk (k8 b)) []) x_.1
theorem aci(b:List Int):aT Tryz.prog [(242,acg),(55,Oh)] [] f170 ((bA).wr (b,())) ((ag).wr ()) [.fr [.sym],.auto]=
 End.ite (((↑b.length:Int)!=(152:Int))==false) (End.need ((0:Int)≤(16:Int)∧(16:Int)≤(↑b.length:Int)∧(↑b.length:Int)≤
 (↑b.length:Int)) (End.need ((8:Nat)≤(List.take ((↑b.length:Int)-(16:Int)).toNat (List.drop (16:Nat) b)).length∧al (List.take
 ((↑b.length:Int)-(16:Int)).toNat (List.drop (16:Nat) b))) (End.ite (decide ((131072:Int)<dW (List.take (8:Nat) (List.take ((↑b.length:
 Int)-(16:Int)).toNat (List.drop (16:Nat) b))))) (End.leaf (LV.cT [VV.agg [SV.int u64 (SI.sym (0:Int)),SV.int u64 (SI.sym (0:
 Int)),SV.int i64 (SI.sym (0:Int)),SV.arr (Ty.int IntKind.u8) (64:Nat) (List.replicate (64:Nat) (0:Int)),SV.arr (Ty.int IntKind.u8)
 (64:Nat) (List.replicate (64:Nat) (0:Int))],VV.sc (SV.bool (SB.sym false))]) []) (End.need ((8:Nat)≤b.length∧al b) (End.need ((0:Int)
 ≤(8:Int)∧(8:Int)≤(↑b.length:Int)∧(↑b.length:Int)≤(↑b.length:Int)) (End.need ((8:Nat)≤(List.take ((↑b.length:Int)-(8:
 Int)).toNat (List.drop (8:Nat) b)).length∧al (List.take ((↑b.length:Int)-(8:Int)).toNat (List.drop (8:Nat) b))) (End.need ((0:Int)≤
 (16:Int)∧(16:Int)≤(↑b.length:Int)∧(↑b.length:Int)≤(↑b.length:Int)) (End.need ((8:Nat)≤(List.take ((↑b.length:Int)-(16:
 Int)).toNat (List.drop (16:Nat) b)).length∧al (List.take ((↑b.length:Int)-(16:Int)).toNat (List.drop (16:Nat) b))) (End.need ((0:Int)
 ≤(24:Int)∧(24:Int)≤(↑b.length:Int)∧(↑b.length:Int)≤(↑b.length:Int)) (End.need ((64:Nat)≤(List.take ((↑b.length:Int)-(24:
 Int)).toNat (List.drop (24:Nat) b)).length) (End.need ((64:Nat)≤(List.take ((↑b.length:Int)-(24:Int)).toNat (List.drop (24:Nat)
 b)).length) (End.need ((0:Int)≤(88:Int)∧(88:Int)≤(↑b.length:Int)∧(↑b.length:Int)≤(↑b.length:Int)) (End.need ((64:Nat)≤
 (List.take ((↑b.length:Int)-(88:Int)).toNat (List.drop (88:Nat) b)).length) (End.need ((64:Nat)≤(List.take ((↑b.length:Int)-(88:
 Int)).toNat (List.drop (88:Nat) b)).length) (End.ite (!hZ (dW (List.take (8:Nat) b)) (dW (List.take (8:Nat) (List.take ((↑b.length:Int)
 -(8:Int)).toNat (List.drop (8:Nat) b)))) (i64.wrap (dW (List.take (8:Nat) (List.take ((↑b.length:Int)-(16:Int)).toNat (List.drop
 (16:Nat) b)))))) (End.leaf (LV.cT [VV.agg [SV.int u64 (SI.sym (0:Int)),SV.int u64 (SI.sym (0:Int)),SV.int i64 (SI.sym
 (0:Int)),SV.arr (Ty.int IntKind.u8) (64:Nat) (List.replicate (64:Nat) (0:Int)),SV.arr (Ty.int IntKind.u8) (64:Nat) (List.replicate (64:
 Nat) (0:Int))],VV.sc (SV.bool (SB.sym false))]) []) (End.leaf (LV.cT [VV.agg [SV.int u64 (SI.sym (dW (List.take (8:Nat) b))),SV.int
 u64 (SI.sym (dW (List.take (8:Nat) (List.take ((↑b.length:Int)-(8:Int)).toNat (List.drop (8:Nat) b))))),SV.int i64 (SI.sym
 (i64.wrap (dW (List.take (8:Nat) (List.take ((↑b.length:Int)-(16:Int)).toNat (List.drop (16:Nat) b)))))),SV.arr (Ty.int
 IntKind.u8) (64:Nat) (List.take (64:Nat) (List.drop (0:Nat) (List.take ((↑b.length:Int)-(24:Int)).toNat (List.drop (24:Nat) b)))),SV.arr
 (Ty.int IntKind.u8) (64:Nat) (List.take (64:Nat) (List.drop (0:Nat) (List.take ((↑b.length:Int)-(88:Int)).toNat (List.drop (88:Nat)
 b))))],VV.sc (SV.bool (SB.sym true))]) [])))))))))))))))) (End.leaf (LV.cT [VV.agg [SV.int u64 (SI.sym (0:Int)),SV.int u64 (SI.sym
 (0:Int)),SV.int i64 (SI.sym (0:Int)),SV.arr (Ty.int IntKind.u8) (64:Nat) (List.replicate (64:Nat) (0:Int)),SV.arr (Ty.int
 IntKind.u8) (64:Nat) (List.replicate (64:Nat) (0:Int))],VV.sc (SV.bool (SB.sym false))]) []):=by kernel_rfl
theorem anK:ahG.Ok Tryz.prog 170:=by
 refine(ar.br call170 fun x_ y_ Q H_=>?_).sym;obtain⟨b,_⟩:=x_;obtain⟨hn,hq⟩:=H_;have hn:al b:=hn;refine(aA mixed ((aj ach (aj JJ aE))) func170 rfl (LT:= []) (ks:= [.fr [.sym],.auto]) (aO.nil _)).use (D:= []) ?_ hq;show(aT _ _ _ _ ((bA).wr (b,())) ((ag).wr ()) _).sat _;rw[aci];refine⟨fun h0=>?_,fun h0=>?_⟩
 ·have hl:b.length=152:=by have:((b.length:Int)!=152)=false:=by simpa using h0
                           simp at this;omega
  have e:∀k:Nat,k≤152→List.take ((b.length:Int)-(k:Int)).toNat (List.drop k b)=b.drop k:=fun k hk=>by rw[List.take_of_length_le (by rw[List.length_drop];omega)]
  have e8:List.take ((b.length:Int)-8).toNat (List.drop 8 b)=b.drop 8:=e 8 (by omega);have e16:List.take ((b.length:Int)-16).toNat (List.drop 16 b)=b.drop 16:=e 16 (by omega);have e24:List.take ((b.length:Int)-24).toNat (List.drop 24 b)=b.drop 24:=e 24 (by omega);have e88:List.take ((b.length:Int)-88).toNat (List.drop 88 b)=b.drop 88:=e 88 (by omega);rw[e8,e16,e24,e88];obtain⟨r1,r2,_⟩:=ia ((hn.drop 16).take 8) (by rw[List.length_take];omega);refine⟨by omega,⟨by simp;omega,hn.drop 16⟩,fun h1=>?_,fun h1=>?_⟩
  ·have h1:=of_decide_eq_true h1
   have eg:k8 b=(mm0,false):=if_neg fun⟨_,hr⟩=>by
    have:=(ku hr).2;simp only[CK]at this;omega
   rw[eg];exact⟨rfl,rfl⟩
  ·have h1:=of_decide_eq_false h1;have ew:i64.wrap (dW ((b.drop 16).take 8))=dW ((b.drop 16).take 8):=ax (by omega) (by omega);rw[ew];refine⟨⟨by omega,hn⟩,by omega,⟨by simp;omega,hn.drop 8⟩,by omega,⟨by simp;omega,hn.drop 16⟩,by omega,by simp;omega,by simp;omega,by omega,by simp;omega,by simp;omega,fun h2=>?_,fun h2=>?_⟩
   ·have eg:k8 b=(mm0,false):=if_neg fun⟨_,hr⟩=>by
     have qE:hZ (dW (b.take 8)) (dW ((b.drop 8).take 8)) (dW ((b.drop 16).take 8))=true:=hr;rw[qE]at h2;cases h2
    rw[eg];exact⟨rfl,rfl⟩
   ·have h2':hZ (dW (b.take 8)) (dW ((b.drop 8).take 8)) (dW ((b.drop 16).take 8))=true:=(by simpa using h2);have eg:k8 b=(CK b,true):=if_pos ⟨hl,h2'⟩;rw[eg];exact⟨rfl,rfl⟩
 ·have hl:¬b.length=152:=fun e=>by rw[e]at h0;simp at h0
  have eg:k8 b=(mm0,false):=if_neg fun⟨h,_⟩=>hl h;rw[eg];exact⟨rfl,rfl⟩
end Go.Proofs.YtnbkagglkajbkaaGreat
end
noncomputable section
namespace Go.Ev
open Go
open Go.IntKind (i64 signed u16 u64 wrap)
def Vec(α:Type):Nat→Type
 |0=>Unit
 |n+1=>α×Vec α n
namespace Vec
variable {α β γ:Type}
def toList: {n:Nat}→Vec α n→List α
 |0,_=> []
 |_+1,v=>v.1::toList v.2
def map(f:α→β): {n:Nat}→Vec α n→Vec β n
 |0,_=>()
 |_+1,v=>(f v.1,map f v.2)
def zip(f:α→β→γ): {n:Nat}→Vec α n→Vec β n→Vec γ n
 |0,_,_=>()
 |_+1,v,u=>(f v.1 u.1,zip f v.2 u.2)
def ofFn:(n:Nat)→(Nat→α)→Vec α n
 |0,_=>()
 |n+1,f=>(f 0,ofFn n fun i=>f (i+1))
def get[Inhabited α]: {n:Nat}→Vec α n→Nat→α
 |0,_,_=>default
 |_+1,v,0=>v.1
 |_+1,v,i+1=>get v.2 i
theorem eI: {n:Nat}→(v:Vec α n)→v.toList.length=n
 |0,_=>rfl
 |_+1,v=>by simp[toList,eI v.2]
theorem toList_inj: {n:Nat}→ {v u:Vec α n}→v.toList=u.toList→v=u
 |0,_,_,_=>rfl
 |n+1,v,u,h=>by
  simp only[toList,List.cons.injEq]at h;exact Prod.ext h.1 (toList_inj h.2)
end Vec
def gC{α:Type}(f:Nat→α→α):Nat→α→α
 |0,a=>a
 |k+1,a=>f k (gC f k a)
theorem rk{α:Type}(f:Nat→α→α)(a:α):∀n,upto f 0 n a=gC f n a
 |0=>rfl
 |n+1=>by rw[Dg,rk f a n,Nat.zero_add];rfl
def bt(x y c:Int):Int×Int:=((((x.toNat+y.toNat+c.toNat)%2 ^ 64:Nat):Int),(((x.toNat+y.toNat+c.toNat)/2 ^ 64:Nat):Int))
def nd(x y b:Int):Int×Int:=((((x.toNat+2 ^ 64-y.toNat-b.toNat)%2 ^ 64:Nat):Int),if x.toNat<y.toNat+b.toNat then 1 else 0)
def avl(p:Prop):Option Prop→Option Prop
 |none=>some p
 |some q=>some (p∧q)
abbrev cU3:aW (List LV) (Int×Int×Int×Unit):=ae (ah (ay .u64)) (ae (ah (ay .u64)) (ae (ah (ay .u64)) ag))
def lT(g:Int→Int→Int→Int×Int):ar:=ar.of [] cU3 ag fun x _=>.leaf (some (0≤x.2.2.1∧x.2.2.1≤1)) (.cT [.sc (.int .u64 (.sym (g x.1 x.2.1 x.2.2.1).1)),.sc (.int .u64 (.sym (g x.1 x.2.1 x.2.2.1).2))]) []
theorem SP{P:Program}{f:FuncId}{g:Int→Int→Int→Int×Int}(h:∀ (a b c:Int) (w:World),0≤c→c≤1→(callFunc f #[.int .u64 a,.int .u64 b,.int .u64 c]).run P w= .ok (.value (.tuple #[.int .u64 (g a b c).1,.int .u64 (g a b c).2])) w):
  (lT g).Ok P f:=by
 refine⟨fun args hp Q hq=>?_⟩;simp only[lT,ar.of]at hq
 split at hq
 ·rename_i x y hx hy;rw[cU3.ok hx];obtain⟨a,b,c,_⟩:=x;obtain⟨⟨h0,h1⟩,hq⟩:=hq;intro β w vals hh dM
  cases dM with
  |cons e1 dM=>cases dM with
   |cons e2 dM=>cases dM with
    |cons e3 dM=>
     cases dM
     simp only[LV.den,VV.den,SV.den,ah,ay,SI.val]at e1 e2 e3;subst e1 e2 e3;exact .inl ⟨_,h a b c w h0 h1,_,β,_,hp,rfl,⟨[],hq,rfl⟩,⟨_,rfl,.cons rfl (.cons rfl .nil)⟩,hh⟩
 ·exact hq.elim
theorem DG{P:Program}(n:String)(a b c:Int)(w:World)(hc:¬c.toNat>1):
  (Extern.MathBitsCarry.three n #[.int .u64 a,.int .u64 b,.int .u64 c]).run P w= .ok (a.toNat,b.toNat,c.toNat) w:=by
 have e:Extern.MathBitsCarry.three n #[.int .u64 a,.int .u64 b,.int .u64 c]=(do
  let c:=(← asInt (.int .u64 c)).toNat
  if c>1 then unsupported (.noEntry ("extern/math/bits."++n++": a carry that is neither 0 nor 1"))
  pure ((← asInt (.int .u64 a)).toNat,(← asInt (.int .u64 b)).toNat,c)):=rfl
 rw[e];have rW:¬ 1<c.toNat:=hc;simp[asInt,asIntOf];omega
theorem O5{P:Program}{f:FuncId}{fn:Func}(hf:P.funcs[f]? =some fn)(acj:(fn.name=="runtime.NumGoroutine")=false)(hb:fn.body.isNone=true)(hn:Extern.findNext fn=none)
  {e:Array Value→Sem Value} (he:Extern.find fn=some e) (hee:e=(Extern.MathBitsCarry.rows.getD 0 ("",fun _=>pure undef)).2):(lT bt).Ok P f:=by
 refine SP fun a b c w h0 h1=>?_;rw[run_callFunc_extern hf acj hb hn he,hee];have hc:¬c.toNat>1:=by omega
 simp[Extern.MathBitsCarry.rows,DG _ _ _ _ _ hc,Extern.MathBitsCarry.pair,Extern.MathBitsCarry.m64,bt]
theorem O6{P:Program}{f:FuncId}{fn:Func}(hf:P.funcs[f]? =some fn)(acj:(fn.name=="runtime.NumGoroutine")=false)(hb:fn.body.isNone=true)(hn:Extern.findNext fn=none)
  {e:Array Value→Sem Value} (he:Extern.find fn=some e) (hee:e=(Extern.MathBitsCarry.rows.getD 1 ("",fun _=>pure undef)).2):(lT nd).Ok P f:=by
 refine SP fun a b c w h0 h1=>?_;rw[run_callFunc_extern hf acj hb hn he,hee];have hc:¬c.toNat>1:=by omega
 simp[Extern.MathBitsCarry.rows,DG _ _ _ _ _ hc,Extern.MathBitsCarry.pair,Extern.MathBitsCarry.m64,nd]
 split<;>rfl
def uR(k:IntKind){Y:Type}(r:aW (List SV) Y):(n:Nat)→aW (List SV) (Vec Int n×Y)
 |0=>r.nH (fun y=>((),y)) (fun p=>p.2) (fun _=>rfl)
 |n+1=>(ae (ay k) (uR k r n)).nH (fun p=>((p.1,p.2.1),p.2.2)) (fun p=>(p.1.1,(p.1.2,p.2))) (fun _=>rfl)
def k9(k:IntKind):(n:Nat)→aW (List SV) (Vec Int n)
 |0=>ag
 |n+1=>ae (ay k) (k9 k n)
def oB(l:List Int):Vec Int 32:=Vec.ofFn 32 fun i=>l.getD i 0
end Go.Ev
end
noncomputable section
namespace BJ
def aB(n:Nat):Prop:=2≤n∧∀m,m∣n→m=1∨m=n
theorem wZ:∀n:Nat,2≤n→∃q,aB q∧q∣n:=by
 intro n
 induction n using Nat.strongRecOn with
 |_ n ih=>
  intro h
  by_cases hp:∀m,m∣n→m=1∨m=n
  ·exact⟨n,⟨h,hp⟩,Nat.dvd_refl n⟩
  ·have⟨m,hm⟩:=Classical.not_forall.1 hp;have⟨hd,hn⟩:=Classical.not_imp.1 hm;have h1:m≠1:=fun e=>hn (.inl e);have h2:m≠n:=fun e=>hn (.inr e);have hle:m≤n:=Nat.le_of_dvd (by omega) hd
   have h0:m≠0:=by
    rintro rfl
    have:=Nat.eq_zero_of_zero_dvd hd;omega
   obtain⟨q,hq,hqm⟩:=ih m (by omega) (by omega);exact⟨q,hq,Nat.dvd_trans hqm hd⟩
theorem aB.coprime{q a:Nat}(hq:aB q)(h:¬q∣a):Nat.Coprime q a:=by
 rcases hq.2 (Nat.gcd q a) (Nat.gcd_dvd_left q a)with h1|h1
 ·exact h1
 ·exact absurd (h1▸Nat.gcd_dvd_right q a) h
theorem aB.dvd_mul{q a b:Nat}(hq:aB q)(h:q∣a*b):q∣a∨q∣b:=by
 by_cases ha:q∣a
 ·exact .inl ha
 ·exact .inr ((hq.coprime ha).dvd_of_dvd_mul_left h)
theorem aB.Kj{q:Nat}(hq:aB q):∀l:List Nat,(∀x∈l,aB x)→q∣l.foldr (· * ·) 1→q∈l
 | [],_,h=>by
  have:q=1:=Nat.eq_one_of_dvd_one h;have:=hq.1;omega
 |x::l,hl,h=>by
  rcases hq.dvd_mul h with h|h
  ·rcases(hl x (by simp)).2 q h with h1|h1
   ·have:=hq.1;omega
   ·simp[h1]
  ·exact List.mem_cons_of_mem _ (hq.Kj l (fun y hy=>hl y (by simp[hy])) h)
def pm(n:Nat):Nat→Nat→Nat→Nat
 |0,_,_=>1%n
 |f+1,a,e=>if e%2=1 then a*pm n f (a*a%n) (e/2)%n else pm n f (a*a%n) (e/2)
theorem SQ(n:Nat):∀f a e,e<2 ^ f→pm n f a e=a ^ e%n:=by
 intro f
 induction f with
 |zero=>intro a e h;have:e=0:=by simpa using h
        subst this;simp[pm]
 |succ f ih=>
  intro a e h;have h2:e/2<2 ^ f:=by rw[Nat.pow_succ]at h;omega
  have hk:(a*a%n) ^ (e/2)%n=a ^ (2*(e/2))%n:=by
   rw[← Nat.pow_mod,Nat.pow_mul,Nat.pow_two]
  simp only[pm,ih _ _ h2,hk]
  split
  ·rename_i ho;rw[Nat.mul_mod,Nat.mod_mod,← Nat.mul_mod,Nat.mul_comm,← Nat.pow_succ]
   congr 2;omega
  ·rename_i ho
   congr 2;omega
theorem lU{n a k:Nat}(hn:2≤n)(h:a ^ k%n=1)(j:Nat):a ^ (k*j)%n=1:=by
 rw[Nat.pow_mul,Nat.pow_mod,h,Nat.one_pow,Nat.mod_eq_of_lt hn]
theorem GA{n a m:Nat}(hm:0<m)(h:a ^ m%n=1):
  ∃k,0<k∧a ^ k%n=1∧∀j,0<j→j<k→a ^ j%n≠1:=by
 induction m using Nat.strongRecOn with
 |_ m ih=>
  by_cases hs:∃j,0<j∧j<m∧a ^ j%n=1
  ·obtain⟨j,h0,h1,h2⟩:=hs;exact ih j h1 h0 h2
  ·exact⟨m,hm,h,fun j h0 h1 h2=>hs ⟨j,h0,h1,h2⟩⟩
theorem DH{n a k m:Nat}(hn:2≤n)(hk:0<k)(h1:a ^ k%n=1)(Uu:∀j,0<j→j<k→a ^ j%n≠1)
  (hm:a ^ m%n=1):k∣m:=by
 have e:a ^ m=a ^ (k*(m/k))*a ^ (m%k):=by
  rw[← Nat.pow_add,Nat.div_add_mod]
 rw[e,Nat.mul_mod,lU hn h1,Nat.one_mul,Nat.mod_mod]at hm
 by_cases hr:m%k=0
 ·exact Nat.dvd_of_mod_eq_zero hr
 ·exact absurd hm (Uu _ (by omega) (Nat.mod_lt _ hk))
theorem uS:∀ (m:Nat) (l:List Nat),l.Nodup→(∀x∈l,1≤x∧x≤m)→m≤l.length→∀x,1≤x→x≤m→x∈l
 |0,_,_,_,_,x,h1,h2=>by omega
 |m+1,l,hd,hl,hlen,x,h1,h2=>by
  have Iq:m+1∈l:=by
   refine Classical.byContradiction fun tm=>?_
   have hl':∀y∈l,1≤y∧y≤m:=fun y hy=>by
    have:=hl y hy;have:y≠m+1:=fun e=>tm (e▸hy);omega
   have:=length_le m l hd hl';omega
  have hd':(l.erase (m+1)).Nodup:=hd.erase _;have axs:(l.erase (m+1)).length=l.length-1:=List.length_erase_of_mem Iq
  have hl':∀y∈l.erase (m+1),1≤y∧y≤m:=fun y hy=>by
   have H4:=(List.Nodup.mem_erase_iff hd).1 hy;have:=hl y H4.2;have:=H4.1;omega
  by_cases hx:x=m+1
  ·exact hx▸Iq
  ·exact List.mem_of_mem_erase (uS m (l.erase (m+1)) hd' hl' (by omega) x h1 (by omega))
where
 length_le:∀ (m:Nat) (l:List Nat),l.Nodup→(∀x∈l,1≤x∧x≤m)→l.length≤m
  |0,l,_,hl=>by
   cases l with
   |nil=>simp
   |cons a l=>have:=hl a (by simp);omega
  |m+1,l,hd,hl=>by
   have hd':(l.erase (m+1)).Nodup:=hd.erase _
   have hl':∀y∈l.erase (m+1),1≤y∧y≤m:=fun y hy=>by
    have H4:=(List.Nodup.mem_erase_iff hd).1 hy;have:=hl y H4.2;have:=H4.1;omega
   have:=length_le m _ hd' hl';have h3:= @List.length_erase Nat _ _ (m+1) l
   split at h3<;>omega
def fJ(n a:Nat):Prop:=2≤n∧a ^ (n-1)%n=1∧∀x,x%n≠0→∃i,a ^ i%n=x%n
theorem arl{n a:Nat}{l:List Nat}(hn:2≤n)(hl:∀q∈l,aB q)(hp:l.foldr (· * ·) 1=n-1)
  (h1:a ^ (n-1)%n=1) (hq:∀q∈l,a ^ ((n-1)/q)%n≠1):fJ n a:=by
 refine⟨hn,h1,?_⟩
 by_cases hn2:n=2
 ·subst hn2;intro x hx;exact⟨0,by simp;omega⟩
 obtain⟨k,hk,hk1,Uu⟩:=GA (m:=n-1) (by omega) h1;have avm:=DH hn hk hk1 Uu h1
 have hkn:k=n-1:=by
  refine Classical.byContradiction fun gv=>?_;obtain⟨c,hc⟩:=avm
  have hc2:2≤c:=by
   rcases Nat.lt_or_ge c 2 with h|h
   ·have:c=0∨c=1:=(by omega);rcases this with rfl|rfl
    ·simp at hc;omega
    ·simp at hc;omega
   ·exact h
  obtain⟨q,hqp,c',rfl⟩:=wZ c hc2;have Iq:q∈l:=hqp.Kj l hl (by rw[hp,hc];exact⟨k*c',by rw[Nat.mul_left_comm]⟩);refine hq q Iq ?_
  have:(n-1)/q=k*c':=by
   rw[hc,Nat.mul_left_comm];exact Nat.mul_div_cancel_left _ (by have:=hqp.1;omega)
  rw[this];exact lU hn hk1 c'
 subst hkn
 have hinv:∀i,a ^ i%n≠0:=by
  intro i h0;have:a ^ ((n-1)*(i+1))%n=1:=lU hn h1 _
  have e:(n-1)*(i+1)=i+((n-1)*(i+1)-i):=by
   have:i≤(n-1)*(i+1):=Nat.le_trans (by omega) (Nat.le_mul_of_pos_left (i+1) (by omega));omega
  rw[e,Nat.pow_add,Nat.mul_mod,h0,Nat.zero_mul,Nat.zero_mod]at this;omega
 have UG:∀i j,i<j→j<n-1→a ^ i%n≠a ^ j%n:=by
  intro i j hij hj he
  have e1:a ^ (j+(n-1-i))%n=1:=by
   rw[Nat.pow_add,Nat.mul_mod,← he,← Nat.mul_mod,← Nat.pow_add];have:i+(n-1-i)=n-1:=(by omega);rw[this];exact h1
  have e2:j+(n-1-i)=(n-1)+(j-i):=by omega
  rw[e2,Nat.pow_add,Nat.mul_mod,h1,Nat.one_mul,Nat.mod_mod]at e1;exact Uu (j-i) (by omega) (by omega) e1
 intro x hx
 have hnd:((List.range (n-1)).map fun i=>a ^ i%n).Nodup:=by
  rw[List.nodup_iff_pairwise_ne,List.pairwise_map];refine List.Pairwise.imp_of_mem ?_ (List.pairwise_lt_range (n:=n-1));intro i j hi hj hij;exact UG i j hij (by simpa using hj)
 have:=uS (n-1) _ hnd (fun y hy=>by
  obtain⟨i,_,rfl⟩:=List.mem_map.1 hy;have:=hinv i;have:=Nat.mod_lt (a ^ i) (show 0<n by omega);omega) (by simp) (x%n) (by omega) (by have:=Nat.mod_lt x (show 0<n by omega);omega)
 obtain⟨i,_,hi⟩:=List.mem_map.1 this;exact⟨i,hi⟩
theorem fJ.sD{n a:Nat}(h:fJ n a){x:Nat}(hx:x%n≠0):x ^ (n-1)%n=1:=by
 obtain⟨hn,h1,hs⟩:=h;obtain⟨i,hi⟩:=hs x hx;rw[Nat.pow_mod,← hi,← Nat.pow_mod,← Nat.pow_mul,Nat.mul_comm];exact lU hn h1 i
theorem fJ.ez{n a:Nat}(h:fJ n a):aB n:=by
 refine⟨h.1,fun m hm=>?_⟩;refine Classical.byContradiction fun gv=>?_;have hn:=h.1;have hle:m≤n:=Nat.le_of_dvd (by omega) hm;have h1:m≠1:=fun e=>gv (.inl e);have h2:m≠n:=fun e=>gv (.inr e)
 have h0:m≠0:=by
  rintro rfl
  have:=Nat.eq_zero_of_zero_dvd hm;omega
 have hf:=h.sD (x:=m) (by rw[Nat.mod_eq_of_lt (by omega)];exact h0)
 have hd:m∣m ^ (n-1):=by
  rw[show n-1=(n-2)+1 from by omega,Nat.pow_succ];exact Nat.dvd_mul_left m _
 have:m∣m ^ (n-1)%n:=(Nat.dvd_mod_iff hm).2 hd;rw[hf]at this;exact h1 (Nat.eq_one_of_dvd_one this)
def check(n a f:Nat)(l:List Nat):Bool:=
 decide (2≤n)&&decide (n-1<2 ^ f)&&l.foldr (· * ·) 1==n-1&&pm n f a (n-1)==1&&l.all fun q=>pm n f a ((n-1)/q)!=1
theorem aI{n a f:Nat}{l:List Nat}(hl:∀q∈l,aB q)(h:check n a f l=true):fJ n a:=by
 simp only[check,Bool.and_eq_true,decide_eq_true_eq,beq_iff_eq,List.all_eq_true,bne_iff_ne]at h;obtain⟨⟨⟨⟨hn,hf⟩,hp⟩,h1⟩,hq⟩:=h;refine arl hn hl hp ?_ ?_
 ·rw[← SQ n f a _ hf];exact h1
 ·intro q hm;rw[← SQ n f a _ (Nat.lt_of_le_of_lt (Nat.div_le_self _ _) hf)];exact hq q hm
def SR(n:Nat):Nat→Nat→Bool
 |0,_=>true
 |k+1,d=>if d*d>n then true else n%d !=0&&SR n k (d+1)
theorem O7(n:Nat):∀k d,SR n k d=true→(d+k)*(d+k)>n→∀m,d≤m→m*m≤n→¬m∣n:=by
 intro k
 induction k with
 |zero=>intro d _ hgt m h1 h2;exfalso;have:=Nat.mul_le_mul h1 h1;simp at hgt;omega
 |succ k ih=>
  intro d h hgt m h1 h2 hd;unfold SR at h
  split at h
  ·have:=Nat.mul_le_mul h1 h1;omega
  ·simp only[Bool.and_eq_true,bne_iff_ne]at h
   by_cases he:m=d
   ·subst he;exact h.1 (Nat.mod_eq_zero_of_dvd hd)
   ·exact ih (d+1) h.2 (by rw[show d+1+k=d+(k+1) by omega];exact hgt) m (by omega) h2 hd
theorem aD{n:Nat}(k:Nat)(hn:2≤n)(hk:(2+k)*(2+k)>n)(h:SR n k 2=true):aB n:=by
 have hs:=O7 n k 2 h hk;refine⟨hn,fun m hm=>?_⟩;refine Classical.byContradiction fun gv=>?_;have h1:m≠1:=fun e=>gv (.inl e);have h2:m≠n:=fun e=>gv (.inr e);obtain⟨c,hc⟩:=hm;have h0:m≠0:=by rintro rfl;simp at hc;omega
 have XU:c≠0:=by rintro rfl;simp at hc;omega
 have hc1:c≠1:=by rintro rfl;simp at hc;omega
 by_cases hmc:m≤c
 ·exact hs m (by omega) (by rw[hc];exact Nat.mul_le_mul_left m hmc) ⟨c,hc⟩
 ·exact hs c (by omega) (by rw[hc];exact Nat.mul_le_mul_right c (by omega)) ⟨m,by rw[hc,Nat.mul_comm]⟩
theorem p2:aB 2:=aD 1 (by decide) (by decide) (by decide+kernel)
theorem p3:aB 3:=aD 1 (by decide) (by decide) (by decide+kernel)
theorem anL:aB 65147:=aD 254 (by decide) (by decide) (by decide+kernel)
theorem avo:aB 353:=aD 17 (by decide) (by decide) (by decide+kernel)
theorem anM:aB 57467:=aD 238 (by decide) (by decide) (by decide+kernel)
theorem p7:aB 7:=aD 1 (by decide) (by decide) (by decide+kernel)
theorem avp:aB 131:=aD 10 (by decide) (by decide) (by decide+kernel)
theorem ahH:fJ 132049 26:=aI (f:=18) (l:= [2,2,2,2,3,3,7,131]) (by simp only[List.mem_cons,List.not_mem_nil,or_false];rintro q (rfl|rfl|rfl|rfl|rfl|rfl|rfl|rfl)<;>first|exact p2|exact p3|exact p7|exact avp) (by decide+kernel)
theorem ahI:aB 132049:=ahH.ez
theorem p43:aB 43:=aD 5 (by decide) (by decide) (by decide+kernel)
theorem aro:aB 3727:=aD 60 (by decide) (by decide) (by decide+kernel)
theorem ack:fJ 1923133 2:=aI (f:=21) (l:= [2,2,3,43,3727]) (by simp only[List.mem_cons,List.not_mem_nil,or_false];rintro q (rfl|rfl|rfl|rfl|rfl)<;>first|exact p2|exact p3|exact p43|exact aro) (by decide+kernel)
theorem acm:aB 1923133:=ack.ez
theorem p31:aB 31:=aD 4 (by decide) (by decide) (by decide+kernel)
theorem avq:aB 107:=aD 9 (by decide) (by decide) (by decide+kernel)
theorem avr:aB 223:=aD 13 (by decide) (by decide) (by decide+kernel)
theorem arp:aB 4153:=aD 63 (by decide) (by decide) (by decide+kernel)
theorem p5:aB 5:=aD 1 (by decide) (by decide) (by decide+kernel)
theorem arq:aB 1723:=aD 40 (by decide) (by decide) (by decide+kernel)
theorem ahJ:fJ 430751 17:=aI (f:=19) (l:= [2,5,5,5,1723]) (by simp only[List.mem_cons,List.not_mem_nil,or_false];rintro q (rfl|rfl|rfl|rfl|rfl)<;>first|exact p2|exact p5|exact arq) (by decide+kernel)
theorem ahK:aB 430751:=ahJ.ez
theorem sE:fJ 31757755568855353 10:=aI (f:=55) (l:= [2,2,2,3,31,107,223,4153,430751]) (by simp only[List.mem_cons,List.not_mem_nil,or_false];rintro q (rfl|rfl|rfl|rfl|rfl|rfl|rfl|rfl|rfl)<;>first|exact p2|exact p3|exact p31|exact avq|exact avr|exact arp|exact ahK) (by decide+kernel)
theorem sF:aB 31757755568855353:=sE.ez
theorem anN:aB 75707:=aD 274 (by decide) (by decide) (by decide+kernel)
theorem p13:aB 13:=aD 2 (by decide) (by decide) (by decide+kernel)
theorem ars:aB 2437:=aD 48 (by decide) (by decide) (by decide+kernel)
theorem p97:aB 97:=aD 8 (by decide) (by decide) (by decide+kernel)
theorem avs:aB 419:=aD 19 (by decide) (by decide) (by decide+kernel)
theorem ahL:fJ 569003 2:=aI (f:=20) (l:= [2,7,97,419]) (by simp only[List.mem_cons,List.not_mem_nil,or_false];rintro q (rfl|rfl|rfl|rfl)<;>first|exact p2|exact p7|exact p97|exact avs) (by decide+kernel)
theorem ahM:aB 569003:=ahL.ez
theorem Kk:fJ 2773320623 5:=aI (f:=32) (l:= [2,2437,569003]) (by simp only[List.mem_cons,List.not_mem_nil,or_false];rintro q (rfl|rfl|rfl)<;>first|exact p2|exact ars|exact ahM) (by decide+kernel)
theorem Kl:aB 2773320623:=Kk.ez
theorem GB:fJ 72106336199 7:=aI (f:=37) (l:= [2,13,2773320623]) (by simp only[List.mem_cons,List.not_mem_nil,or_false];rintro q (rfl|rfl|rfl)<;>first|exact p2|exact p13|exact Kl) (by decide+kernel)
theorem GC:aB 72106336199:=GB.ez
theorem p19:aB 19:=aD 3 (by decide) (by decide) (by decide+kernel)
theorem p47:aB 47:=aD 5 (by decide) (by decide) (by decide+kernel)
theorem avt:aB 127:=aD 10 (by decide) (by decide) (by decide+kernel)
theorem avu:aB 103:=aD 9 (by decide) (by decide) (by decide+kernel)
theorem avv:aB 991:=aD 30 (by decide) (by decide) (by decide+kernel)
theorem acn:fJ 8574133 2:=aI (f:=24) (l:= [2,2,3,7,103,991]) (by simp only[List.mem_cons,List.not_mem_nil,or_false];rintro q (rfl|rfl|rfl|rfl|rfl|rfl)<;>first|exact p2|exact p3|exact p7|exact avu|exact avv) (by decide+kernel)
theorem aco:aB 8574133:=acn.ez
theorem uT:fJ 1919519569386763 2:=aI (f:=51) (l:= [2,3,7,19,47,47,127,8574133]) (by simp only[List.mem_cons,List.not_mem_nil,or_false];rintro q (rfl|rfl|rfl|rfl|rfl|rfl|rfl|rfl)<;>first|exact p2|exact p3|exact p7|exact p19|exact p47|exact avt|exact aco) (by decide+kernel)
theorem uU:aB 1919519569386763:=uT.ez
theorem gN:fJ 75445702479781427272750846543864801 7:=aI (f:=116) (l:= [2,2,2,2,2,3,3,5,5,75707,72106336199,1919519569386763]) (by simp only[List.mem_cons,List.not_mem_nil,or_false];rintro q (rfl|rfl|rfl|rfl|rfl|rfl|rfl|rfl|rfl|rfl|rfl|rfl)<;>first|exact p2|exact p3|exact p5|exact anN|exact GC|exact uU) (by decide+kernel)
theorem gO:aB 75445702479781427272750846543864801:=gN.ez
theorem cu:fJ 74058212732561358302231226437062788676166966415465897661863160754340907 2:=aI (f:=236) (l:= [2,3,353,57467,132049,1923133,31757755568855353,75445702479781427272750846543864801]) (by simp only[List.mem_cons,List.not_mem_nil,or_false];rintro q (rfl|rfl|rfl|rfl|rfl|rfl|rfl|rfl)<;>first|exact p2|exact p3|exact avo|exact anM|exact ahI|exact acm|exact sF|exact gO) (by decide+kernel)
theorem cv:aB 74058212732561358302231226437062788676166966415465897661863160754340907:=cu.ez
theorem bb:fJ 57896044618658097711785492504343953926634992332820282019728792003956564819949 2:=aI (f:=255) (l:= [2,2,3,65147,74058212732561358302231226437062788676166966415465897661863160754340907]) (by simp only[List.mem_cons,List.not_mem_nil,or_false];rintro q (rfl|rfl|rfl|rfl|rfl)<;>first|exact p2|exact p3|exact anL|exact cv) (by decide+kernel)
theorem cb:aB 57896044618658097711785492504343953926634992332820282019728792003956564819949:=bb.ez
theorem p11:aB 11:=aD 2 (by decide) (by decide) (by decide+kernel)
theorem p23:aB 23:=aD 3 (by decide) (by decide) (by decide+kernel)
theorem anO:aB 34123:=aD 183 (by decide) (by decide) (by decide+kernel)
theorem ahN:fJ 409477 2:=aI (f:=19) (l:= [2,2,3,34123]) (by simp only[List.mem_cons,List.not_mem_nil,or_false];rintro q (rfl|rfl|rfl|rfl)<;>first|exact p2|exact p3|exact anO) (by decide+kernel)
theorem ahO:aB 409477:=ahN.ez
theorem Wb:fJ 14741173 2:=aI (f:=24) (l:= [2,2,3,3,409477]) (by simp only[List.mem_cons,List.not_mem_nil,or_false];rintro q (rfl|rfl|rfl|rfl|rfl)<;>first|exact p2|exact p3|exact ahO) (by decide+kernel)
theorem Wc:aB 14741173:=Wb.ez
theorem Wd:fJ 58964693 2:=aI (f:=26) (l:= [2,2,14741173]) (by simp only[List.mem_cons,List.not_mem_nil,or_false];rintro q (rfl|rfl|rfl)<;>first|exact p2|exact Wc) (by decide+kernel)
theorem We:aB 58964693:=Wd.ez
theorem anP:aB 30703:=aD 174 (by decide) (by decide) (by decide+kernel)
theorem anQ:aB 82163:=aD 285 (by decide) (by decide) (by decide+kernel)
theorem anR:aB 22111:=aD 147 (by decide) (by decide) (by decide+kernel)
theorem ahP:fJ 132667 5:=aI (f:=18) (l:= [2,3,22111]) (by simp only[List.mem_cons,List.not_mem_nil,or_false];rintro q (rfl|rfl|rfl)<;>first|exact p2|exact p3|exact anR) (by decide+kernel)
theorem ahQ:aB 132667:=ahP.ez
theorem anS:aB 17231:=aD 130 (by decide) (by decide) (by decide+kernel)
theorem ahR:fJ 137849 3:=aI (f:=18) (l:= [2,2,2,17231]) (by simp only[List.mem_cons,List.not_mem_nil,or_false];rintro q (rfl|rfl|rfl|rfl)<;>first|exact p2|exact anS) (by decide+kernel)
theorem ahS:aB 137849:=ahR.ez
theorem nf:fJ 3044861653679985063343 5:=aI (f:=72) (l:= [2,3,11,30703,82163,132667,137849]) (by simp only[List.mem_cons,List.not_mem_nil,or_false];rintro q (rfl|rfl|rfl|rfl|rfl|rfl|rfl)<;>first|exact p2|exact p3|exact p11|exact anP|exact anQ|exact ahQ|exact ahS) (by decide+kernel)
theorem nh:aB 3044861653679985063343:=nf.ez
theorem ib:fJ 198211423230930754013084525763697 5:=aI (f:=108) (l:= [2,2,2,2,3,23,58964693,3044861653679985063343]) (by simp only[List.mem_cons,List.not_mem_nil,or_false];rintro q (rfl|rfl|rfl|rfl|rfl|rfl|rfl|rfl)<;>first|exact p2|exact p3|exact p23|exact We|exact nh) (by decide+kernel)
theorem ic:aB 198211423230930754013084525763697:=ib.ez
theorem avw:aB 269:=aD 15 (by decide) (by decide) (by decide+kernel)
theorem p73:aB 73:=aD 7 (by decide) (by decide) (by decide+kernel)
theorem avx:aB 307:=aD 16 (by decide) (by decide) (by decide+kernel)
theorem arv:aB 5879:=aD 75 (by decide) (by decide) (by decide+kernel)
theorem O8:fJ 292386187 2:=aI (f:=29) (l:= [2,3,3,3,3,307,5879]) (by simp only[List.mem_cons,List.not_mem_nil,or_false];rintro q (rfl|rfl|rfl|rfl|rfl|rfl|rfl)<;>first|exact p2|exact p3|exact avx|exact arv) (by decide+kernel)
theorem O9:aB 292386187:=O8.ez
theorem CL:fJ 213441916511 13:=aI (f:=38) (l:= [2,5,73,292386187]) (by simp only[List.mem_cons,List.not_mem_nil,or_false];rintro q (rfl|rfl|rfl|rfl)<;>first|exact p2|exact p5|exact p73|exact O9) (by decide+kernel)
theorem CM:aB 213441916511:=CL.ez
theorem arw:aB 1361:=aD 35 (by decide) (by decide) (by decide+kernel)
theorem arx:aB 2851:=aD 52 (by decide) (by decide) (by decide+kernel)
theorem p41:aB 41:=aD 5 (by decide) (by decide) (by decide+kernel)
theorem ary:aB 3797:=aD 60 (by decide) (by decide) (by decide+kernel)
theorem ahT:fJ 531581 2:=aI (f:=20) (l:= [2,2,5,7,3797]) (by simp only[List.mem_cons,List.not_mem_nil,or_false];rintro q (rfl|rfl|rfl|rfl|rfl)<;>first|exact p2|exact p5|exact p7|exact ary) (by decide+kernel)
theorem ahU:aB 531581:=ahT.ez
theorem arz:aB 2551:=aD 49 (by decide) (by decide) (by decide+kernel)
theorem acp:fJ 1224481 13:=aI (f:=21) (l:= [2,2,2,2,2,3,5,2551]) (by simp only[List.mem_cons,List.not_mem_nil,or_false];rintro q (rfl|rfl|rfl|rfl|rfl|rfl|rfl|rfl)<;>first|exact p2|exact p3|exact p5|exact arz) (by decide+kernel)
theorem acq:aB 1224481:=acp.ez
theorem uV:fJ 1257559732178653 2:=aI (f:=51) (l:= [2,2,3,7,23,531581,1224481]) (by simp only[List.mem_cons,List.not_mem_nil,or_false];rintro q (rfl|rfl|rfl|rfl|rfl|rfl|rfl)<;>first|exact p2|exact p3|exact p7|exact p23|exact ahU|exact acq) (by decide+kernel)
theorem uW:aB 1257559732178653:=uV.ez
theorem pT:fJ 4434155615661930479 17:=aI (f:=62) (l:= [2,41,43,1257559732178653]) (by simp only[List.mem_cons,List.not_mem_nil,or_false];rintro q (rfl|rfl|rfl|rfl)<;>first|exact p2|exact p41|exact p43|exact uW) (by decide+kernel)
theorem pU:aB 4434155615661930479:=pT.ez
theorem j8:fJ 172054593956031949258510691 2:=aI (f:=88) (l:= [2,5,1361,2851,4434155615661930479]) (by simp only[List.mem_cons,List.not_mem_nil,or_false];rintro q (rfl|rfl|rfl|rfl|rfl)<;>first|exact p2|exact p5|exact arw|exact arx|exact pU) (by decide+kernel)
theorem j9:aB 172054593956031949258510691:=j8.ez
theorem fv:fJ 19757330305831588566944191468367130476339 2:=aI (f:=134) (l:= [2,269,213441916511,172054593956031949258510691]) (by simp only[List.mem_cons,List.not_mem_nil,or_false];rintro q (rfl|rfl|rfl|rfl)<;>first|exact p2|exact avw|exact CM|exact j9) (by decide+kernel)
theorem fw:aB 19757330305831588566944191468367130476339:=fv.ez
theorem eX:fJ 276602624281642239937218680557139826668747 2:=aI (f:=138) (l:= [2,7,19757330305831588566944191468367130476339]) (by simp only[List.mem_cons,List.not_mem_nil,or_false];rintro q (rfl|rfl|rfl)<;>first|exact p2|exact p7|exact fw) (by decide+kernel)
theorem eY:aB 276602624281642239937218680557139826668747:=eX.ez
theorem bf:fJ 7237005577332262213973186563042994240857116359379907606001950938285454250989 2:=aI (f:=253) (l:= [2,2,3,11,198211423230930754013084525763697,276602624281642239937218680557139826668747]) (by simp only[List.mem_cons,List.not_mem_nil,or_false];rintro q (rfl|rfl|rfl|rfl|rfl|rfl)<;>first|exact p2|exact p3|exact p11|exact ic|exact eY) (by decide+kernel)
abbrev pp:Nat:=57896044618658097711785492504343953926634992332820282019728792003956564819949
abbrev F:=Fin pp
instance:NeZero pp:=⟨by decide⟩
theorem acr:aB pp:=cb
theorem F.mul_eq_zero{a b:F}(h:a*b=0):a=0∨b=0:=by
 have h1:(a.val*b.val)%pp=0:=by
  have:=congrArg Fin.val h;rwa [Fin.val_mul]at this
 rcases acr.dvd_mul (Nat.dvd_of_mod_eq_zero h1)with h2|h2
 ·exact .inl (Fin.ext (Nat.eq_zero_of_dvd_of_lt h2 a.isLt))
 ·exact .inr (Fin.ext (Nat.eq_zero_of_dvd_of_lt h2 b.isLt))
theorem F.mz(a:F):a*0=0:=by grobner
theorem F.az:(0:F)+0=0:=by grobner
theorem F.fx{a b:F}(ha:a≠0)(hb:b≠0):a*b≠0:=fun h=>
 (F.mul_eq_zero h).elim ha hb
theorem F.cancel{a b c:F}(hc:c≠0)(h:a*c=b*c):a=b:=by
 have:(a-b)*c=0:=by grobner
 rcases F.mul_eq_zero this with h1|h1
 ·grobner
 ·exact absurd h1 hc
def F.pow(a:F)(n:Nat):F:=⟨a.val ^ n%pp,Nat.mod_lt _ (by decide)⟩
theorem F.pow_zero(a:F):F.pow a 0=1:=by
 apply Fin.ext;simp[F.pow]
theorem F.pow_succ(a:F)(n:Nat):F.pow a (n+1)=F.pow a n*a:=by
 apply Fin.ext
 simp only[F.pow,Fin.val_mul,Nat.pow_succ];rw[Nat.mul_mod,Nat.mod_eq_of_lt a.isLt]
def F.inv(a:F):F:=F.pow a (pp-2)
theorem F.Pa{a:F}(h:a≠0):a.val%pp≠0:=by
 rw[Nat.mod_eq_of_lt a.isLt];intro e;exact h (Fin.ext e)
theorem GD:fJ pp 2:=bb
theorem F.inv_mul{a:F}(h:a≠0):a*F.inv a=1:=by
 have hf:=GD.sD (F.Pa h)
 apply Fin.ext
 show(a.val*(a.val ^ (pp-2)%pp))%pp=1%pp;rw[Nat.mul_mod,Nat.mod_mod,← Nat.mul_mod,Nat.mul_comm,← Nat.pow_succ];rw[show Nat.succ (pp-2)=pp-1 from by decide,hf];decide
def dd:F:=37095705934669439343138083508754565189542113879843219016388785533085940283555
def ii:F:=19681161376707505956807079304988542015446066515923890162744021073123829784752
theorem alh:ii*ii= -1:=by decide+kernel
theorem arA:dd≠0:=by decide+kernel
theorem uX(s:F):s*s≠dd:=by
 intro h
 have hs:s≠0:=by
  rintro rfl
  exact arA (by rw[← h];decide+kernel)
 have hf:=GD.sD (F.Pa hs)
 have h1:(s.val*s.val)%pp=dd.val:=by
  have:=congrArg Fin.val h;rwa [Fin.val_mul]at this
 have h2:dd.val ^ ((pp-1)/2)%pp=1:=by
  rw[← h1,← Nat.pow_mod,← Nat.pow_two,← Nat.pow_mul];rw[show 2*((pp-1)/2)=pp-1 from by decide];exact hf
 rw[← SQ pp 255 _ _ (by decide+kernel)]at h2
 revert h2
 decide+kernel
theorem acs:(2:F)≠0:=by decide+kernel
def vU(x y:F):Prop:=y*y-x*x=1+dd*(x*x)*(y*y)
theorem vU.zero{x y:F}(h:vU x y):y*y-x*x-(1+dd*(x*x)*(y*y))=0:=by unfold vU at h;grobner
theorem ali{x1 y1 x2 y2 e:F}(h1:vU x1 y1)(h2:vU x2 y2)(he:e*e=1):dd*x1*x2*y1*y2≠e:=by
 intro hd;unfold vU at h1 h2;have e0:e≠0:=by rintro rfl;revert he;decide+kernel
 have CZ:x1≠0:=by rintro rfl;apply e0;rw[← hd];grobner
 have Mo:y1≠0:=by rintro rfl;apply e0;rw[← hd];grobner
 have Q7:y2≠0:=by rintro rfl;apply e0;rw[← hd];grobner
 have hi:=alh;have k1:dd*((x1*y1*(y2+ii*x2))*(x1*y1*(y2+ii*x2)))=(y1+e*ii*x1)*(y1+e*ii*x1):=by grobner
 have k2:dd*((x1*y1*(y2-ii*x2))*(x1*y1*(y2-ii*x2)))=(y1-e*ii*x1)*(y1-e*ii*x1):=by grobner
 have sq:∀t u:F,dd*(t*t)=u*u→t=0:=by
  intro t u h;refine Classical.byContradiction fun ht=>?_
  apply uX (u*F.inv t)
  have hv:=F.inv_mul ht;have:u*F.inv t*(u*F.inv t)=(u*u)*(F.inv t*F.inv t):=by grobner
  rw[this,← h];have:dd*(t*t)*(F.inv t*F.inv t)=dd*((t*F.inv t)*(t*F.inv t)):=by grobner
  rw[this,hv];grobner
 have z1:=sq _ _ k1;have z2:=sq _ _ k2;have hxy:=F.fx CZ Mo;have w1:y2+ii*x2=0:=(F.mul_eq_zero z1).resolve_left hxy;have w2:y2-ii*x2=0:=(F.mul_eq_zero z2).resolve_left hxy;have:(2:F)*y2=0:=by grobner
 exact Q7 ((F.mul_eq_zero this).resolve_left acs)
theorem gn{x1 y1 x2 y2:F}(h1:vU x1 y1)(h2:vU x2 y2):1+dd*x1*x2*y1*y2≠0:=by
 intro h;exact ali h1 h2 (e:= -1) (by decide+kernel) (by grobner)
theorem fb{x1 y1 x2 y2:F}(h1:vU x1 y1)(h2:vU x2 y2):1-dd*x1*x2*y1*y2≠0:=by
 intro h;exact ali h1 h2 (e:=1) (by decide+kernel) (by grobner)
structure Pt where
 x:F
 y:F
 on:vU x y
theorem Pt.ext'{p q:Pt}(hx:p.x=q.x)(hy:p.y=q.y):p=q:=by
 cases p;cases q;simp at hx hy;subst hx hy;rfl
def jt(x1 y1 x2 y2:F):F:=(x1*y2+y1*x2)*F.inv (1+dd*x1*x2*y1*y2)
def ju(x1 y1 x2 y2:F):F:=(y1*y2+x1*x2)*F.inv (1-dd*x1*x2*y1*y2)
theorem jQ{x1 y1 x2 y2:F}(h1:vU x1 y1)(h2:vU x2 y2):jt x1 y1 x2 y2*(1+dd*x1*x2*y1*y2)=x1*y2+y1*x2:=by
 have:=F.inv_mul (gn h1 h2);unfold jt;generalize F.inv (1+dd*x1*x2*y1*y2)=v at*
 grobner
theorem jR{x1 y1 x2 y2:F}(h1:vU x1 y1)(h2:vU x2 y2):ju x1 y1 x2 y2*(1-dd*x1*x2*y1*y2)=y1*y2+x1*x2:=by
 have:=F.inv_mul (fb h1 h2);unfold ju;generalize F.inv (1-dd*x1*x2*y1*y2)=v at*
 grobner
theorem Pb(d x1 y1 x2 y2:F):((y1*y2+x1*x2)*(y1*y2+x1*x2))*((1+d*x1*x2*y1*y2)*(1+d*x1*x2*y1*y2))-((x1*y2+y1*x2)*(x1*y2+y1*x2))*((1-d*x1*x2*y1*y2)*(1-d*x1*x2*y1*y2))-((1+d*x1*x2*y1*y2)*(1+d*x1*x2*y1*y2))*((1-d*x1*x2*y1*y2)*(1-d*x1*x2*y1*y2))-d*((x1*y2+y1*x2)*(x1*y2+y1*x2))*((y1*y2+x1*x2)*(y1*y2+x1*x2))=(y2*y2*y2*y2-4*x2*x2*y2*y2-2*x2*x2*y2*y2*d+2*x2*x2*y2*y2*y2*y2+x2*x2*x2*x2-2*x2*x2*x2*x2*y2*y2-2*x2*x2*x2*x2*y2*y2*y2*y2*d-x2*x2*x2*x2*y2*y2*y2*y2*d*d-y1*y1*x2*x2*y2*y2*y2*y2*d+y1*y1*x2*x2*x2*x2*y2*y2*d+y1*y1*x2*x2*x2*x2*y2*y2*y2*y2*d*d+x1*x1*x2*x2*y2*y2*y2*y2*d-x1*x1*x2*x2*x2*x2*y2*y2*d-x1*x1*x2*x2*x2*x2*y2*y2*y2*y2*d*d+x1*x1*y1*y1*x2*x2*x2*x2*y2*y2*y2*y2*d*d*d)*(y1*y1-x1*x1-(1+d*(x1*x1)*(y1*y1)))+(1+y2*y2-x2*x2+2*x2*x2*y2*y2+x2*x2*y2*y2*d-y1*y1*y2*y2+y1*y1*x2*x2-2*y1*y1*x2*x2*y2*y2-2*y1*y1*x2*x2*y2*y2*d+y1*y1*y1*y1*x2*x2*y2*y2*d+x1*x1*y2*y2-x1*x1*x2*x2+2*x1*x1*x2*x2*y2*y2+2*x1*x1*x2*x2*y2*y2*d+x1*x1*x1*x1*x2*x2*y2*y2*d)*(y2*y2-x2*x2-(1+d*(x2*x2)*(y2*y2))):=by grobner
theorem Pc(d x1 y1 x2 y2 x3 y3:F):((x1*y2+y1*x2)*(1-d*x1*x2*y1*y2)*y3+(y1*y2+x1*x2)*(1+d*x1*x2*y1*y2)*x3)*((1+d*x2*x3*y2*y3)*(1-d*x2*x3*y2*y3)+d*x1*y1*(x2*y3+y2*x3)*(y2*y3+x2*x3))-(x1*(y2*y3+x2*x3)*(1+d*x2*x3*y2*y3)+y1*(x2*y3+y2*x3)*(1-d*x2*x3*y2*y3))*((1+d*x1*x2*y1*y2)*(1-d*x1*x2*y1*y2)+d*(x1*y2+y1*x2)*(y1*y2+x1*x2)*x3*y3)=(-y1*x2*y2*y2*y2*y2*x3*x3*y3*d-y1*x2*x2*y2*y2*y2*x3*d-y1*x2*x2*y2*y2*y2*x3*x3*x3*d-y1*x2*x2*x2*y2*y2*y3*d+y1*x2*x2*x2*y2*y2*y3*y3*y3*d+y1*x2*x2*x2*y2*y2*y2*y2*x3*x3*y3*d*d+y1*x2*x2*x2*x2*y2*x3*y3*y3*d+y1*x2*x2*x2*x2*y2*y2*y2*x3*y3*y3*d*d+x1*x2*y2*y2*y2*y2*x3*y3*y3*d-x1*x2*x2*y2*y2*y2*y3*d+x1*x2*x2*y2*y2*y2*y3*y3*y3*d-x1*x2*x2*x2*y2*y2*x3*d-x1*x2*x2*x2*y2*y2*x3*x3*x3*d-x1*x2*x2*x2*y2*y2*y2*y2*x3*y3*y3*d*d-x1*x2*x2*x2*x2*y2*x3*x3*y3*d-x1*x2*x2*x2*x2*y2*y2*y2*x3*x3*y3*d*d)*(y1*y1-x1*x1-(1+d*(x1*x1)*(y1*y1)))+(y1*y2*x3-y1*y2*x3*y3*y3+y1*y2*x3*x3*x3+y1*y2*x3*x3*x3*y3*y3*d+y1*x2*y3-y1*x2*y3*y3*y3+y1*x2*x3*x3*y3+y1*x2*x3*x3*y3*y3*y3*d-y1*x2*y2*y2*x3*x3*y3*d-y1*x2*x2*y2*x3*y3*y3*d-y1*y1*y1*y2*x3+y1*y1*y1*y2*x3*y3*y3-y1*y1*y1*y2*x3*x3*x3-y1*y1*y1*y2*x3*x3*x3*y3*y3*d-y1*y1*y1*x2*y3+y1*y1*y1*x2*y3*y3*y3-y1*y1*y1*x2*x3*x3*y3-y1*y1*y1*x2*x3*x3*y3*y3*y3*d+y1*y1*y1*x2*y2*y2*x3*x3*y3*d+y1*y1*y1*x2*x2*y2*x3*y3*y3*d+x1*y2*y3-x1*y2*y3*y3*y3+x1*y2*x3*x3*y3+x1*y2*x3*x3*y3*y3*y3*d+x1*x2*x3-x1*x2*x3*y3*y3+x1*x2*x3*x3*x3+x1*x2*x3*x3*x3*y3*y3*d+x1*x2*y2*y2*x3*y3*y3*d+x1*x2*x2*y2*x3*x3*y3*d-x1*y1*y1*y2*y3+x1*y1*y1*y2*y3*y3*y3-x1*y1*y1*y2*x3*x3*y3-x1*y1*y1*y2*x3*x3*y3*y3*y3*d-x1*y1*y1*x2*x3+x1*y1*y1*x2*x3*y3*y3-x1*y1*y1*x2*x3*x3*x3-x1*y1*y1*x2*x3*x3*x3*y3*y3*d-x1*y1*y1*x2*y2*y2*x3*y3*y3*d+x1*y1*y1*x2*y2*y2*x3*x3*x3*y3*y3*d*d-x1*y1*y1*x2*x2*y2*x3*x3*y3*d-x1*y1*y1*x2*x2*y2*x3*x3*y3*y3*y3*d*d+x1*x1*y1*y2*x3-x1*x1*y1*y2*x3*y3*y3+x1*x1*y1*y2*x3*x3*x3+x1*x1*y1*y2*x3*x3*x3*y3*y3*d+x1*x1*y1*x2*y3-x1*x1*y1*x2*y3*y3*y3+x1*x1*y1*x2*x3*x3*y3+x1*x1*y1*x2*x3*x3*y3*y3*y3*d-x1*x1*y1*x2*y2*y2*x3*x3*y3*d-x1*x1*y1*x2*y2*y2*x3*x3*y3*y3*y3*d*d-x1*x1*y1*x2*x2*y2*x3*y3*y3*d+x1*x1*y1*x2*x2*y2*x3*x3*x3*y3*y3*d*d+x1*x1*x1*y2*y3-x1*x1*x1*y2*y3*y3*y3+x1*x1*x1*y2*x3*x3*y3+x1*x1*x1*y2*x3*x3*y3*y3*y3*d+x1*x1*x1*x2*x3-x1*x1*x1*x2*x3*y3*y3+x1*x1*x1*x2*x3*x3*x3+x1*x1*x1*x2*x3*x3*x3*y3*y3*d+x1*x1*x1*x2*y2*y2*x3*y3*y3*d+x1*x1*x1*x2*x2*y2*x3*x3*y3*d)*(y2*y2-x2*x2-(1+d*(x2*x2)*(y2*y2)))+(-y1*y2*x3+y1*y2*y2*y2*x3-y1*x2*y3+y1*x2*y2*y2*y3-y1*x2*x2*y2*x3-y1*x2*x2*x2*y3+y1*y1*y1*y2*x3-y1*y1*y1*y2*y2*y2*x3+y1*y1*y1*x2*y3-y1*y1*y1*x2*y2*y2*y3+y1*y1*y1*x2*x2*y2*x3+y1*y1*y1*x2*x2*x2*y3-x1*y2*y3+x1*y2*y2*y2*y3-x1*x2*x3+x1*x2*y2*y2*x3-x1*x2*x2*y2*y3-x1*x2*x2*x2*x3+x1*y1*y1*y2*y3-x1*y1*y1*y2*y2*y2*y3+x1*y1*y1*x2*x3-x1*y1*y1*x2*y2*y2*x3-x1*y1*y1*x2*y2*y2*x3*d+x1*y1*y1*x2*x2*y2*y3+x1*y1*y1*x2*x2*y2*y3*d+x1*y1*y1*x2*x2*x2*x3-x1*x1*y1*y2*x3+x1*x1*y1*y2*y2*y2*x3-x1*x1*y1*x2*y3+x1*x1*y1*x2*y2*y2*y3+x1*x1*y1*x2*y2*y2*y3*d-x1*x1*y1*x2*x2*y2*x3-x1*x1*y1*x2*x2*y2*x3*d-x1*x1*y1*x2*x2*x2*y3-x1*x1*x1*y2*y3+x1*x1*x1*y2*y2*y2*y3-x1*x1*x1*x2*x3+x1*x1*x1*x2*y2*y2*x3-x1*x1*x1*x2*x2*y2*y3-x1*x1*x1*x2*x2*x2*x3)*(y3*y3-x3*x3-(1+d*(x3*x3)*(y3*y3))):=by grobner
theorem Pd(d x1 y1 x2 y2 x3 y3:F):((y1*y2+x1*x2)*(1+d*x1*x2*y1*y2)*y3+(x1*y2+y1*x2)*(1-d*x1*x2*y1*y2)*x3)*((1+d*x2*x3*y2*y3)*(1-d*x2*x3*y2*y3)-d*x1*y1*(x2*y3+y2*x3)*(y2*y3+x2*x3))-(y1*(y2*y3+x2*x3)*(1+d*x2*x3*y2*y3)+x1*(x2*y3+y2*x3)*(1-d*x2*x3*y2*y3))*((1+d*x1*x2*y1*y2)*(1-d*x1*x2*y1*y2)-d*(x1*y2+y1*x2)*(y1*y2+x1*x2)*x3*y3)=(y1*x2*y2*y2*y2*y2*x3*y3*y3*d-y1*x2*x2*y2*y2*y2*y3*d+y1*x2*x2*y2*y2*y2*y3*y3*y3*d-y1*x2*x2*x2*y2*y2*x3*d-y1*x2*x2*x2*y2*y2*x3*x3*x3*d-y1*x2*x2*x2*y2*y2*y2*y2*x3*y3*y3*d*d-y1*x2*x2*x2*x2*y2*x3*x3*y3*d-y1*x2*x2*x2*x2*y2*y2*y2*x3*x3*y3*d*d-x1*x2*y2*y2*y2*y2*x3*x3*y3*d-x1*x2*x2*y2*y2*y2*x3*d-x1*x2*x2*y2*y2*y2*x3*x3*x3*d-x1*x2*x2*x2*y2*y2*y3*d+x1*x2*x2*x2*y2*y2*y3*y3*y3*d+x1*x2*x2*x2*y2*y2*y2*y2*x3*x3*y3*d*d+x1*x2*x2*x2*x2*y2*x3*y3*y3*d+x1*x2*x2*x2*x2*y2*y2*y2*x3*y3*y3*d*d)*(y1*y1-x1*x1-(1+d*(x1*x1)*(y1*y1)))+(y1*y2*y3-y1*y2*y3*y3*y3+y1*y2*x3*x3*y3+y1*y2*x3*x3*y3*y3*y3*d+y1*x2*x3-y1*x2*x3*y3*y3+y1*x2*x3*x3*x3+y1*x2*x3*x3*x3*y3*y3*d+y1*x2*y2*y2*x3*y3*y3*d+y1*x2*x2*y2*x3*x3*y3*d-y1*y1*y1*y2*y3+y1*y1*y1*y2*y3*y3*y3-y1*y1*y1*y2*x3*x3*y3-y1*y1*y1*y2*x3*x3*y3*y3*y3*d-y1*y1*y1*x2*x3+y1*y1*y1*x2*x3*y3*y3-y1*y1*y1*x2*x3*x3*x3-y1*y1*y1*x2*x3*x3*x3*y3*y3*d-y1*y1*y1*x2*y2*y2*x3*y3*y3*d-y1*y1*y1*x2*x2*y2*x3*x3*y3*d+x1*y2*x3-x1*y2*x3*y3*y3+x1*y2*x3*x3*x3+x1*y2*x3*x3*x3*y3*y3*d+x1*x2*y3-x1*x2*y3*y3*y3+x1*x2*x3*x3*y3+x1*x2*x3*x3*y3*y3*y3*d-x1*x2*y2*y2*x3*x3*y3*d-x1*x2*x2*y2*x3*y3*y3*d-x1*y1*y1*y2*x3+x1*y1*y1*y2*x3*y3*y3-x1*y1*y1*y2*x3*x3*x3-x1*y1*y1*y2*x3*x3*x3*y3*y3*d-x1*y1*y1*x2*y3+x1*y1*y1*x2*y3*y3*y3-x1*y1*y1*x2*x3*x3*y3-x1*y1*y1*x2*x3*x3*y3*y3*y3*d+x1*y1*y1*x2*y2*y2*x3*x3*y3*d+x1*y1*y1*x2*y2*y2*x3*x3*y3*y3*y3*d*d+x1*y1*y1*x2*x2*y2*x3*y3*y3*d-x1*y1*y1*x2*x2*y2*x3*x3*x3*y3*y3*d*d+x1*x1*y1*y2*y3-x1*x1*y1*y2*y3*y3*y3+x1*x1*y1*y2*x3*x3*y3+x1*x1*y1*y2*x3*x3*y3*y3*y3*d+x1*x1*y1*x2*x3-x1*x1*y1*x2*x3*y3*y3+x1*x1*y1*x2*x3*x3*x3+x1*x1*y1*x2*x3*x3*x3*y3*y3*d+x1*x1*y1*x2*y2*y2*x3*y3*y3*d-x1*x1*y1*x2*y2*y2*x3*x3*x3*y3*y3*d*d+x1*x1*y1*x2*x2*y2*x3*x3*y3*d+x1*x1*y1*x2*x2*y2*x3*x3*y3*y3*y3*d*d+x1*x1*x1*y2*x3-x1*x1*x1*y2*x3*y3*y3+x1*x1*x1*y2*x3*x3*x3+x1*x1*x1*y2*x3*x3*x3*y3*y3*d+x1*x1*x1*x2*y3-x1*x1*x1*x2*y3*y3*y3+x1*x1*x1*x2*x3*x3*y3+x1*x1*x1*x2*x3*x3*y3*y3*y3*d-x1*x1*x1*x2*y2*y2*x3*x3*y3*d-x1*x1*x1*x2*x2*y2*x3*y3*y3*d)*(y2*y2-x2*x2-(1+d*(x2*x2)*(y2*y2)))+(-y1*y2*y3+y1*y2*y2*y2*y3-y1*x2*x3+y1*x2*y2*y2*x3-y1*x2*x2*y2*y3-y1*x2*x2*x2*x3+y1*y1*y1*y2*y3-y1*y1*y1*y2*y2*y2*y3+y1*y1*y1*x2*x3-y1*y1*y1*x2*y2*y2*x3+y1*y1*y1*x2*x2*y2*y3+y1*y1*y1*x2*x2*x2*x3-x1*y2*x3+x1*y2*y2*y2*x3-x1*x2*y3+x1*x2*y2*y2*y3-x1*x2*x2*y2*x3-x1*x2*x2*x2*y3+x1*y1*y1*y2*x3-x1*y1*y1*y2*y2*y2*x3+x1*y1*y1*x2*y3-x1*y1*y1*x2*y2*y2*y3-x1*y1*y1*x2*y2*y2*y3*d+x1*y1*y1*x2*x2*y2*x3+x1*y1*y1*x2*x2*y2*x3*d+x1*y1*y1*x2*x2*x2*y3-x1*x1*y1*y2*y3+x1*x1*y1*y2*y2*y2*y3-x1*x1*y1*x2*x3+x1*x1*y1*x2*y2*y2*x3+x1*x1*y1*x2*y2*y2*x3*d-x1*x1*y1*x2*x2*y2*y3-x1*x1*y1*x2*x2*y2*y3*d-x1*x1*y1*x2*x2*x2*x3-x1*x1*x1*y2*x3+x1*x1*x1*y2*y2*y2*x3-x1*x1*x1*x2*y3+x1*x1*x1*x2*y2*y2*y3-x1*x1*x1*x2*x2*y2*x3-x1*x1*x1*x2*x2*x2*y3)*(y3*y3-x3*x3-(1+d*(x3*x3)*(y3*y3))):=by grobner
theorem Pe{x1 y1 x2 y2:F}(h1:vU x1 y1)(h2:vU x2 y2):vU (jt x1 y1 x2 y2) (ju x1 y1 x2 y2):=by
 have a:=jQ h1 h2;have b:=jR h1 h2;have p:=gn h1 h2;have q:=fb h1 h2;have c:=Pb dd x1 y1 x2 y2;have z1:=h1.zero;have z2:=h2.zero;rw[z1,z2,F.mz,F.mz,F.az]at c;unfold vU;generalize jt x1 y1 x2 y2=X at*;generalize ju x1 y1 x2 y2=Y at*;rw[← a,← b]at c;generalize 1+dd*x1*x2*y1*y2=D at*;generalize 1-dd*x1*x2*y1*y2=E at*;clear a b z1 z2 h1 h2;have k:(Y*Y-X*X-(1+dd*(X*X)*(Y*Y)))*((D*D)*(E*E))=0:=by grobner
 rcases F.mul_eq_zero k with k|k
 ·grobner
 ·exact absurd k (F.fx (F.fx p p) (F.fx q q))
def Pt.add(p q:Pt):Pt:=⟨jt p.x p.y q.x q.y,ju p.x p.y q.x q.y,Pe p.on q.on⟩
def Pt.zero:Pt:=⟨0,1,by unfold vU;grobner⟩
def Pt.neg(p:Pt):Pt:=⟨-p.x,p.y,by have:=p.on;unfold vU at*;grobner⟩
theorem Pt.add_comm(p q:Pt):p.add q=q.add p:=by
 apply Pt.ext'
 ·show jt _ _ _ _=jt _ _ _ _;unfold jt;rw[show p.x*q.y+p.y*q.x=q.x*p.y+q.y*p.x from by grobner,show 1+dd*p.x*q.x*p.y*q.y=1+dd*q.x*p.x*q.y*p.y from by grobner]
 ·show ju _ _ _ _=ju _ _ _ _;unfold ju;rw[show p.y*q.y+p.x*q.x=q.y*p.y+q.x*p.x from by grobner,show 1-dd*p.x*q.x*p.y*q.y=1-dd*q.x*p.x*q.y*p.y from by grobner]
theorem Pt.add_zero(p:Pt):p.add Pt.zero=p:=by
 have h1:=jQ p.on Pt.zero.on;have h2:=jR p.on Pt.zero.on
 apply Pt.ext'
 ·show jt p.x p.y 0 1=p.x;have e:jt p.x p.y 0 1*(1+dd*p.x*0*p.y*1)=p.x*1+p.y*0:=h1
  grobner
 ·show ju p.x p.y 0 1=p.y;have e:ju p.x p.y 0 1*(1-dd*p.x*0*p.y*1)=p.y*1+p.x*0:=h2
  grobner
theorem Pt.add_neg(p:Pt):p.add p.neg=Pt.zero:=by
 have h1:=jQ p.on p.neg.on;have h2:=jR p.on p.neg.on;have d1:=gn p.on p.neg.on;have d2:=fb p.on p.neg.on;have ho:=p.on;unfold vU at ho;simp only[Pt.neg]at h1 h2 d1 d2
 apply Pt.ext'
 ·show jt p.x p.y (-p.x) p.y=0
  apply F.cancel d1
  rw[h1];grobner
 ·show ju p.x p.y (-p.x) p.y=1
  apply F.cancel d2
  rw[h2];grobner
theorem Pt.add_assoc(p q r:Pt):(p.add q).add r=p.add (q.add r):=by
 obtain⟨x1,y1,o1⟩:=p;obtain⟨x2,y2,o2⟩:=q;obtain⟨x3,y3,o3⟩:=r;have a12:=jQ o1 o2;have b12:=jR o1 o2;have a23:=jQ o2 o3;have b23:=jR o2 o3;have p12:=gn o1 o2;have q12:=fb o1 o2;have p23:=gn o2 o3;have q23:=fb o2 o3;have n12:=Pe o1 o2;have n23:=Pe o2 o3;have aL:=jQ n12 o3;have bL:=jR n12 o3;have aR:=jQ o1 n23;have bR:=jR o1 n23;have pL:=gn n12 o3;have qL:=fb n12 o3;have pR:=gn o1 n23;have qR:=fb o1 n23;have ix:=Pc dd x1 y1 x2 y2 x3 y3;have iy:=Pd dd x1 y1 x2 y2 x3 y3;have z1:=o1.zero;have z2:=o2.zero;have z3:=o3.zero;rw[z1,z2,z3,F.mz,F.mz,F.mz,F.az,F.az]at ix iy
 apply Pt.ext'
 ·show jt (jt x1 y1 x2 y2) (ju x1 y1 x2 y2) x3 y3=jt x1 y1 (jt x2 y2 x3 y3) (ju x2 y2 x3 y3);clear z1 z2 z3 o1 o2 o3 n12 n23 bL bR iy qL qR;generalize jt (jt x1 y1 x2 y2) (ju x1 y1 x2 y2) x3 y3=XL at*;generalize jt x1 y1 (jt x2 y2 x3 y3) (ju x2 y2 x3 y3)=XR at*;generalize jt x1 y1 x2 y2=u at*;generalize ju x1 y1 x2 y2=v at*;generalize jt x2 y2 x3 y3=s at*;generalize ju x2 y2 x3 y3=t at*;generalize 1+dd*x1*x2*y1*y2=D at*;generalize 1-dd*x1*x2*y1*y2=E at*;generalize 1+dd*x2*x3*y2*y3=G at*;generalize 1-dd*x2*x3*y2*y3=H at*;rw[← a12,← b12,← a23,← b23]at ix;clear a12 b12 a23 b23;generalize hA:1+dd*u*x3*v*y3=A at*;generalize hB:1+dd*x1*s*y1*t=B at*;have k1:XL*(D*E*A)=(u*y3+v*x3)*(D*E):=by grobner
  have k2:XR*(G*H*B)=(x1*t+y1*s)*(G*H):=by grobner
  have k3:(u*y3+v*x3)*(D*E)*(G*H*B)=(x1*t+y1*s)*(G*H)*(D*E*A):=by grobner
  apply F.cancel (F.fx (F.fx (F.fx p12 q12) pL) (F.fx (F.fx p23 q23) pR))
  grobner
 ·show ju (jt x1 y1 x2 y2) (ju x1 y1 x2 y2) x3 y3=ju x1 y1 (jt x2 y2 x3 y3) (ju x2 y2 x3 y3);clear z1 z2 z3 o1 o2 o3 n12 n23 aL aR ix pL pR;generalize ju (jt x1 y1 x2 y2) (ju x1 y1 x2 y2) x3 y3=XL at*;generalize ju x1 y1 (jt x2 y2 x3 y3) (ju x2 y2 x3 y3)=XR at*;generalize jt x1 y1 x2 y2=u at*;generalize ju x1 y1 x2 y2=v at*;generalize jt x2 y2 x3 y3=s at*;generalize ju x2 y2 x3 y3=t at*;generalize 1+dd*x1*x2*y1*y2=D at*;generalize 1-dd*x1*x2*y1*y2=E at*;generalize 1+dd*x2*x3*y2*y3=G at*;generalize 1-dd*x2*x3*y2*y3=H at*;rw[← a12,← b12,← a23,← b23]at iy;clear a12 b12 a23 b23;generalize hA:1-dd*u*x3*v*y3=A at*;generalize hB:1-dd*x1*s*y1*t=B at*;have k1:XL*(D*E*A)=(v*y3+u*x3)*(D*E):=by grobner
  have k2:XR*(G*H*B)=(y1*t+x1*s)*(G*H):=by grobner
  have k3:(v*y3+u*x3)*(D*E)*(G*H*B)=(y1*t+x1*s)*(G*H)*(D*E*A):=by grobner
  apply F.cancel (F.fx (F.fx (F.fx p12 q12) qL) (F.fx (F.fx p23 q23) qR))
  grobner
end BJ
end
