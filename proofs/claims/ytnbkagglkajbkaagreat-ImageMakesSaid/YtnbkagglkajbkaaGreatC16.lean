/- What the laws lean on, part 16: a reader of code, plain facts, and what each function gives; no conditions. -/
import Derived.Test.YtnbkagglkajbkaaGreatC15
set_option linter.unusedVariables false
set_option linter.unusedSimpArgs false
noncomputable section
namespace Go.Proofs.YtnbkagglkajbkaaGreat
open Go Go.Ev BJ Go.Proofs.Tryz
open Go.IntKind (i64 signed u16 u64 wrap)
set_option maxRecDepth 1000000
abbrev cW:aQ LV (List Int):=sG .u64 8
abbrev wA:aQ (List LV) (List Int×Unit):=ae cW ag
abbrev w2A:aQ (List LV) (List Int×List Int×Unit):=ae cW (ae cW ag)
abbrev iW:aQ (Option Ev.Item) (List Int):=gm 204 .u64 8
abbrev iB:aQ (Option Ev.Item) (List Int):=gm 22 .u8 32
abbrev iA(i:Nat):Wk:=.dz i 0 8 .u64
abbrev nPW(r:List Int×Int):LV:=.c6 [.agg [.arr (.int .u64) 8 r.1],.sc (.int .u64 (.sym r.2))]
def okW(w:List Int):Prop:=w.length=8∧dL 18446744073709551616 w
def okB(b:List Int):Prop:=b.length=32∧aN b
theorem Dw{w:List Int}(h:okW w):List.take 8 (List.drop 0 w)=w:=aX h.1
def eWW(g:List Int→List Int→List Int):an:=an.cm [] w2A ag fun x _=>.leaf (some (okW x.1∧okW x.2.1)) (cY .u64 8 (g x.1 x.2.1)) []
def ap6(g:List Int→List Int→List Int×Int):an:=an.cm [] w2A ag fun x _=>.leaf (some (okW x.1∧okW x.2.1)) (nPW (g x.1 x.2.1)) []
abbrev wiA:aQ (List LV) (List Int×Int×Unit):=ae cW (ae (ah (aA .i64)) ag)
def ax4(g:List Int→Int→Int):an:=an.cm [] wiA ag fun x _=>.leaf (some (okW x.1∧0≤x.2.1∧x.2.1<512)) (nU (g x.1 x.2.1)) []
def e0W(c:List Int):an:=an.cm [] ag ag fun _ _=>.leaf none (cY .u64 8 c) []
def eWB(g:List Int→List Int):an:=an.cm [] wA ag fun x _=>.leaf (some (okW x.1)) (cY .u8 32 (g x.1)) []
def eOf(g:List Int→List Int):an:=an.cm [some u8] bA ag fun x _=>.leaf (some (aN x.1∧x.1.length≤64)) (cY .u64 8 (g x.1)) []
abbrev amL:Func:=f131
abbrev soC:aQ (List LV) (List Int×Int×Int×Unit):=(jk 2 (ai (ah (aD 0 0)) (ai (ah (aD 1 0)) (jk 2 (ae (ah (gg false false u8)) (ae (ah (aA .i64)) (ae (ah (aA .i64)) (jk 18 ag))))))))
abbrev ax6:Wk:=.fr (cb 27 [(2,.ak),(3,.ak),(6,.ak),(7,.sym),(8,.sym)])
abbrev soX:aQ (List LV) (Unit):=(jk 2 (ai (ah (aD 0 0)) (ai (ah (aD 1 0)) (jk 23 ag))))
abbrev aCC:Wk:=.fr (cb 27 [(2,.ak),(3,.ak)])
abbrev soH:aQ Hp (List Int×List Int×Unit):=ae iW (ae iW ag)
def soW:Exit→List Wk
 | .normal=> [ax6,iA 0,iA 1,.auto]
 | .exit 0=> [aCC,iA 0,iA 1,.auto]
 |_=> []
theorem as5(b:List Int)(n i:Int)(r m:List Int):ct Tryz.prog [] [] amL 0 [] soW ((aT soC soH).wr ((b,n,i,()),(r,m,())))=
 aG.ite (decide (i<n)) (aG.need ((0:Int)≤i∧i<(↑b.length:Int)) (aG.need ((0:Int)≤i64.wrap (i.tdiv (8:Int))∧
 i64.wrap (i.tdiv (8:Int))<(8:Int)) (aG.need ((0:Int)≤i64.wrap (i.tmod (8:Int)*(8:Int))) (aG.need ((0:Int)≤
 i64.wrap (i.tdiv (8:Int))∧i64.wrap (i.tdiv (8:Int))<(8:Int)) (aG.leaf Exit.normal ((aT soC soH).wr ((b,n,i64.wrap
 (i+(1:Int)),PUnit.unit),r,m.set ((0:Nat)+(i64.wrap (i.tdiv (8:Int))).toNat) (bC u64 ((List.take (8:Nat) (List.drop (0
 :Nat) m)).getD (i64.wrap (i.tdiv (8:Int))).toNat (0:Int)) (shl u64 (u64.wrap (b.getD i.toNat (0:Int))) (i64.wrap
 (i.tmod (8:Int)*(8:Int))))),PUnit.unit))))))) (aG.leaf (Exit.exit (0:Nat)) ((aT soX soH).wr (PUnit.unit,r,m,PUnit.unit))):=by kernel_rfl
def ax7(g:List Int→List Int)(x:(List Int×Int×Int×Unit)×List Int×List Int×Unit):aG:=.need (aN x.1.1∧x.1.1.length≤64∧x.1.2.1=x.1.1.length∧x.1.2.2.1=0∧x.2.2.1=List.replicate 8 0) (.leaf (.exit 0) ((aT soX soH).wr ((),(x.2.1,g x.1.1,()))))
theorem ap8(k:Nat):i64.wrap ((k:Int).tmod 8*8)=((k%8*8:Nat):Int):=by
 rw[show(k:Int).tmod 8=((k%8:Nat):Int)from Ln k 8,au (by omega) (by omega)];omega
theorem amM:uS []=List.replicate 8 0:=Hf bs 8
theorem amN(x):Ex Tryz.prog [] (.loop (aP amL 0)) ((aT soC soH).wr x) (ax7 uS x):=by
 obtain⟨⟨b,n,i,_⟩,r,m,_⟩:=x;refine Ex.need fun⟨h1,h2,h3,h4,h5⟩=>?_;simp only at h1 h2 h3 h4 h5;subst h3 h4 h5
 have key:=c8 (fn:=amL) (id:=0) (j:=0) (ws:=soW) (hp:= []) mixed aw (aK.nil _) b.length (fun k (_:Unit)=>(aT soC soH).wr ((b,(b.length:Int),(k:Int),()),(r,uS (b.take k),()))) (fun _=>(aT soX soH).wr ((),(r,uS b,()))) (fun _ u=>u) (fun _ _=>True)
  (fun k o R hk _ hn hx=>?_) (fun _ _ _ _=>trivial) 0 () (by omega) trivial
 ·rw[List.take_zero,amM]at key;exact key
 rw[as5];refine⟨fun hb=>?_,fun hb=>?_⟩
 ·have g6:k<b.length:=by have:=of_decide_eq_true hb;omega
  have e1:i64.wrap ((k:Int).tdiv 8)=((k/8:Nat):Int):=fw k 8 (by omega);rw[e1,ap8,aX (ahe _).1,Int.toNat_natCast,Int.toNat_natCast,Nat.zero_add,amD h1 h2 g6,bQ k (by omega)];exact⟨by omega,by omega,by omega,by omega,hn g6⟩
 ·have:k=b.length:=by have:=of_decide_eq_false hb;omega
  subst this;have:=hx rfl;rw[List.take_length];exact this
abbrev ax8(g:List Int→List Int):df:= [(0,cJ (aT soC soH) 0 [ax6,iA 0,iA 1,.auto] (ax7 g))]
abbrev aCD:an:=eOf uS
theorem ahf(g:List Int→List Int)(b:List Int):aH Tryz.prog [] (ax8 g) amL (bA.wr (b,())) [] [.fr [.sym],.eZ 0 0 8 .u64,.auto]=
 End.need (aN b∧b.length≤(64:Nat)∧(↑b.length:Int)=(↑b.length:Int)∧(0:Int)=(0:Int)∧ [(0:Int),(0:Int),(0:Int),(0:
 Int),(0:Int),(0:Int),(0:Int),(0:Int)]=List.replicate (8:Nat) (0:Int)) (End.leaf (LV.one (VV.agg [SV.arr (Ty.int u64) (8:
 Nat) (g b)])) []):=by kernel_rfl
theorem ahg:aCD.Ok Tryz.prog 131:=by
 refine(an.aS call131 fun x_ y_ Q H_=>?_).sym;obtain⟨b,_⟩:=x_;obtain⟨hn,hq⟩:=H_;have hn:aN b∧b.length≤64:=hn;refine(ar mixed aw func131 rfl (LT:=ax8 uS) (ks:= [.fr [.sym],.eZ 0 0 8 .u64,.auto]) (aK.bI (iu rfl (bt (hp:= []) amN) iE))).use (D:= []) ?_ hq;show(aH _ _ _ _ (bA.wr (b,())) [] _).sat _;rw[ahf];exact⟨⟨hn.1,hn.2,rfl,rfl,rfl⟩,rfl,rfl⟩
abbrev amO:Func:=f188
abbrev byC:aQ (List LV) (Int×Unit):=(jk 1 (ai (ah (aD 0 0)) (ai (ah (aD 1 0)) (ai (ah (aD 2 0)) (jk 1 (ae (ah (aA .i64)) (jk 15 ag)))))))
abbrev aya:Wk:=.fr (cb 21 [(1,.ak),(2,.ak),(3,.ak),(5,.sym)])
abbrev byX:aQ (List LV) (Unit):=(jk 2 (ai (ah (aD 1 0)) (ai (ah (aD 2 0)) (jk 17 ag))))
abbrev aCF:Wk:=.fr (cb 21 [(2,.ak),(3,.ak)])
abbrev byH:aQ Hp (List Int×List Int×List Int×Unit):=ae iW (ae iB (ae iB ag))
def byW:Exit→List Wk
 | .normal=> [aya,iA 0,.dz 1 0 32 .u8,.dz 2 0 32 .u8,.auto]
 | .exit 0=> [aCF,iA 0,.dz 1 0 32 .u8,.dz 2 0 32 .u8]
 |_=> []
theorem as6(i:Int)(w r o:List Int):ct Tryz.prog [] [] amO 0 [] byW ((aT byC byH).wr ((i,()),(w,r,o,())))=
 aG.ite (decide (i<(32:Int))) (aG.need ((0:Int)≤i64.wrap (i.tdiv (8:Int))∧i64.wrap (i.tdiv (8:Int))<(8:Int))
 (aG.need ((0:Int)≤i64.wrap (i.tmod (8:Int)*(8:Int))) (aG.need ((0:Int)≤i∧i<(32:Int)) (aG.leaf Exit.normal ((aT byC
 byH).wr ((i64.wrap (i+(1:Int)),PUnit.unit),w,r,o.set ((0:Nat)+i.toNat) (IntKind.u8.wrap (shr u64 ((List.take (8:Nat)
 (List.drop (0:Nat) w)).getD (i64.wrap (i.tdiv (8:Int))).toNat (0:Int)) (i64.wrap (i.tmod (8:Int)*(8:Int))))),
 PUnit.unit)))))) (aG.leaf (Exit.exit (0:Nat)) ((aT byX byH).wr (PUnit.unit,w,r,o,PUnit.unit))):=by kernel_rfl
def ayb(g:List Int→List Int)(x:(Int×Unit)×List Int×List Int×List Int×Unit):aG:=.need (x.1.1=0∧okW x.2.1∧x.2.2.2.1.length=32) (.leaf (.exit 0) ((aT byX byH).wr ((),(x.2.1,x.2.2.1,g x.2.1,()))))
theorem amP(x):Ex Tryz.prog [] (.loop (aP amO 0)) ((aT byC byH).wr x) (ayb wi x):=by
 obtain⟨⟨i,_⟩,w,r,o,_⟩:=x;refine Ex.need fun⟨h1,h2,h3⟩=>?_;simp only at h1 h2 h3;subst h1
 have key:=c8 (fn:=amO) (id:=0) (j:=0) (ws:=byW) (hp:= []) mixed aw (aK.nil _) 32 (fun k o=>(aT byC byH).wr (((k:Int),()),(w,r,o,()))) (fun o=>(aT byX byH).wr ((),(w,r,o,()))) (fun k o=>o.set k (vd qq w/256 ^ k%256)) (fun _ _=>True)
  (fun k o R hk _ hn hx=>?_) (fun _ _ _ _=>trivial) 0 o (by omega) trivial
 ·rw[Nat.sub_zero,CD (fun k=>vd qq w/256 ^ k%256) h3,ag6 (by decide)]at key;exact key
 rw[as6];refine⟨fun hb=>?_,fun hb=>?_⟩
 ·have g6:k<32:=by have:=of_decide_eq_true hb;omega
  have e1:i64.wrap ((k:Int).tdiv 8)=((k/8:Nat):Int):=fw k 8 (by omega);rw[e1,ap8,Dw h2,Int.toNat_natCast,Int.toNat_natCast,Nat.zero_add,ag8 h2.2 h2.1 (by omega),bQ k (by omega)];exact⟨by omega,by omega,by omega,hn g6⟩
 ·have:k=32:=by have:=of_decide_eq_false hb;omega
  exact hx this
abbrev ayc(g:List Int→List Int):df:= [(0,cJ (aT byC byH) 0 [aya,iA 0,.dz 1 0 32 .u8,.dz 2 0 32 .u8,.auto] (ayb g))]
abbrev amQ:an:=eWB wi
theorem Lt(g:List Int→List Int)(w:List Int):aH Tryz.prog [] (ayc g) amO (wA.wr (w,())) [] kR=
 End.need ((0:Int)=(0:Int)∧okW w∧(32:Nat)=(32:Nat)) (End.leaf (LV.one (VV.agg [SV.arr (Ty.int IntKind.u8) (32:Nat) (g w)])) []):=by kernel_rfl
theorem YD:amQ.Ok Tryz.prog 188:=by
 refine(an.aS call188 fun x_ y_ Q H_=>?_).sym;obtain⟨w,_⟩:=x_;obtain⟨hn,hq⟩:=H_;have hn:okW w:=hn;refine(ar mixed aw func188 rfl (LT:=ayc wi) (ks:=kR) (aK.bI (iu rfl (bt (hp:= []) amP) iE))).use (D:= []) ?_ hq;show(aH _ _ _ _ (wA.wr (w,())) [] _).sat _;rw[Lt];exact⟨⟨rfl,hn,rfl⟩,rfl,rfl⟩
abbrev leFn:Func:=f186
abbrev leC:aQ (List LV) (Int×Int×Unit):=(jk 2 (ai (ah (aD 0 0)) (ai (ah (aD 1 0)) (ai (ah (aD 2 0)) (jk 1 (ae (ah (aA .u64)) (jk 1 (ae (ah (aA .i64)) (jk 18 ag)))))))))
abbrev aye:Wk:=.fr (cb 27 [(2,.ak),(3,.ak),(4,.ak),(6,.sym),(8,.sym)])
abbrev leX:aQ (List LV) (Int×Unit):=(jk 2 (ai (ah (aD 0 0)) (jk 1 (ai (ah (aD 2 0)) (jk 1 (ae (ah (aA .u64)) (jk 20 ag)))))))
abbrev aCH:Wk:=.fr (cb 27 [(2,.ak),(4,.ak),(6,.sym)])
abbrev MN:aQ Hp (List Int×List Int×List Int×Unit):=ae iW (ae iW (ae iW ag))
def leW:Exit→List Wk
 | .normal=> [aye,iA 0,iA 1,iA 2,.auto]
 | .exit 0=> [aCH,iA 0,iA 1,iA 2]
 |_=> []
theorem as7(sb:Int→Int→Int→Int×Int)(c i:Int)(w x r:List Int):ct Tryz.prog [(264,(lp sb).sym)] [] leFn 0 [] leW ((aT leC MN).wr ((c,i,()),(w,x,r,())))=
 aG.ite (decide (i<(8:Int))) (aG.need ((0:Int)≤i∧i<(8:Int)) (aG.need ((0:Int)≤i∧i<(8:Int)) (aG.need ((0:Int)≤c∧c≤(1
 :Int)) (aG.need ((0:Int)≤i∧i<(8:Int)) (aG.leaf Exit.normal ((aT leC MN).wr (((sb ((List.take (8:Nat) (List.drop (0:Nat) w)).getD
 i.toNat (0:Int)) ((List.take (8:Nat) (List.drop (0:Nat) x)).getD i.toNat (0:Int)) c).snd,i64.wrap (i+(1:Int)),PUnit.unit),w.set
 ((0:Nat)+i.toNat) (sb ((List.take (8:Nat) (List.drop (0:Nat) w)).getD i.toNat (0:Int)) ((List.take (8:Nat) (List.drop (0:Nat) x)).getD
 i.toNat (0:Int)) c).fst,x,r,PUnit.unit))))))) (aG.leaf (Exit.exit (0:Nat)) ((aT leX MN).wr ((c,PUnit.unit),w,x,r,PUnit.unit))):=by kernel_rfl
def ayf(g:List Int→List Int→List Int×Int)(x:(Int×Int×Unit)×List Int×List Int×List Int×Unit):aG:=.need (x.1.1=0∧x.1.2.1=0∧okW x.2.1∧okW x.2.2.1) (.leaf (.exit 0) ((aT leX MN).wr (((g x.2.1 x.2.2.1).2,()),((g x.2.1 x.2.2.1).1,x.2.2.1,x.2.2.2.1,()))))
abbrev as8:an:=(lp mE).sym
theorem ahh:as8.Ok Tryz.prog 264:=(Qh func264 (by kernel_rfl) (by kernel_rfl) (by kernel_rfl) (by kernel_rfl) rfl).sym
theorem Lu:∀p∈ [(264,(lp mE).sym)],p.2.Ok Tryz.prog p.1:=al ahh aw
theorem amR(x):Ex Tryz.prog [] (.loop (aP leFn 0)) ((aT leC MN).wr x) (ayf jS x):=by
 obtain⟨⟨c,i,_⟩,w,x,r,_⟩:=x;refine Ex.need fun⟨h1,h2,h3,h4⟩=>?_;simp only at h1 h2 h3 h4;subst h1 h2
 have key:=c8 (fn:=leFn) (id:=0) (j:=0) (ws:=leW) (hp:= []) mixed Lu (aK.nil _) 8 (fun k (o:List Int×Int)=>(aT leC MN).wr ((o.2,(k:Int),()),(o.1,x,r,()))) (fun(o:List Int×Int)=>(aT leX MN).wr ((o.2,()),(o.1,x,r,()))) (Ds mE x) (UQ w x)
  (fun k o R hk hi hn hx=>?_) (fun k o hk hi=>Dt h3.2 h4.2 h3.1 h4.1 hk hi) 0 (w,0) (by omega) ⟨⟨h3.1,h3.2,fun _ _=>rfl⟩,.inl rfl,by simp[vd]⟩
 ·rw[Nat.sub_zero,ag9 h3.2 h4.2 h3.1 h4.1]at key;exact key
 rw[as7 mE];refine⟨fun hb=>?_,fun hb=>?_⟩
 ·have g6:k<8:=by have:=of_decide_eq_true hb;omega
  rw[aX hi.1.len,Dw h4,Int.toNat_natCast,Nat.zero_add,bQ k (by omega)];exact⟨by omega,by omega,(by rcases hi.2.1 with e|e<;>rw[e]<;>decide),by omega,hn g6⟩
 ·have:k=8:=by have:=of_decide_eq_false hb;omega
  exact hx this
abbrev ayg(g:List Int→List Int→List Int×Int):df:= [(0,cJ (aT leC MN) 0 [aye,iA 0,iA 1,iA 2,.auto] (ayf g))]
abbrev as9:an:=ap6 jS
theorem Q8(sb:Int→Int→Int→Int×Int)(g:List Int→List Int→List Int×Int)(w x:List Int):aH Tryz.prog [(264,(lp sb).sym)] (ayg g) leFn (w2A.wr (w,x,())) [] [.fr [.sym],.eZ 0 0 8 .u64,.auto]=
 End.need ((0:Int)=(0:Int)∧(0:Int)=(0:Int)∧okW w∧okW x) (End.leaf (LV.c6 [VV.agg [SV.arr (Ty.int u64) (8:Nat) (g w x).fst],
 VV.sc (SV.int u64 (SI.sym (g w x).snd))]) []):=by kernel_rfl
theorem ahi:as9.Ok Tryz.prog 186:=by
 refine(an.aS call186 fun x_ y_ Q H_=>?_).sym;obtain⟨w,x,_⟩:=x_;obtain⟨hn,hq⟩:=H_;have hn:okW w∧okW x:=hn;refine(ar mixed Lu func186 rfl (LT:=ayg jS) (ks:= [.fr [.sym],.eZ 0 0 8 .u64,.auto]) (aK.bI (iu rfl (bt (hp:= []) amR) iE))).use (D:= []) ?_ hq;show(aH _ _ _ _ (w2A.wr (w,x,())) [] _).sat _;rw[Q8 mE];exact⟨⟨rfl,rfl,hn.1,hn.2⟩,rfl,rfl⟩
abbrev amS:Func:=f139
abbrev anC:aQ (List LV) (Int×Int×Unit):=(jk 2 (ai (ah (aD 0 0)) (ai (ah (aD 1 0)) (ai (ah (aD 2 0)) (ae (ah (aA .u64)) (jk 1 (ae (ah (aA .i64)) (jk 17 ag))))))))
abbrev ayi:Wk:=.fr (cb 25 [(2,.ak),(3,.ak),(4,.ak),(5,.sym),(7,.sym)])
abbrev anX:aQ (List LV) (Unit):=(jk 2 (ai (ah (aD 0 0)) (jk 1 (ai (ah (aD 2 0)) (jk 20 ag)))))
abbrev aCJ:Wk:=.fr (cb 25 [(2,.ak),(4,.ak)])
def anW:Exit→List Wk
 | .normal=> [ayi,iA 0,iA 1,iA 2,.auto]
 | .exit 0=> [aCJ,iA 0,iA 1,iA 2]
 |_=> []
theorem ata(ad:Int→Int→Int→Int×Int)(c i:Int)(w x r:List Int):ct Tryz.prog [(201,(lp ad).sym)] [] amS 0 [] anW ((aT anC MN).wr ((c,i,()),(w,x,r,())))=
 aG.ite (decide (i<(8:Int))) (aG.need ((0:Int)≤i∧i<(8:Int)) (aG.need ((0:Int)≤i∧i<(8:Int)) (aG.need ((0:Int)≤c∧c≤(1
 :Int)) (aG.need ((0:Int)≤i∧i<(8:Int)) (aG.leaf Exit.normal ((aT anC MN).wr (((ad ((List.take (8:Nat) (List.drop (0:Nat) w)).getD
 i.toNat (0:Int)) ((List.take (8:Nat) (List.drop (0:Nat) x)).getD i.toNat (0:Int)) c).snd,i64.wrap (i+(1:Int)),PUnit.unit),w.set
 ((0:Nat)+i.toNat) (ad ((List.take (8:Nat) (List.drop (0:Nat) w)).getD i.toNat (0:Int)) ((List.take (8:Nat) (List.drop (0:Nat) x)).getD
 i.toNat (0:Int)) c).fst,x,r,PUnit.unit))))))) (aG.leaf (Exit.exit (0:Nat)) ((aT anX MN).wr (PUnit.unit,w,x,r,PUnit.unit))):=by kernel_rfl
def ayj(g:List Int→List Int→List Int)(x:(Int×Int×Unit)×List Int×List Int×List Int×Unit):aG:=.need (x.1.1=0∧x.1.2.1=0∧okW x.2.1∧okW x.2.2.1) (.leaf (.exit 0) ((aT anX MN).wr ((),(g x.2.1 x.2.2.1,x.2.2.1,x.2.2.2.1,()))))
theorem Lv:∀p∈ [(201,(lp bo).sym)],p.2.Ok Tryz.prog p.1:=al A0 aw
theorem amT(x):Ex Tryz.prog [] (.loop (aP amS 0)) ((aT anC MN).wr x) (ayj jG x):=by
 obtain⟨⟨c,i,_⟩,w,x,r,_⟩:=x;refine Ex.need fun⟨h1,h2,h3,h4⟩=>?_;simp only at h1 h2 h3 h4;subst h1 h2
 have key:=c8 (fn:=amS) (id:=0) (j:=0) (ws:=anW) (hp:= []) mixed Lv (aK.nil _) 8 (fun k (o:List Int×Int)=>(aT anC MN).wr ((o.2,(k:Int),()),(o.1,x,r,()))) (fun(o:List Int×Int)=>(aT anX MN).wr ((),(o.1,x,r,()))) (Du bo x) (amE w x)
  (fun k o R hk hi hn hx=>?_) (fun k o hk hi=>Lo h3.2 h4.2 h3.1 h4.1 hk hi) 0 (w,0) (by omega) ⟨⟨h3.1,h3.2,fun _ _=>rfl⟩,.inl rfl,by simp[vd]⟩
 ·rw[Nat.sub_zero,amF h3.2 h4.2 h3.1 h4.1]at key;exact key
 rw[ata bo];refine⟨fun hb=>?_,fun hb=>?_⟩
 ·have g6:k<8:=by have:=of_decide_eq_true hb;omega
  rw[aX hi.1.len,Dw h4,Int.toNat_natCast,Nat.zero_add,bQ k (by omega)];exact⟨by omega,by omega,(by rcases hi.2.1 with e|e<;>rw[e]<;>decide),by omega,hn g6⟩
 ·have:k=8:=by have:=of_decide_eq_false hb;omega
  exact hx this
abbrev ayk(g:List Int→List Int→List Int):df:= [(0,cJ (aT anC MN) 0 [ayi,iA 0,iA 1,iA 2,.auto] (ayj g))]
abbrev ayl:an:=eWW jG
theorem YE(ad:Int→Int→Int→Int×Int)(g:List Int→List Int→List Int)(w x:List Int):aH Tryz.prog [(201,(lp ad).sym)] (ayk g) amS (w2A.wr (w,x,())) [] [.fr [.sym],.eZ 0 0 8 .u64,.auto]=
 End.need ((0:Int)=(0:Int)∧(0:Int)=(0:Int)∧okW w∧okW x) (End.leaf (LV.one (VV.agg [SV.arr (Ty.int u64) (8:Nat) (g w x)]))
 []):=by kernel_rfl
theorem UT:ayl.Ok Tryz.prog 139:=by
 refine(an.aS call139 fun x_ y_ Q H_=>?_).sym;obtain⟨w,x,_⟩:=x_;obtain⟨hn,hq⟩:=H_;have hn:okW w∧okW x:=hn;refine(ar mixed Lv func139 rfl (LT:=ayk jG) (ks:= [.fr [.sym],.eZ 0 0 8 .u64,.auto]) (aK.bI (iu rfl (bt (hp:= []) amT) iE))).use (D:= []) ?_ hq;show(aH _ _ _ _ (w2A.wr (w,x,())) [] _).sat _;rw[YE bo];exact⟨⟨rfl,rfl,hn.1,hn.2⟩,rfl,rfl⟩
abbrev atb:an:=ax4 nz
theorem Q9(w:List Int)(i:Int):aH Tryz.prog [] [] f185 (wiA.wr (w,i,())) [] kK=
 End.need ((0:Int)≤i64.wrap (i.tdiv (64:Int))∧i64.wrap (i.tdiv (64:Int))<(8:Int)) (End.need ((0:Int)≤i.tmod (64:
 Int)) (End.leaf (LV.one (VV.sc (SV.int u64 (SI.sym (aM u64 (shr u64 ((List.take (8:Nat) (List.drop (0:Nat) w)).getD
 (i64.wrap (i.tdiv (64:Int))).toNat (0:Int)) (i.tmod (64:Int))) (1:Int)))))) [])):=by kernel_rfl
theorem ahj:atb.Ok Tryz.prog 185:=by
 refine(an.aS call185 fun x_ y_ Q H_=>?_).sym;obtain⟨w,i,_⟩:=x_;obtain⟨hn,hq⟩:=H_;have hn:okW w∧0≤i∧i<512:=hn;refine(ar mixed aw func185 rfl (LT:= []) (ks:=kK) (aK.nil _)).use (D:= []) ?_ hq;show(aH _ _ _ _ (wiA.wr (w,i,())) [] _).sat _;rw[Q9];obtain⟨hw,h0,h1⟩:=hn;obtain⟨k,rfl⟩:=Int.eq_ofNat_of_zero_le h0;have hk:k<512:=by omega
 have e1:i64.wrap ((k:Int).tdiv 64)=((k/64:Nat):Int):=fw k 64 (by omega);rw[e1,show(k:Int).tmod 64=((k%64:Nat):Int)from Ln k 64,Dw hw,Int.toNat_natCast,Yz hw.2 hw.1 hk];exact⟨by omega,by omega,rfl,rfl⟩
abbrev amU:an:=e0W gy
theorem Lw:aH Tryz.prog [] [] f187 [] [] [.fr [.sym],.eZ 0 0 8 .u64,.auto]= .leaf (cY .u64 8 gy) []:=by kernel_rfl
theorem YF:amU.Ok Tryz.prog 187:=by
 refine(an.aS call187 fun x_ y_ Q H_=>?_).sym;refine(ar mixed aw func187 rfl (LT:= []) (ks:= [.fr [.sym],.eZ 0 0 8 .u64,.auto]) (aK.nil _)).use (D:= []) ?_ H_.2;show(aH _ _ _ _ [] [] _).sat _;rw[Lw];exact⟨rfl,rfl⟩
abbrev amV:Func:=f132
abbrev reC:aQ (List LV) (Int×Unit):=(jk 1 (ai (ah (aD 0 0)) (ai (ah (aD 1 0)) (ai (ah (aD 2 0)) (ae (ah (aA .i64)) (jk 27 ag))))))
abbrev aym:Wk:=.fr (cb 32 [(1,.ak),(2,.ak),(3,.ak),(4,.sym)])
abbrev reX:aQ (List LV) (Unit):=(jk 2 (ai (ah (aD 1 0)) (ai (ah (aD 2 0)) (jk 28 ag))))
abbrev aCL:Wk:=.fr (cb 32 [(2,.ak),(3,.ak)])
abbrev reH:aQ Hp (List Int×List Int×List Int×Unit):=ae iW (ae iB (ae iW ag))
def reW:Exit→List Wk
 | .normal=> [aym,iA 0,.dz 1 0 32 .u8,iA 2,.auto]
 | .exit 0=> [aCL,iA 0,.dz 1 0 32 .u8,iA 2]
 |_=> []
abbrev ahk(and:List Int→List Int→List Int)(less:List Int→List Int→List Int×Int)(bit:List Int→Int→Int)(o:List Int):List (FuncId×an):= [(139,eWW and),(185,ax4 bit),(186,ap6 less),(187,e0W o)]
theorem atc(and:List Int→List Int→List Int)(less:List Int→List Int→List Int×Int)(bit:List Int→Int→Int)(o:List Int)(i:Int)(w b r:List Int):ct Tryz.prog (ahk and less bit o) [] amV 0 [] reW ((aT reC reH).wr ((i,()),(w,b,r,())))=
 aG.ite (decide ((0:Int)≤i)) (aG.need (okW r∧okW r) (aG.need (okW w∧(0:Int)≤i∧i<(512:Int)) (aG.need (okW ((and r r).set (0:Nat)
 (bC u64 ((and r r).getD (0:Nat) (0:Int)) (bit w i)))∧okW o) (aG.ite ((less ((and r r).set (0:Nat) (bC u64 ((and r
 r).getD (0:Nat) (0:Int)) (bit w i))) o).snd==(0:Int)) (aG.leaf Exit.normal ((aT reC reH).wr ((i64.wrap (i-(1:Int)),PUnit.unit),
 w,b,(less ((and r r).set (0:Nat) (bC u64 ((and r r).getD (0:Nat) (0:Int)) (bit w i))) o).fst,PUnit.unit))) (aG.leaf Exit.normal
 ((aT reC reH).wr ((i64.wrap (i-(1:Int)),PUnit.unit),w,b,(and r r).set (0:Nat) (bC u64 ((and r r).getD (0:Nat) (0:
 Int)) (bit w i)),PUnit.unit))))))) (aG.leaf (Exit.exit (0:Nat)) ((aT reX reH).wr (PUnit.unit,w,b,r,PUnit.unit))):=by kernel_rfl
theorem Lx:∀p∈ahk jG jS nz gy,p.2.Ok Tryz.prog p.1:=al UT (al ahj (al ahi (al YF aw)))
def ayn(g:List Int→List Int)(x:(Int×Unit)×List Int×List Int×List Int×Unit):aG:=.need (x.1.1=511∧okW x.2.1∧x.2.2.2.1=List.replicate 8 0) (.leaf (.exit 0) ((aT reX reH).wr ((),(x.2.1,x.2.2.1,g x.2.1,()))))
def Ly(w:List Int):List Int:=dg qq 8 (vd qq w%ll)
def gd(V:Int)(k:Nat):List Int:=dg qq 8 (V/2 ^ (512-k)%ll)
theorem YG(V:Int)(k:Nat)(hk:k<512)(b:Int)(hb:0≤b∧b<2):okW (gd V k)∧okW (lS (jG (gd V k) (gd V k)) b):=by
 refine⟨⟨bp _ _,jF bs _ _⟩,?_⟩;have hR:0≤V/2 ^ (512-k)%ll∧V/2 ^ (512-k)%ll<ll:=⟨Int.emod_nonneg _ (by have:=fq;omega),Int.emod_lt_of_pos _ fq⟩
 have es:jG (gd V k) (gd V k)=dg qq 8 (V/2 ^ (512-k)%ll+V/2 ^ (512-k)%ll):=by
  unfold jG gd;rw[iG bs,Int.emod_eq_of_lt hR.1 (Int.lt_of_lt_of_le (Int.lt_trans (by omega) Lp) qq8)]
 rw[es,UR hR hb];exact⟨bp _ _,jF bs _ _⟩
theorem amX(x):Ex Tryz.prog [] (.loop (aP amV 0)) ((aT reC reH).wr x) (ayn Ly x):=by
 obtain⟨⟨i,_⟩,w,b,r,_⟩:=x;refine Ex.need fun⟨h1,h2,h3⟩=>?_;simp only at h1 h2 h3;subst h1 h3;have hw0:=dt bs h2.2;have hw1:=lA bs h2.2;rw[h2.1]at hw1
 have key:=c8 (fn:=amV) (id:=0) (j:=0) (ws:=reW) (hp:= []) mixed Lx (aK.nil _) 512 (fun k (_:Unit)=>(aT reC reH).wr ((511-(k:Int),()),(w,b,gd (vd qq w) k,()))) (fun _=>(aT reX reH).wr ((),(w,b,Ly w,()))) (fun _ u=>u) (fun _ _=>True)
  (fun k o R hk _ hn hx=>?_) (fun _ _ _ _=>trivial) 0 () (by omega) trivial
 ·have e:gd (vd qq w) 0=List.replicate 8 0:=by
   unfold gd;have e:qq ^ 8=2 ^ 512:=(by decide+kernel);rw[Nat.sub_zero,Int.ediv_eq_zero_of_lt hw0 (by rw[← e];exact hw1),Int.zero_emod,Hf bs]
  rw[e]at key;exact key
 rw[atc];refine⟨fun hb=>?_,fun hb=>?_⟩
 ·have g6:k<512:=by have:=of_decide_eq_true hb;omega
  have e3:i64.wrap ((511-(k:Int))-1)=511-((k+1:Nat):Int):=by rw[au (by omega) (by omega)];omega
  obtain⟨g1,g2⟩:=YG (vd qq w) k g6 (nz w (511-(k:Int))) (amG _ _);have hs:Q7 jG jS nz gy w k (gd (vd qq w) k)=gd (vd qq w) (k+1):=ahb rfl g6;have kf:=hn g6;rw[e3];refine⟨⟨g1,g1⟩,⟨h2,by omega,by omega⟩,⟨g2,aha⟩,fun hc=>?_,fun hc=>?_⟩
  ·have:Q7 jG jS nz gy w k (gd (vd qq w) k)=(jS (lS (jG (gd (vd qq w) k) (gd (vd qq w) k)) (nz w (511-(k:Int)))) gy).1:=by
    have ra:((jS (lS (jG (gd (vd qq w) k) (gd (vd qq w) k)) (nz w (511-(k:Int)))) gy).2==0)=true:=hc;unfold Q7;rw[ra];rfl
   rw[← hs,this]at kf;exact kf
  ·have:Q7 jG jS nz gy w k (gd (vd qq w) k)=lS (jG (gd (vd qq w) k) (gd (vd qq w) k)) (nz w (511-(k:Int))):=by
    have ra:((jS (lS (jG (gd (vd qq w) k) (gd (vd qq w) k)) (nz w (511-(k:Int)))) gy).2==0)=false:=hc;unfold Q7;rw[ra];rfl
   rw[← hs,this]at kf;exact kf
 ·have:k=512:=by have:=of_decide_eq_false hb;omega
  subst this;have:=hx rfl;have e:gd (vd qq w) 512=Ly w:=by unfold gd Ly;rw[Nat.sub_self,Int.pow_zero,Int.ediv_one]
  rw[e];exact this
abbrev ayo(g:List Int→List Int):df:= [(0,cJ (aT reC reH) 0 [aym,iA 0,.dz 1 0 32 .u8,iA 2,.auto] (ayn g))]
abbrev ayp:an:=eWB wj
abbrev ahl(and:List Int→List Int→List Int)(less:List Int→List Int→List Int×Int)(bit:List Int→Int→Int)(o:List Int)(UO:List Int→List Int):List (FuncId×an):=(188,eWB UO)::ahk and less bit o
theorem YH:∀p∈ahl jG jS nz gy wi,p.2.Ok Tryz.prog p.1:=al YD Lx
theorem YI(and:List Int→List Int→List Int)(less:List Int→List Int→List Int×Int)(bit:List Int→Int→Int)(o:List Int)(UO:List Int→List Int)(g:List Int→List Int)(w:List Int):aH Tryz.prog (ahl and less bit o UO) (ayo g) amV (wA.wr (w,())) [] kR=
 End.need ((511:Int)=(511:Int)∧okW w∧ [(0:Int),(0:Int),(0:Int),(0:Int),(0:Int),(0:Int),(0:Int),(0:Int)]=List.replicate
 (8:Nat) (0:Int)) (End.need (okW (g w)) (End.leaf (LV.one (VV.agg [SV.arr (Ty.int IntKind.u8) (32:Nat) (UO (g w))])) [])):=by kernel_rfl
theorem amY(w:List Int):okW (Ly w):=⟨bp _ _,jF bs _ _⟩
theorem atd(w:List Int):wi (Ly w)=wj w:=by
 unfold wi wj Ly;rw[iG bs,Int.emod_eq_of_lt (Int.emod_nonneg _ (by have:=fq;omega)) (Int.lt_of_lt_of_le (Int.lt_trans (Int.emod_lt_of_pos _ fq) (by have:=Lp;have:=fq;omega)) qq8)]
theorem UU:ayp.Ok Tryz.prog 132:=by
 refine(an.aS call132 fun x_ y_ Q H_=>?_).sym;obtain⟨w,_⟩:=x_;obtain⟨hn,hq⟩:=H_;have hn:okW w:=hn;refine(ar mixed YH func132 rfl (LT:=ayo Ly) (ks:=kR) (aK.bI (iu rfl (bt (hp:= []) amX) iE))).use (D:= []) ?_ hq;show(aH _ _ _ _ (wA.wr (w,())) [] _).sat _;rw[YI];refine⟨⟨rfl,hn,rfl⟩,amY w,?_,rfl⟩;rw[atd]
abbrev Hh:Func:=f138
abbrev tjC:aQ (List LV) (Int×Int×Int×Int×Unit):=(jk 2 (ai (ah (aD 0 0)) (ai (ah (aD 1 0)) (ai (ah (aD 2 0)) (ai (ah (aD 3 0)) (ae (ah (aA .i64)) (ae (ah (aA .u64)) (jk 4 (ae (ah (aA .i64)) (jk 2 (ae (ah (aA .i64)) (jk 45 ag))))))))))))
abbrev ayr:Wk:=.fr (cb 61 [(2,.ak),(3,.ak),(4,.ak),(5,.ak),(6,.sym),(7,.sym),(12,.sym),(15,.sym)])
abbrev tjX:aQ (List LV) (Int×Int×Int×Unit):=(jk 2 (ai (ah (aD 0 0)) (ai (ah (aD 1 0)) (ai (ah (aD 2 0)) (ai (ah (aD 3 0)) (ae (ah (aA .i64)) (ae (ah (aA .u64)) (jk 4 (ae (ah (aA .i64)) (jk 48 ag))))))))))
abbrev aCN:Wk:=.fr (cb 61 [(2,.ak),(3,.ak),(4,.ak),(5,.ak),(6,.sym),(7,.sym),(12,.sym)])
abbrev tiC:aQ (List LV) (Int×Unit):=(jk 2 (ai (ah (aD 0 0)) (ai (ah (aD 1 0)) (ai (ah (aD 2 0)) (ai (ah (aD 3 0)) (jk 6 (ae (ah (aA .i64)) (jk 48 ag))))))))
abbrev ayt:Wk:=.fr (cb 61 [(2,.ak),(3,.ak),(4,.ak),(5,.ak),(12,.sym)])
abbrev tiX:aQ (List LV) (Unit):=(jk 4 (ai (ah (aD 2 0)) (ai (ah (aD 3 0)) (jk 55 ag))))
abbrev aCP:Wk:=.fr (cb 61 [(4,.ak),(5,.ak)])
abbrev MO:aQ Hp (List Int×List Int×List Int×List Int×Unit):=ae iW (ae iW (ae iW (ae iW ag)))
def tjW:Exit→List Wk
 | .normal=> [ayr,iA 0,iA 1,iA 2,iA 3,.auto]
 | .exit 2=> [aCN,iA 0,iA 1,iA 2,iA 3,.auto]
 |_=> []
def ate(mu:Int→Int→Int×Int):an:=an.cm [] (ae (ah (aA .u64)) (ae (ah (aA .u64)) ag)) ag fun x _=>.leaf none (.c6 [.sc (.int .u64 (.sym (mu x.1 x.2.1).1)),.sc (.int .u64 (.sym (mu x.1 x.2.1).2))]) []
abbrev UW(ad:Int→Int→Int→Int×Int)(mu:Int→Int→Int×Int):List (FuncId×an):= [(201,(lp ad).sym),(200,ate mu)]
theorem atf(ad:Int→Int→Int→Int×Int)(mu:Int→Int→Int×Int)(u c i j:Int)(a b r o:List Int):ct Tryz.prog (UW ad mu) [] Hh 2 [] tjW ((aT tjC MO).wr ((u,c,i,j,()),(a,b,r,o,())))=
 aG.ite (decide (j<(4:Int))) (aG.need ((0:Int)≤u∧u<(8:Int)) (aG.need ((0:Int)≤j∧j<(8:Int)) (aG.need ((0:Int)≤(0:Int)∧
 (0:Int)≤(1:Int)) (aG.need ((0:Int)≤i64.wrap (u+j)∧i64.wrap (u+j)<(8:Int)) (aG.need ((0:Int)≤(0:Int)∧(0:
 Int)≤(1:Int)) (aG.need ((0:Int)≤i64.wrap (u+j)∧i64.wrap (u+j)<(8:Int)) (aG.leaf Exit.normal ((aT tjC MO).wr ((u,
 u64.wrap (u64.wrap ((mu ((List.take (8:Nat) (List.drop (0:Nat) a)).getD u.toNat (0:Int)) ((List.take (8:Nat) (List.drop (0:
 Nat) b)).getD j.toNat (0:Int))).fst+(ad (mu ((List.take (8:Nat) (List.drop (0:Nat) a)).getD u.toNat (0:Int)) ((List.take (8:Nat) (List.drop
 (0:Nat) b)).getD j.toNat (0:Int))).snd c (0:Int)).snd)+(ad ((List.take (8:Nat) (List.drop (0:Nat) o)).getD (i64.wrap (u+j)).toNat
 (0:Int)) (ad (mu ((List.take (8:Nat) (List.drop (0:Nat) a)).getD u.toNat (0:Int)) ((List.take (8:Nat) (List.drop (0:Nat) b)).getD j.toNat
 (0:Int))).snd c (0:Int)).fst (0:Int)).snd),i,i64.wrap (j+(1:Int)),PUnit.unit),a,b,r,o.set ((0:Nat)+(i64.wrap (u+
 j)).toNat) (ad ((List.take (8:Nat) (List.drop (0:Nat) o)).getD (i64.wrap (u+j)).toNat (0:Int)) (ad (mu ((List.take (8:Nat) (List.drop
 (0:Nat) a)).getD u.toNat (0:Int)) ((List.take (8:Nat) (List.drop (0:Nat) b)).getD j.toNat (0:Int))).snd c (0:Int)).fst (0:Int)).fst,
 PUnit.unit))))))))) (aG.leaf (Exit.exit (2:Nat)) ((aT tjX MO).wr ((u,c,i,PUnit.unit),a,b,r,o,PUnit.unit))):=by kernel_rfl
theorem ahm:agv=ate bm:=by kernel_rfl
theorem YJ:(ate bm).Ok Tryz.prog 200:=ahm▸KZ
theorem Be:∀p∈UW bo bm,p.2.Ok Tryz.prog p.1:=al A0 (al YJ aw)
abbrev tjT:Type:=(Int×Int×Int×Int×Unit)×List Int×List Int×List Int×List Int×Unit
def ayu(g:List Int→List Int→Int→List Int→Int×List Int)(x:tjT):aG:=.need (x.1.2.2.2.1=0∧x.1.2.1=0∧0≤x.1.1∧x.1.1<4∧okW x.2.1∧okW x.2.2.1∧okW x.2.2.2.2.1) (.leaf (.exit 2) ((aT tjX MO).wr ((x.1.1,(g x.2.1 x.2.2.1 x.1.1 x.2.2.2.2.1).1,x.1.2.2.1,()),(x.2.1,x.2.2.1,x.2.2.2.1,(g x.2.1 x.2.2.1 x.1.1 x.2.2.2.2.1).2,()))))
def tjG(a b:List Int)(u:Int)(o:List Int):Int×List Int:=upto (Lr bm bo a b u.toNat) 0 4 (0,o)
theorem amZ(x:tjT):Ex Tryz.prog [] (.loop (aP Hh 2)) ((aT tjC MO).wr x) (ayu tjG x):=by
 obtain⟨⟨u,c,i,j,_⟩,a,b,r,o,_⟩:=x;refine Ex.need fun⟨h1,h2,h3,h4,h5,h6,h7⟩=>?_;simp only at h1 h2 h3 h4 h5 h6 h7;subst h1 h2;obtain⟨u,rfl⟩:=Int.eq_ofNat_of_zero_le h3;have hu:u<4:=by omega
 have key:=c8 (fn:=Hh) (id:=2) (j:=2) (ws:=tjW) (hp:= []) mixed Be (aK.nil _) 4 (fun k (s:Int×List Int)=>(aT tjC MO).wr (((u:Int),s.1,i,(k:Int),()),(a,b,r,s.2,()))) (fun(s:Int×List Int)=>(aT tjX MO).wr (((u:Int),s.1,i,()),(a,b,r,s.2,()))) (Lr bm bo a b u) (amH a b o u)
  (fun k s R hk hi hn hx=>?_) (fun k s hk hi=>Dv h5.2 h6.2 h6.1 hu hk hi) 0 (0,o) (by omega) ⟨h7.1,h7.2,by unfold uR;omega,fun _ _=>rfl,by simp[vd]⟩
 ·exact key
 rw[atf bo bm];refine⟨fun hb=>?_,fun hb=>?_⟩
 ·have g6:k<4:=by have:=of_decide_eq_true hb;omega
  have e:i64.wrap ((u:Int)+(k:Int))=((u+k:Nat):Int):=by rw[au (by omega) (by omega)];omega
  rw[e,aX hi.len,Dw h5,Dw h6,Int.toNat_natCast,Int.toNat_natCast,Int.toNat_natCast,Nat.zero_add,bQ k (by omega)];exact⟨by omega,by omega,by decide,by omega,by decide,by omega,hn g6⟩
 ·have:k=4:=by have:=of_decide_eq_false hb;omega
  exact hx this
abbrev ayv(g:List Int→List Int→Int→List Int→Int×List Int):df:= [(2,cJ (aT tjC MO) 0 [ayr,iA 0,iA 1,iA 2,iA 3,.auto] (ayu g))]
def tiW:Exit→List Wk
 | .normal=> [ayt,iA 0,iA 1,iA 2,iA 3,.auto]
 | .exit 0=> [aCP,iA 0,iA 1,iA 2,iA 3]
 |_=> []
theorem atg(g:List Int→List Int→Int→List Int→Int×List Int)(ad:Int→Int→Int→Int×Int)(mu:Int→Int→Int×Int)(i:Int)(a b r o:List Int):ct Tryz.prog (UW ad mu) (ayv g) Hh 0 [] tiW ((aT tiC MO).wr ((i,()),(a,b,r,o,())))=
 aG.ite (decide (i<(4:Int))) (aG.need ((0:Int)=(0:Int)∧(0:Int)=(0:Int)∧(0:Int)≤i∧i<(4:Int)∧okW a∧okW b∧okW o)
 (aG.need ((0:Int)≤i64.wrap (i+(4:Int))∧i64.wrap (i+(4:Int))<(8:Int)) (aG.leaf Exit.normal ((aT tiC MO).wr
 ((i64.wrap (i+(1:Int)),PUnit.unit),a,b,r,(g a b i o).snd.set ((0:Nat)+(i64.wrap (i+(4:Int))).toNat) (g a b i o).fst,
 PUnit.unit))))) (aG.leaf (Exit.exit (0:Nat)) ((aT tiX MO).wr (PUnit.unit,a,b,r,o,PUnit.unit))):=by kernel_rfl
abbrev tiT:Type:=(Int×Unit)×List Int×List Int×List Int×List Int×Unit
def ayw(g:List Int→List Int→List Int)(x:tiT):aG:=.need (x.1.1=0∧okW x.2.1∧okW x.2.2.1∧x.2.2.2.2.1=List.replicate 8 0) (.leaf (.exit 0) ((aT tiX MO).wr ((),(x.2.1,x.2.2.1,x.2.2.2.1,g x.2.1 x.2.2.1,()))))
theorem am0:∀p∈ayv tjG,ki (fL (aJ Hh) p.1)=true∧∀st,Ex Tryz.prog [] (.loop (aP Hh p.1)) st (p.2 st):=iu rfl (bt (hp:= []) amZ) iE
theorem am1(x:tiT):Ex Tryz.prog [] (.loop (aP Hh 0)) ((aT tiC MO).wr x) (ayw lT x):=by
 obtain⟨⟨i,_⟩,a,b,r,o,_⟩:=x;refine Ex.need fun⟨h1,h2,h3,h4⟩=>?_;simp only at h1 h2 h3 h4;subst h1 h4
 have key:=c8 (fn:=Hh) (id:=0) (j:=0) (ws:=tiW) (hp:= []) mixed Be (aK.inner rfl am0) 4 (fun k (o:List Int)=>(aT tiC MO).wr (((k:Int),()),(a,b,r,o,()))) (fun(o:List Int)=>(aT tiX MO).wr ((),(a,b,r,o,()))) (ahd bm bo a b) (amI a b)
  (fun k o R hk hi hn hx=>?_) (fun k o hk hi=>wm h2.2 h3.2 h2.1 h3.1 hk hi) 0 (List.replicate 8 0) (by omega) ⟨by simp,dL.T7 bs 8,fun i _=>by
  rw[List.getD_eq_getElem?_getD,List.getElem?_replicate];split<;>rfl,by rw[Bc];simp[vd]⟩
 ·rw[Nat.sub_zero,YC h2.2 h3.2 h2.1 h3.1]at key;exact key
 rw[atg];refine⟨fun hb=>?_,fun hb=>?_⟩
 ·have g6:k<4:=by have:=of_decide_eq_true hb;omega
  have e:i64.wrap ((k:Int)+4)=((k+4:Nat):Int):=by rw[au (by omega) (by omega)];omega
  have hs:=wm h2.2 h3.2 h2.1 h3.1 g6 hi;have kf:=hn g6;rw[e,bQ k (by omega),Int.toNat_natCast,Nat.zero_add];exact⟨⟨rfl,rfl,by omega,by omega,h2,h3,hi.len,hi.YA⟩,by omega,kf⟩
 ·have:k=4:=by have:=of_decide_eq_false hb;omega
  exact hx this
abbrev ayx(g:List Int→List Int→List Int):df:= [(0,cJ (aT tiC MO) 0 [ayt,iA 0,iA 1,iA 2,iA 3,.auto] (ayw g))]
abbrev am2:an:=eWW lT
theorem Lz(g:List Int→List Int→List Int)(ad:Int→Int→Int→Int×Int)(mu:Int→Int→Int×Int)(w x:List Int):aH Tryz.prog (UW ad mu) (ayx g) Hh (w2A.wr (w,x,())) [] [.fr [.sym],.eZ 0 0 8 .u64,.auto]=
 End.need ((0:Int)=(0:Int)∧okW w∧okW x∧ [(0:Int),(0:Int),(0:Int),(0:Int),(0:Int),(0:Int),(0:Int),(0:Int)]=
 List.replicate (8:Nat) (0:Int)) (End.leaf (LV.one (VV.agg [SV.arr (Ty.int u64) (8:Nat) (g w x)])) []):=by kernel_rfl
theorem YK:am2.Ok Tryz.prog 138:=by
 refine(an.aS call138 fun x_ y_ Q H_=>?_).sym;obtain⟨w,x,_⟩:=x_;obtain⟨hn,hq⟩:=H_;have hn:okW w∧okW x:=hn;refine(ar mixed Be func138 rfl (LT:=ayx lT) (ks:= [.fr [.sym],.eZ 0 0 8 .u64,.auto]) (aK.bI (iu rfl (bt (hp:= []) am1) iE))).use (D:= []) ?_ hq;show(aH _ _ _ _ (w2A.wr (w,x,())) [] _).sat _;rw[Lz];exact⟨⟨rfl,hn.1,hn.2,rfl⟩,rfl,rfl⟩
abbrev b3A:aQ (List LV) (List Int×List Int×List Int×Unit):=ae cB (ae cB (ae cB ag))
abbrev ahn:aQ (List LV) (List Int×Unit):=ae (sG .u8 64) ag
def ath:List Int:=dg 256 32 ll
def im(b:List Int):List Int:=dg 256 32 (vd 256 b%ll)
def nA(a b c:List Int):List Int:=dg 256 32 ((vd 256 a*vd 256 b+vd 256 c)%ll)
def e0B(c:List Int):an:=an.cm [] ag ag fun _ _=>.leaf none (cY .u8 32 c) []
def Cb(g:List Int→List Int):an:=an.cm [] ahn ag fun x _=>.leaf (some (x.1.length=64∧aN x.1)) (cY .u8 32 (g x.1)) []
def eB3(g:List Int→List Int→List Int→List Int):an:=an.cm [] b3A ag fun x _=>.leaf (some (okB x.1∧okB x.2.1∧okB x.2.2.1)) (cY .u8 32 (g x.1 x.2.1 x.2.2.1)) []
theorem Hi(b:List Int):okW (uS b):=ahe b
theorem am3(w x:List Int):okW (jG w x):=⟨bp _ _,jF bs _ _⟩
theorem YL(w x:List Int):okW (lT w x):=⟨bp _ _,jF bs _ _⟩
theorem okB.val{b:List Int}(h:okB b):vd qq (uS b)=vd 256 b:=US h.2 (by rw[h.1];decide)
theorem okB.range{b:List Int}(h:okB b):0≤vd 256 b∧vd 256 b<2 ^ 256:=by
 have h1:=dt (by decide) (show dL 256 b from h.2);have h2:=lA (by decide) (show dL 256 b from h.2);have e:(256:Int) ^ 32=2 ^ 256:=by decide+kernel
 rw[h.1,e]at h2;exact⟨h1,h2⟩
abbrev aho:an:=Cb im
theorem Hj(of:List Int→List Int)(red:List Int→List Int)(b:List Int):aH Tryz.prog [(131,eOf of),(132,eWB red)] [] f78 ((ahn).wr (b,())) [] kR=
 End.need ((0:Int)≤(0:Int)∧(0:Int)≤(64:Int)∧(64:Int)≤(64:Int)) (End.need (aN (List.take (64:Nat) (List.drop (0:Nat) b))∧
 (List.take (64:Nat) (List.drop (0:Nat) b)).length≤(64:Nat)) (End.need (okW (of (List.take (64:Nat) (List.drop (0:Nat) b)))) (End.leaf
 (LV.one (VV.agg [SV.arr (Ty.int IntKind.u8) (32:Nat) (red (of (List.take (64:Nat) (List.drop (0:Nat) b))))])) []))):=by kernel_rfl
theorem Hk:∀p_∈([(131,eOf uS),(132,eWB wj)]:List (FuncId×an)),p_.2.Ok Tryz.prog p_.1:=(al ahg (al UU aw))
theorem Bf:aho.Ok Tryz.prog 78:=by
 refine(an.aS call78 fun x_ y_ Q H_=>?_).sym;obtain⟨b,_⟩:=x_;obtain⟨hn,hq⟩:=H_;have hn:b.length=64∧aN b:=hn;refine(ar (tab:= [(131,eOf uS),(132,eWB wj)]) mixed Hk func78 rfl (LT:= []) (ks:=kR) (aK.nil _)).use (D:= []) ?_ hq;show(aH _ _ _ _ ((ahn).wr (b,())) [] _).sat _;rw[Hj uS wj];rw[aX hn.1];refine⟨by decide,⟨hn.2,by rw[hn.1];decide⟩,Hi b,?_,rfl⟩;have:wj (uS b)=im b:=by unfold wj im;rw[US hn.2 (by rw[hn.1];decide)]
 rw[this]
theorem ahp{x:Int}(h:x<2 ^ 512):x<qq ^ 8:=by
 have e:qq ^ 8=2 ^ 512:=by decide+kernel
 rw[e];exact h
abbrev ahq:an:=eB3 nA
theorem Hl(of:List Int→List Int)(and times:List Int→List Int→List Int)(red:List Int→List Int)(a b c:List Int):aH Tryz.prog [(131,eOf of),(139,eWW and),(138,eWW times),(132,eWB red)] [] f82 ((b3A).wr (a,b,c,())) [] kR=
 End.need ((0:Int)≤(0:Int)∧(0:Int)≤(32:Int)∧(32:Int)≤(32:Int)) (End.need (aN (List.take (32:Nat) (List.drop (0:Nat) a))∧
 (List.take (32:Nat) (List.drop (0:Nat) a)).length≤(64:Nat)) (End.need ((0:Int)≤(0:Int)∧(0:Int)≤(32:Int)∧(32:Int)≤(32:
 Int)) (End.need (aN (List.take (32:Nat) (List.drop (0:Nat) b))∧(List.take (32:Nat) (List.drop (0:Nat) b)).length≤(64:Nat)) (End.need
 (okW (of (List.take (32:Nat) (List.drop (0:Nat) a)))∧okW (of (List.take (32:Nat) (List.drop (0:Nat) b)))) (End.need ((0:Int)≤(0:Int)∧
 (0:Int)≤(32:Int)∧(32:Int)≤(32:Int)) (End.need (aN (List.take (32:Nat) (List.drop (0:Nat) c))∧(List.take (32:Nat) (List.drop (0
 :Nat) c)).length≤(64:Nat)) (End.need (okW (times (of (List.take (32:Nat) (List.drop (0:Nat) a))) (of (List.take (32:Nat) (List.drop (0:
 Nat) b))))∧okW (of (List.take (32:Nat) (List.drop (0:Nat) c)))) (End.need (okW (and (times (of (List.take (32:Nat) (List.drop (0:Nat) a)))
 (of (List.take (32:Nat) (List.drop (0:Nat) b)))) (of (List.take (32:Nat) (List.drop (0:Nat) c))))) (End.leaf (LV.one (VV.agg [SV.arr (Ty.int
 IntKind.u8) (32:Nat) (red (and (times (of (List.take (32:Nat) (List.drop (0:Nat) a))) (of (List.take (32:Nat) (List.drop (0:Nat) b)))) (of
 (List.take (32:Nat) (List.drop (0:Nat) c)))))])) []))))))))):=by kernel_rfl
theorem Hm:∀p_∈([(131,eOf uS),(139,eWW jG),(138,eWW lT),(132,eWB wj)]:List (FuncId×an)),p_.2.Ok Tryz.prog p_.1:=(al ahg (al UT (al YK (al UU aw))))
theorem Ra:ahq.Ok Tryz.prog 82:=by
 refine(an.aS call82 fun x_ y_ Q H_=>?_).sym;obtain⟨a,b,c,_⟩:=x_;obtain⟨hn,hq⟩:=H_;have hn:okB a∧okB b∧okB c:=hn;refine(ar (tab:= [(131,eOf uS),(139,eWW jG),(138,eWW lT),(132,eWB wj)]) mixed Hm func82 rfl (LT:= []) (ks:=kR) (aK.nil _)).use (D:= []) ?_ hq;show(aH _ _ _ _ ((b3A).wr (a,b,c,())) [] _).sat _;rw[Hl uS jG lT wj];obtain⟨ha,hb,hc⟩:=hn;rw[aX ha.1,aX hb.1,aX hc.1];refine⟨by decide,⟨ha.2,by rw[ha.1];decide⟩,by decide,⟨hb.2,by rw[hb.1];decide⟩,⟨Hi a,Hi b⟩,by decide,⟨hc.2,by rw[hc.1];decide⟩,⟨YL _ _,Hi c⟩,am3 _ _,?_,rfl⟩
 have:wj (jG (lT (uS a) (uS b)) (uS c))=nA a b c:=by
  unfold wj nA jG lT;have h1:=ha.range;have h2:=hb.range;have h3:=hc.range;have h4:((2:Int) ^ 256-1)*(2 ^ 256-1)+2 ^ 256<2 ^ 512:=by decide+kernel
  have h5:vd 256 a*vd 256 b≤(2 ^ 256-1)*(2 ^ 256-1):=Int.mul_le_mul (by omega) (by omega) h2.1 (by decide+kernel);have h6:0≤vd 256 a*vd 256 b:=Int.mul_nonneg h1.1 h2.1;rw[Ls ha.2 ha.1,Ls hb.2 hb.1,iG bs,iG bs,hc.val,Int.emod_eq_of_lt (a:=vd 256 a*vd 256 b) h6 (ahp (Int.lt_trans (by omega) h4)),Int.emod_eq_of_lt (by omega) (ahp (Int.lt_trans (by omega) h4))]
 rw[this]
def Bg(g:List Int→List Int):an:=an.cm [some (.sl u8)] rrA ag fun x _=>.leaf (some (x.1.length<2305843009213693952∧x.1.flatten.length<1152921504606846976)) (cY .u8 64 (g x.1.flatten)) []
theorem ayz:ofE=Bg bB:=by kernel_rfl
theorem Hn:(Bg bB).Ok Tryz.prog 22:=ayz▸apE
abbrev ahr:an:=F8
theorem am4:ahr.Ok Tryz.prog 42:=oL
def Rb:List Int:= [83,105,103,69,100,50,53,53,49,57,32,110,111,32,69,100,50,53,53,49,57,32,99,111,108,108,105,115,105,111,110,115]
def fC(c:List Int):List Int:=if c.length≤255 then Rb++([1,(c.length:Int)]++c)else []
def Cc(g:List Int→List Int):an:=an.cm [some u8] bA ag fun x _=>.leaf none (.one (.sc (.sl 0 0))) [(0,.own 0 u8 (g x.1))]
abbrev aCQ:an:=Cc fC
theorem LA(c:List Int):aH Tryz.prog [(42,F8)] [] f79 (bA.wr (c,())) [] [.cP 0 u8,.auto,.aF]=
 End.ite (decide ((255:Int)<(↑c.length:Int))) (End.leaf (LV.one (VV.sc (SV.sl (0:Nat) (0:Nat)))) [some (Item.own (0:Nat) (Ty.int IntKind.u8)
 [])]) (End.need ([[(83:Int),(105:Int),(103:Int),(69:Int),(100:Int),(50:Int),(53:Int),(53:Int),(49:Int),(57:Int),(32:
 Int),(110:Int),(111:Int),(32:Int),(69:Int),(100:Int),(50:Int),(53:Int),(53:Int),(49:Int),(57:Int),(32:Int),(99:
 Int),(111:Int),(108:Int),(108:Int),(105:Int),(115:Int),(105:Int),(111:Int),(110:Int),(115:Int)],[(1:Int),IntKind.u8.wrap
 (↑c.length:Int)],c].flatten.length≤(70368744177664:Nat)∧(3:Nat)≤(140737488355328:Nat)) (End.leaf (LV.one (VV.sc (SV.sl (0:Nat) (0:
 Nat)))) [some (Item.own (0:Nat) (Ty.int IntKind.u8) [[(83:Int),(105:Int),(103:Int),(69:Int),(100:Int),(50:Int),(53:Int),(53:
 Int),(49:Int),(57:Int),(32:Int),(110:Int),(111:Int),(32:Int),(69:Int),(100:Int),(50:Int),(53:Int),(53:Int),(49:
 Int),(57:Int),(32:Int),(99:Int),(111:Int),(108:Int),(108:Int),(105:Int),(115:Int),(105:Int),(111:Int),(110:Int),(115
 :Int)],[(1:Int),IntKind.u8.wrap (↑c.length:Int)],c].flatten)])):=by kernel_rfl
theorem ahs:aCQ.Ok Tryz.prog 79:=by
 refine(an.aS call79 fun x_ y_ Q H_=>?_).sym;obtain⟨c,_⟩:=x_;refine(ar mixed (al oL aw) func79 rfl (LT:= []) (ks:= [.cP 0 u8,.auto,.aF]) (aK.nil _)).use (D:= [(0,.own 0 u8 (fC c))]) ?_ H_.2;show(aH _ _ _ _ (bA.wr (c,())) [] _).sat _;rw[LA];refine⟨fun h=>?_,fun h=>?_⟩
 ·have h:=of_decide_eq_true h;have e:fC c= []:=if_neg (by omega);rw[e];exact⟨rfl,rfl⟩
 ·have h:=of_decide_eq_false h;have e:fC c=Rb++([1,(c.length:Int)]++c):=if_pos (by omega);have ew:IntKind.u8.wrap (c.length:Int)=c.length:=by rw[wrap_u8];omega
  rw[e,ew];refine⟨⟨by simp;omega,by decide⟩,rfl,?_⟩;have e2:aI [(0,Ev.Item.own 0 u8 (Rb++([1,(c.length:Int)]++c)))] (ag.wr y_)= [some (Ev.Item.own 0 u8 (Rb++([1,(c.length:Int)]++c)))]:=rfl;rw[e2];simp[Rb]
def aht(h:List Int):List Int:=((h.take 32).set 0 (dn .u8 ((h.take 32).getD 0 0) 7)).set 31 (bC .u8 (dn .u8 (((h.take 32).set 0 (dn .u8 ((h.take 32).getD 0 0) 7)).getD 31 0) 128) 64)
def ePa(sec cD:List Int→List Int):an:=an.cm [] nS ag fun x _=>.leaf (some (x.1.length=32)) (.c6 [.agg [.arr (.int .u8) 32 (sec x.1)],.sc (.vb 0 0 (.int .u8) 64 32 32)]) [(0,.ba [.arr (.int .u8) 64 (cD x.1)] 41)]
def kG(s:List Int):List Int:=aht (bB s)
abbrev am5:an:=ePa kG bB
theorem Rc(cD:List Int→List Int)(s:List Int):aH Tryz.prog [(22,Bg cD)] [] f77 (nS.wr (s,())) [] [.auto]=
 End.need ((0:Int)≤(0:Int)∧(0:Int)≤(32:Int)∧(32:Int)≤(32:Int)) (End.need ((1:Nat)<(2305843009213693952:Nat)∧ [List.take (32
 :Nat) (List.drop (0:Nat) s)].flatten.length<(1152921504606846976:Nat)) (End.need ((0:Int)≤(0:Int)∧(0:Int)≤(32:Int)∧(32:Int)≤
 (64:Int)) (End.need ((32:Nat)≤(List.take (32:Nat) (List.drop (0:Nat) (cD [List.take (32:Nat) (List.drop (0:Nat) s)].flatten))).length)
 (End.need ((32:Nat)≤(List.take (32:Nat) (List.drop (0:Nat) (cD [List.take (32:Nat) (List.drop (0:Nat) s)].flatten))).length) (End.need ((0
 :Int)≤(32:Int)∧(32:Int)≤(64:Int)∧(64:Int)≤(64:Int)) (End.leaf (LV.c6 [VV.agg [SV.arr (Ty.int IntKind.u8) (32:Nat) (((List.take
 (32:Nat) (List.drop (0:Nat) (List.take (32:Nat) (List.drop (0:Nat) (cD [List.take (32:Nat) (List.drop (0:Nat) s)].flatten))))).set (0:
 Nat) (dn IntKind.u8 ((List.take (32:Nat) (List.drop (0:Nat) (List.take (32:Nat) (List.drop (0:Nat) (cD [List.take (32:Nat) (List.drop
 (0:Nat) s)].flatten))))).getD (0:Nat) (0:Int)) (7:Int))).set (31:Nat) (bC IntKind.u8 (dn IntKind.u8 (((List.take (32:Nat)
 (List.drop (0:Nat) (List.take (32:Nat) (List.drop (0:Nat) (cD [List.take (32:Nat) (List.drop (0:Nat) s)].flatten))))).set (0:Nat)
 (dn IntKind.u8 ((List.take (32:Nat) (List.drop (0:Nat) (List.take (32:Nat) (List.drop (0:Nat) (cD [List.take (32:Nat) (List.drop (0:
 Nat) s)].flatten))))).getD (0:Nat) (0:Int)) (7:Int))).getD (31:Nat) (0:Int)) (128:Int)) (64:Int)))],VV.sc (SV.vb (0:Nat) (0:Nat)
 (Ty.int IntKind.u8) (64:Nat) (32:Int) (32:Int))]) [some (Item.ba [SV.arr (Ty.int IntKind.u8) (64:Nat) (cD [List.take (32:Nat) (List.drop (0
 :Nat) s)].flatten)] (41:Nat))])))))):=by kernel_rfl
theorem Dx:am5.Ok Tryz.prog 77:=by
 refine(an.aS call77 fun x_ y_ Q H_=>?_).sym;obtain⟨s,_⟩:=x_;obtain⟨hn,hq⟩:=H_;have hn:s.length=32:=hn;refine(ar mixed (al Hn aw) func77 rfl (LT:= []) (ks:= [.auto]) (aK.nil _)).use (D:= [(0,.ba [.arr (.int .u8) 64 (bB s)] 41)]) ?_ hq;show(aH _ _ _ _ (nS.wr (s,())) [] _).sat _;rw[Rc,aX hn,List.flatten_singleton];have hs:=cI s;have e1:List.take 32 (List.drop 0 (List.take 32 (List.drop 0 (bB s))))=(bB s).take 32:=by rw[List.drop_zero,List.drop_zero,List.take_take,Nat.min_self]
 have hl:(List.take 32 (List.drop 0 (bB s))).length=32:=by simp[hs]
 rw[e1];exact⟨by decide,⟨by decide,by omega⟩,by decide,by omega,by omega,by decide,rfl,rfl⟩
def Rd(g:List Int→List Int):an:=an.cm [] nS ag fun x _=>.leaf (some (x.1.length=32)) (cY .u8 32 (g x.1)) []
theorem ahu{h:List Int}(hl:h.length=64):(aht h).length=32:=by simp[aht,hl]
theorem Bh(s:List Int):(kG s).length=32:=ahu (cI s)
def Bi(s:List Int):List Int:=dF (gS (kG s))
abbrev aCR:an:=Rd Bi
theorem ahv(sec cD:List Int→List Int)(mb:List Int→Pt)(en:Pt→List Int)(s:List Int):aH Tryz.prog [(77,ePa sec cD),(80,eMb mb),(81,eEn en)] [] f51 ((nS).wr (s,())) [] kK=
 End.need (s.length=(32:Nat)) (End.need ((sec s).length=(32:Nat)) (End.leaf (LV.one (VV.agg [SV.arr (Ty.int IntKind.u8) (32:Nat) (en (mb (sec
 s)))])) [])):=by kernel_rfl
theorem ahw:∀p_∈([(77,ePa kG bB),(80,eMb gS),(81,eEn dF)]:List (FuncId×an)),p_.2.Ok Tryz.prog p_.1:=(al Dx (al Lk (al Ba aw)))
theorem atj:aCR.Ok Tryz.prog 51:=by
 refine(an.aS call51 fun x_ y_ Q H_=>?_).sym;obtain⟨s,_⟩:=x_;obtain⟨hn,hq⟩:=H_;have hn:s.length=32:=hn;refine(ar (tab:= [(77,ePa kG bB),(80,eMb gS),(81,eEn dF)]) mixed ahw func51 rfl (LT:= []) (ks:=kK) (aK.nil _)).use (D:= []) ?_ hq;show(aH _ _ _ _ ((nS).wr (s,())) [] _).sat _;rw[ahv kG bB gS dF];exact⟨hn,Bh s,rfl,rfl⟩
abbrev aqb:aQ LV (List Int):=sG .u8 64
abbrev chA:aQ (List LV) (List Int×List Int×List Int×List Int×Unit):=ae (ah (gg false false u8)) (ae cB (ae cB (ae aqb ag)))
def eCh(g:List Int→List Int→List Int→List Int→List Int):an:=an.cm [some u8,none,none,none] chA ag fun x _=>.leaf (some (x.2.1.length=32∧x.2.2.1.length=32∧x.2.2.2.1.length=64)) (cY .u8 32 (g x.1 x.2.1 x.2.2.1 x.2.2.2.1)) []
def nL(c r p m:List Int):List Int:=im (bB (fC c++(r++(p++m))))
theorem LB(x:Int):aN (bX x):=fun z hz=>by
 obtain⟨i,_,rfl⟩:=List.mem_map.1 hz;rw[wrap_u8];unfold By;omega
theorem Ho(b:List Int):aN (bB b):=by
 have key:∀ (l:List Nat) (s a:List Int),aN a→aN (l.foldl (fun a i=>a++bX (s.getD i 0)) a):=by
  intro l s
  induction l with
  |nil=>exact fun a h=>h
  |cons i l ih=>exact fun a h=>ih _ (h.append (LB _))
 exact key _ _ [] (fun z hz=>by cases hz)
theorem Hq(x y:Int):By (dn .u8 x y):=by
 unfold dn By;rw[wrap_u8];omega
theorem ahx(x y:Int):By (bC .u8 x y):=by
 unfold bC By;show 0≤IntKind.u8.wrap _∧IntKind.u8.wrap _<256;rw[wrap_u8];omega
theorem Dy{l:List Int}(h:aN l){i:Nat}{x:Int}(hx:By x):aN (l.set i x):=fun z hz=>by
 rcases List.mem_or_eq_of_mem_set hz with k|k
 ·exact h z k
 ·subst k;exact hx
theorem am6(s:List Int):aN (kG s):=Dy (Dy ((Ho s).take 32) (Hq _ _)) (ahx _ _)
theorem Hr(s:List Int):okB (kG s):=⟨Bh s,am6 s⟩
theorem uF(b:List Int):okB (im b):=⟨bp _ _,jF (by decide) _ _⟩
theorem uG(c:List Int):(fC c).length≤289:=by unfold fC Rb;split<;>simp;omega
abbrev ayB:an:=eCh nL
theorem YM(cD pre red:List Int→List Int)(c r p m:List Int):aH Tryz.prog [(22,Bg cD),(79,Cc pre),(78,Cb red)] [] f83 ((chA).wr (c,r,p,m,())) [] kK=
 End.need ((0:Int)≤(0:Int)∧(0:Int)≤(32:Int)∧(32:Int)≤(32:Int)) (End.need ((0:Int)≤(0:Int)∧(0:Int)≤(32:Int)∧(32:
 Int)≤(32:Int)) (End.need ((0:Int)≤(0:Int)∧(0:Int)≤(64:Int)∧(64:Int)≤(64:Int)) (End.need ((4:Nat)<(2305843009213693952:
 Nat)∧ [pre c,List.take (32:Nat) (List.drop (0:Nat) r),List.take (32:Nat) (List.drop (0:Nat) p),List.take (64:Nat) (List.drop (0:Nat)
 m)].flatten.length<(1152921504606846976:Nat)) (End.need ((cD [pre c,List.take (32:Nat) (List.drop (0:Nat) r),List.take (32:Nat) (List.drop
 (0:Nat) p),List.take (64:Nat) (List.drop (0:Nat) m)].flatten).length=(64:Nat)∧aN (cD [pre c,List.take (32:Nat) (List.drop (0:Nat)
 r),List.take (32:Nat) (List.drop (0:Nat) p),List.take (64:Nat) (List.drop (0:Nat) m)].flatten)) (End.leaf (LV.one (VV.agg [SV.arr (Ty.int
 IntKind.u8) (32:Nat) (red (cD [pre c,List.take (32:Nat) (List.drop (0:Nat) r),List.take (32:Nat) (List.drop (0:Nat) p),List.take (64:
 Nat) (List.drop (0:Nat) m)].flatten))])) []))))):=by kernel_rfl
theorem YN:∀p_∈([(22,Bg bB),(79,Cc fC),(78,Cb im)]:List (FuncId×an)),p_.2.Ok Tryz.prog p_.1:=(al Hn (al ahs (al Bf aw)))
theorem am7:ayB.Ok Tryz.prog 83:=by
 refine(an.aS call83 fun x_ y_ Q H_=>?_).sym;obtain⟨c,r,p,m,_⟩:=x_;obtain⟨hn,hq⟩:=H_;have hn:r.length=32∧p.length=32∧m.length=64:=hn;refine(ar (tab:= [(22,Bg bB),(79,Cc fC),(78,Cb im)]) mixed YN func83 rfl (LT:= []) (ks:=kK) (aK.nil _)).use (D:= []) ?_ hq;show(aH _ _ _ _ ((chA).wr (c,r,p,m,())) [] _).sat _;rw[YM bB fC im];rw[aX hn.1,aX hn.2.1,aX hn.2.2];have h1:=uG c;have e: [fC c,r,p,m].flatten=fC c++(r++(p++m)):=by simp
 rw[e];refine⟨by decide,by decide,by decide,⟨by decide,by simp;omega⟩,⟨cI _,Ho _⟩,rfl,rfl⟩
abbrev siA:aQ (List LV) (List Int×List Int×List Int×Unit):=ae cB (ae (ah (gg false false u8)) (ae aqb ag))
abbrev nSi(r:List Int×Int):LV:=.c6 [.agg [.arr (.int .u8) 64 r.1],.sc (.int .i64 (.sym r.2))]
def eSi(g:List Int→List Int→List Int→List Int×Int):an:=an.cm [none,some u8,none] siA ag fun x _=>.leaf (some (x.1.length=32∧x.2.2.1.length=64)) (nSi (g x.1 x.2.1 x.2.2.1)) []
def xi(s c m:List Int):List Int:=im (bB (fC c++((bB s).drop 32++m)))
def Hs(s c m:List Int):List Int:=dF (gS (xi s c m))++nA (nL c (dF (gS (xi s c m))) (Bi s) m) (kG s) (xi s c m)
theorem LC:∃f:List Int→List Int→List Int→List Int×Int,∀ (s c m:List Int),f s c m=(if c.length≤255 then(Hs s c m,0)else(List.replicate 64 0,1)):=⟨fun s c m=>if c.length≤255 then(Hs s c m,0)else(List.replicate 64 0,1),fun _ _ _=>rfl⟩
def jU:List Int→List Int→List Int→List Int×Int:=Classical.choose LC
theorem uH(s c m:List Int):jU s c m=(if c.length≤255 then(Hs s c m,0)else(List.replicate 64 0,1)):=Classical.choose_spec LC s c m
theorem pj(p:Pt):(dF p).length=32:=Vec.cF _
theorem LD(s:List Int):(Bi s).length=32:=by unfold Bi;exact pj _
theorem ahy(c r p m:List Int):okB (nL c r p m):=by unfold nL;exact uF _
theorem LF(a b c:List Int):(nA a b c).length=32:=bp _ _
theorem Re(sec cD pre red:List Int→List Int)(mb:List Int→Pt)(en:Pt→List Int)(kL:List Int→List Int)(ch:List Int→List Int→List Int→List Int→List Int)(mul:List Int→List Int→List Int→List Int)(s c m:List Int):aH Tryz.prog [(77,ePa sec cD),(22,Bg cD),(79,Cc pre),(78,Cb red),(80,eMb mb),(81,eEn en),(51,Rd kL),(83,eCh ch),(82,eB3 mul),(42,ahr)] [] f38 (siA.wr (s,c,m,())) [] [.fr [.sym],.auto]=
 End.ite (decide ((255:Int)<(↑c.length:Int))) (End.leaf (LV.c6 [VV.agg [SV.arr (Ty.int IntKind.u8) (64:Nat) (List.replicate (64:Nat) (0:
 Int))],VV.sc (SV.int i64 (SI.sym (1:Int)))]) []) (End.need (s.length=(32:Nat)) (End.need ((0:Int)≤(0:Int)∧(0:Int)≤(64:Int)
 ∧(64:Int)≤(64:Int)) (End.need ((3:Nat)<(2305843009213693952:Nat)∧ [pre c,List.take (32:Nat) (List.drop (32:Nat) (cD s)),List.take
 (64:Nat) (List.drop (0:Nat) m)].flatten.length<(1152921504606846976:Nat)) (End.need ((cD [pre c,List.take (32:Nat) (List.drop (32:Nat)
 (cD s)),List.take (64:Nat) (List.drop (0:Nat) m)].flatten).length=(64:Nat)∧aN (cD [pre c,List.take (32:Nat) (List.drop (32:Nat)
 (cD s)),List.take (64:Nat) (List.drop (0:Nat) m)].flatten)) (End.need ((red (cD [pre c,List.take (32:Nat) (List.drop (32:Nat) (cD s)),
 List.take (64:Nat) (List.drop (0:Nat) m)].flatten)).length=(32:Nat)) (End.need (s.length=(32:Nat)) (End.need ((en (mb (red (cD [pre c,
 List.take (32:Nat) (List.drop (32:Nat) (cD s)),List.take (64:Nat) (List.drop (0:Nat) m)].flatten)))).length=(32:Nat)∧(kL s).length=
 (32:Nat)∧m.length=(64:Nat)) (End.need (okB (ch c (en (mb (red (cD [pre c,List.take (32:Nat) (List.drop (32:Nat) (cD s)),List.take (64:
 Nat) (List.drop (0:Nat) m)].flatten)))) (kL s) m)∧okB (sec s)∧okB (red (cD [pre c,List.take (32:Nat) (List.drop (32:Nat) (cD s)),
 List.take (64:Nat) (List.drop (0:Nat) m)].flatten))) (End.need ((0:Int)≤(0:Int)∧(0:Int)≤(32:Int)∧(32:Int)≤(32:Int)) (End.need
 ((0:Int)≤(0:Int)∧(0:Int)≤(32:Int)∧(32:Int)≤(32:Int)) (End.need ([List.take (32:Nat) (List.drop (0:Nat) (en (mb (red (cD [pre
 c,List.take (32:Nat) (List.drop (32:Nat) (cD s)),List.take (64:Nat) (List.drop (0:Nat) m)].flatten))))),List.take (32:Nat) (List.drop (0
 :Nat) (mul (ch c (en (mb (red (cD [pre c,List.take (32:Nat) (List.drop (32:Nat) (cD s)),List.take (64:Nat) (List.drop (0:Nat)
 m)].flatten)))) (kL s) m) (sec s) (red (cD [pre c,List.take (32:Nat) (List.drop (32:Nat) (cD s)),List.take (64:Nat) (List.drop (0:Nat)
 m)].flatten))))].flatten.length≤(70368744177664:Nat)∧(2:Nat)≤(140737488355328:Nat)) (End.need ((64:Nat)≤ [List.take (32:Nat)
 (List.drop (0:Nat) (en (mb (red (cD [pre c,List.take (32:Nat) (List.drop (32:Nat) (cD s)),List.take (64:Nat) (List.drop (0:Nat)
 m)].flatten))))),List.take (32:Nat) (List.drop (0:Nat) (mul (ch c (en (mb (red (cD [pre c,List.take (32:Nat) (List.drop (32:Nat) (cD s)),
 List.take (64:Nat) (List.drop (0:Nat) m)].flatten)))) (kL s) m) (sec s) (red (cD [pre c,List.take (32:Nat) (List.drop (32:Nat) (cD s)),
 List.take (64:Nat) (List.drop (0:Nat) m)].flatten))))].flatten.length) (End.need ((64:Nat)≤ [List.take (32:Nat) (List.drop (0:Nat) (en (mb
 (red (cD [pre c,List.take (32:Nat) (List.drop (32:Nat) (cD s)),List.take (64:Nat) (List.drop (0:Nat) m)].flatten))))),List.take (32:Nat)
 (List.drop (0:Nat) (mul (ch c (en (mb (red (cD [pre c,List.take (32:Nat) (List.drop (32:Nat) (cD s)),List.take (64:Nat) (List.drop (0:
 Nat) m)].flatten)))) (kL s) m) (sec s) (red (cD [pre c,List.take (32:Nat) (List.drop (32:Nat) (cD s)),List.take (64:Nat) (List.drop (0:
 Nat) m)].flatten))))].flatten.length) (End.leaf (LV.c6 [VV.agg [SV.arr (Ty.int IntKind.u8) (64:Nat) (List.take (64:Nat) (List.drop (0:Nat)
 [List.take (32:Nat) (List.drop (0:Nat) (en (mb (red (cD [pre c,List.take (32:Nat) (List.drop (32:Nat) (cD s)),List.take (64:Nat)
 (List.drop (0:Nat) m)].flatten))))),List.take (32:Nat) (List.drop (0:Nat) (mul (ch c (en (mb (red (cD [pre c,List.take (32:Nat) (List.drop
 (32:Nat) (cD s)),List.take (64:Nat) (List.drop (0:Nat) m)].flatten)))) (kL s) m) (sec s) (red (cD [pre c,List.take (32:Nat) (List.drop (32
 :Nat) (cD s)),List.take (64:Nat) (List.drop (0:Nat) m)].flatten))))].flatten))],VV.sc (SV.int i64 (SI.sym (0:Int)))])
 [])))))))))))))):=by kernel_rfl
theorem ahz(sec cD pre red:List Int→List Int)(mb:List Int→Pt)(en:Pt→List Int)(kL:List Int→List Int)(ch:List Int→List Int→List Int→List Int→List Int)(mul:List Int→List Int→List Int→List Int){s c m:List Int}(hs:s.length=32)(hm:m.length=64)(h1:∀b,(cD b).length=64)(h2:∀b,aN (cD b))(h3:∀b,okB (red b))(h4:∀q,(en q).length=32)(h5:(kL s).length=32)(h6:∀a b c d,okB (ch a b c d))(h7:okB (sec s))(h8:∀a b c,(mul a b c).length=32)(h9:(pre c).length≤289):
  ∃t_:Ev.End,aH Tryz.prog [(77,ePa sec cD),(22,Bg cD),(79,Cc pre),(78,Cb red),(80,eMb mb),(81,eEn en),(51,Rd kL),(83,eCh ch),(82,eB3 mul),(42,ahr)] [] f38 (siA.wr (s,c,m,())) [] [.fr [.sym],.auto]=t_∧t_.sat fun v dP=>v=nSi (if c.length≤255 then(en (mb (red (cD (pre c++((cD s).drop 32++m)))))++mul (ch c (en (mb (red (cD (pre c++((cD s).drop 32++m)))))) (kL s) m) (sec s) (red (cD (pre c++((cD s).drop 32++m)))),0)else(List.replicate 64 0,1))∧dP= []:=by
 refine⟨_,Re ..,?_⟩;have e1:List.take 32 (List.drop 32 (cD s))=(cD s).drop 32:=List.take_of_length_le (by rw[List.length_drop,h1];decide);have e2:List.take 64 (List.drop 0 m)=m:=aX hm;have e3: [pre c,(cD s).drop 32,m].flatten=pre c++((cD s).drop 32++m):=by simp
 rw[e1,e2,e3];have l1:(pre c++((cD s).drop 32++m)).length<1152921504606846976:=by simp[h1,hm];omega
 have l2:=h3 (cD (pre c++((cD s).drop 32++m)));generalize red (cD (pre c++((cD s).drop 32++m)))=n at*;have l3:∀ {l:List Int},l.length=32→List.take 32 (List.drop 0 l)=l:=fun h=>aX h;rw[l3 (h4 _),l3 (h8 _ _ _)];have l4:∀a b:List Int,[a,b].flatten=a++b:=fun a b=>by simp
 have l5:(en (mb n)++mul (ch c (en (mb n)) (kL s) m) (sec s) n).length=64:=by rw[List.length_append,h4,h8]
 rw[l4,aX l5];refine⟨fun h=>?_,fun h=>?_⟩
 ·have h:=of_decide_eq_true h;rw[if_neg (by omega)];exact⟨rfl,rfl⟩
 ·have h:=of_decide_eq_false h;rw[if_pos (by omega)];exact⟨hs,by decide,⟨by decide,l1⟩,⟨h1 _,h2 _⟩,l2.1,hs,⟨h4 _,h5,hm⟩,⟨h6 _ _ _ _,h7,l2⟩,by decide,by decide,⟨by omega,by decide⟩,by omega,by omega,rfl,rfl⟩
theorem Rf(s c m:List Int):jU s c m=(if c.length≤255 then(dF (gS (im (bB (fC c++((bB s).drop 32++m)))))++nA (nL c (dF (gS (im (bB (fC c++((bB s).drop 32++m)))))) (Bi s) m) (kG s) (im (bB (fC c++((bB s).drop 32++m)))),0)else(List.replicate 64 0,1)):=by rw[uH,Hs,xi]
abbrev ayC:an:=eSi jU
theorem YO:∀p_∈([(77,ePa kG bB),(22,Bg bB),(79,Cc fC),(78,Cb im),(80,eMb gS),(81,eEn dF),(51,Rd Bi),(83,eCh nL),(82,eB3 nA),(42,ahr)]:List (FuncId×an)),p_.2.Ok Tryz.prog p_.1:=(al Dx (al Hn (al ahs (al Bf (al Lk (al Ba (al atj (al am7 (al Ra (al am4 aw))))))))))
theorem am8:ayC.Ok Tryz.prog 38:=by
 refine(an.aS call38 fun x_ y_ Q H_=>?_).sym;obtain⟨s,c,m,_⟩:=x_;obtain⟨hn,hq⟩:=H_;have hn:s.length=32∧m.length=64:=hn;have hc_:iO Tryz.prog 38 ((siA).wr (s,c,m,())) [] (aH Tryz.prog [(77,ePa kG bB),(22,Bg bB),(79,Cc fC),(78,Cb im),(80,eMb gS),(81,eEn dF),(51,Rd Bi),(83,eCh nL),(82,eB3 nA),(42,ahr)] [] f38 ((siA).wr (s,c,m,())) [] [.fr [.sym],.auto]):=ar mixed YO func38 rfl (aK.nil _);obtain⟨t_,ht_,hs_⟩:=ahz kG bB fC im gS dF Bi nL nA hn.1 hn.2 cI Ho uF pj (LD s) ahy (Hr s) LF (uG c);rw[← Rf s c m]at hs_;rw[ht_]at hc_;exact hc_.use (D:= []) hs_ hq
end Go.Proofs.YtnbkagglkajbkaaGreat
end
noncomputable section
namespace BJ
abbrev N4:=Nat×Nat×Nat×Nat
def rN(a b:Nat):Nat:=a*b%pp
def Ht(a b:Nat):Nat:=(a+b)%pp
def Rg(a b:Nat):Nat:=(pp-b+a)%pp
def ddN:Nat:=37095705934669439343138083508754565189542113879843219016388785533085940283555
def LG(p q:N4):N4:=
 let a:=rN (Rg p.2.1 p.1) (Rg q.2.1 q.1)
 let b:=rN (Ht p.2.1 p.1) (Ht q.2.1 q.1)
 let c:=Ht (rN (rN p.2.2.2 q.2.2.2) ddN) (rN (rN p.2.2.2 q.2.2.2) ddN)
 let d:=Ht (rN p.2.2.1 q.2.2.1) (rN p.2.2.1 q.2.2.1)
 (rN (Rg b a) (Rg d c),rN (Ht d c) (Ht b a),rN (Rg d c) (Ht d c),rN (Rg b a) (Ht b a))
def vals(p:E4):N4:=(p.1.val,p.2.1.val,p.2.2.1.val,p.2.2.2.val)
theorem Bj(p q:E4):LG (vals p) (vals q)=vals (um p q):=by
 have hd:dd.val=ddN:=rfl;simp only[LG,vals,um,rN,Ht,Rg,Fin.val_mul,Fin.val_add,Fin.sub_def,hd]
def UX(V:Nat)(p:N4)(k:Nat)(r:N4):N4:=bif Nat.beq (V/2 ^ (255-k)%2) 1 then LG (LG r r) p else LG r r
end BJ
namespace Go.Proofs.YtnbkagglkajbkaaGreat
open Go Go.Ev BJ Go.Proofs.Tryz
open Go.IntKind (i64 signed u16 u64 wrap)
theorem Rh(V:Nat)(p:E4)(k:Nat)(r:E4):UX V (vals p) k (vals r)=vals (iX V p k r):=by
 unfold UX iX Qy;rw[Bj,Bj]
 by_cases h:V/2 ^ (255-k)%2=1
 ·rw[decide_eq_true h,h];rfl
 ·have e:Nat.beq (V/2 ^ (255-k)%2) 1=false:=by
   cases e:Nat.beq (V/2 ^ (255-k)%2) 1 with
   |false=>rfl
   |true=>exact absurd (Nat.eq_of_beq_eq_true e) h
  rw[decide_eq_false h,e];rfl
def ahA:N4:=(0,1,1,0)
def ahB:N4:=(15112221349535400772501151409588531511454012693041857206046113283949847762202,46316835694926478169428394003475163141307993866256225615783033603165251855960,1,46827403850823179245072216630277197565144205554125654976674165829533817101731)
theorem ahC:ahA=vals mL:=rfl
theorem ahD:ahB=vals (rG uy qV):=by decide+kernel
def aqc(V:Nat):N4:=eQ (UX V ahB) 256 ahA
theorem Ri(V:Nat):aqc V=vals (AH V (rG uy qV)):=by
 have key:∀k,eQ (UX V ahB) k ahA=vals (eQ (iX V (rG uy qV)) k mL):=by
  intro k
  induction k with
  |zero=>exact ahC
  |succ k ih=>
   simp only[eQ];rw[ih,ahD,Rh]
 exact key 256
def isN(V x y:Nat):Bool:=(fun r:N4=>Nat.beq r.1 (rN x r.2.2.1)&&Nat.beq r.2.1 (rN y r.2.2.1)) (aqc V)
theorem atk{V x y:Nat}(hV:V<2 ^ 256)(hx:x<pp)(hy:y<pp)(h:isN V x y=true):(o9 V il).x.val=x∧(o9 V il).y.val=y:=by
 have hi:ML (AH V (rG uy qV)) (o9 V il):=AZ hV (GY il);unfold isN at h;rw[Ri]at h;generalize AH V (rG uy qV)=p at*;generalize o9 V il=P at*;obtain⟨h0,h1,h2,_⟩:=hi;simp only[Bool.and_eq_true]at h;have e1:p.1.val=x*p.2.2.1.val%pp:=Nat.eq_of_beq_eq_true h.1;have e2:p.2.1.val=y*p.2.2.1.val%pp:=Nat.eq_of_beq_eq_true h.2;have f1:p.1=(⟨x,hx⟩:F)*p.2.2.1:=Fin.ext (by rw[e1,Fin.val_mul]);have f2:p.2.1=(⟨y,hy⟩:F)*p.2.2.1:=Fin.ext (by rw[e2,Fin.val_mul]);rw[h1]at f1;rw[h2]at f2
 have c:∀ {a b:F},a*p.2.2.1=b*p.2.2.1→a=b:=fun {a b} e=>by
  have h3:p.2.2.1*F.inv p.2.2.1=1:=F.inv_mul h0;have e':=congrArg (fun z=>z*F.inv p.2.2.1) e
  grobner
 exact⟨by rw[c f1],by rw[c f2]⟩
def llN:Nat:=7237005577332262213973186563042994240857116359379907606001950938285454250989
theorem YP:isN llN 0 1=true:=by decide+kernel
theorem Rj:o9 llN il=BJ.Pt.zero:=by
 obtain⟨h1,h2⟩:=atk (V:=llN) (by decide) (by decide) (by decide) YP;exact BJ.Pt.ext' (Fin.ext h1) (Fin.ext h2)
theorem am9:il≠BJ.Pt.zero:=fun h=>by
 have:=congrArg (fun P:BJ.Pt=>P.x.val) h
 revert this
 decide
theorem uI{m:Nat}(h:o9 m il=BJ.Pt.zero)(k:Nat):o9 (k*m) il=BJ.Pt.zero:=by
 rw[al0,h,agm]
theorem YQ{n a:Nat}(hr:fI n a)(hz:o9 n il=BJ.Pt.zero){m:Nat}(hm:o9 m il=BJ.Pt.zero):m%n=0:=by
 refine Classical.byContradiction fun h=>am9 ?_;have hf:=hr.rB h;have hn:=hr.1;have e:m ^ (n-1)=m ^ (n-2)*m:=by rw[← Nat.pow_succ];congr 1;omega
 have h1:o9 (m ^ (n-1)) il=BJ.Pt.zero:=by rw[e];exact uI hm _
 have h2:m ^ (n-1)=m ^ (n-1)/n*n+1:=by
  have:=Nat.div_add_mod (m ^ (n-1)) n;rw[hf,Nat.mul_comm]at this;exact this.symm
 rw[h2,GZ,uI hz,al1,BJ.Pt.zero_add]at h1;exact h1
theorem C3{m:Nat}(hm:o9 m il=BJ.Pt.zero):m%llN=0:=YQ bV Rj hm
end Go.Proofs.YtnbkagglkajbkaaGreat
end
noncomputable section
namespace Go.Proofs.YtnbkagglkajbkaaGreat
open Go Go.Ev BJ Go.Proofs.Tryz
open Go.IntKind (i64 signed u16 u64 wrap)
set_option maxRecDepth 1000000
theorem okV{n:Nat}:∀ {v:Vec Int n},oY v→aN v.toList∧vd 256 v.toList=cR v:=by
 induction n with
 |zero=>exact fun {v} _=>⟨(fun z hz=>by cases hz),rfl⟩
 |succ n ih=>
  intro v h;obtain⟨h1,h2⟩:=ih h.2;refine⟨fun z hz=>?_,?_⟩
  ·rcases List.mem_cons.1 hz with rfl|hz
   ·exact h.1
   ·exact h1 z hz
  ·show v.1+256*vd 256 v.2.toList=v.1+256*cR v.2;rw[h2]
theorem UY{l:List Int}(h:okB l):oY (qT l)∧cR (qT l)=vd 256 l:=by
 have h1:oY (qT l):=AE fun i _=>dL.getD (by decide) h.2 i;have:=(okV h1).2;rw[kE h.1]at this;exact⟨h1,this.symm⟩
def sc(n:List Int):Nat:=(vd 256 n).toNat
theorem YR{n:List Int}(hn:okB n){p:Pt}{P:BJ.Pt}(hp:Rep p P):Rep (w8 n p) (o9 (sc n) P):=by
 obtain⟨h1,h2⟩:=UY hn;rw[Lj,sc,← h2];exact agq h1 hp
theorem Bk{n:List Int}(hn:okB n):Rep (gS n) (o9 (sc n) il):=YR hn agn
def ahE(P:BJ.Pt):List Int:=(qH P).toList
theorem ana(P:BJ.Pt):okB (ahE P):=⟨Vec.cF _,(okV (ags P).1).1⟩
theorem ahF{p:Pt}{P:BJ.Pt}(h:Rep p P):dF p=ahE P:=by unfold dF ahE;rw[al4 h]
theorem ayD{x:Int}(h:0≤x∧x<ll):sc (dg 256 32 x)=x.toNat:=by
 have e:ll<256 ^ 32:=by decide+kernel
 unfold sc;rw[iG (by decide),Int.emod_eq_of_lt h.1 (by omega)]
theorem atl:((llN:Nat):Int)=ll:=rfl
theorem anb(a b c:List Int):okB (nA a b c)∧sc (nA a b c)<llN:=by
 refine⟨⟨bp _ _,jF (by decide) _ _⟩,?_⟩;unfold nA;have h1:=Int.emod_nonneg (vd 256 a*vd 256 b+vd 256 c) (show ll≠0 by have:=fq;omega);have h2:=Int.emod_lt_of_pos (vd 256 a*vd 256 b+vd 256 c) fq;rw[ayD ⟨h1,h2⟩];have:=atl;omega
theorem LH(s c m:List Int):okB ((Hs s c m).drop 32)∧(Hs s c m).length=64∧aN (Hs s c m):=by
 unfold Hs;have e:=Bk (show okB (xi s c m)from uF _);have h1:=ana (o9 (sc (xi s c m)) il);rw[← ahF e]at h1;have h2:=(anb (nL c (dF (gS (xi s c m))) (Bi s) m) (kG s) (xi s c m)).1;rw[List.drop_left' h1.1];exact⟨h2,by rw[List.length_append,h1.1,h2.1],h1.2.append h2.2⟩
def xj:List Int:= [98,111,111,116,106,97,99,107]
def k0:List Int:=List.replicate 32 0
abbrev uT:aQ LV Fn:=qC (iU .i64 16)
abbrev H8:aQ (List LV) (Fn×Unit):=ae uT ag
abbrev qI:aQ (List LV) (Fn×Fn×Unit):=ae uT (ae uT ag)
abbrev Bl(r:Fn×Bool):LV:=.c6 [.agg ((iU .i64 16).wr r.1),.sc (.bool (.sym r.2))]
def ZW(c:Fn):an:=an.cm [] ag ag fun _ _=>.leaf none (uT.wr c) []
def rQ(g:Fn→Fn):an:=an.cm [] H8 ag fun x _=>.leaf none (uT.wr (g x.1)) []
def kM(g:Fn→Fn→Fn):an:=an.cm [] qI ag fun x _=>.leaf none (uT.wr (g x.1 x.2.1)) []
def Rk(g:Fn→Bool):an:=an.cm [] H8 ag fun x _=>.leaf none (nB (g x.1)) []
def anc(g:Fn→Fn→Bool):an:=an.cm [] qI ag fun x _=>.leaf none (nB (g x.1 x.2.1)) []
def LI(g:Fn→Fn×Bool):an:=an.cm [] H8 ag fun x _=>.leaf none (Bl (g x.1)) []
def ane(g:Fn→Fn→Fn×Bool):an:=an.cm [] qI ag fun x _=>.leaf none (Bl (g x.1 x.2.1)) []
def Dz(g:Int→Fn):an:=an.cm [] QG ag fun x _=>.leaf none (uT.wr (g x.1)) []
def eNY(g:Fn→List Int):an:=an.cm [] H8 ag fun x _=>.leaf none (cY .u8 32 (g x.1)) []
abbrev anf:an:=ZW dE
theorem LJ:aH Tryz.prog [] [] f313 ((ag).wr ()) [] kK= .leaf (uT.wr dE) []:=by kernel_rfl
theorem LK:∀p_∈([]:List (FuncId×an)),p_.2.Ok Tryz.prog p_.1:=aw
theorem DA:anf.Ok Tryz.prog 313:=by
 refine(an.aS call313 fun x_ y_ Q H_=>?_).sym;have hq:=H_.2;refine(ar (tab:= []) mixed LK func313 rfl (LT:= []) (ks:=kK) (aK.nil _)).use (D:= []) ?_ hq;show(aH _ _ _ _ ((ag).wr ()) [] _).sat _;rw[LJ];exact⟨rfl,rfl⟩
def wo(a b:Fn):Nat→Ev.End
 |0=>.leaf (nB false) []
 |k+1=>.ite (a.get k !=b.get k) (.leaf (nB (decide (a.get k<b.get k))) []) (wo a b k)
theorem DB(a b:Fn):∀k,(wo a b k).sat fun v dP=>v=nB (ie a b k)∧dP= []
 |0=>⟨rfl,rfl⟩
 |k+1=>by
  refine⟨fun h=>⟨?_,rfl⟩,fun h=>?_⟩
  ·rw[ie,h];rfl
  ·rw[ie,h];exact DB a b k
abbrev ang:an:=anc uC
theorem LM(a b:Fn):aH Tryz.prog [] [] f312 ((qI).wr (a,b,())) [] kK=wo a b 16:=by kernel_rfl
theorem LN:∀p_∈([]:List (FuncId×an)),p_.2.Ok Tryz.prog p_.1:=aw
theorem YS:ang.Ok Tryz.prog 312:=by
 refine(an.aS call312 fun x_ y_ Q H_=>?_).sym;obtain⟨a,b,_⟩:=x_;have hq:=H_.2;refine(ar (tab:= []) mixed LN func312 rfl (LT:= []) (ks:=kK) (aK.nil _)).use (D:= []) ?_ hq;show(aH _ _ _ _ ((qI).wr (a,b,())) [] _).sat _;rw[LM];exact DB a b 16
def DC(t:Fn):Fn:=ck (ef (ck (ef (ck (ef (ck (ef (ck t))))))))
theorem ahG{b:Bool}{u v x:Fn}(h:x=dB b u v):(Ev.End.ite b (.leaf (uT.wr u) []) (.leaf (uT.wr v) [])).sat fun v dP=>v=uT.wr x∧dP= []:=by
 subst h;rw[bE]
 cases b
 ·exact⟨fun h=>(by cases h),fun _=>⟨rfl,rfl⟩⟩
 ·exact⟨fun _=>⟨rfl,rfl⟩,fun h=>(by cases h)⟩
theorem DD{u x:Fn}(h:x=u):(Ev.End.leaf (uT.wr u) []).sat fun v dP=>v=uT.wr x∧dP= []:=by subst h;exact⟨rfl,rfl⟩
theorem norm_eq(t:Fn):eM t=dB (!(uC (DC t) dE)) (ck (Vec.zip (fun a b=>w (a-b)) (DC t) dE)) (DC t):=by unfold eM apL;rfl
abbrev atm:an:=rQ eM
theorem Rl(p:Fn)(bel:Fn→Fn→Bool)(t:Fn):aH Tryz.prog [(313,ZW p),(312,anc bel)] [] f283 ((H8).wr (t,())) [] kK= .ite (!(bel (DC t) p)) (.leaf (uT.wr (ck (Vec.zip (fun a b=>w (a-b)) (DC t) p))) []) (.leaf (uT.wr (DC t)) []):=by kernel_rfl
theorem Rm:∀p_∈([(313,ZW dE),(312,anc uC)]:List (FuncId×an)),p_.2.Ok Tryz.prog p_.1:=(al DA (al YS aw))
theorem Bm:atm.Ok Tryz.prog 283:=by
 refine(an.aS call283 fun x_ y_ Q H_=>?_).sym;obtain⟨t,_⟩:=x_;have hq:=H_.2;refine(ar (tab:= [(313,ZW dE),(312,anc uC)]) mixed Rm func283 rfl (LT:= []) (ks:=kK) (aK.nil _)).use (D:= []) ?_ hq;show(aH _ _ _ _ ((H8).wr (t,())) [] _).sat _;rw[Rl dE uC];exact ahG (norm_eq t)
abbrev anh:an:=Dz bq
theorem LO(n:Int):aH Tryz.prog [] [] f223 ((QG).wr (n,())) [] kK= .leaf (uT.wr (bq n)) []:=by kernel_rfl
theorem LP:∀p_∈([]:List (FuncId×an)),p_.2.Ok Tryz.prog p_.1:=aw
theorem iY:anh.Ok Tryz.prog 223:=by
 refine(an.aS call223 fun x_ y_ Q H_=>?_).sym;obtain⟨n,_⟩:=x_;have hq:=H_.2;refine(ar (tab:= []) mixed LP func223 rfl (LT:= []) (ks:=kK) (aK.nil _)).use (D:= []) ?_ hq;show(aH _ _ _ _ ((QG).wr (n,())) [] _).sat _;rw[LO];exact⟨rfl,rfl⟩
def lC(x:Fn):List Int:=(oV x).toList
abbrev ani:an:=eNY lC
theorem LQ(x:Fn):aH Tryz.prog [] [] f215 ((H8).wr (x,())) [] kR= .leaf (cY .u8 32 (oV x).toList) []:=by kernel_rfl
theorem LR:∀p_∈([]:List (FuncId×an)),p_.2.Ok Tryz.prog p_.1:=aw
theorem YT:ani.Ok Tryz.prog 215:=by
 refine(an.aS call215 fun x_ y_ Q H_=>?_).sym;obtain⟨x,_⟩:=x_;have hq:=H_.2;refine(ar (tab:= []) mixed LR func215 rfl (LT:= []) (ks:=kR) (aK.nil _)).use (D:= []) ?_ hq;show(aH _ _ _ _ ((H8).wr (x,())) [] _).sat _;rw[LQ];exact⟨rfl,rfl⟩
theorem anj(x y:Fn):gX x y=asl eM x y:=by unfold gX;rfl
abbrev ayE:an:=kM gX
theorem YU(norm:Fn→Fn)(x y:Fn):aH Tryz.prog [(283,rQ norm)] [] f218 ((qI).wr (x,y,())) [] kK= .leaf (uT.wr (asl norm x y)) []:=by kernel_rfl
theorem YV:∀p_∈([(283,rQ eM)]:List (FuncId×an)),p_.2.Ok Tryz.prog p_.1:=(al Bm aw)
theorem Hu:ayE.Ok Tryz.prog 218:=by
 refine(an.aS call218 fun x_ y_ Q H_=>?_).sym;obtain⟨x,y,_⟩:=x_;have hq:=H_.2;refine(ar (tab:= [(283,rQ eM)]) mixed YV func218 rfl (LT:= []) (ks:=kK) (aK.nil _)).use (D:= []) ?_ hq;show(aH _ _ _ _ ((qI).wr (x,y,())) [] _).sat _;rw[YU eM];exact DD (anj x y)
theorem ank(x y:Fn):ij x y=asm dE eM x y:=by unfold ij;rfl
abbrev ayF:an:=kM ij
theorem YW(p:Fn)(norm:Fn→Fn)(x y:Fn):aH Tryz.prog [(313,ZW p),(283,rQ norm)] [] f285 ((qI).wr (x,y,())) [] kK= .leaf (uT.wr (asm p norm x y)) []:=by kernel_rfl
theorem YX:∀p_∈([(313,ZW dE),(283,rQ eM)]:List (FuncId×an)),p_.2.Ok Tryz.prog p_.1:=(al DA (al Bm aw))
theorem Hv:ayF.Ok Tryz.prog 285:=by
 refine(an.aS call285 fun x_ y_ Q H_=>?_).sym;obtain⟨x,y,_⟩:=x_;have hq:=H_.2;refine(ar (tab:= [(313,ZW dE),(283,rQ eM)]) mixed YX func285 rfl (LT:= []) (ks:=kK) (aK.nil _)).use (D:= []) ?_ hq;show(aH _ _ _ _ ((qI).wr (x,y,())) [] _).sat _;rw[YW dE eM];exact DD (ank x y)
theorem anl(x y:Fn):a9 x y=asn eM x y:=by unfold a9;rfl
abbrev ayG:an:=kM a9
theorem YY(norm:Fn→Fn)(x y:Fn):aH Tryz.prog [(283,rQ norm)] [] f216 ((qI).wr (x,y,())) [] kK= .leaf (uT.wr (asn norm x y)) []:=by kernel_rfl
theorem YZ:∀p_∈([(283,rQ eM)]:List (FuncId×an)),p_.2.Ok Tryz.prog p_.1:=(al Bm aw)
theorem jd:ayG.Ok Tryz.prog 216:=by
 refine(an.aS call216 fun x_ y_ Q H_=>?_).sym;obtain⟨x,y,_⟩:=x_;have hq:=H_.2;refine(ar (tab:= [(283,rQ eM)]) mixed YZ func216 rfl (LT:= []) (ks:=kK) (aK.nil _)).use (D:= []) ?_ hq;show(aH _ _ _ _ ((qI).wr (x,y,())) [] _).sat _;rw[YY eM];exact DD (anl x y)
theorem anm(x:Fn):kC x=ij cy x:=by unfold kC;rfl
abbrev ayH:an:=rQ kC
theorem Y0(sub:Fn→Fn→Fn)(x:Fn):aH Tryz.prog [(285,kM sub)] [] f284 ((H8).wr (x,())) [] kK= .leaf (uT.wr (sub cy x)) []:=by kernel_rfl
theorem Y1:∀p_∈([(285,kM ij)]:List (FuncId×an)),p_.2.Ok Tryz.prog p_.1:=(al Hv aw)
theorem UZ:ayH.Ok Tryz.prog 284:=by
 refine(an.aS call284 fun x_ y_ Q H_=>?_).sym;obtain⟨x,_⟩:=x_;have hq:=H_.2;refine(ar (tab:= [(285,kM ij)]) mixed Y1 func284 rfl (LT:= []) (ks:=kK) (aK.nil _)).use (D:= []) ?_ hq;show(aH _ _ _ _ ((H8).wr (x,())) [] _).sat _;rw[Y0 ij];exact DD (anm x)
abbrev ayI:an:=Rk qG
theorem Y2(x:Fn):aH Tryz.prog [] [] f217 ((H8).wr (x,())) [] kK= .leaf (nB (qG x)) []:=by kernel_rfl
theorem Y3:∀p_∈([]:List (FuncId×an)),p_.2.Ok Tryz.prog p_.1:=aw
theorem U0:ayI.Ok Tryz.prog 217:=by
 refine(an.aS call217 fun x_ y_ Q H_=>?_).sym;obtain⟨x,_⟩:=x_;have hq:=H_.2;refine(ar (tab:= []) mixed Y3 func217 rfl (LT:= []) (ks:=kK) (aK.nil _)).use (D:= []) ?_ hq;show(aH _ _ _ _ ((H8).wr (x,())) [] _).sat _;rw[Y2];exact⟨rfl,rfl⟩
def eO(a:List Int)(i:Int):Int:=lO (qT a) i.toNat
def aqd:an:=an.cm [] (biA) (ag) fun x_ y_=>(fun(a:List Int) (i:Int)=>.leaf (some (a.length=32∧0≤i∧i<256)) (nI (eO a i)) []) x_.1 x_.2.1
theorem Y4(a:List Int)(i:Int):aH Tryz.prog [] [] f222 ((biA).wr (a,i,())) ((ag).wr ()) [.fr [.sym],.auto]=
 End.ite (decide (i<(0:Int))==false) (End.ite (decide ((255:Int)<i)) (End.leaf (LV.one (VV.sc (SV.int i64 (SI.sym (0:Int))))) [])
 (End.need ((0:Int)≤i64.wrap (i.tdiv (8:Int))∧i64.wrap (i.tdiv (8:Int))<(32:Int)) (End.need ((0:Int)≤u64.wrap
 (i.tmod (8:Int))) (End.leaf (LV.one (VV.sc (SV.int i64 (SI.sym (aM i64 (i64.wrap (shr IntKind.u8 ((List.take (32:Nat)
 (List.drop (0:Nat) a)).getD (i64.wrap (i.tdiv (8:Int))).toNat (0:Int)) (u64.wrap (i.tmod (8:Int))))) (1:Int)))))) []))))
 (End.leaf (LV.one (VV.sc (SV.int i64 (SI.sym (0:Int))))) []):=by kernel_rfl
theorem ann:aqd.Ok Tryz.prog 222:=by
 refine(an.aS call222 fun x_ y_ Q H_=>?_).sym;obtain⟨a,i,_⟩:=x_;obtain⟨hn,hq⟩:=H_;have hn:a.length=32∧0≤i∧i<256:=hn;refine(ar mixed aw func222 rfl (LT:= []) (ks:= [.fr [.sym],.auto]) (aK.nil _)).use (D:= []) ?_ hq;show(aH _ _ _ _ ((biA).wr (a,i,())) ((ag).wr ()) _).sat _;rw[Y4];obtain⟨ha,h0,h1⟩:=hn;obtain⟨k,rfl⟩:=Int.eq_ofNat_of_zero_le h0;have hk:k<256:=by omega
 have e1:i64.wrap ((k:Int).tdiv 8)=((k/8:Nat):Int):=fw k 8 (by omega);have e2:u64.wrap ((k:Int).tmod 8)=((k%8:Nat):Int):=by rw[show(k:Int).tmod 8=((k%8:Nat):Int)from uE k 8,wrap_u64 (by omega) (by omega)]
 have e:eO a (k:Int)=aM .i64 (i64.wrap (shr .u8 (a.getD (k/8) 0) ((k%8:Nat):Int))) 1:=by
  unfold eO lO;rw[Int.toNat_natCast,G3 a (show k/8<32 by omega)]
 rw[e1,e2,aX ha,Int.toNat_natCast,e];refine⟨fun _=>⟨fun h=>?_,fun _=>⟨by omega,by omega,rfl,rfl⟩⟩,fun h=>?_⟩
 ·have:=of_decide_eq_true h;omega
 ·exfalso;revert h;simp
theorem ano:aqd=Q2 eO:=by kernel_rfl
theorem uJ:(Q2 eO).Ok Tryz.prog 222:=ano▸ann
abbrev Y5:Func:=f281
abbrev pwC:aQ (List LV) (Int×Unit):=(jk 2 (ai (ah (aD 0 0)) (ai (ah (aD 1 0)) (ai (ah (aD 2 0)) (ai (ah (aD 3 0)) (ae (ah (aA .i64)) (jk 16 ag)))))))
abbrev ayJ:Wk:=.fr (cb 23 [(2,.ak),(3,.ak),(4,.ak),(5,.ak),(6,.sym)])
abbrev pwX:aQ (List LV) (Unit):=(jk 4 (ai (ah (aD 0 0)) (ai (ah (aD 1 0)) (jk 17 ag))))
abbrev iFn:aQ (Option Ev.Item) Fn:=fG 220 (iU .i64 16)
abbrev pwH:aQ Hp (Fn×List Int×Fn×Fn×Unit):=ae iFn (ae (gm 22 .u8 32) (ae iFn (ae iFn ag)))
abbrev atn:aQ Hp (Fn×Fn×Unit):=ae iFn (ae iFn ag)
abbrev Y6(i:Nat):Wk:=.ba i (List.replicate 16 .sym)
def pwW:Exit→List Wk
 | .normal=> [ayJ,Y6 2,Y6 3,.auto]
 | .exit 0=> [.fr (cb 23 [(4,.ak),(5,.ak)]),.auto]
 |_=> []
theorem ato(bit:List Int→Int→Int)(mul:Fn→Fn→Fn)(x r o:Fn)(e:List Int)(i:Int):ct Tryz.prog [(222,Q2 bit),(216,kM mul)] [] Y5 0 [] pwW ((aT pwC pwH).wr ((i,()),(x,e,r,o,())))=
 aG.ite (decide ((0:Int)≤i)) (aG.need (e.length=(32:Nat)∧(0:Int)≤i∧i<(256:Int)) (aG.ite (bit e i==(1:Int)) (aG.leaf
 Exit.normal ((aT pwC pwH).wr ((i64.wrap (i-(1:Int)),PUnit.unit),x,e,r,mul (mul o o) x,PUnit.unit))) (aG.leaf Exit.normal ((aT pwC
 pwH).wr ((i64.wrap (i-(1:Int)),PUnit.unit),x,e,r,mul o o,PUnit.unit))))) (aG.leaf (Exit.exit (0:Nat)) ((aT pwX atn).wr
 (PUnit.unit,r,o,PUnit.unit))):=by kernel_rfl
def Hw(bit:List Int→Int→Int)(mul:Fn→Fn→Fn)(x:Fn)(e:List Int)(k:Nat)(r:Fn):Fn:=bif bit e (255-(k:Int))==1 then mul (mul r r) x else mul r r
theorem ahH:∀p∈([(222,Q2 eO),(216,kM a9)]:List (FuncId×an)),p.2.Ok Tryz.prog p.1:=al uJ (al jd aw)
abbrev pwT:Type:=(Int×Unit)×Fn×List Int×Fn×Fn×Unit
def ayK(w:Fn→List Int→Fn→Fn)(x:pwT):aG:=.need (x.1.1=255∧x.2.2.1.length=32) (.leaf (.exit 0) ((aT pwX atn).wr ((),(x.2.2.2.1,w x.2.1 x.2.2.1 x.2.2.2.2.1,()))))
theorem LS:∃f:Fn→List Int→Fn→Fn,∀ (x:Fn) (e:List Int) (o:Fn),f x e o=(eQ (Hw eO a9 x e) 256 o):=⟨fun x e o=>eQ (Hw eO a9 x e) 256 o,fun _ _ _=>rfl⟩
def DE:Fn→List Int→Fn→Fn:=Classical.choose LS
theorem LU(x:Fn)(e:List Int)(o:Fn):DE x e o=(eQ (Hw eO a9 x e) 256 o):=Classical.choose_spec LS x e o
theorem anp(x:pwT):Ex Tryz.prog [] (.loop (aP Y5 0)) ((aT pwC pwH).wr x) (ayK DE x):=by
 obtain⟨⟨i,_⟩,x,e,r,o,_⟩:=x;refine Ex.need fun⟨h1,h2⟩=>?_;simp only at h1 h2;subst h1
 have key:=c8 (fn:=Y5) (id:=0) (j:=0) (ws:=pwW) (hp:= []) mixed ahH (aK.nil _) 256 (fun k o=>(aT pwC pwH).wr ((255-(k:Int),()),(x,e,r,o,()))) (fun o=>(aT pwX atn).wr ((),(r,o,()))) (Hw eO a9 x e) (fun _ _=>True)
  (fun k o R hk _ hn hx=>?_) (fun _ _ _ _=>trivial) 0 o (by omega) trivial
 ·rw[Nat.sub_zero,mD,← LU]at key;exact key
 rw[ato eO a9];refine⟨fun hb=>?_,fun hb=>?_⟩
 ·have g6:k<256:=by have:=of_decide_eq_true hb;omega
  have kf:=hn g6;have e3:i64.wrap ((255-(k:Int))-1)=255-((k+1:Nat):Int):=by rw[au (by omega) (by omega)];omega
  rw[e3];refine⟨⟨h2,by omega,by omega⟩,fun hc=>?_,fun hc=>?_⟩
  ·have:Hw eO a9 x e k o=a9 (a9 o o) x:=(by unfold Hw;rw[hc];rfl);rw[this]at kf;exact kf
  ·have:Hw eO a9 x e k o=a9 o o:=(by unfold Hw;rw[hc];rfl);rw[this]at kf;exact kf
 ·have:k=256:=by have:=of_decide_eq_false hb;omega
  exact hx this
abbrev pwA:aQ (List LV) (Fn×List Int×Unit):=ae uT (ae cB ag)
def eNW(g:Fn→List Int→Fn):an:=an.cm [] pwA ag fun x _=>.leaf (some (x.2.1.length=32)) (uT.wr (g x.1 x.2.1)) []
abbrev atq(w:Fn→List Int→Fn→Fn):df:= [(0,cJ (aT pwC pwH) 0 [ayJ,.auto,Y6 2,Y6 3] (ayK w))]
abbrev aqe(bit:List Int→Int→Int)(mul:Fn→Fn→Fn)(sm:Int→Fn):List (FuncId×an):= [(222,Q2 bit),(216,kM mul),(223,Dz sm)]
theorem Y7(w:Fn→List Int→Fn→Fn)(bit:List Int→Int→Int)(mul:Fn→Fn→Fn)(sm:Int→Fn)(x:Fn)(e:List Int):aH Tryz.prog (aqe bit mul sm) (atq w) Y5 (pwA.wr (x,e,())) [] kK=
  .need ((255:Int)=255∧e.length=32) (.leaf (uT.wr (w x e (sm 1))) []):=by kernel_rfl
theorem LW:∃f:Fn→List Int→Fn,∀ (x:Fn) (e:List Int),f x e=(ly x (qT e)):=⟨fun x e=>ly x (qT e),fun _ _=>rfl⟩
def po:Fn→List Int→Fn:=Classical.choose LW
theorem LX(x:Fn)(e:List Int):po x e=(ly x (qT e)):=Classical.choose_spec LW x e
abbrev ayL:an:=eNW po
theorem Y8(x:Fn)(e:List Int):DE x e (bq 1)=po x e:=by
 rw[LU,LX];unfold ly afI;refine nx (fun k hk r=>?_) _ 256 (Nat.le_refl _);unfold Hw mJ eO;rw[bE,show(255-(k:Int)).toNat=255-k from by omega]
theorem atr:aK Tryz.prog [] (atq DE) (aJ Y5):=aK.bI (iu rfl (bt (hp:= []) anp) iE)
theorem U1:ayL.Ok Tryz.prog 281:=by
 refine(an.aS call281 fun x_ y_ Q H_=>?_).sym;obtain⟨x,e,_⟩:=x_;obtain⟨hn,hq⟩:=H_;have hn:e.length=32:=hn;have hc:iO Tryz.prog 281 (pwA.wr (x,e,())) [] (aH Tryz.prog (aqe eO a9 bq) (atq DE) Y5 (pwA.wr (x,e,())) [] kK):=ar mixed (al uJ (al jd (al iY aw))) func281 rfl atr;rw[Y7 DE eO a9 bq]at hc;exact hc.use (D:= []) (show(Ev.End.need _ _).sat _ from⟨⟨rfl,hn⟩,by rw[Y8],rfl⟩) hq
def ayM(k:IntKind)(n:Int):aQ SV Unit where
 rd s:=match s with
  | .int k' (.lit m)=>if k'=k∧m=n then some ()else none
  |_=>none
 wr _:=.int k (.lit n)
 ok:=by
  intro s x h
  split at h
  ·split at h
   ·rename_i hh;rw[hh.1,hh.2]
   ·cases h
  ·cases h
abbrev onA(a h:Int):aQ (List LV) Unit:=ai (ah (ayM .i64 a)) (ai (ah (ayM .i64 h)) ag)
def eOn(a h:Int)(c:List Int):an:=an.of [] (onA a h) ag fun _ _=>.leaf none (cY .u8 32 c) []
def Rn(f:Int→Int→List Int):an:=(eOn 2 0 (f 2 0)).or ((eOn 1 3 (f 1 3)).or (eOn 1 2 (f 1 2)))
def jH(a h:Int):List Int:=if h=0 then(bW 235 127).toList else if h=3 then(bW 253 15).toList else(bW 251 31).toList
theorem ahI:aH Tryz.prog [] [] f282 ((onA 2 0).wr ()) [] [.eZ 0 0 32 .u8,.auto]= .leaf (cY .u8 32 (jH 2 0)) []:=by kernel_rfl
theorem ahJ:aH Tryz.prog [] [] f282 ((onA 1 3).wr ()) [] [.eZ 0 0 32 .u8,.auto]= .leaf (cY .u8 32 (jH 1 3)) []:=by kernel_rfl
theorem ahK:aH Tryz.prog [] [] f282 ((onA 1 2).wr ()) [] [.eZ 0 0 32 .u8,.auto]= .leaf (cY .u8 32 (jH 1 2)) []:=by kernel_rfl
theorem ahL{a h:Int}{c:List Int}(ht:aH Tryz.prog [] [] f282 ((onA a h).wr ()) [] [.eZ 0 0 32 .u8,.auto]= .leaf (cY .u8 32 c) []):(eOn a h c).Ok Tryz.prog 282:=by
 refine an.aS call282 fun x y Q H=>?_;have hc:iO Tryz.prog 282 ((onA a h).wr ()) [] (aH Tryz.prog [] [] f282 ((onA a h).wr ()) [] [.eZ 0 0 32 .u8,.auto]):=ar mixed aw func282 rfl (aK.nil _);rw[ht]at hc;exact hc.use (D:= []) ⟨rfl,rfl⟩ H.2
theorem LY:(Rn jH).Ok Tryz.prog 282:=(ahL ahI).or ((ahL ahJ).or (ahL ahK))
theorem Bn(a h:Int):(jH a h).length=32:=by unfold jH;split;exact Vec.cF _;split<;>exact Vec.cF _
theorem Hx(x:Fn)(e:dY):po x e.toList=ly x e:=by rw[LX,G2]
theorem anq(x:Fn):po x (jH 2 0)=cM x:=by
 rw[show jH 2 0=(bW 235 127).toList from rfl,Hx];unfold cM;rfl
abbrev ayN:an:=rQ cM
theorem Y9(pow:Fn→List Int→Fn)(on:Int→Int→List Int)(x:Fn):aH Tryz.prog [(281,eNW pow),(282,Rn on)] [] f214 ((H8).wr (x,())) [] kK= .need ((on 2 0).length=32) (.leaf (uT.wr (pow x (on 2 0))) []):=by kernel_rfl
theorem Za:∀p_∈([(281,eNW po),(282,Rn jH)]:List (FuncId×an)),p_.2.Ok Tryz.prog p_.1:=(al U1 (al LY aw))
theorem x8:ayN.Ok Tryz.prog 214:=by
 refine(an.aS call214 fun x_ y_ Q H_=>?_).sym;obtain⟨x,_⟩:=x_;have hq:=H_.2;refine(ar (tab:= [(281,eNW po),(282,Rn jH)]) mixed Za func214 rfl (LT:= []) (ks:=kK) (aK.nil _)).use (D:= []) ?_ hq;show(aH _ _ _ _ ((H8).wr (x,())) [] _).sat _;rw[Y9 po jH];exact⟨Bn _ _,DD (anq x).symm⟩
def ez(l:List Int):List Int:=l.set 0 (IntKind.u8.wrap (l.getD 0 0+1))
theorem LZ(l:List Int):(ez l).length=l.length:=by unfold ez;rw[List.length_set]
theorem aCW:ez (jH 1 3)=(bW 254 15).toList:=by kernel_rfl
theorem Zb{t1 t2 o1 o2:Bool}{r r2 n1 n2:Fn}{p1 p2:Prop}(h1:p1)(h2:p2){q:Fn×Bool}(hq:q=bif t1 then(bif o1 then n1 else r,true)else bif t2 then(bif o2 then n2 else r2,true)else(cy,false)):
  (Ev.End.need p1 (.ite (!t1) (.need p2 (.ite (!t2) (.leaf (Bl (cy,false)) []) (.ite o2 (.leaf (Bl (n2,true)) []) (.leaf (Bl (r2,true)) [])))) (.ite (!t1) (.leaf (Bl (cy,false)) []) (.ite o1 (.leaf (Bl (n1,true)) []) (.leaf (Bl (r,true)) []))))).sat fun v dP=>v=Bl q∧dP= []:=by
 subst hq;refine⟨h1,?_⟩
 cases t1
 ·refine⟨fun _=>⟨h2,?_⟩,fun h=>(by cases h)⟩
  cases t2
  ·exact⟨fun _=>⟨rfl,rfl⟩,fun h=>(by cases h)⟩
  ·refine⟨fun h=>(by cases h),fun _=>?_⟩
   cases o2
   ·exact⟨fun h=>(by cases h),fun _=>⟨rfl,rfl⟩⟩
   ·exact⟨fun _=>⟨rfl,rfl⟩,fun h=>(by cases h)⟩
 ·refine⟨fun h=>(by cases h),fun _=>⟨fun h=>(by cases h),fun _=>?_⟩⟩
  cases o1
  ·exact⟨fun h=>(by cases h),fun _=>⟨rfl,rfl⟩⟩
  ·exact⟨fun _=>⟨rfl,rfl⟩,fun h=>(by cases h)⟩
theorem ahM(pw:Fn→dY→Fn)(ml:Fn→Fn→Fn)(ng:Fn→Fn)(sm:Int→Fn)(od:Fn→Bool)(x:Fn):
  uf sm ml ng od pw x=bif qF (ml (pw x (bW 254 15)) (pw x (bW 254 15))) x then(bif od (pw x (bW 254 15))then ng (pw x (bW 254 15))else pw x (bW 254 15),true)
   else bif qF (ml (ml (pw x (bW 254 15)) (pw (sm 2) (bW 251 31))) (ml (pw x (bW 254 15)) (pw (sm 2) (bW 251 31)))) x then(bif od (ml (pw x (bW 254 15)) (pw (sm 2) (bW 251 31)))then ng (ml (pw x (bW 254 15)) (pw (sm 2) (bW 251 31)))else ml (pw x (bW 254 15)) (pw (sm 2) (bW 251 31)),true)else(cy,false):=by
 have agt:∀ (b:Bool) (u v:Fn),dB b u v=bif b then u else v:=fun b u v=>bE b u v;unfold uf;simp only[agt];generalize pw x (bW 254 15)=r;generalize pw (sm 2) (bW 251 31)=c
 cases h:qF (ml r r) x
 ·simp only[Bool.not_false,cond_true,cond_false]
  cases qF (ml (ml r c) (ml r c)) x<;>rfl
 ·simp only[Bool.not_true,cond_true,cond_false,h]
theorem ahN(x:Fn):ik x=uf bq a9 kC qG ly x:=by unfold ik;rfl
abbrev att:an:=LI ik
theorem Ro(pow:Fn→List Int→Fn)(on:Int→Int→List Int)(mul:Fn→Fn→Fn)(neg:Fn→Fn)(C7:Fn→Bool)(sm:Int→Fn)(x:Fn):aH Tryz.prog [(281,eNW pow),(282,Rn on),(216,kM mul),(284,rQ neg),(217,Rk C7),(223,Dz sm)] [] f314 ((H8).wr (x,())) [] kK= .need ((ez (on 1 3)).length=32) (.ite (!(qF (mul (pow x (ez (on 1 3))) (pow x (ez (on 1 3)))) x)) (.need ((on 1 2).length=32) (.ite (!(qF (mul (mul (pow x (ez (on 1 3))) (pow (sm 2) (on 1 2))) (mul (pow x (ez (on 1 3))) (pow (sm 2) (on 1 2)))) x)) (.leaf (Bl (cy,false)) []) (.ite (C7 (mul (pow x (ez (on 1 3))) (pow (sm 2) (on 1 2)))) (.leaf (Bl (neg (mul (pow x (ez (on 1 3))) (pow (sm 2) (on 1 2))),true)) []) (.leaf (Bl (mul (pow x (ez (on 1 3))) (pow (sm 2) (on 1 2)),true)) [])))) (.ite (!(qF (mul (pow x (ez (on 1 3))) (pow x (ez (on 1 3)))) x)) (.leaf (Bl (cy,false)) []) (.ite (C7 (pow x (ez (on 1 3)))) (.leaf (Bl (neg (pow x (ez (on 1 3))),true)) []) (.leaf (Bl (pow x (ez (on 1 3)),true)) [])))):=by kernel_rfl
theorem Rp:∀p_∈([(281,eNW po),(282,Rn jH),(216,kM a9),(284,rQ kC),(217,Rk qG),(223,Dz bq)]:List (FuncId×an)),p_.2.Ok Tryz.prog p_.1:=(al U1 (al LY (al jd (al UZ (al U0 (al iY aw))))))
theorem ahO:att.Ok Tryz.prog 314:=by
 refine(an.aS call314 fun x_ y_ Q H_=>?_).sym;obtain⟨x,_⟩:=x_;have hq:=H_.2;refine(ar (tab:= [(281,eNW po),(282,Rn jH),(216,kM a9),(284,rQ kC),(217,Rk qG),(223,Dz bq)]) mixed Rp func314 rfl (LT:= []) (ks:=kK) (aK.nil _)).use (D:= []) ?_ hq;show(aH _ _ _ _ ((H8).wr (x,())) [] _).sat _;rw[Ro po jH a9 kC qG bq];have hl:(ez (jH 1 3)).length=32:=by rw[LZ,Bn]
 refine Zb hl (Bn _ _) ?_;rw[ahN,ahM,aCW,show jH 1 2=(bW 251 31).toList from rfl,Hx,Hx]
theorem Zc(u v:Fn):jc u v=(dB (qF v cy) cy (ik (a9 u (cM v))).1,bif qF v cy then qF u cy else(ik (a9 u (cM v))).2):=by unfold jc Ky;rfl
theorem Rq{z zu:Bool}{s r:Fn×Bool}(hr:r=(dB z cy s.1,bif z then zu else s.2)):(Ev.End.ite z (.leaf (Bl (cy,zu)) []) (.leaf (Bl s) [])).sat fun v dP=>v=Bl r∧dP= []:=by
 subst hr;rw[bE]
 cases z
 ·exact⟨fun h=>(by cases h),fun _=>⟨rfl,rfl⟩⟩
 ·exact⟨fun _=>⟨rfl,rfl⟩,fun h=>(by cases h)⟩
abbrev anr:an:=ane jc
theorem L0(mul:Fn→Fn→Fn)(inv:Fn→Fn)(sqrt:Fn→Fn×Bool)(u v:Fn):aH Tryz.prog [(216,kM mul),(214,rQ inv),(314,LI sqrt)] [] f286 ((qI).wr (u,v,())) [] kK= .ite (qF v cy) (.leaf (Bl (cy,qF u cy)) []) (.leaf (Bl (sqrt (mul u (inv v)))) []):=by kernel_rfl
theorem L1:∀p_∈([(216,kM a9),(214,rQ cM),(314,LI ik)]:List (FuncId×an)),p_.2.Ok Tryz.prog p_.1:=(al jd (al x8 (al ahO aw)))
theorem Zd:anr.Ok Tryz.prog 286:=by
 refine(an.aS call286 fun x_ y_ Q H_=>?_).sym;obtain⟨u,v,_⟩:=x_;have hq:=H_.2;refine(ar (tab:= [(216,kM a9),(214,rQ cM),(314,LI ik)]) mixed L1 func286 rfl (LT:= []) (ks:=kK) (aK.nil _)).use (D:= []) ?_ hq;show(aH _ _ _ _ ((qI).wr (u,v,())) [] _).sat _;rw[L0 a9 cM ik];exact Rq (Zc u v)
end Go.Proofs.YtnbkagglkajbkaaGreat
end
