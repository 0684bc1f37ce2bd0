/- What the laws lean on, part 15: a reader of code, plain facts, and what each function gives; no conditions. -/
import Derived.Test.YtjalaohajcpllaaGreatA14
section
set_option linter.unusedVariables false
set_option linter.unusedSimpArgs false
namespace Go.Proofs.YtjalaohajcpllaaGreat
open Go Go.Ev BJ
set_option maxRecDepth 1000000
abbrev cW:ba LV (List Int):=KC .u64 8
abbrev wA:ba (List LV) (List Int×Unit):=ae cW ag
abbrev w2A:ba (List LV) (List Int×List Int×Unit):=ae cW (ae cW ag)
abbrev iW:ba (Option Ev.Item) (List Int):=qd 146 .u64 8
abbrev iB:ba (Option Ev.Item) (List Int):=qd 22 .u8 32
abbrev gY (i:Nat):Wk:= .iP i 0 8 .u64
abbrev nPW (r:List Int×Int):LV:= .cD [.agg [.arr (.int .u64) 8 r.1],.sc (.int .u64 (.sym r.2))]
def okW (w:List Int):Prop:=w.length=8∧fc 18446744073709551616 w
def okB (b:List Int):Prop:=b.length=32∧aB b
theorem CI {w:List Int} (h:okW w):List.take 8 (List.drop 0 w)=w:=bN h.1
def eWW (g:List Int→List Int→List Int):ao:=ao.bS [] w2A ag fun x _=> .leaf (some (okW x.1∧okW x.2.1)) (iq .u64 8 (g x.1 x.2.1)) []
def afu (g:List Int→List Int→List Int×Int):ao:=ao.bS [] w2A ag fun x _=> .leaf (some (okW x.1∧okW x.2.1)) (nPW (g x.1 x.2.1)) []
abbrev wiA:ba (List LV) (List Int×Int×Unit):=ae cW (ae (ai (ax .i64)) ag)
def aln (g:List Int→Int→Int):ao:=ao.bS [] wiA ag fun x _=> .leaf (some (okW x.1∧0≤x.2.1∧x.2.1<512)) (nU (g x.1 x.2.1)) []
def e0W (c:List Int):ao:=ao.bS [] ag ag fun _ _=> .leaf none (iq .u64 8 c) []
def eWB (g:List Int→List Int):ao:=ao.bS [] wA ag fun x _=> .leaf (some (okW x.1)) (iq .u8 32 (g x.1)) []
def eOf (g:List Int→List Int):ao:=ao.bS [some u8] bA ag fun x _=> .leaf (some (aB x.1∧x.1.length≤64)) (iq .u64 8 (g x.1)) []
noncomputable abbrev adM:Func:=Tryz.f87
abbrev soC:ba (List LV) (List Int×Int×Int×Unit):=(jk 2 (aj (ai (aP 0 0)) (aj (ai (aP 1 0)) (jk 2 (ae (ai (eS false false u8)) (ae (ai (ax .i64)) (ae (ai (ax .i64)) (jk 18 ag))))))))
abbrev alp:Wk:= .fr (dA 27 [(2,.aq),(3,.aq),(6,.aq),(7,.sym),(8,.sym)])
abbrev soX:ba (List LV) (Unit):=(jk 2 (aj (ai (aP 0 0)) (aj (ai (aP 1 0)) (jk 23 ag))))
abbrev aoW:Wk:= .fr (dA 27 [(2,.aq),(3,.aq)])
abbrev soH:ba Hp (List Int×List Int×Unit):=ae iW (ae iW ag)
def soW:Exit→List Wk
 | .normal=> [alp,gY 0,gY 1,.auto]
 | .exit 0=> [aoW,gY 0,gY 1,.auto]
 |_=> []
theorem ahR (b:List Int) (n i:Int) (r m:List Int):dR Tryz.prog [] [] adM 0 [] soW ((bG soC soH).wr ((b,n,i,()),(r,m,())))=
 aU.ite (decide (i<n)) (aU.need ((0:Int)≤i∧i<(↑b.length:Int)) (aU.need ((0:Int)≤IntKind.i64.wrap (i.tdiv (8:Int))∧
 IntKind.i64.wrap (i.tdiv (8:Int))<(8:Int)) (aU.need ((0:Int)≤IntKind.i64.wrap (i.tmod (8:Int)*(8:Int))) (aU.need ((0:Int)≤
 IntKind.i64.wrap (i.tdiv (8:Int))∧IntKind.i64.wrap (i.tdiv (8:Int))<(8:Int)) (aU.leaf Exit.normal ((bG soC soH).wr ((b,n,IntKind.i64.wrap
 (i+(1:Int)),PUnit.unit),r,m.set ((0:Nat)+(IntKind.i64.wrap (i.tdiv (8:Int))).toNat) (bm IntKind.u64 ((List.take (8:Nat) (List.drop (0
 :Nat) m)).getD (IntKind.i64.wrap (i.tdiv (8:Int))).toNat (0:Int)) (shl IntKind.u64 (IntKind.u64.wrap (b.getD i.toNat (0:Int))) (IntKind.i64.wrap
 (i.tmod (8:Int)*(8:Int))))),PUnit.unit))))))) (aU.leaf (Exit.exit (0:Nat)) ((bG soX soH).wr (PUnit.unit,r,m,PUnit.unit))):=by kernel_rfl
def alq (g:List Int→List Int) (x:(List Int×Int×Int×Unit)×List Int×List Int×Unit):aU:= .need (aB x.1.1∧x.1.1.length≤64∧x.1.2.1=x.1.1.length∧x.1.2.2.1=0∧x.2.2.1=List.replicate 8 0) (.leaf (.exit 0) ((bG soX soH).wr ((),(x.2.1,g x.1.1,()))))
theorem afw (k:Nat):IntKind.i64.wrap ((k:Int).tmod 8*8)=((k%8*8:Nat):Int):=by
 rw[show (k:Int).tmod 8=((k%8:Nat):Int) from afr k 8,ar (by omega) (by omega)];omega
theorem adN:uJ []=List.replicate 8 0:=P2 bn 8
theorem adO (x):Ex Tryz.prog [] (.loop (aW adM 0)) ((bG soC soH).wr x) (alq uJ x):=by
 obtain ⟨⟨b,n,i,_⟩,r,m,_⟩:=x
 refine Ex.need fun ⟨h1,h2,h3,h4,h5⟩=>?_
 simp only at h1 h2 h3 h4 h5
 subst h3 h4 h5
 have key:=gL (fn:=adM) (id:=0) (j:=0) (ws:=soW) (hp:= []) mixed aF (aQ.nil _) b.length (fun k (_:Unit)=>(bG soC soH).wr ((b,(b.length:Int),(k:Int),()),(r,uJ (b.take k),()))) (fun _=>(bG soX soH).wr ((),(r,uJ b,()))) (fun _ u=>u) (fun _ _=>True)
  (fun k o R hk _ hn hx=>?_) (fun _ _ _ _=>trivial) 0 () (by omega) trivial
 ·rw[List.take_zero,adN] at key;exact key
 rw[ahR]
 refine ⟨fun hb=>?_,fun hb=>?_⟩
 ·have na:k<b.length:=by have:=of_decide_eq_true hb;omega
  have e1:IntKind.i64.wrap ((k:Int).tdiv 8)=((k/8:Nat):Int):=jK k 8 (by omega)
  rw[e1,afw,bN (Zv _).1,Int.toNat_natCast,Int.toNat_natCast,Nat.zero_add,adE h1 h2 na,dS k (by omega)]
  exact ⟨by omega,by omega,by omega,by omega,hn na⟩
 ·have:k=b.length:=by have:=of_decide_eq_false hb;omega
  subst this
  have:=hx rfl
  rw[List.take_length];exact this
noncomputable abbrev alr (g:List Int→List Int):fk:= [(0,fI (bG soC soH) 0 [alp,gY 0,gY 1,.auto] (alq g))]
noncomputable abbrev aoX:ao:=eOf uJ
theorem Zw (g:List Int→List Int) (b:List Int):aS Tryz.prog [] (alr g) adM (bA.wr (b,())) [] [.fr [.sym],.kJ 0 0 8 .u64,.auto]=
 End.need (aB b∧b.length≤(64:Nat)∧(↑b.length:Int)=(↑b.length:Int)∧(0:Int)=(0:Int)∧ [(0:Int),(0:Int),(0:Int),(0:
 Int),(0:Int),(0:Int),(0:Int),(0:Int)]=List.replicate (8:Nat) (0:Int)) (End.leaf (LV.one (VV.agg [SV.arr (Ty.int IntKind.u64) (8:
 Nat) (g b)])) []):=by kernel_rfl
theorem Zx:aoX.Ok Tryz.prog 87:=by
 refine (ao.bf Tryz.call87 fun x_ y_ Q H_=>?_).sym
 obtain ⟨b,_⟩:=x_
 obtain ⟨hn,hq⟩:=H_
 have hn:aB b∧b.length≤64:=hn
 refine (ay mixed aF Tryz.func87 rfl (LT:=alr uJ) (ks:= [.fr [.sym],.kJ 0 0 8 .u64,.auto]) (aQ.cO (nx rfl (cP (hp:= []) adO) pc))).use (D:= []) ?_ hq
 show (aS _ _ _ _ (bA.wr (b,())) [] _).sat _
 rw[Zw]
 exact ⟨⟨hn.1,hn.2,rfl,rfl,rfl⟩,rfl,rfl⟩
noncomputable abbrev adP:Func:=Tryz.f125
abbrev byC:ba (List LV) (Int×Unit):=(jk 1 (aj (ai (aP 0 0)) (aj (ai (aP 1 0)) (aj (ai (aP 2 0)) (jk 1 (ae (ai (ax .i64)) (jk 15 ag)))))))
abbrev alu:Wk:= .fr (dA 21 [(1,.aq),(2,.aq),(3,.aq),(5,.sym)])
abbrev byX:ba (List LV) (Unit):=(jk 2 (aj (ai (aP 1 0)) (aj (ai (aP 2 0)) (jk 17 ag))))
abbrev aoZ:Wk:= .fr (dA 21 [(2,.aq),(3,.aq)])
abbrev byH:ba Hp (List Int×List Int×List Int×Unit):=ae iW (ae iB (ae iB ag))
def byW:Exit→List Wk
 | .normal=> [alu,gY 0,.iP 1 0 32 .u8,.iP 2 0 32 .u8,.auto]
 | .exit 0=> [aoZ,gY 0,.iP 1 0 32 .u8,.iP 2 0 32 .u8]
 |_=> []
theorem ahS (i:Int) (w r o:List Int):dR Tryz.prog [] [] adP 0 [] byW ((bG byC byH).wr ((i,()),(w,r,o,())))=
 aU.ite (decide (i<(32:Int))) (aU.need ((0:Int)≤IntKind.i64.wrap (i.tdiv (8:Int))∧IntKind.i64.wrap (i.tdiv (8:Int))<(8:Int))
 (aU.need ((0:Int)≤IntKind.i64.wrap (i.tmod (8:Int)*(8:Int))) (aU.need ((0:Int)≤i∧i<(32:Int)) (aU.leaf Exit.normal ((bG byC
 byH).wr ((IntKind.i64.wrap (i+(1:Int)),PUnit.unit),w,r,o.set ((0:Nat)+i.toNat) (IntKind.u8.wrap (shr IntKind.u64 ((List.take (8:Nat)
 (List.drop (0:Nat) w)).getD (IntKind.i64.wrap (i.tdiv (8:Int))).toNat (0:Int)) (IntKind.i64.wrap (i.tmod (8:Int)*(8:Int))))),
 PUnit.unit)))))) (aU.leaf (Exit.exit (0:Nat)) ((bG byX byH).wr (PUnit.unit,w,r,o,PUnit.unit))):=by kernel_rfl
def alv (g:List Int→List Int) (x:(Int×Unit)×List Int×List Int×List Int×Unit):aU:= .need (x.1.1=0∧okW x.2.1∧x.2.2.2.1.length=32) (.leaf (.exit 0) ((bG byX byH).wr ((),(x.2.1,x.2.2.1,g x.2.1,()))))
theorem adQ (x):Ex Tryz.prog [] (.loop (aW adP 0)) ((bG byC byH).wr x) (alv vX x):=by
 obtain ⟨⟨i,_⟩,w,r,o,_⟩:=x
 refine Ex.need fun ⟨h1,h2,h3⟩=>?_
 simp only at h1 h2 h3
 subst h1
 have key:=gL (fn:=adP) (id:=0) (j:=0) (ws:=byW) (hp:= []) mixed aF (aQ.nil _) 32 (fun k o=>(bG byC byH).wr (((k:Int),()),(w,r,o,()))) (fun o=>(bG byX byH).wr ((),(w,r,o,()))) (fun k o=>o.set k (vd qq w/256 ^ k%256)) (fun _ _=>True)
  (fun k o R hk _ hn hx=>?_) (fun _ _ _ _=>trivial) 0 o (by omega) trivial
 ·rw[Nat.sub_zero,QQ (fun k=>vd qq w/256 ^ k%256) h3,ahP (by decide)] at key;exact key
 rw[ahS]
 refine ⟨fun hb=>?_,fun hb=>?_⟩
 ·have na:k<32:=by have:=of_decide_eq_true hb;omega
  have e1:IntKind.i64.wrap ((k:Int).tdiv 8)=((k/8:Nat):Int):=jK k 8 (by omega)
  rw[e1,afw,CI h2,Int.toNat_natCast,Int.toNat_natCast,Nat.zero_add,Zp h2.2 h2.1 (by omega),dS k (by omega)]
  exact ⟨by omega,by omega,by omega,hn na⟩
 ·have:k=32:=by have:=of_decide_eq_false hb;omega
  exact hx this
noncomputable abbrev alw (g:List Int→List Int):fk:= [(0,fI (bG byC byH) 0 [alu,gY 0,.iP 1 0 32 .u8,.iP 2 0 32 .u8,.auto] (alv g))]
noncomputable abbrev adR:ao:=eWB vX
theorem Jp (g:List Int→List Int) (w:List Int):aS Tryz.prog [] (alw g) adP (wA.wr (w,())) [] kR=
 End.need ((0:Int)=(0:Int)∧okW w∧(32:Nat)=(32:Nat)) (End.leaf (LV.one (VV.agg [SV.arr (Ty.int IntKind.u8) (32:Nat) (g w)])) []):=by kernel_rfl
theorem Td:adR.Ok Tryz.prog 125:=by
 refine (ao.bf Tryz.call125 fun x_ y_ Q H_=>?_).sym
 obtain ⟨w,_⟩:=x_
 obtain ⟨hn,hq⟩:=H_
 have hn:okW w:=hn
 refine (ay mixed aF Tryz.func125 rfl (LT:=alw vX) (ks:=kR) (aQ.cO (nx rfl (cP (hp:= []) adQ) pc))).use (D:= []) ?_ hq
 show (aS _ _ _ _ (wA.wr (w,())) [] _).sat _
 rw[Jp]
 exact ⟨⟨rfl,hn,rfl⟩,rfl,rfl⟩
noncomputable abbrev leFn:Func:=Tryz.f123
abbrev leC:ba (List LV) (Int×Int×Unit):=(jk 2 (aj (ai (aP 0 0)) (aj (ai (aP 1 0)) (aj (ai (aP 2 0)) (jk 1 (ae (ai (ax .u64)) (jk 1 (ae (ai (ax .i64)) (jk 18 ag)))))))))
abbrev aly:Wk:= .fr (dA 27 [(2,.aq),(3,.aq),(4,.aq),(6,.sym),(8,.sym)])
abbrev leX:ba (List LV) (Int×Unit):=(jk 2 (aj (ai (aP 0 0)) (jk 1 (aj (ai (aP 2 0)) (jk 1 (ae (ai (ax .u64)) (jk 20 ag)))))))
abbrev ao1:Wk:= .fr (dA 27 [(2,.aq),(4,.aq),(6,.sym)])
abbrev JY:ba Hp (List Int×List Int×List Int×Unit):=ae iW (ae iW (ae iW ag))
def leW:Exit→List Wk
 | .normal=> [aly,gY 0,gY 1,gY 2,.auto]
 | .exit 0=> [ao1,gY 0,gY 1,gY 2]
 |_=> []
theorem ahT (sb:Int→Int→Int→Int×Int) (c i:Int) (w x r:List Int):dR Tryz.prog [(160,(ky sb).sym)] [] leFn 0 [] leW ((bG leC JY).wr ((c,i,()),(w,x,r,())))=
 aU.ite (decide (i<(8:Int))) (aU.need ((0:Int)≤i∧i<(8:Int)) (aU.need ((0:Int)≤i∧i<(8:Int)) (aU.need ((0:Int)≤c∧c≤(1
 :Int)) (aU.need ((0:Int)≤i∧i<(8:Int)) (aU.leaf Exit.normal ((bG leC JY).wr (((sb ((List.take (8:Nat) (List.drop (0:Nat) w)).getD
 i.toNat (0:Int)) ((List.take (8:Nat) (List.drop (0:Nat) x)).getD i.toNat (0:Int)) c).snd,IntKind.i64.wrap (i+(1:Int)),PUnit.unit),w.set
 ((0:Nat)+i.toNat) (sb ((List.take (8:Nat) (List.drop (0:Nat) w)).getD i.toNat (0:Int)) ((List.take (8:Nat) (List.drop (0:Nat) x)).getD
 i.toNat (0:Int)) c).fst,x,r,PUnit.unit))))))) (aU.leaf (Exit.exit (0:Nat)) ((bG leX JY).wr ((c,PUnit.unit),w,x,r,PUnit.unit))):=by kernel_rfl
def alz (g:List Int→List Int→List Int×Int) (x:(Int×Int×Unit)×List Int×List Int×List Int×Unit):aU:= .need (x.1.1=0∧x.1.2.1=0∧okW x.2.1∧okW x.2.2.1) (.leaf (.exit 0) ((bG leX JY).wr (((g x.2.1 x.2.2.1).2,()),((g x.2.1 x.2.2.1).1,x.2.2.1,x.2.2.2.1,()))))
abbrev ahU:ao:=(ky lP).sym
theorem Zy:ahU.Ok Tryz.prog 160:=(MH Tryz.func160 (by kernel_rfl) (by kernel_rfl) (by kernel_rfl) (by kernel_rfl) rfl).sym
theorem Jq: ∀ p∈ [(160,(ky lP).sym)],p.2.Ok Tryz.prog p.1:=ak Zy aF
theorem adS (x):Ex Tryz.prog [] (.loop (aW leFn 0)) ((bG leC JY).wr x) (alz jn x):=by
 obtain ⟨⟨c,i,_⟩,w,x,r,_⟩:=x
 refine Ex.need fun ⟨h1,h2,h3,h4⟩=>?_
 simp only at h1 h2 h3 h4
 subst h1 h2
 have key:=gL (fn:=leFn) (id:=0) (j:=0) (ws:=leW) (hp:= []) mixed Jq (aQ.nil _) 8 (fun k (o:List Int×Int)=>(bG leC JY).wr ((o.2,(k:Int),()),(o.1,x,r,()))) (fun (o:List Int×Int)=>(bG leX JY).wr ((o.2,()),(o.1,x,r,()))) (CE lP x) (P3 w x)
  (fun k o R hk hi hn hx=>?_) (fun k o hk hi=>CF h3.2 h4.2 h3.1 h4.1 hk hi) 0 (w,0) (by omega) ⟨⟨h3.1,h3.2,fun _ _=>rfl⟩,.inl rfl,by simp[vd]⟩
 ·rw[Nat.sub_zero,Zq h3.2 h4.2 h3.1 h4.1] at key;exact key
 rw[ahT lP]
 refine ⟨fun hb=>?_,fun hb=>?_⟩
 ·have na:k<8:=by have:=of_decide_eq_true hb;omega
  rw[bN hi.1.len,CI h4,Int.toNat_natCast,Nat.zero_add,dS k (by omega)]
  exact ⟨by omega,by omega,(by rcases hi.2.1 with e|e<;>rw[e]<;>decide),by omega,hn na⟩
 ·have:k=8:=by have:=of_decide_eq_false hb;omega
  exact hx this
noncomputable abbrev alA (g:List Int→List Int→List Int×Int):fk:= [(0,fI (bG leC JY) 0 [aly,gY 0,gY 1,gY 2,.auto] (alz g))]
noncomputable abbrev ahV:ao:=afu jn
theorem Nw (sb:Int→Int→Int→Int×Int) (g:List Int→List Int→List Int×Int) (w x:List Int):aS Tryz.prog [(160,(ky sb).sym)] (alA g) leFn (w2A.wr (w,x,())) [] [.fr [.sym],.kJ 0 0 8 .u64,.auto]=
 End.need ((0:Int)=(0:Int)∧(0:Int)=(0:Int)∧okW w∧okW x) (End.leaf (LV.cD [VV.agg [SV.arr (Ty.int IntKind.u64) (8:Nat) (g w x).fst],
 VV.sc (SV.int IntKind.u64 (SI.sym (g w x).snd))]) []):=by kernel_rfl
theorem Zz:ahV.Ok Tryz.prog 123:=by
 refine (ao.bf Tryz.call123 fun x_ y_ Q H_=>?_).sym
 obtain ⟨w,x,_⟩:=x_
 obtain ⟨hn,hq⟩:=H_
 have hn:okW w∧okW x:=hn
 refine (ay mixed Jq Tryz.func123 rfl (LT:=alA jn) (ks:= [.fr [.sym],.kJ 0 0 8 .u64,.auto]) (aQ.cO (nx rfl (cP (hp:= []) adS) pc))).use (D:= []) ?_ hq
 show (aS _ _ _ _ (w2A.wr (w,x,())) [] _).sat _
 rw[Nw lP]
 exact ⟨⟨rfl,rfl,hn.1,hn.2⟩,rfl,rfl⟩
noncomputable abbrev adT:Func:=Tryz.f95
abbrev anC:ba (List LV) (Int×Int×Unit):=(jk 2 (aj (ai (aP 0 0)) (aj (ai (aP 1 0)) (aj (ai (aP 2 0)) (ae (ai (ax .u64)) (jk 1 (ae (ai (ax .i64)) (jk 17 ag))))))))
abbrev alC:Wk:= .fr (dA 25 [(2,.aq),(3,.aq),(4,.aq),(5,.sym),(7,.sym)])
abbrev anX:ba (List LV) (Unit):=(jk 2 (aj (ai (aP 0 0)) (jk 1 (aj (ai (aP 2 0)) (jk 20 ag)))))
abbrev ao3:Wk:= .fr (dA 25 [(2,.aq),(4,.aq)])
def anW:Exit→List Wk
 | .normal=> [alC,gY 0,gY 1,gY 2,.auto]
 | .exit 0=> [ao3,gY 0,gY 1,gY 2]
 |_=> []
theorem ahW (ad:Int→Int→Int→Int×Int) (c i:Int) (w x r:List Int):dR Tryz.prog [(138,(ky ad).sym)] [] adT 0 [] anW ((bG anC JY).wr ((c,i,()),(w,x,r,())))=
 aU.ite (decide (i<(8:Int))) (aU.need ((0:Int)≤i∧i<(8:Int)) (aU.need ((0:Int)≤i∧i<(8:Int)) (aU.need ((0:Int)≤c∧c≤(1
 :Int)) (aU.need ((0:Int)≤i∧i<(8:Int)) (aU.leaf Exit.normal ((bG anC JY).wr (((ad ((List.take (8:Nat) (List.drop (0:Nat) w)).getD
 i.toNat (0:Int)) ((List.take (8:Nat) (List.drop (0:Nat) x)).getD i.toNat (0:Int)) c).snd,IntKind.i64.wrap (i+(1:Int)),PUnit.unit),w.set
 ((0:Nat)+i.toNat) (ad ((List.take (8:Nat) (List.drop (0:Nat) w)).getD i.toNat (0:Int)) ((List.take (8:Nat) (List.drop (0:Nat) x)).getD
 i.toNat (0:Int)) c).fst,x,r,PUnit.unit))))))) (aU.leaf (Exit.exit (0:Nat)) ((bG anX JY).wr (PUnit.unit,w,x,r,PUnit.unit))):=by kernel_rfl
def alD (g:List Int→List Int→List Int) (x:(Int×Int×Unit)×List Int×List Int×List Int×Unit):aU:= .need (x.1.1=0∧x.1.2.1=0∧okW x.2.1∧okW x.2.2.1) (.leaf (.exit 0) ((bG anX JY).wr ((),(g x.2.1 x.2.2.1,x.2.2.1,x.2.2.2.1,()))))
theorem Jr: ∀ p∈ [(138,(ky bg).sym)],p.2.Ok Tryz.prog p.1:=ak Aq aF
theorem adU (x):Ex Tryz.prog [] (.loop (aW adT 0)) ((bG anC JY).wr x) (alD jb x):=by
 obtain ⟨⟨c,i,_⟩,w,x,r,_⟩:=x
 refine Ex.need fun ⟨h1,h2,h3,h4⟩=>?_
 simp only at h1 h2 h3 h4
 subst h1 h2
 have key:=gL (fn:=adT) (id:=0) (j:=0) (ws:=anW) (hp:= []) mixed Jr (aQ.nil _) 8 (fun k (o:List Int×Int)=>(bG anC JY).wr ((o.2,(k:Int),()),(o.1,x,r,()))) (fun (o:List Int×Int)=>(bG anX JY).wr ((),(o.1,x,r,()))) (CG bg x) (adF w x)
  (fun k o R hk hi hn hx=>?_) (fun k o hk hi=>Jk h3.2 h4.2 h3.1 h4.1 hk hi) 0 (w,0) (by omega) ⟨⟨h3.1,h3.2,fun _ _=>rfl⟩,.inl rfl,by simp[vd]⟩
 ·rw[Nat.sub_zero,adG h3.2 h4.2 h3.1 h4.1] at key;exact key
 rw[ahW bg]
 refine ⟨fun hb=>?_,fun hb=>?_⟩
 ·have na:k<8:=by have:=of_decide_eq_true hb;omega
  rw[bN hi.1.len,CI h4,Int.toNat_natCast,Nat.zero_add,dS k (by omega)]
  exact ⟨by omega,by omega,(by rcases hi.2.1 with e|e<;>rw[e]<;>decide),by omega,hn na⟩
 ·have:k=8:=by have:=of_decide_eq_false hb;omega
  exact hx this
noncomputable abbrev alE (g:List Int→List Int→List Int):fk:= [(0,fI (bG anC JY) 0 [alC,gY 0,gY 1,gY 2,.auto] (alD g))]
noncomputable abbrev alF:ao:=eWW jb
theorem Te (ad:Int→Int→Int→Int×Int) (g:List Int→List Int→List Int) (w x:List Int):aS Tryz.prog [(138,(ky ad).sym)] (alE g) adT (w2A.wr (w,x,())) [] [.fr [.sym],.kJ 0 0 8 .u64,.auto]=
 End.need ((0:Int)=(0:Int)∧(0:Int)=(0:Int)∧okW w∧okW x) (End.leaf (LV.one (VV.agg [SV.arr (Ty.int IntKind.u64) (8:Nat) (g w x)]))
 []):=by kernel_rfl
theorem P6:alF.Ok Tryz.prog 95:=by
 refine (ao.bf Tryz.call95 fun x_ y_ Q H_=>?_).sym
 obtain ⟨w,x,_⟩:=x_
 obtain ⟨hn,hq⟩:=H_
 have hn:okW w∧okW x:=hn
 refine (ay mixed Jr Tryz.func95 rfl (LT:=alE jb) (ks:= [.fr [.sym],.kJ 0 0 8 .u64,.auto]) (aQ.cO (nx rfl (cP (hp:= []) adU) pc))).use (D:= []) ?_ hq
 show (aS _ _ _ _ (w2A.wr (w,x,())) [] _).sat _
 rw[Te bg]
 exact ⟨⟨rfl,rfl,hn.1,hn.2⟩,rfl,rfl⟩
noncomputable abbrev ahX:ao:=aln mW
theorem Nx (w:List Int) (i:Int):aS Tryz.prog [] [] Tryz.f122 (wiA.wr (w,i,())) [] kK=
 End.need ((0:Int)≤IntKind.i64.wrap (i.tdiv (64:Int))∧IntKind.i64.wrap (i.tdiv (64:Int))<(8:Int)) (End.need ((0:Int)≤i.tmod (64:
 Int)) (End.leaf (LV.one (VV.sc (SV.int IntKind.u64 (SI.sym (bp IntKind.u64 (shr IntKind.u64 ((List.take (8:Nat) (List.drop (0:Nat) w)).getD
 (IntKind.i64.wrap (i.tdiv (64:Int))).toNat (0:Int)) (i.tmod (64:Int))) (1:Int)))))) [])):=by kernel_rfl
theorem ZA:ahX.Ok Tryz.prog 122:=by
 refine (ao.bf Tryz.call122 fun x_ y_ Q H_=>?_).sym
 obtain ⟨w,i,_⟩:=x_
 obtain ⟨hn,hq⟩:=H_
 have hn:okW w∧0≤i∧i<512:=hn
 refine (ay mixed aF Tryz.func122 rfl (LT:= []) (ks:=kK) (aQ.nil _)).use (D:= []) ?_ hq
 show (aS _ _ _ _ (wiA.wr (w,i,())) [] _).sat _
 rw[Nx]
 obtain ⟨hw,h0,h1⟩:=hn
 obtain ⟨k,rfl⟩:=Int.eq_ofNat_of_zero_le h0
 have hk:k<512:=by omega
 have e1:IntKind.i64.wrap ((k:Int).tdiv 64)=((k/64:Nat):Int):=jK k 64 (by omega)
 rw[e1,show (k:Int).tmod 64=((k%64:Nat):Int) from afr k 64,CI hw,Int.toNat_natCast,S9 hw.2 hw.1 hk]
 exact ⟨by omega,by omega,rfl,rfl⟩
noncomputable abbrev adV:ao:=e0W gd
theorem Js:aS Tryz.prog [] [] Tryz.f124 [] [] [.fr [.sym],.kJ 0 0 8 .u64,.auto]= .leaf (iq .u64 8 gd) []:=by kernel_rfl
theorem Tf:adV.Ok Tryz.prog 124:=by
 refine (ao.bf Tryz.call124 fun x_ y_ Q H_=>?_).sym
 refine (ay mixed aF Tryz.func124 rfl (LT:= []) (ks:= [.fr [.sym],.kJ 0 0 8 .u64,.auto]) (aQ.nil _)).use (D:= []) ?_ H_.2
 show (aS _ _ _ _ [] [] _).sat _
 rw[Js]
 exact ⟨rfl,rfl⟩
noncomputable abbrev adW:Func:=Tryz.f88
abbrev reC:ba (List LV) (Int×Unit):=(jk 1 (aj (ai (aP 0 0)) (aj (ai (aP 1 0)) (aj (ai (aP 2 0)) (ae (ai (ax .i64)) (jk 27 ag))))))
abbrev alG:Wk:= .fr (dA 32 [(1,.aq),(2,.aq),(3,.aq),(4,.sym)])
abbrev reX:ba (List LV) (Unit):=(jk 2 (aj (ai (aP 1 0)) (aj (ai (aP 2 0)) (jk 28 ag))))
abbrev ao5:Wk:= .fr (dA 32 [(2,.aq),(3,.aq)])
abbrev reH:ba Hp (List Int×List Int×List Int×Unit):=ae iW (ae iB (ae iW ag))
def reW:Exit→List Wk
 | .normal=> [alG,gY 0,.iP 1 0 32 .u8,gY 2,.auto]
 | .exit 0=> [ao5,gY 0,.iP 1 0 32 .u8,gY 2]
 |_=> []
noncomputable abbrev ZB (and:List Int→List Int→List Int) (less:List Int→List Int→List Int×Int) (bit:List Int→Int→Int) (o:List Int):List (FuncId×ao):= [(95,eWW and),(122,aln bit),(123,afu less),(124,e0W o)]
theorem ahY (and:List Int→List Int→List Int) (less:List Int→List Int→List Int×Int) (bit:List Int→Int→Int) (o:List Int) (i:Int) (w b r:List Int):dR Tryz.prog (ZB and less bit o) [] adW 0 [] reW ((bG reC reH).wr ((i,()),(w,b,r,())))=
 aU.ite (decide ((0:Int)≤i)) (aU.need (okW r∧okW r) (aU.need (okW w∧(0:Int)≤i∧i<(512:Int)) (aU.need (okW ((and r r).set (0:Nat)
 (bm IntKind.u64 ((and r r).getD (0:Nat) (0:Int)) (bit w i)))∧okW o) (aU.ite ((less ((and r r).set (0:Nat) (bm IntKind.u64 ((and r
 r).getD (0:Nat) (0:Int)) (bit w i))) o).snd==(0:Int)) (aU.leaf Exit.normal ((bG reC reH).wr ((IntKind.i64.wrap (i-(1:Int)),PUnit.unit),
 w,b,(less ((and r r).set (0:Nat) (bm IntKind.u64 ((and r r).getD (0:Nat) (0:Int)) (bit w i))) o).fst,PUnit.unit))) (aU.leaf Exit.normal
 ((bG reC reH).wr ((IntKind.i64.wrap (i-(1:Int)),PUnit.unit),w,b,(and r r).set (0:Nat) (bm IntKind.u64 ((and r r).getD (0:Nat) (0:
 Int)) (bit w i)),PUnit.unit))))))) (aU.leaf (Exit.exit (0:Nat)) ((bG reX reH).wr (PUnit.unit,w,b,r,PUnit.unit))):=by kernel_rfl
theorem Jt: ∀ p∈ZB jb jn mW gd,p.2.Ok Tryz.prog p.1:=ak P6 (ak ZA (ak Zz (ak Tf aF)))
def alH (g:List Int→List Int) (x:(Int×Unit)×List Int×List Int×List Int×Unit):aU:= .need (x.1.1=511∧okW x.2.1∧x.2.2.2.1=List.replicate 8 0) (.leaf (.exit 0) ((bG reX reH).wr ((),(x.2.1,x.2.2.1,g x.2.1,()))))
noncomputable def Ju (w:List Int):List Int:=dg qq 8 (vd qq w%ll)
noncomputable def fQ (V:Int) (k:Nat):List Int:=dg qq 8 (V/2 ^ (512-k)%ll)
theorem Tg (V:Int) (k:Nat) (hk:k<512) (b:Int) (hb:0≤b∧b<2):okW (fQ V k)∧okW (kX (jb (fQ V k) (fQ V k)) b):=by
 refine ⟨⟨cf _ _,nm bn _ _⟩,?_⟩
 have hR:0≤V/2 ^ (512-k)%ll∧V/2 ^ (512-k)%ll<ll:=⟨Int.emod_nonneg _ (by have:=kW;omega),Int.emod_lt_of_pos _ kW⟩
 have es:jb (fQ V k) (fQ V k)=dg qq 8 (V/2 ^ (512-k)%ll+V/2 ^ (512-k)%ll):=by
  unfold jb fQ
  rw[lV bn,Int.emod_eq_of_lt hR.1 (Int.lt_of_lt_of_le (Int.lt_trans (by omega) Jl) qq8)]
 rw[es,P4 hR hb]
 exact ⟨cf _ _,nm bn _ _⟩
theorem adY (x):Ex Tryz.prog [] (.loop (aW adW 0)) ((bG reC reH).wr x) (alH Ju x):=by
 obtain ⟨⟨i,_⟩,w,b,r,_⟩:=x
 refine Ex.need fun ⟨h1,h2,h3⟩=>?_
 simp only at h1 h2 h3
 subst h1 h3
 have hw0:=ff bn h2.2
 have hw1:=qv bn h2.2
 rw[h2.1] at hw1
 have key:=gL (fn:=adW) (id:=0) (j:=0) (ws:=reW) (hp:= []) mixed Jt (aQ.nil _) 512 (fun k (_:Unit)=>(bG reC reH).wr ((511-(k:Int),()),(w,b,fQ (vd qq w) k,()))) (fun _=>(bG reX reH).wr ((),(w,b,Ju w,()))) (fun _ u=>u) (fun _ _=>True)
  (fun k o R hk _ hn hx=>?_) (fun _ _ _ _=>trivial) 0 () (by omega) trivial
 ·have e:fQ (vd qq w) 0=List.replicate 8 0:=by
   unfold fQ
   have e:qq ^ 8=2 ^ 512:=by decide+kernel
   rw[Nat.sub_zero,Int.ediv_eq_zero_of_lt hw0 (by rw[← e];exact hw1),Int.zero_emod,P2 bn]
  rw[e] at key;exact key
 rw[ahY]
 refine ⟨fun hb=>?_,fun hb=>?_⟩
 ·have na:k<512:=by have:=of_decide_eq_true hb;omega
  have e3:IntKind.i64.wrap ((511-(k:Int))-1)=511-((k+1:Nat):Int):=by rw[ar (by omega) (by omega)];omega
  obtain ⟨g1,g2⟩:=Tg (vd qq w) k na (mW w (511-(k:Int))) (adH _ _)
  have hs:Nv jb jn mW gd w k (fQ (vd qq w) k)=fQ (vd qq w) (k+1):=Zs rfl na
  have yh:=hn na
  rw[e3]
  refine ⟨⟨g1,g1⟩,⟨h2,by omega,by omega⟩,⟨g2,Zr⟩,fun hc=>?_,fun hc=>?_⟩
  ·have:Nv jb jn mW gd w k (fQ (vd qq w) k)=(jn (kX (jb (fQ (vd qq w) k) (fQ (vd qq w) k)) (mW w (511-(k:Int)))) gd).1:=by
    have qD:((jn (kX (jb (fQ (vd qq w) k) (fQ (vd qq w) k)) (mW w (511-(k:Int)))) gd).2==0)=true:=hc
    unfold Nv;rw[qD];rfl
   rw[← hs,this] at yh;exact yh
  ·have:Nv jb jn mW gd w k (fQ (vd qq w) k)=kX (jb (fQ (vd qq w) k) (fQ (vd qq w) k)) (mW w (511-(k:Int))):=by
    have qD:((jn (kX (jb (fQ (vd qq w) k) (fQ (vd qq w) k)) (mW w (511-(k:Int)))) gd).2==0)=false:=hc
    unfold Nv;rw[qD];rfl
   rw[← hs,this] at yh;exact yh
 ·have:k=512:=by have:=of_decide_eq_false hb;omega
  subst this
  have:=hx rfl
  have e:fQ (vd qq w) 512=Ju w:=by unfold fQ Ju;rw[Nat.sub_self,Int.pow_zero,Int.ediv_one]
  rw[e];exact this
noncomputable abbrev alI (g:List Int→List Int):fk:= [(0,fI (bG reC reH) 0 [alG,gY 0,.iP 1 0 32 .u8,gY 2,.auto] (alH g))]
noncomputable abbrev alJ:ao:=eWB vY
noncomputable abbrev ZC (and:List Int→List Int→List Int) (less:List Int→List Int→List Int×Int) (bit:List Int→Int→Int) (o:List Int) (byt:List Int→List Int):List (FuncId×ao):=(125,eWB byt)::ZB and less bit o
theorem Th: ∀ p∈ZC jb jn mW gd vX,p.2.Ok Tryz.prog p.1:=ak Td Jt
theorem Ti (and:List Int→List Int→List Int) (less:List Int→List Int→List Int×Int) (bit:List Int→Int→Int) (o:List Int) (byt:List Int→List Int) (g:List Int→List Int) (w:List Int):aS Tryz.prog (ZC and less bit o byt) (alI g) adW (wA.wr (w,())) [] kR=
 End.need ((511:Int)=(511:Int)∧okW w∧ [(0:Int),(0:Int),(0:Int),(0:Int),(0:Int),(0:Int),(0:Int),(0:Int)]=List.replicate
 (8:Nat) (0:Int)) (End.need (okW (g w)) (End.leaf (LV.one (VV.agg [SV.arr (Ty.int IntKind.u8) (32:Nat) (byt (g w))])) [])):=by kernel_rfl
theorem adZ (w:List Int):okW (Ju w):=⟨cf _ _,nm bn _ _⟩
theorem ahZ (w:List Int):vX (Ju w)=vY w:=by
 unfold vX vY Ju
 rw[lV bn,Int.emod_eq_of_lt (Int.emod_nonneg _ (by have:=kW;omega)) (Int.lt_of_lt_of_le (Int.lt_trans (Int.emod_lt_of_pos _ kW) (by have:=Jl;have:=kW;omega)) qq8)]
theorem P7:alJ.Ok Tryz.prog 88:=by
 refine (ao.bf Tryz.call88 fun x_ y_ Q H_=>?_).sym
 obtain ⟨w,_⟩:=x_
 obtain ⟨hn,hq⟩:=H_
 have hn:okW w:=hn
 refine (ay mixed Th Tryz.func88 rfl (LT:=alI Ju) (ks:=kR) (aQ.cO (nx rfl (cP (hp:= []) adY) pc))).use (D:= []) ?_ hq
 show (aS _ _ _ _ (wA.wr (w,())) [] _).sat _
 rw[Ti]
 refine ⟨⟨rfl,hn,rfl⟩,adZ w,?_,rfl⟩
 rw[ahZ]
end Go.Proofs.YtjalaohajcpllaaGreat
end
section
set_option linter.unusedVariables false
set_option linter.unusedSimpArgs false
namespace Go.Proofs.YtjalaohajcpllaaGreat
open Go Go.Ev BJ
set_option maxRecDepth 1000000
noncomputable abbrev FH:Func:=Tryz.f94
abbrev tjC:ba (List LV) (Int×Int×Int×Int×Unit):=(jk 2 (aj (ai (aP 0 0)) (aj (ai (aP 1 0)) (aj (ai (aP 2 0)) (aj (ai (aP 3 0)) (ae (ai (ax .i64)) (ae (ai (ax .u64)) (jk 4 (ae (ai (ax .i64)) (jk 2 (ae (ai (ax .i64)) (jk 45 ag))))))))))))
abbrev alL:Wk:= .fr (dA 61 [(2,.aq),(3,.aq),(4,.aq),(5,.aq),(6,.sym),(7,.sym),(12,.sym),(15,.sym)])
abbrev tjX:ba (List LV) (Int×Int×Int×Unit):=(jk 2 (aj (ai (aP 0 0)) (aj (ai (aP 1 0)) (aj (ai (aP 2 0)) (aj (ai (aP 3 0)) (ae (ai (ax .i64)) (ae (ai (ax .u64)) (jk 4 (ae (ai (ax .i64)) (jk 48 ag))))))))))
abbrev ao7:Wk:= .fr (dA 61 [(2,.aq),(3,.aq),(4,.aq),(5,.aq),(6,.sym),(7,.sym),(12,.sym)])
abbrev tiC:ba (List LV) (Int×Unit):=(jk 2 (aj (ai (aP 0 0)) (aj (ai (aP 1 0)) (aj (ai (aP 2 0)) (aj (ai (aP 3 0)) (jk 6 (ae (ai (ax .i64)) (jk 48 ag))))))))
abbrev alN:Wk:= .fr (dA 61 [(2,.aq),(3,.aq),(4,.aq),(5,.aq),(12,.sym)])
abbrev tiX:ba (List LV) (Unit):=(jk 4 (aj (ai (aP 2 0)) (aj (ai (aP 3 0)) (jk 55 ag))))
abbrev ao9:Wk:= .fr (dA 61 [(4,.aq),(5,.aq)])
abbrev JZ:ba Hp (List Int×List Int×List Int×List Int×Unit):=ae iW (ae iW (ae iW (ae iW ag)))
def tjW:Exit→List Wk
 | .normal=> [alL,gY 0,gY 1,gY 2,gY 3,.auto]
 | .exit 2=> [ao7,gY 0,gY 1,gY 2,gY 3,.auto]
 |_=> []
def ah0 (mu:Int→Int→Int×Int):ao:=ao.bS [] (ae (ai (ax .u64)) (ae (ai (ax .u64)) ag)) ag fun x _=> .leaf none (.cD [.sc (.int .u64 (.sym (mu x.1 x.2.1).1)),.sc (.int .u64 (.sym (mu x.1 x.2.1).2))]) []
noncomputable abbrev P8 (ad:Int→Int→Int→Int×Int) (mu:Int→Int→Int×Int):List (FuncId×ao):= [(138,(ky ad).sym),(137,ah0 mu)]
theorem ah1 (ad:Int→Int→Int→Int×Int) (mu:Int→Int→Int×Int) (u c i j:Int) (a b r o:List Int):dR Tryz.prog (P8 ad mu) [] FH 2 [] tjW ((bG tjC JZ).wr ((u,c,i,j,()),(a,b,r,o,())))=
 aU.ite (decide (j<(4:Int))) (aU.need ((0:Int)≤u∧u<(8:Int)) (aU.need ((0:Int)≤j∧j<(8:Int)) (aU.need ((0:Int)≤(0:Int)∧
 (0:Int)≤(1:Int)) (aU.need ((0:Int)≤IntKind.i64.wrap (u+j)∧IntKind.i64.wrap (u+j)<(8:Int)) (aU.need ((0:Int)≤(0:Int)∧(0:
 Int)≤(1:Int)) (aU.need ((0:Int)≤IntKind.i64.wrap (u+j)∧IntKind.i64.wrap (u+j)<(8:Int)) (aU.leaf Exit.normal ((bG tjC JZ).wr ((u,
 IntKind.u64.wrap (IntKind.u64.wrap ((mu ((List.take (8:Nat) (List.drop (0:Nat) a)).getD u.toNat (0:Int)) ((List.take (8:Nat) (List.drop (0:
 Nat) b)).getD j.toNat (0:Int))).fst+(ad (mu ((List.take (8:Nat) (List.drop (0:Nat) a)).getD u.toNat (0:Int)) ((List.take (8:Nat) (List.drop
 (0:Nat) b)).getD j.toNat (0:Int))).snd c (0:Int)).snd)+(ad ((List.take (8:Nat) (List.drop (0:Nat) o)).getD (IntKind.i64.wrap (u+j)).toNat
 (0:Int)) (ad (mu ((List.take (8:Nat) (List.drop (0:Nat) a)).getD u.toNat (0:Int)) ((List.take (8:Nat) (List.drop (0:Nat) b)).getD j.toNat
 (0:Int))).snd c (0:Int)).fst (0:Int)).snd),i,IntKind.i64.wrap (j+(1:Int)),PUnit.unit),a,b,r,o.set ((0:Nat)+(IntKind.i64.wrap (u+
 j)).toNat) (ad ((List.take (8:Nat) (List.drop (0:Nat) o)).getD (IntKind.i64.wrap (u+j)).toNat (0:Int)) (ad (mu ((List.take (8:Nat) (List.drop
 (0:Nat) a)).getD u.toNat (0:Int)) ((List.take (8:Nat) (List.drop (0:Nat) b)).getD j.toNat (0:Int))).snd c (0:Int)).fst (0:Int)).fst,
 PUnit.unit))))))))) (aU.leaf (Exit.exit (2:Nat)) ((bG tjX JZ).wr ((u,c,i,PUnit.unit),a,b,r,o,PUnit.unit))):=by kernel_rfl
theorem ZD:YN=ah0 bc:=by kernel_rfl
theorem Tj:(ah0 bc).Ok Tryz.prog 137:=ZD▸IW
theorem AI: ∀ p∈P8 bg bc,p.2.Ok Tryz.prog p.1:=ak Aq (ak Tj aF)
abbrev tjT:Type:=(Int×Int×Int×Int×Unit)×List Int×List Int×List Int×List Int×Unit
def alO (g:List Int→List Int→Int→List Int→Int×List Int) (x:tjT):aU:= .need (x.1.2.2.2.1=0∧x.1.2.1=0∧0≤x.1.1∧x.1.1<4∧okW x.2.1∧okW x.2.2.1∧okW x.2.2.2.2.1) (.leaf (.exit 2) ((bG tjX JZ).wr ((x.1.1,(g x.2.1 x.2.2.1 x.1.1 x.2.2.2.2.1).1,x.1.2.2.1,()),(x.2.1,x.2.2.1,x.2.2.2.1,(g x.2.1 x.2.2.1 x.1.1 x.2.2.2.2.1).2,()))))
noncomputable def tjG (a b:List Int) (u:Int) (o:List Int):Int×List Int:=upto (Jn bc bg a b u.toNat) 0 4 (0,o)
theorem ad0 (x:tjT):Ex Tryz.prog [] (.loop (aW FH 2)) ((bG tjC JZ).wr x) (alO tjG x):=by
 obtain ⟨⟨u,c,i,j,_⟩,a,b,r,o,_⟩:=x
 refine Ex.need fun ⟨h1,h2,h3,h4,h5,h6,h7⟩=>?_
 simp only at h1 h2 h3 h4 h5 h6 h7
 subst h1 h2
 obtain ⟨u,rfl⟩:=Int.eq_ofNat_of_zero_le h3
 have hu:u<4:=by omega
 have key:=gL (fn:=FH) (id:=2) (j:=2) (ws:=tjW) (hp:= []) mixed AI (aQ.nil _) 4 (fun k (s:Int×List Int)=>(bG tjC JZ).wr (((u:Int),s.1,i,(k:Int),()),(a,b,r,s.2,()))) (fun (s:Int×List Int)=>(bG tjX JZ).wr (((u:Int),s.1,i,()),(a,b,r,s.2,()))) (Jn bc bg a b u) (adI a b o u)
  (fun k s R hk hi hn hx=>?_) (fun k s hk hi=>CH h5.2 h6.2 h6.1 hu hk hi) 0 (0,o) (by omega) ⟨h7.1,h7.2,by unfold uI;omega,fun _ _=>rfl,by simp[vd]⟩
 ·exact key
 rw[ah1 bg bc]
 refine ⟨fun hb=>?_,fun hb=>?_⟩
 ·have na:k<4:=by have:=of_decide_eq_true hb;omega
  have e:IntKind.i64.wrap ((u:Int)+(k:Int))=((u+k:Nat):Int):=by rw[ar (by omega) (by omega)];omega
  rw[e,bN hi.len,CI h5,CI h6,Int.toNat_natCast,Int.toNat_natCast,Int.toNat_natCast,Nat.zero_add,dS k (by omega)]
  exact ⟨by omega,by omega,by decide,by omega,by decide,by omega,hn na⟩
 ·have:k=4:=by have:=of_decide_eq_false hb;omega
  exact hx this
noncomputable abbrev alP (g:List Int→List Int→Int→List Int→Int×List Int):fk:= [(2,fI (bG tjC JZ) 0 [alL,gY 0,gY 1,gY 2,gY 3,.auto] (alO g))]
def tiW:Exit→List Wk
 | .normal=> [alN,gY 0,gY 1,gY 2,gY 3,.auto]
 | .exit 0=> [ao9,gY 0,gY 1,gY 2,gY 3]
 |_=> []
theorem ah2 (g:List Int→List Int→Int→List Int→Int×List Int) (ad:Int→Int→Int→Int×Int) (mu:Int→Int→Int×Int) (i:Int) (a b r o:List Int):dR Tryz.prog (P8 ad mu) (alP g) FH 0 [] tiW ((bG tiC JZ).wr ((i,()),(a,b,r,o,())))=
 aU.ite (decide (i<(4:Int))) (aU.need ((0:Int)=(0:Int)∧(0:Int)=(0:Int)∧(0:Int)≤i∧i<(4:Int)∧okW a∧okW b∧okW o)
 (aU.need ((0:Int)≤IntKind.i64.wrap (i+(4:Int))∧IntKind.i64.wrap (i+(4:Int))<(8:Int)) (aU.leaf Exit.normal ((bG tiC JZ).wr
 ((IntKind.i64.wrap (i+(1:Int)),PUnit.unit),a,b,r,(g a b i o).snd.set ((0:Nat)+(IntKind.i64.wrap (i+(4:Int))).toNat) (g a b i o).fst,
 PUnit.unit))))) (aU.leaf (Exit.exit (0:Nat)) ((bG tiX JZ).wr (PUnit.unit,a,b,r,o,PUnit.unit))):=by kernel_rfl
abbrev tiT:Type:=(Int×Unit)×List Int×List Int×List Int×List Int×Unit
def alQ (g:List Int→List Int→List Int) (x:tiT):aU:= .need (x.1.1=0∧okW x.2.1∧okW x.2.2.1∧x.2.2.2.2.1=List.replicate 8 0) (.leaf (.exit 0) ((bG tiX JZ).wr ((),(x.2.1,x.2.2.1,x.2.2.2.1,g x.2.1 x.2.2.1,()))))
theorem ad1: ∀ p∈alP tjG,kL (fF (aJ FH) p.1)=true∧ ∀ st,Ex Tryz.prog [] (.loop (aW FH p.1)) st (p.2 st):=nx rfl (cP (hp:= []) ad0) pc
theorem ad2 (x:tiT):Ex Tryz.prog [] (.loop (aW FH 0)) ((bG tiC JZ).wr x) (alQ kY x):=by
 obtain ⟨⟨i,_⟩,a,b,r,o,_⟩:=x
 refine Ex.need fun ⟨h1,h2,h3,h4⟩=>?_
 simp only at h1 h2 h3 h4
 subst h1 h4
 have key:=gL (fn:=FH) (id:=0) (j:=0) (ws:=tiW) (hp:= []) mixed AI (aQ.inner rfl ad1) 4 (fun k (o:List Int)=>(bG tiC JZ).wr (((k:Int),()),(a,b,r,o,()))) (fun (o:List Int)=>(bG tiX JZ).wr ((),(a,b,r,o,()))) (Zu bc bg a b) (adJ a b)
  (fun k o R hk hi hn hx=>?_) (fun k o hk hi=>vZ h2.2 h3.2 h2.1 h3.1 hk hi) 0 (List.replicate 8 0) (by omega) ⟨by simp,fc.wO bn 8,fun i _=>by
  rw[List.getD_eq_getElem?_getD,List.getElem?_replicate];split<;>rfl,by rw[AH];simp[vd]⟩
 ·rw[Nat.sub_zero,Tc h2.2 h3.2 h2.1 h3.1] at key;exact key
 rw[ah2]
 refine ⟨fun hb=>?_,fun hb=>?_⟩
 ·have na:k<4:=by have:=of_decide_eq_true hb;omega
  have e:IntKind.i64.wrap ((k:Int)+4)=((k+4:Nat):Int):=by rw[ar (by omega) (by omega)];omega
  have hs:=vZ h2.2 h3.2 h2.1 h3.1 na hi
  have yh:=hn na
  rw[e,dS k (by omega),Int.toNat_natCast,Nat.zero_add]
  exact ⟨⟨rfl,rfl,by omega,by omega,h2,h3,hi.len,hi.Ta⟩,by omega,yh⟩
 ·have:k=4:=by have:=of_decide_eq_false hb;omega
  exact hx this
noncomputable abbrev alR (g:List Int→List Int→List Int):fk:= [(0,fI (bG tiC JZ) 0 [alN,gY 0,gY 1,gY 2,gY 3,.auto] (alQ g))]
noncomputable abbrev ad3:ao:=eWW kY
theorem Jv (g:List Int→List Int→List Int) (ad:Int→Int→Int→Int×Int) (mu:Int→Int→Int×Int) (w x:List Int):aS Tryz.prog (P8 ad mu) (alR g) FH (w2A.wr (w,x,())) [] [.fr [.sym],.kJ 0 0 8 .u64,.auto]=
 End.need ((0:Int)=(0:Int)∧okW w∧okW x∧ [(0:Int),(0:Int),(0:Int),(0:Int),(0:Int),(0:Int),(0:Int),(0:Int)]=
 List.replicate (8:Nat) (0:Int)) (End.leaf (LV.one (VV.agg [SV.arr (Ty.int IntKind.u64) (8:Nat) (g w x)])) []):=by kernel_rfl
theorem Tk:ad3.Ok Tryz.prog 94:=by
 refine (ao.bf Tryz.call94 fun x_ y_ Q H_=>?_).sym
 obtain ⟨w,x,_⟩:=x_
 obtain ⟨hn,hq⟩:=H_
 have hn:okW w∧okW x:=hn
 refine (ay mixed AI Tryz.func94 rfl (LT:=alR kY) (ks:= [.fr [.sym],.kJ 0 0 8 .u64,.auto]) (aQ.cO (nx rfl (cP (hp:= []) ad2) pc))).use (D:= []) ?_ hq
 show (aS _ _ _ _ (w2A.wr (w,x,())) [] _).sat _
 rw[Jv]
 exact ⟨⟨rfl,hn.1,hn.2,rfl⟩,rfl,rfl⟩
abbrev b3A:ba (List LV) (List Int×List Int×List Int×Unit):=ae cB (ae cB (ae cB ag))
abbrev ah3:ba (List LV) (List Int×Unit):=ae (KC .u8 64) ag
noncomputable def rk (b:List Int):List Int:=dg 256 32 (vd 256 b%ll)
noncomputable def xa (a b c:List Int):List Int:=dg 256 32 ((vd 256 a*vd 256 b+vd 256 c)%ll)
def Jw (g:List Int→List Int):ao:=ao.bS [] ah3 ag fun x _=> .leaf (some (x.1.length=64∧aB x.1)) (iq .u8 32 (g x.1)) []
def eB3 (g:List Int→List Int→List Int→List Int):ao:=ao.bS [] b3A ag fun x _=> .leaf (some (okB x.1∧okB x.2.1∧okB x.2.2.1)) (iq .u8 32 (g x.1 x.2.1 x.2.2.1)) []
theorem FI (b:List Int):okW (uJ b):=Zv b
theorem ad4 (w x:List Int):okW (jb w x):=⟨cf _ _,nm bn _ _⟩
theorem Tl (w x:List Int):okW (kY w x):=⟨cf _ _,nm bn _ _⟩
theorem okB.val {b:List Int} (h:okB b):vd qq (uJ b)=vd 256 b:=P5 h.2 (by rw[h.1];decide)
theorem okB.range {b:List Int} (h:okB b):0≤vd 256 b∧vd 256 b<2 ^ 256:=by
 have h1:=ff (by decide) (show fc 256 b from h.2)
 have h2:=qv (by decide) (show fc 256 b from h.2)
 have e:(256:Int) ^ 32=2 ^ 256:=by decide+kernel
 rw[h.1,e] at h2
 exact ⟨h1,h2⟩
noncomputable abbrev ZE:ao:=Jw rk
theorem FJ (of:List Int→List Int) (red:List Int→List Int) (b:List Int):aS Tryz.prog [(87,eOf of),(88,eWB red)] [] Tryz.f50 ((ah3).wr (b,())) [] kR=
 End.need ((0:Int)≤(0:Int)∧(0:Int)≤(64:Int)∧(64:Int)≤(64:Int)) (End.need (aB (List.take (64:Nat) (List.drop (0:Nat) b))∧
 (List.take (64:Nat) (List.drop (0:Nat) b)).length≤(64:Nat)) (End.need (okW (of (List.take (64:Nat) (List.drop (0:Nat) b)))) (End.leaf
 (LV.one (VV.agg [SV.arr (Ty.int IntKind.u8) (32:Nat) (red (of (List.take (64:Nat) (List.drop (0:Nat) b))))])) []))):=by kernel_rfl
theorem FK: ∀ p_∈([(87,eOf uJ),(88,eWB vY)]:List (FuncId×ao)),p_.2.Ok Tryz.prog p_.1:=(ak Zx (ak P7 aF))
theorem AJ:ZE.Ok Tryz.prog 50:=by
 refine (ao.bf Tryz.call50 fun x_ y_ Q H_=>?_).sym
 obtain ⟨b,_⟩:=x_
 obtain ⟨hn,hq⟩:=H_
 have hn:b.length=64∧aB b:=hn
 refine (ay (tab:= [(87,eOf uJ),(88,eWB vY)]) mixed FK Tryz.func50 rfl (LT:= []) (ks:=kR) (aQ.nil _)).use (D:= []) ?_ hq
 show (aS _ _ _ _ ((ah3).wr (b,())) [] _).sat _
 rw[FJ uJ vY]
 rw[bN hn.1]
 refine ⟨by decide,⟨hn.2,by rw[hn.1];decide⟩,FI b,?_,rfl⟩
 have:vY (uJ b)=rk b:=by unfold vY rk;rw[P5 hn.2 (by rw[hn.1];decide)]
 rw[this]
theorem ZF {x:Int} (h:x<2 ^ 512):x<qq ^ 8:=by
 have e:qq ^ 8=2 ^ 512:=by decide+kernel
 rw[e];exact h
noncomputable abbrev ZG:ao:=eB3 xa
theorem FL (of:List Int→List Int) (and times:List Int→List Int→List Int) (red:List Int→List Int) (a b c:List Int):aS Tryz.prog [(87,eOf of),(95,eWW and),(94,eWW times),(88,eWB red)] [] Tryz.f54 ((b3A).wr (a,b,c,())) [] kR=
 End.need ((0:Int)≤(0:Int)∧(0:Int)≤(32:Int)∧(32:Int)≤(32:Int)) (End.need (aB (List.take (32:Nat) (List.drop (0:Nat) a))∧
 (List.take (32:Nat) (List.drop (0:Nat) a)).length≤(64:Nat)) (End.need ((0:Int)≤(0:Int)∧(0:Int)≤(32:Int)∧(32:Int)≤(32:
 Int)) (End.need (aB (List.take (32:Nat) (List.drop (0:Nat) b))∧(List.take (32:Nat) (List.drop (0:Nat) b)).length≤(64:Nat)) (End.need
 (okW (of (List.take (32:Nat) (List.drop (0:Nat) a)))∧okW (of (List.take (32:Nat) (List.drop (0:Nat) b)))) (End.need ((0:Int)≤(0:Int)∧
 (0:Int)≤(32:Int)∧(32:Int)≤(32:Int)) (End.need (aB (List.take (32:Nat) (List.drop (0:Nat) c))∧(List.take (32:Nat) (List.drop (0
 :Nat) c)).length≤(64:Nat)) (End.need (okW (times (of (List.take (32:Nat) (List.drop (0:Nat) a))) (of (List.take (32:Nat) (List.drop (0:
 Nat) b))))∧okW (of (List.take (32:Nat) (List.drop (0:Nat) c)))) (End.need (okW (and (times (of (List.take (32:Nat) (List.drop (0:Nat) a)))
 (of (List.take (32:Nat) (List.drop (0:Nat) b)))) (of (List.take (32:Nat) (List.drop (0:Nat) c))))) (End.leaf (LV.one (VV.agg [SV.arr (Ty.int
 IntKind.u8) (32:Nat) (red (and (times (of (List.take (32:Nat) (List.drop (0:Nat) a))) (of (List.take (32:Nat) (List.drop (0:Nat) b)))) (of
 (List.take (32:Nat) (List.drop (0:Nat) c)))))])) []))))))))):=by kernel_rfl
theorem FN: ∀ p_∈([(87,eOf uJ),(95,eWW jb),(94,eWW kY),(88,eWB vY)]:List (FuncId×ao)),p_.2.Ok Tryz.prog p_.1:=(ak Zx (ak P6 (ak Tk (ak P7 aF))))
theorem Ny:ZG.Ok Tryz.prog 54:=by
 refine (ao.bf Tryz.call54 fun x_ y_ Q H_=>?_).sym
 obtain ⟨a,b,c,_⟩:=x_
 obtain ⟨hn,hq⟩:=H_
 have hn:okB a∧okB b∧okB c:=hn
 refine (ay (tab:= [(87,eOf uJ),(95,eWW jb),(94,eWW kY),(88,eWB vY)]) mixed FN Tryz.func54 rfl (LT:= []) (ks:=kR) (aQ.nil _)).use (D:= []) ?_ hq
 show (aS _ _ _ _ ((b3A).wr (a,b,c,())) [] _).sat _
 rw[FL uJ jb kY vY]
 obtain ⟨ha,hb,hc⟩:=hn
 rw[bN ha.1,bN hb.1,bN hc.1]
 refine ⟨by decide,⟨ha.2,by rw[ha.1];decide⟩,by decide,⟨hb.2,by rw[hb.1];decide⟩,⟨FI a,FI b⟩,by decide,⟨hc.2,by rw[hc.1];decide⟩,⟨Tl _ _,FI c⟩,ad4 _ _,?_,rfl⟩
 have:vY (jb (kY (uJ a) (uJ b)) (uJ c))=xa a b c:=by
  unfold vY xa jb kY
  have h1:=ha.range
  have h2:=hb.range
  have h3:=hc.range
  have h4:((2:Int) ^ 256-1)*(2 ^ 256-1)+2 ^ 256<2 ^ 512:=by decide+kernel
  have h5:vd 256 a*vd 256 b≤(2 ^ 256-1)*(2 ^ 256-1):=Int.mul_le_mul (by omega) (by omega) h2.1 (by decide+kernel)
  have h6:0≤vd 256 a*vd 256 b:=Int.mul_nonneg h1.1 h2.1
  rw[Jo ha.2 ha.1,Jo hb.2 hb.1,lV bn,lV bn,hc.val,Int.emod_eq_of_lt (a:=vd 256 a*vd 256 b) h6 (ZF (Int.lt_trans (by omega) h4)),Int.emod_eq_of_lt (by omega) (ZF (Int.lt_trans (by omega) h4))]
 rw[this]
end Go.Proofs.YtjalaohajcpllaaGreat
end
section
set_option linter.unusedVariables false
set_option linter.unusedSimpArgs false
namespace Go.Proofs.YtjalaohajcpllaaGreat
open Go Go.Ev BJ
set_option maxRecDepth 1000000
def AK (g:List Int→List Int):ao:=ao.bS [some (.sl u8)] rrA ag fun x _=> .leaf (some (x.1.length<2305843009213693952∧x.1.flatten.length<1152921504606846976)) (iq .u8 64 (g x.1.flatten)) []
theorem alT:ofE=AK bE:=by kernel_rfl
theorem FO:(AK bE).Ok Tryz.prog 22:=alT▸ae4
noncomputable abbrev ZH:ao:=Bu
theorem ad5:ZH.Ok Tryz.prog 30:=mD
def Tm:List Int:= [83,105,103,69,100,50,53,53,49,57,32,110,111,32,69,100,50,53,53,49,57,32,99,111,108,108,105,115,105,111,110,115]
def mX (c:List Int):List Int:=if c.length≤255 then Tm++([1,(c.length:Int)]++c) else []
def Jx (g:List Int→List Int):ao:=ao.bS [some u8] bA ag fun x _=> .leaf none (.one (.sc (.sl 0 0))) [(0,.own 0 u8 (g x.1))]
noncomputable abbrev apb:ao:=Jx mX
theorem Jy (c:List Int):aS Tryz.prog [(30,Bu)] [] Tryz.f51 (bA.wr (c,())) [] [.cC 0 u8,.auto,.aD]=
 End.ite (decide ((255:Int)<(↑c.length:Int))) (End.leaf (LV.one (VV.sc (SV.sl (0:Nat) (0:Nat)))) [some (Item.own (0:Nat) (Ty.int IntKind.u8)
 [])]) (End.need ([[(83:Int),(105:Int),(103:Int),(69:Int),(100:Int),(50:Int),(53:Int),(53:Int),(49:Int),(57:Int),(32:
 Int),(110:Int),(111:Int),(32:Int),(69:Int),(100:Int),(50:Int),(53:Int),(53:Int),(49:Int),(57:Int),(32:Int),(99:
 Int),(111:Int),(108:Int),(108:Int),(105:Int),(115:Int),(105:Int),(111:Int),(110:Int),(115:Int)],[(1:Int),IntKind.u8.wrap
 (↑c.length:Int)],c].flatten.length≤(70368744177664:Nat)∧(3:Nat)≤(140737488355328:Nat)) (End.leaf (LV.one (VV.sc (SV.sl (0:Nat) (0:
 Nat)))) [some (Item.own (0:Nat) (Ty.int IntKind.u8) [[(83:Int),(105:Int),(103:Int),(69:Int),(100:Int),(50:Int),(53:Int),(53:
 Int),(49:Int),(57:Int),(32:Int),(110:Int),(111:Int),(32:Int),(69:Int),(100:Int),(50:Int),(53:Int),(53:Int),(49:
 Int),(57:Int),(32:Int),(99:Int),(111:Int),(108:Int),(108:Int),(105:Int),(115:Int),(105:Int),(111:Int),(110:Int),(115
 :Int)],[(1:Int),IntKind.u8.wrap (↑c.length:Int)],c].flatten)])):=by kernel_rfl
theorem ZI:apb.Ok Tryz.prog 51:=by
 refine (ao.bf Tryz.call51 fun x_ y_ Q H_=>?_).sym
 obtain ⟨c,_⟩:=x_
 refine (ay mixed (ak mD aF) Tryz.func51 rfl (LT:= []) (ks:= [.cC 0 u8,.auto,.aD]) (aQ.nil _)).use (D:= [(0,.own 0 u8 (mX c))]) ?_ H_.2
 show (aS _ _ _ _ (bA.wr (c,())) [] _).sat _
 rw[Jy]
 refine ⟨fun h=>?_,fun h=>?_⟩
 ·have h:=of_decide_eq_true h
  have e:mX c= []:=if_neg (by omega)
  rw[e];exact ⟨rfl,rfl⟩
 ·have h:=of_decide_eq_false h
  have e:mX c=Tm++([1,(c.length:Int)]++c):=if_pos (by omega)
  have ew:IntKind.u8.wrap (c.length:Int)=c.length:=by rw[wrap_u8];omega
  rw[e,ew]
  refine ⟨⟨by simp;omega,by decide⟩,rfl,?_⟩
  have e2:aE [(0,Ev.Item.own 0 u8 (Tm++([1,(c.length:Int)]++c)))] (ag.wr y_)= [some (Ev.Item.own 0 u8 (Tm++([1,(c.length:Int)]++c)))]:=rfl
  rw[e2]
  simp[Tm]
def ah4 (h:List Int):List Int:=((h.take 32).set 0 (fa .u8 ((h.take 32).getD 0 0) 7)).set 31 (bm .u8 (fa .u8 (((h.take 32).set 0 (fa .u8 ((h.take 32).getD 0 0) 7)).getD 31 0) 128) 64)
def ePa (sec eX:List Int→List Int):ao:=ao.bS [] vV ag fun x _=> .leaf (some (x.1.length=32)) (.cD [.agg [.arr (.int .u8) 32 (sec x.1)],.sc (.vb 0 0 (.int .u8) 64 32 32)]) [(0,.aZ [.arr (.int .u8) 64 (eX x.1)] 51)]
noncomputable def uc (s:List Int):List Int:=ah4 (bE s)
noncomputable abbrev ad6:ao:=ePa uc bE
theorem Nz (eX:List Int→List Int) (s:List Int):aS Tryz.prog [(22,AK eX)] [] Tryz.f49 (vV.wr (s,())) [] [.auto]=
 End.need ((0:Int)≤(0:Int)∧(0:Int)≤(32:Int)∧(32:Int)≤(32:Int)) (End.need ((1:Nat)<(2305843009213693952:Nat)∧ [List.take (32
 :Nat) (List.drop (0:Nat) s)].flatten.length<(1152921504606846976:Nat)) (End.need ((0:Int)≤(0:Int)∧(0:Int)≤(32:Int)∧(32:Int)≤
 (64:Int)) (End.need ((32:Nat)≤(List.take (32:Nat) (List.drop (0:Nat) (eX [List.take (32:Nat) (List.drop (0:Nat) s)].flatten))).length)
 (End.need ((32:Nat)≤(List.take (32:Nat) (List.drop (0:Nat) (eX [List.take (32:Nat) (List.drop (0:Nat) s)].flatten))).length) (End.need ((0
 :Int)≤(32:Int)∧(32:Int)≤(64:Int)∧(64:Int)≤(64:Int)) (End.leaf (LV.cD [VV.agg [SV.arr (Ty.int IntKind.u8) (32:Nat) (((List.take
 (32:Nat) (List.drop (0:Nat) (List.take (32:Nat) (List.drop (0:Nat) (eX [List.take (32:Nat) (List.drop (0:Nat) s)].flatten))))).set (0:
 Nat) (fa IntKind.u8 ((List.take (32:Nat) (List.drop (0:Nat) (List.take (32:Nat) (List.drop (0:Nat) (eX [List.take (32:Nat) (List.drop
 (0:Nat) s)].flatten))))).getD (0:Nat) (0:Int)) (7:Int))).set (31:Nat) (bm IntKind.u8 (fa IntKind.u8 (((List.take (32:Nat)
 (List.drop (0:Nat) (List.take (32:Nat) (List.drop (0:Nat) (eX [List.take (32:Nat) (List.drop (0:Nat) s)].flatten))))).set (0:Nat)
 (fa IntKind.u8 ((List.take (32:Nat) (List.drop (0:Nat) (List.take (32:Nat) (List.drop (0:Nat) (eX [List.take (32:Nat) (List.drop (0:
 Nat) s)].flatten))))).getD (0:Nat) (0:Int)) (7:Int))).getD (31:Nat) (0:Int)) (128:Int)) (64:Int)))],VV.sc (SV.vb (0:Nat) (0:Nat)
 (Ty.int IntKind.u8) (64:Nat) (32:Int) (32:Int))]) [some (Item.aZ [SV.arr (Ty.int IntKind.u8) (64:Nat) (eX [List.take (32:Nat) (List.drop (0
 :Nat) s)].flatten)] (51:Nat))])))))):=by kernel_rfl
theorem CJ:ad6.Ok Tryz.prog 49:=by
 refine (ao.bf Tryz.call49 fun x_ y_ Q H_=>?_).sym
 obtain ⟨s,_⟩:=x_
 obtain ⟨hn,hq⟩:=H_
 have hn:s.length=32:=hn
 refine (ay mixed (ak FO aF) Tryz.func49 rfl (LT:= []) (ks:= [.auto]) (aQ.nil _)).use (D:= [(0,.aZ [.arr (.int .u8) 64 (bE s)] 51)]) ?_ hq
 show (aS _ _ _ _ (vV.wr (s,())) [] _).sat _
 rw[Nz,bN hn,List.flatten_singleton]
 have hs:=eI s
 have e1:List.take 32 (List.drop 0 (List.take 32 (List.drop 0 (bE s))))=(bE s).take 32:=by rw[List.drop_zero,List.drop_zero,List.take_take,Nat.min_self]
 have hl:(List.take 32 (List.drop 0 (bE s))).length=32:=by simp[hs]
 rw[e1]
 exact ⟨by decide,⟨by decide,by omega⟩,by decide,by omega,by omega,by decide,rfl,rfl⟩
def ZJ (g:List Int→List Int):ao:=ao.bS [] vV ag fun x _=> .leaf (some (x.1.length=32)) (iq .u8 32 (g x.1)) []
theorem ZK {h:List Int} (hl:h.length=64):(ah4 h).length=32:=by simp[ah4,hl]
theorem Jz (s:List Int):(uc s).length=32:=ZK (eI s)
noncomputable def FQ (s:List Int):List Int:=dn (gV (uc s))
noncomputable abbrev apc:ao:=ZJ FQ
theorem ZL (sec eX:List Int→List Int) (mb:List Int→Pt) (en:Pt→List Int) (s:List Int):aS Tryz.prog [(49,ePa sec eX),(52,eMb mb),(53,eEn en)] [] Tryz.f56 ((vV).wr (s,())) [] kK=
 End.need (s.length=(32:Nat)) (End.need ((sec s).length=(32:Nat)) (End.leaf (LV.one (VV.agg [SV.arr (Ty.int IntKind.u8) (32:Nat) (en (mb (sec
 s)))])) [])):=by kernel_rfl
theorem ZM: ∀ p_∈([(49,ePa uc bE),(52,eMb gV),(53,eEn dn)]:List (FuncId×ao)),p_.2.Ok Tryz.prog p_.1:=(ak CJ (ak Jh (ak AB aF)))
theorem ah5:apc.Ok Tryz.prog 56:=by
 refine (ao.bf Tryz.call56 fun x_ y_ Q H_=>?_).sym
 obtain ⟨s,_⟩:=x_
 obtain ⟨hn,hq⟩:=H_
 have hn:s.length=32:=hn
 refine (ay (tab:= [(49,ePa uc bE),(52,eMb gV),(53,eEn dn)]) mixed ZM Tryz.func56 rfl (LT:= []) (ks:=kK) (aQ.nil _)).use (D:= []) ?_ hq
 show (aS _ _ _ _ ((vV).wr (s,())) [] _).sat _
 rw[ZL uc bE gV dn]
 exact ⟨hn,Jz s,rfl,rfl⟩
abbrev afz:ba LV (List Int):=KC .u8 64
abbrev chA:ba (List LV) (List Int×List Int×List Int×List Int×Unit):=ae (ai (eS false false u8)) (ae cB (ae cB (ae afz ag)))
def eCh (g:List Int→List Int→List Int→List Int→List Int):ao:=ao.bS [some u8,none,none,none] chA ag fun x _=> .leaf (some (x.2.1.length=32∧x.2.2.1.length=32∧x.2.2.2.1.length=64)) (iq .u8 32 (g x.1 x.2.1 x.2.2.1 x.2.2.2.1)) []
noncomputable def ud (c r p m:List Int):List Int:=rk (bE (mX c++(r++(p++m))))
theorem ZN (x:Int):aB (dy x):=fun z hz=>by
 obtain ⟨i,_,rfl⟩:=List.mem_map.1 hz
 rw[wrap_u8];unfold By;omega
theorem NA (b:List Int):aB (bE b):=by
 have key: ∀ (l:List Nat) (s a:List Int),aB a→aB (l.foldl (fun a i=>a++dy (s.getD i 0)) a):=by
  intro l s
  induction l with
  |nil=>exact fun a h=>h
  |cons i l ih=>exact fun a h=>ih _ (h.append (ZN _))
 exact key _ _ [] (fun z hz=>by cases hz)
theorem FR (x y:Int):By (fa .u8 x y):=by
 unfold fa By;rw[wrap_u8];omega
theorem ZO (x y:Int):By (bm .u8 x y):=by
 unfold bm By
 show 0≤IntKind.u8.wrap _∧IntKind.u8.wrap _<256
 rw[wrap_u8];omega
theorem CK {l:List Int} (h:aB l) {i:Nat} {x:Int} (hx:By x):aB (l.set i x):=fun z hz=>by
 rcases List.mem_or_eq_of_mem_set hz with k|k
 ·exact h z k
 ·subst k;exact hx
theorem ad7 (s:List Int):aB (uc s):=CK (CK ((NA s).take 32) (FR _ _)) (ZO _ _)
theorem ad8 (s:List Int):okB (uc s):=⟨Jz s,ad7 s⟩
theorem FT (b:List Int):okB (rk b):=⟨cf _ _,nm (by decide) _ _⟩
theorem P9 (c:List Int):(mX c).length≤289:=by unfold mX Tm;split<;>simp;omega
noncomputable abbrev alV:ao:=eCh ud
theorem Tn (eX pre red:List Int→List Int) (c r p m:List Int):aS Tryz.prog [(22,AK eX),(51,Jx pre),(50,Jw red)] [] Tryz.f55 ((chA).wr (c,r,p,m,())) [] kK=
 End.need ((0:Int)≤(0:Int)∧(0:Int)≤(32:Int)∧(32:Int)≤(32:Int)) (End.need ((0:Int)≤(0:Int)∧(0:Int)≤(32:Int)∧(32:
 Int)≤(32:Int)) (End.need ((0:Int)≤(0:Int)∧(0:Int)≤(64:Int)∧(64:Int)≤(64:Int)) (End.need ((4:Nat)<(2305843009213693952:
 Nat)∧ [pre c,List.take (32:Nat) (List.drop (0:Nat) r),List.take (32:Nat) (List.drop (0:Nat) p),List.take (64:Nat) (List.drop (0:Nat)
 m)].flatten.length<(1152921504606846976:Nat)) (End.need ((eX [pre c,List.take (32:Nat) (List.drop (0:Nat) r),List.take (32:Nat) (List.drop
 (0:Nat) p),List.take (64:Nat) (List.drop (0:Nat) m)].flatten).length=(64:Nat)∧aB (eX [pre c,List.take (32:Nat) (List.drop (0:Nat)
 r),List.take (32:Nat) (List.drop (0:Nat) p),List.take (64:Nat) (List.drop (0:Nat) m)].flatten)) (End.leaf (LV.one (VV.agg [SV.arr (Ty.int
 IntKind.u8) (32:Nat) (red (eX [pre c,List.take (32:Nat) (List.drop (0:Nat) r),List.take (32:Nat) (List.drop (0:Nat) p),List.take (64:
 Nat) (List.drop (0:Nat) m)].flatten))])) []))))):=by kernel_rfl
theorem To: ∀ p_∈([(22,AK bE),(51,Jx mX),(50,Jw rk)]:List (FuncId×ao)),p_.2.Ok Tryz.prog p_.1:=(ak FO (ak ZI (ak AJ aF)))
theorem ad9:alV.Ok Tryz.prog 55:=by
 refine (ao.bf Tryz.call55 fun x_ y_ Q H_=>?_).sym
 obtain ⟨c,r,p,m,_⟩:=x_
 obtain ⟨hn,hq⟩:=H_
 have hn:r.length=32∧p.length=32∧m.length=64:=hn
 refine (ay (tab:= [(22,AK bE),(51,Jx mX),(50,Jw rk)]) mixed To Tryz.func55 rfl (LT:= []) (ks:=kK) (aQ.nil _)).use (D:= []) ?_ hq
 show (aS _ _ _ _ ((chA).wr (c,r,p,m,())) [] _).sat _
 rw[Tn bE mX rk]
 rw[bN hn.1,bN hn.2.1,bN hn.2.2]
 have h1:=P9 c
 have e: [mX c,r,p,m].flatten=mX c++(r++(p++m)):=by simp
 rw[e]
 refine ⟨by decide,by decide,by decide,⟨by decide,by simp;omega⟩,⟨eI _,NA _⟩,rfl,rfl⟩
abbrev siA:ba (List LV) (List Int×List Int×List Int×Unit):=ae cB (ae (ai (eS false false u8)) (ae afz ag))
abbrev nSi (r:List Int×Int):LV:= .cD [.agg [.arr (.int .u8) 64 r.1],.sc (.int .i64 (.sym r.2))]
def eSi (g:List Int→List Int→List Int→List Int×Int):ao:=ao.bS [none,some u8,none] siA ag fun x _=> .leaf (some (x.1.length=32∧x.2.2.1.length=64)) (nSi (g x.1 x.2.1 x.2.2.1)) []
noncomputable def JA (s c m:List Int):List Int:=rk (bE (mX c++((bE s).drop 32++m)))
noncomputable def JB (s c m:List Int):List Int:=dn (gV (JA s c m))++xa (ud c (dn (gV (JA s c m))) (FQ s) m) (uc s) (JA s c m)
theorem JD: ∃ f:List Int→List Int→List Int→List Int×Int,∀ (s c m:List Int),f s c m=(if c.length≤255 then (JB s c m,0) else (List.replicate 64 0,1)):=⟨fun s c m=>if c.length≤255 then (JB s c m,0) else (List.replicate 64 0,1),fun _ _ _=>rfl⟩
noncomputable def np:List Int→List Int→List Int→List Int×Int:=Classical.choose JD
theorem AL (s c m:List Int):np s c m=(if c.length≤255 then (JB s c m,0) else (List.replicate 64 0,1)):=Classical.choose_spec JD s c m
theorem wS (p:Pt):(dn p).length=32:=Vec.dM _
theorem ZP (s:List Int):(FQ s).length=32:=by unfold FQ;exact wS _
theorem ZQ (c r p m:List Int):okB (ud c r p m):=by unfold ud;exact FT _
theorem ZR (a b c:List Int):(xa a b c).length=32:=cf _ _
theorem NB (sec eX pre red:List Int→List Int) (mb:List Int→Pt) (en:Pt→List Int) (uG:List Int→List Int) (ch:List Int→List Int→List Int→List Int→List Int) (mul:List Int→List Int→List Int→List Int) (s c m:List Int):aS Tryz.prog [(49,ePa sec eX),(22,AK eX),(51,Jx pre),(50,Jw red),(52,eMb mb),(53,eEn en),(56,ZJ uG),(55,eCh ch),(54,eB3 mul),(30,ZH)] [] Tryz.f26 (siA.wr (s,c,m,())) [] [.fr [.sym],.auto]=
 End.ite (decide ((255:Int)<(↑c.length:Int))) (End.leaf (LV.cD [VV.agg [SV.arr (Ty.int IntKind.u8) (64:Nat) (List.replicate (64:Nat) (0:
 Int))],VV.sc (SV.int IntKind.i64 (SI.sym (1:Int)))]) []) (End.need (s.length=(32:Nat)) (End.need ((0:Int)≤(0:Int)∧(0:Int)≤(64:Int)
 ∧(64:Int)≤(64:Int)) (End.need ((3:Nat)<(2305843009213693952:Nat)∧ [pre c,List.take (32:Nat) (List.drop (32:Nat) (eX s)),List.take
 (64:Nat) (List.drop (0:Nat) m)].flatten.length<(1152921504606846976:Nat)) (End.need ((eX [pre c,List.take (32:Nat) (List.drop (32:Nat)
 (eX s)),List.take (64:Nat) (List.drop (0:Nat) m)].flatten).length=(64:Nat)∧aB (eX [pre c,List.take (32:Nat) (List.drop (32:Nat)
 (eX s)),List.take (64:Nat) (List.drop (0:Nat) m)].flatten)) (End.need ((red (eX [pre c,List.take (32:Nat) (List.drop (32:Nat) (eX s)),
 List.take (64:Nat) (List.drop (0:Nat) m)].flatten)).length=(32:Nat)) (End.need (s.length=(32:Nat)) (End.need ((en (mb (red (eX [pre c,
 List.take (32:Nat) (List.drop (32:Nat) (eX s)),List.take (64:Nat) (List.drop (0:Nat) m)].flatten)))).length=(32:Nat)∧(uG s).length=
 (32:Nat)∧m.length=(64:Nat)) (End.need (okB (ch c (en (mb (red (eX [pre c,List.take (32:Nat) (List.drop (32:Nat) (eX s)),List.take (64:
 Nat) (List.drop (0:Nat) m)].flatten)))) (uG s) m)∧okB (sec s)∧okB (red (eX [pre c,List.take (32:Nat) (List.drop (32:Nat) (eX s)),
 List.take (64:Nat) (List.drop (0:Nat) m)].flatten))) (End.need ((0:Int)≤(0:Int)∧(0:Int)≤(32:Int)∧(32:Int)≤(32:Int)) (End.need
 ((0:Int)≤(0:Int)∧(0:Int)≤(32:Int)∧(32:Int)≤(32:Int)) (End.need ([List.take (32:Nat) (List.drop (0:Nat) (en (mb (red (eX [pre
 c,List.take (32:Nat) (List.drop (32:Nat) (eX s)),List.take (64:Nat) (List.drop (0:Nat) m)].flatten))))),List.take (32:Nat) (List.drop (0
 :Nat) (mul (ch c (en (mb (red (eX [pre c,List.take (32:Nat) (List.drop (32:Nat) (eX s)),List.take (64:Nat) (List.drop (0:Nat)
 m)].flatten)))) (uG s) m) (sec s) (red (eX [pre c,List.take (32:Nat) (List.drop (32:Nat) (eX s)),List.take (64:Nat) (List.drop (0:Nat)
 m)].flatten))))].flatten.length≤(70368744177664:Nat)∧(2:Nat)≤(140737488355328:Nat)) (End.need ((64:Nat)≤ [List.take (32:Nat)
 (List.drop (0:Nat) (en (mb (red (eX [pre c,List.take (32:Nat) (List.drop (32:Nat) (eX s)),List.take (64:Nat) (List.drop (0:Nat)
 m)].flatten))))),List.take (32:Nat) (List.drop (0:Nat) (mul (ch c (en (mb (red (eX [pre c,List.take (32:Nat) (List.drop (32:Nat) (eX s)),
 List.take (64:Nat) (List.drop (0:Nat) m)].flatten)))) (uG s) m) (sec s) (red (eX [pre c,List.take (32:Nat) (List.drop (32:Nat) (eX s)),
 List.take (64:Nat) (List.drop (0:Nat) m)].flatten))))].flatten.length) (End.need ((64:Nat)≤ [List.take (32:Nat) (List.drop (0:Nat) (en (mb
 (red (eX [pre c,List.take (32:Nat) (List.drop (32:Nat) (eX s)),List.take (64:Nat) (List.drop (0:Nat) m)].flatten))))),List.take (32:Nat)
 (List.drop (0:Nat) (mul (ch c (en (mb (red (eX [pre c,List.take (32:Nat) (List.drop (32:Nat) (eX s)),List.take (64:Nat) (List.drop (0:
 Nat) m)].flatten)))) (uG s) m) (sec s) (red (eX [pre c,List.take (32:Nat) (List.drop (32:Nat) (eX s)),List.take (64:Nat) (List.drop (0:
 Nat) m)].flatten))))].flatten.length) (End.leaf (LV.cD [VV.agg [SV.arr (Ty.int IntKind.u8) (64:Nat) (List.take (64:Nat) (List.drop (0:Nat)
 [List.take (32:Nat) (List.drop (0:Nat) (en (mb (red (eX [pre c,List.take (32:Nat) (List.drop (32:Nat) (eX s)),List.take (64:Nat)
 (List.drop (0:Nat) m)].flatten))))),List.take (32:Nat) (List.drop (0:Nat) (mul (ch c (en (mb (red (eX [pre c,List.take (32:Nat) (List.drop
 (32:Nat) (eX s)),List.take (64:Nat) (List.drop (0:Nat) m)].flatten)))) (uG s) m) (sec s) (red (eX [pre c,List.take (32:Nat) (List.drop (32
 :Nat) (eX s)),List.take (64:Nat) (List.drop (0:Nat) m)].flatten))))].flatten))],VV.sc (SV.int IntKind.i64 (SI.sym (0:Int)))])
 [])))))))))))))):=by kernel_rfl
theorem ZS (sec eX pre red:List Int→List Int) (mb:List Int→Pt) (en:Pt→List Int) (uG:List Int→List Int) (ch:List Int→List Int→List Int→List Int→List Int) (mul:List Int→List Int→List Int→List Int) {s c m:List Int} (hs:s.length=32) (hm:m.length=64) (h1: ∀ b,(eX b).length=64) (h2: ∀ b,aB (eX b)) (h3: ∀ b,okB (red b)) (h4: ∀ q,(en q).length=32) (h5:(uG s).length=32) (h6: ∀ a b c d,okB (ch a b c d)) (h7:okB (sec s)) (h8: ∀ a b c,(mul a b c).length=32) (h9:(pre c).length≤289):
  ∃ t_:Ev.End,aS Tryz.prog [(49,ePa sec eX),(22,AK eX),(51,Jx pre),(50,Jw red),(52,eMb mb),(53,eEn en),(56,ZJ uG),(55,eCh ch),(54,eB3 mul),(30,ZH)] [] Tryz.f26 (siA.wr (s,c,m,())) [] [.fr [.sym],.auto]=t_∧t_.sat fun v dX=>v=nSi (if c.length≤255 then (en (mb (red (eX (pre c++((eX s).drop 32++m)))))++mul (ch c (en (mb (red (eX (pre c++((eX s).drop 32++m)))))) (uG s) m) (sec s) (red (eX (pre c++((eX s).drop 32++m)))),0) else (List.replicate 64 0,1))∧dX= []:=by
 refine ⟨_,NB ..,?_⟩
 have e1:List.take 32 (List.drop 32 (eX s))=(eX s).drop 32:=List.take_of_length_le (by rw[List.length_drop,h1];decide)
 have e2:List.take 64 (List.drop 0 m)=m:=bN hm
 have e3: [pre c,(eX s).drop 32,m].flatten=pre c++((eX s).drop 32++m):=by simp
 rw[e1,e2,e3]
 have l1:(pre c++((eX s).drop 32++m)).length<1152921504606846976:=by simp[h1,hm];omega
 have l2:=h3 (eX (pre c++((eX s).drop 32++m)))
 generalize red (eX (pre c++((eX s).drop 32++m)))=n at*
 have l3: ∀ {l:List Int},l.length=32→List.take 32 (List.drop 0 l)=l:=fun h=>bN h
 rw[l3 (h4 _),l3 (h8 _ _ _)]
 have l4: ∀ a b:List Int,[a,b].flatten=a++b:=fun a b=>by simp
 have l5:(en (mb n)++mul (ch c (en (mb n)) (uG s) m) (sec s) n).length=64:=by rw[List.length_append,h4,h8]
 rw[l4,bN l5]
 refine ⟨fun h=>?_,fun h=>?_⟩
 ·have h:=of_decide_eq_true h
  rw[if_neg (by omega)];exact ⟨rfl,rfl⟩
 ·have h:=of_decide_eq_false h
  rw[if_pos (by omega)]
  exact ⟨hs,by decide,⟨by decide,l1⟩,⟨h1 _,h2 _⟩,l2.1,hs,⟨h4 _,h5,hm⟩,⟨h6 _ _ _ _,h7,l2⟩,by decide,by decide,⟨by omega,by decide⟩,by omega,by omega,rfl,rfl⟩
theorem NC (s c m:List Int):np s c m=(if c.length≤255 then (dn (gV (rk (bE (mX c++((bE s).drop 32++m)))))++xa (ud c (dn (gV (rk (bE (mX c++((bE s).drop 32++m)))))) (FQ s) m) (uc s) (rk (bE (mX c++((bE s).drop 32++m)))),0) else (List.replicate 64 0,1)):=by rw[AL,JB,JA]
noncomputable abbrev alX:ao:=eSi np
theorem Tp: ∀ p_∈([(49,ePa uc bE),(22,AK bE),(51,Jx mX),(50,Jw rk),(52,eMb gV),(53,eEn dn),(56,ZJ FQ),(55,eCh ud),(54,eB3 xa),(30,ZH)]:List (FuncId×ao)),p_.2.Ok Tryz.prog p_.1:=(ak CJ (ak FO (ak ZI (ak AJ (ak Jh (ak AB (ak ah5 (ak ad9 (ak Ny (ak ad5 aF))))))))))
theorem aea:alX.Ok Tryz.prog 26:=by
 refine (ao.bf Tryz.call26 fun x_ y_ Q H_=>?_).sym
 obtain ⟨s,c,m,_⟩:=x_
 obtain ⟨hn,hq⟩:=H_
 have hn:s.length=32∧m.length=64:=hn
 have hc_:jJ Tryz.prog 26 ((siA).wr (s,c,m,())) [] (aS Tryz.prog [(49,ePa uc bE),(22,AK bE),(51,Jx mX),(50,Jw rk),(52,eMb gV),(53,eEn dn),(56,ZJ FQ),(55,eCh ud),(54,eB3 xa),(30,ZH)] [] Tryz.f26 ((siA).wr (s,c,m,())) [] [.fr [.sym],.auto]):=ay mixed Tp Tryz.func26 rfl (aQ.nil _)
 obtain ⟨t_,ht_,hs_⟩:=ZS uc bE mX rk gV dn FQ ud xa hn.1 hn.2 eI NA FT wS (ZP s) ZQ (ad8 s) ZR (P9 c)
 rw[← NC s c m] at hs_
 rw[ht_] at hc_
 exact hc_.use (D:= []) hs_ hq
end Go.Proofs.YtjalaohajcpllaaGreat
end
section
set_option linter.unusedVariables false
set_option linter.unusedSimpArgs false
namespace BJ
abbrev N4:=Nat×Nat×Nat×Nat
def rl (a b:Nat):Nat:=a*b%pp
def FU (a b:Nat):Nat:=(a+b)%pp
def ND (a b:Nat):Nat:=(pp-b+a)%pp
def ddN:Nat:=37095705934669439343138083508754565189542113879843219016388785533085940283555
def JE (p q:N4):N4:=
 let a:=rl (ND p.2.1 p.1) (ND q.2.1 q.1)
 let b:=rl (FU p.2.1 p.1) (FU q.2.1 q.1)
 let c:=FU (rl (rl p.2.2.2 q.2.2.2) ddN) (rl (rl p.2.2.2 q.2.2.2) ddN)
 let d:=FU (rl p.2.2.1 q.2.2.1) (rl p.2.2.1 q.2.2.1)
 (rl (ND b a) (ND d c),rl (FU d c) (FU b a),rl (ND d c) (FU d c),rl (ND b a) (FU b a))
def vals (p:E4):N4:=(p.1.val,p.2.1.val,p.2.2.1.val,p.2.2.2.val)
theorem AM (p q:E4):JE (vals p) (vals q)=vals (Am p q):=by
 have hd:dd.val=ddN:=rfl
 simp only[JE,vals,Am,rl,FU,ND,Fin.val_mul,Fin.val_add,Fin.sub_def,hd]
def Qa (V:Nat) (p:N4) (k:Nat) (r:N4):N4:=bif Nat.beq (V/2 ^ (255-k)%2) 1 then JE (JE r r) p else JE r r
end BJ
namespace Go.Proofs.YtjalaohajcpllaaGreat
open Go Go.Ev BJ
theorem NF (V:Nat) (p:E4) (k:Nat) (r:E4):Qa V (vals p) k (vals r)=vals (jY V p k r):=by
 unfold Qa jY Ss
 rw[AM,AM]
 by_cases h:V/2 ^ (255-k)%2=1
 ·rw[decide_eq_true h,h];rfl
 ·have e:Nat.beq (V/2 ^ (255-k)%2) 1=false:=by
   cases e:Nat.beq (V/2 ^ (255-k)%2) 1 with
   |false=>rfl
   |true=>exact absurd (Nat.eq_of_beq_eq_true e) h
  rw[decide_eq_false h,e];rfl
def ZT:N4:=(0,1,1,0)
def ZU:N4:=(15112221349535400772501151409588531511454012693041857206046113283949847762202,46316835694926478169428394003475163141307993866256225615783033603165251855960,1,46827403850823179245072216630277197565144205554125654976674165829533817101731)
theorem ZV:ZT=vals qo:=rfl
theorem ZW:ZU=vals (w8 tX qp):=by decide+kernel
def afA (V:Nat):N4:=iE (Qa V ZU) 256 ZT
theorem NG (V:Nat):afA V=vals (IQ V (w8 tX qp)):=by
 have key: ∀ k,iE (Qa V ZU) k ZT=vals (iE (jY V (w8 tX qp)) k qo):=by
  intro k
  induction k with
  |zero=>exact ZV
  |succ k ih=>
   simp only[iE]
   rw[ih,ZW,NF]
 exact key 256
def isN (V x y:Nat):Bool:=(fun r:N4=>Nat.beq r.1 (rl x r.2.2.1)&&Nat.beq r.2.1 (rl y r.2.2.1)) (afA V)
theorem ah6 {V x y:Nat} (hV:V<2 ^ 256) (hx:x<pp) (hy:y<pp) (h:isN V x y=true):(pU V hZ).x.val=x∧(pU V hZ).y.val=y:=by
 have hi:M3 (IQ V (w8 tX qp)) (pU V hZ):=IT hV (Fq hZ)
 unfold isN at h
 rw[NG] at h
 generalize IQ V (w8 tX qp)=p at*
 generalize pU V hZ=P at*
 obtain ⟨h0,h1,h2,_⟩:=hi
 simp only[Bool.and_eq_true] at h
 have e1:p.1.val=x*p.2.2.1.val%pp:=Nat.eq_of_beq_eq_true h.1
 have e2:p.2.1.val=y*p.2.2.1.val%pp:=Nat.eq_of_beq_eq_true h.2
 have f1:p.1=(⟨x,hx⟩:F)*p.2.2.1:=Fin.ext (by rw[e1,Fin.val_mul])
 have f2:p.2.1=(⟨y,hy⟩:F)*p.2.2.1:=Fin.ext (by rw[e2,Fin.val_mul])
 rw[h1] at f1
 rw[h2] at f2
 have c: ∀ {a b:F},a*p.2.2.1=b*p.2.2.1→a=b:=fun {a b} e=>by
  have h3:p.2.2.1*F.inv p.2.2.1=1:=F.inv_mul h0
  have e':=congrArg (fun z=>z*F.inv p.2.2.1) e
  grobner
 exact ⟨by rw[c f1],by rw[c f2]⟩
def llN:Nat:=7237005577332262213973186563042994240857116359379907606001950938285454250989
theorem Tq:isN llN 0 1=true:=by decide+kernel
theorem NH:pU llN hZ=BJ.Pt.zero:=by
 obtain ⟨h1,h2⟩:=ah6 (V:=llN) (by decide) (by decide) (by decide) Tq
 exact BJ.Pt.ext' (Fin.ext h1) (Fin.ext h2)
theorem aeb:hZ≠BJ.Pt.zero:=fun h=>by
 have:=congrArg (fun P:BJ.Pt=>P.x.val) h
 revert this
 decide
theorem ue {m:Nat} (h:pU m hZ=BJ.Pt.zero) (k:Nat):pU (k*m) hZ=BJ.Pt.zero:=by
 rw[acW,h,YG]
theorem Ts {n a:Nat} (hr:fq n a) (hz:pU n hZ=BJ.Pt.zero) {m:Nat} (hm:pU m hZ=BJ.Pt.zero):m%n=0:=by
 refine Classical.byContradiction fun h=>aeb ?_
 have hf:=hr.qY h
 have hn:=hr.1
 have e:m ^ (n-1)=m ^ (n-2)*m:=by rw[← Nat.pow_succ];congr 1;omega
 have h1:pU (m ^ (n-1)) hZ=BJ.Pt.zero:=by rw[e];exact ue hm _
 have h2:m ^ (n-1)=m ^ (n-1)/n*n+1:=by
  have:=Nat.div_add_mod (m ^ (n-1)) n
  rw[hf,Nat.mul_comm] at this;exact this.symm
 rw[h2,Fs,ue hz,acX,BJ.Pt.zero_add] at h1
 exact h1
theorem Cp {m:Nat} (hm:pU m hZ=BJ.Pt.zero):m%llN=0:=Ts bV NH hm
end Go.Proofs.YtjalaohajcpllaaGreat
end
section
set_option linter.unusedVariables false
set_option linter.unusedSimpArgs false
namespace Go.Proofs.YtjalaohajcpllaaGreat
open Go Go.Ev BJ
theorem okV {n:Nat}: ∀ {v:Vec Int n},qn v→aB v.toList∧vd 256 v.toList=c5 v:=by
 induction n with
 |zero=>exact fun {v} _=>⟨(fun z hz=>by cases hz),rfl⟩
 |succ n ih=>
  intro v h
  obtain ⟨h1,h2⟩:=ih h.2
  refine ⟨fun z hz=>?_,?_⟩
  ·rcases List.mem_cons.1 hz with rfl|hz
   ·exact h.1
   ·exact h1 z hz
  ·show v.1+256*vd 256 v.2.toList=v.1+256*c5 v.2
   rw[h2]
theorem aec {l:List Int} (h:okB l):qn (xK l)∧c5 (xK l)=vd 256 l:=by
 have h1:qn (xK l):=Ak fun i _=>fc.getD (by decide) h.2 i
 have:=(okV h1).2
 rw[j0 h.1] at this
 exact ⟨h1,this.symm⟩
noncomputable def sc (n:List Int):Nat:=(vd 256 n).toNat
theorem Tt {n:List Int} (hn:okB n) {p:Pt} {P:BJ.Pt} (hp:Rep p P):Rep (wR n p) (pU (sc n) P):=by
 obtain ⟨h1,h2⟩:=aec hn
 rw[Jg,sc,← h2];exact YK h1 hp
theorem NI {n:List Int} (hn:okB n):Rep (gV n) (pU (sc n) hZ):=Tt hn YI
noncomputable def ah7 (P:BJ.Pt):List Int:=(rf P).toList
theorem aed (P:BJ.Pt):okB (ah7 P):=⟨Vec.dM _,(okV (YL P).1).1⟩
theorem ah8 {p:Pt} {P:BJ.Pt} (h:Rep p P):dn p=ah7 P:=by unfold dn ah7;rw[ac0 h]
theorem alY {x:Int} (h:0≤x∧x<ll):sc (dg 256 32 x)=x.toNat:=by
 have e:ll<256 ^ 32:=by decide+kernel
 unfold sc
 rw[lV (by decide),Int.emod_eq_of_lt h.1 (by omega)]
theorem ah9:((llN:Nat):Int)=ll:=rfl
theorem aee (a b c:List Int):okB (xa a b c)∧sc (xa a b c)<llN:=by
 refine ⟨⟨cf _ _,nm (by decide) _ _⟩,?_⟩
 unfold xa
 have h1:=Int.emod_nonneg (vd 256 a*vd 256 b+vd 256 c) (show ll≠0 by have:=kW;omega)
 have h2:=Int.emod_lt_of_pos (vd 256 a*vd 256 b+vd 256 c) kW
 rw[alY ⟨h1,h2⟩]
 have:=ah9
 omega
theorem JF (s c m:List Int):okB ((JB s c m).drop 32)∧(JB s c m).length=64∧aB (JB s c m):=by
 unfold JB
 have e:=NI (show okB (JA s c m) from FT _)
 have h1:=aed (pU (sc (JA s c m)) hZ)
 rw[← ah8 e] at h1
 have h2:=(aee (ud c (dn (gV (JA s c m))) (FQ s) m) (uc s) (JA s c m)).1
 rw[List.drop_left' h1.1]
 exact ⟨h2,by rw[List.length_append,h1.1,h2.1],h1.2.append h2.2⟩
end Go.Proofs.YtjalaohajcpllaaGreat
end
section
set_option linter.unusedVariables false
set_option linter.unusedSimpArgs false
namespace Go.Proofs.YtjalaohajcpllaaGreat
open Go Go.Ev BJ
set_option maxRecDepth 1000000
end Go.Proofs.YtjalaohajcpllaaGreat
end
section
set_option linter.unusedVariables false
set_option linter.unusedSimpArgs false
namespace Go.Proofs.YtjalaohajcpllaaGreat
open Go Go.Ev BJ
set_option maxRecDepth 1000000
def FV:List Int:= [98,111,111,116,106,97,99,107]
def k0:List Int:=List.replicate 32 0
end Go.Proofs.YtjalaohajcpllaaGreat
end
section
set_option linter.unusedVariables false
set_option linter.unusedSimpArgs false
namespace Go.Proofs.YtjalaohajcpllaaGreat
open Go Go.Ev BJ
set_option maxRecDepth 1000000
end Go.Proofs.YtjalaohajcpllaaGreat
end
section
set_option linter.unusedVariables false
set_option linter.unusedSimpArgs false
namespace Go.Proofs.YtjalaohajcpllaaGreat
open Go Go.Ev BJ
set_option maxRecDepth 1000000
end Go.Proofs.YtjalaohajcpllaaGreat
end
section
set_option linter.unusedVariables false
set_option linter.unusedSimpArgs false
namespace Go.Proofs.YtjalaohajcpllaaGreat
open Go Go.Ev BJ
set_option maxRecDepth 1000000
end Go.Proofs.YtjalaohajcpllaaGreat
end
section
set_option linter.unusedVariables false
set_option linter.unusedSimpArgs false
namespace Go.Proofs.YtjalaohajcpllaaGreat
open Go Go.Ev BJ
set_option maxRecDepth 1000000
end Go.Proofs.YtjalaohajcpllaaGreat
end
section
set_option linter.unusedVariables false
set_option linter.unusedSimpArgs false
namespace Go.Proofs.YtjalaohajcpllaaGreat
open Go Go.Ev BJ
set_option maxRecDepth 1000000
end Go.Proofs.YtjalaohajcpllaaGreat
end
section
set_option linter.unusedVariables false
set_option linter.unusedSimpArgs false
namespace Go.Proofs.YtjalaohajcpllaaGreat
open Go Go.Ev BJ
set_option maxRecDepth 1000000
def hh:Int:=65536
end Go.Proofs.YtjalaohajcpllaaGreat
end
section
set_option linter.unusedVariables false
set_option linter.unusedSimpArgs false
namespace Go.Proofs.YtjalaohajcpllaaGreat
open Go Go.Ev BJ
set_option maxRecDepth 1000000
end Go.Proofs.YtjalaohajcpllaaGreat
end
section
set_option linter.unusedVariables false
set_option linter.unusedSimpArgs false
namespace Go.Proofs.YtjalaohajcpllaaGreat
open Go Go.Ev BJ
set_option maxRecDepth 1000000
end Go.Proofs.YtjalaohajcpllaaGreat
end
section
set_option linter.unusedVariables false
set_option linter.unusedSimpArgs false
namespace Go.Proofs.YtjalaohajcpllaaGreat
open Go Go.Ev BJ
set_option maxRecDepth 1000000
end Go.Proofs.YtjalaohajcpllaaGreat
end
section
set_option linter.unusedVariables false
set_option linter.unusedSimpArgs false
namespace Go.Proofs.YtjalaohajcpllaaGreat
open Go Go.Ev BJ
set_option maxRecDepth 1000000
def ki (a b c d:List Int):List Int:=a++b++c++d
end Go.Proofs.YtjalaohajcpllaaGreat
end
section
set_option linter.unusedVariables false
set_option linter.unusedSimpArgs false
namespace Go.Proofs.YtjalaohajcpllaaGreat
open Go Go.Ev BJ
set_option maxRecDepth 1000000
end Go.Proofs.YtjalaohajcpllaaGreat
end
section
set_option linter.unusedVariables false
set_option linter.unusedSimpArgs false
namespace Go.Proofs.YtjalaohajcpllaaGreat
open Go Go.Ev BJ
set_option maxRecDepth 1000000
end Go.Proofs.YtjalaohajcpllaaGreat
end
section
set_option linter.unusedVariables false
set_option linter.unusedSimpArgs false
namespace Go.Proofs.YtjalaohajcpllaaGreat
open Go Go.Ev BJ
set_option maxRecDepth 1000000
abbrev hd2:ba (Option Ev.Item) (Int×Int×Unit):=gX 59 (zk ag)
end Go.Proofs.YtjalaohajcpllaaGreat
end
section
set_option linter.unusedVariables false
set_option linter.unusedSimpArgs false
namespace Go.Proofs.YtjalaohajcpllaaGreat
open Go Go.Ev
set_option maxRecDepth 1000000
abbrev b9:Type:=Int×Int×Int×List Int
abbrev ZX:ba (List SV) b9:=(ae (ax .i64) (ae (ax .u64) (ae (ax .u64) (ae (eS false false (.int .i64)) ag)))).qk (fun x=>(x.1,x.2.1,x.2.2.1,x.2.2.2.1)) (fun y=>(y.1,y.2.1,y.2.2.1,y.2.2.2,())) (fun _=>rfl)
abbrev Tu:ba (List LV) (b9×List Int×Unit):=ae (Du ZX) (ae (ai (eS false false u8)) ag)
def oN:List Int→Int→Bool
 | [],_=>true
 |s::l,n=>decide (1≤s∧s≤8192∧s≤n)&&oN l (n-s)
def dG:List Int→Int
 | []=>0
 |s::l=>s+dG l
abbrev AN:Type:=Int×(List Int)×Int×Int
noncomputable abbrev v5:ba St AN:=(bG (jk 5 (ae (ai (ax IntKind.i64)) (jk 32 (ae (ai (eS false false (Ty.int IntKind.i64)))
 (ae (ai (ax IntKind.i64)) (ae (ai (ax IntKind.i64)) (jk 20 ag))))))) ag).qk (fun y=>(y.1.1,y.1.2.1,y.1.2.2.1,y.1.2.2.2.1)) (fun
 x=>((x.1,(x.2.1,(x.2.2.1,(x.2.2.2,())))),())) (fun _=>rfl)
abbrev FW:List Wk:= [.fr (dA 61 [(5,.aq),(38,.aq),(39,.aq),(40,.aq)]),.syms,.auto,.aD]
abbrev ZY:Exit→List Wk:=Dy FW 0 [.fr (dA 61 [(5,.aq)]),.syms,.auto,.aD] [.fr (dA 61 [(4,.aq)]),.syms,.auto,.aD]
abbrev Qb:Type:=Bool
noncomputable abbrev xO (x:Qb):Exit×St:=(Exit.ret,⟨(ir 4 (LV.one (VV.sc (SV.bool (SB.sym x)))::(ir 56 []))),[]⟩)
abbrev Qc:Type:=Int
noncomputable abbrev xP (x:Qc):Exit×St:=(Exit.exit 0,⟨(ir 5 (LV.one (VV.sc (SV.int IntKind.i64 (SI.sym x)))::(ir 55 []))),[]⟩)
noncomputable def v7 (n:Int) (s:List Int) (m:Int) (i:Int):Tr (AN⊕(Qb⊕Qc)):=(.ite (decide (i<m)) (.need (0≤i∧i<
 (↑s.length:Int)) (.ite (decide (s.getD i.toNat (0:Int)<1)==false) (.ite (decide (8192<s.getD i.toNat 0)==false) (.ite (decide (n<s.getD
 i.toNat 0)) (.ret (.inr (.inl (false)))) (.ret (.inl (IntKind.i64.wrap (n-s.getD i.toNat 0),s,m,IntKind.i64.wrap (i+1))))) (.ret (.inr (.inl
 (false))))) (.ret (.inr (.inl (false)))))) (.ret (.inr (.inr (n)))))
theorem NJ (p:b9) (d:List Int) (n:Int) (s:List Int) (m:Int) (i:Int):dR Tryz.prog [] [] Tryz.f25 0 ((ag).wr (())) ZY (v5.wr (n,s,m,i))=(v7 n s m i).res v5.wr (Sum.elim xO xP):=by kernel_rfl
abbrev oO (n:Int) (s:List Int) (m:Int) (i:Int):Prop:=m=s.length∧0≤i∧i≤m∧0≤n∧n<1099511627776∧m<1099511627776
noncomputable abbrev FY (x_:AN):aU:= .need ((fun (n:Int) (s:List Int) (m:Int) (i:Int)=>oO n s m i) x_.1 x_.2.1 x_.2.2.1 x_.2.2.2) (.ite ((fun (n:Int) (s:List Int) (m:Int) (i:Int)=> !oN (s.drop i.toNat) n) x_.1 x_.2.1 x_.2.2.1 x_.2.2.2) (.leaf (xO ((fun (n:Int) (s:List Int) (m:Int) (i:Int)=>false) x_.1 x_.2.1 x_.2.2.1 x_.2.2.2)).1 (xO ((fun (n:Int) (s:List Int) (m:Int) (i:Int)=>false) x_.1 x_.2.1 x_.2.2.1 x_.2.2.2)).2) (.leaf (xP ((fun (n:Int) (s:List Int) (m:Int) (i:Int)=>n-dG (s.drop i.toNat)) x_.1 x_.2.1 x_.2.2.1 x_.2.2.2)).1 (xP ((fun (n:Int) (s:List Int) (m:Int) (i:Int)=>n-dG (s.drop i.toNat)) x_.1 x_.2.1 x_.2.2.1 x_.2.2.2)).2))
theorem ZZ (n:Int) (s:List Int) (m:Int) (i:Int) (h_:oO n s m i):dq (fun x_:AN=>v7 x_.1 x_.2.1 x_.2.2.1 x_.2.2.2) (n,s,m,i) (bif !oN (s.drop i.toNat) n then .inl (false) else .inr (n-dG (s.drop i.toNat))):=by
 obtain ⟨rfl,h1,h2,h3,h4,h5⟩:=h_
 obtain ⟨k,rfl⟩: ∃ k:Nat,i=k:=⟨i.toNat,by omega⟩
 obtain ⟨j,hj⟩: ∃ j:Nat,s.length-k=j:=⟨_,rfl⟩
 rw[Int.toNat_natCast]
 induction j generalizing k n with
 |zero=>
  rw[List.drop_eq_nil_of_le (by omega)]
  refine .stop ?_
  simp only[v7,oN,dG,bs,al,Bool.not_true,cond_false]
  exact ⟨fun h=>by omega,fun _=>by simp⟩
 |succ j ih=>
  have hk:k<s.length:=by omega
  rw[gN 0 hk,oN,dG]
  have e1:decide ((k:Int)<s.length)=true:=decide_eq_true (by omega)
  generalize hx:s.getD k 0=x at*
  by_cases c:1≤x∧x≤8192∧x≤n
  ·have d1:(decide (x<1)==false)=true:=by simp;omega
   have d2:(decide (8192<x)==false)=true:=by simp;omega
   have d3:decide (n<x)=false:=decide_eq_false (by omega)
   rw[decide_eq_true c,Bool.true_and,show n-(x+dG (s.drop (k+1)))=n-x-dG (s.drop (k+1)) from by omega]
   refine .go ?_ (ih (n-x) (by omega) (by omega) (k+1) (by omega) (by omega) (by omega))
   simp only[v7,e1,aK,an,al,Int.toNat_natCast,hx,d1,d2,d3,aN]
   rw[ar (by omega) (by omega),ar (by omega) (by omega)]
   exact ⟨⟨by omega,by omega⟩,rfl⟩
  ·rw[decide_eq_false c,Bool.false_and]
   refine .stop ?_
   simp only[v7,e1,aK,an,al,cQ,Int.toNat_natCast,hx]
   simp
   omega
theorem Tv (p:b9) (d:List Int): ∀ x:AN,Ex Tryz.prog ((ag).wr (())) (.loop (aW Tryz.f25 0)) (v5.wr x) (FY x):=
 db mixed aF (ws:=ZY) (aQ.nil _) (E:=Sum.elim xO xP) (L:=fun x_=>v7 x_.1 x_.2.1 x_.2.2.1 x_.2.2.2) (pre:=fun x_=>(fun (n:Int) (s:List Int) (m:Int) (i:Int)=>oO n s m i) x_.1 x_.2.1 x_.2.2.1 x_.2.2.2) (sp:=fun x_=>bif (fun (n:Int) (s:List Int) (m:Int) (i:Int)=> !oN (s.drop i.toNat) n) x_.1 x_.2.1 x_.2.2.1 x_.2.2.2 then .inl ((fun (n:Int) (s:List Int) (m:Int) (i:Int)=>false) x_.1 x_.2.1 x_.2.2.1 x_.2.2.2) else .inr ((fun (n:Int) (s:List Int) (m:Int) (i:Int)=>n-dG (s.drop i.toNat)) x_.1 x_.2.1 x_.2.2.1 x_.2.2.2)) (fun x_=>NJ p d x_.1 x_.2.1 x_.2.2.1 x_.2.2.2) (fun z=>by cases z<;>(intro e;cases e)) qO (fun x_ h=>ZZ x_.1 x_.2.1 x_.2.2.1 x_.2.2.2 h)
def v8 (p:b9) (n:Int):Bool:=decide (0≤p.1∧p.1<8∧1≤p.2.2.2.length∧p.2.2.2.length≤16∧p.2.2.1≤p.2.1)&&(oN p.2.2.2 n&&decide (n-dG p.2.2.2=0))
noncomputable def FZ (p:Int×Int×Int×List Int) (d:List Int):Int:=(↑d.length:Int)
noncomputable def F1 (p:Int×Int×Int×List Int) (d:List Int):Int:=(↑p.snd.snd.snd.length:Int)
abbrev Z0:Type:=Bool
noncomputable abbrev Z3 (x:Z0):LV:=LV.one (VV.sc (SV.bool (SB.sym x)))
noncomputable abbrev Z4 (x:Z0):List (Nat×Ev.Item):= []
noncomputable def Qd (p:Int×Int×Int×List Int) (d:List Int):Tr (Z0):=(.ite (decide (p.fst<0)==false) (.ite (decide (8≤p.fst)
 ==false) (.ite (decide (F1 p d<1)==false) (.ite (decide (16<F1 p d)==false) (.ite (decide (p.snd.fst<p.snd.snd.fst)) (.ret (false))
 (.need (oO (FZ p d) p.snd.snd.snd (F1 p d) 0) (.ite (!oN (List.drop 0 p.snd.snd.snd) (FZ p d)) (.ret (false)) (.ret (FZ p d-
 dG (List.drop 0 p.snd.snd.snd)==0))))) (.ret (false))) (.ret (false))) (.ret (false))) (.ret (false)))
theorem Tw (p:b9) (d:List Int):aS Tryz.prog [] [(0,bM v5 ((ag).wr (())) FW (FY))] Tryz.f25 ((Tu).wr (p,d,())) ((ag).wr (())) [.fr [.sym],.syms,.auto,.aD]=(Qd p d).end Z3 Z4 ((ag).wr (())):=by kernel_rfl
theorem Z5 (p:b9) (d:List Int):aQ Tryz.prog ((ag).wr (())) [(0,bM v5 ((ag).wr (())) FW (FY))] (aJ Tryz.f25):=(aQ.cO (nx (by kernel_rfl) (cz (hp:=(ag).wr (())) (Tv p d)) pc))
abbrev uf (p:b9) (d:List Int):Prop:=d.length<1099511627776∧p.2.2.2.length<1099511627776
noncomputable def Z6:ao:=ao.bS [] (Tu) (ag) fun x_ y_=> .leaf (some ((fun (p:b9) (d:List Int)=>uf p d) x_.1 x_.2.1)) (Z3 ((fun (p:b9) (d:List Int)=>v8 p d.length) x_.1 x_.2.1)) (Z4 ((fun (p:b9) (d:List Int)=>v8 p d.length) x_.1 x_.2.1))
theorem aef (p:b9) (d:List Int) (h_:uf p d):(Qd p d).Is (v8 p d.length):=by
 obtain ⟨h1,h2⟩:=h_
 obtain ⟨a,b,c,s⟩:=p
 simp only at h2
 have p0:oO (d.length:Int) s (s.length:Int) 0:=⟨rfl,by omega,by omega,by omega,by omega,by omega⟩
 have e0:FZ (a,b,c,s) d=d.length:=rfl
 have e2:F1 (a,b,c,s) d=s.length:=rfl
 simp only[Qd,cQ,an,al,v8,e0,e2]
 simp
 grind
theorem Qe:Z6.Ok Tryz.prog 25:=
 cg (tys:= []) (A:=Tu) (H:=ag) (LT:=fun x_ y_=>(fun (p:b9) (d:List Int)=> [(0,bM v5 ((ag).wr (())) FW (FY))]) x_.1 x_.2.1) (ks:= [.fr [.sym],.syms,.auto,.aD]) (V:=Z3) (D:=Z4) (T:=fun x_ y_=>Qd x_.1 x_.2.1) (pre:=fun x_ y_=>(fun (p:b9) (d:List Int)=>uf p d) x_.1 x_.2.1) (sp:=fun x_ y_=>(fun (p:b9) (d:List Int)=>v8 p d.length) x_.1 x_.2.1) mixed aF Tryz.func25 (by kernel_rfl) Tryz.call25 (fun x_ y_=>Z5 x_.1 x_.2.1) (fun x_ y_=>Tw x_.1 x_.2.1) (fun x_ y_ h=>aef x_.1 x_.2.1 h)
end Go.Proofs.YtjalaohajcpllaaGreat
end
