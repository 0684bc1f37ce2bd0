/- The law DeviceRuns, joined: Run returns the results of Do one after another, and two devices are independent; no conditions. -/
import Derived.Test.YtliehnnljilacaaGreatA23
noncomputable section
open Go.IntKind (i64 signed u16 u32 u64 wrap wrap_u32)
set_option linter.unusedVariables false
set_option linter.unusedSimpArgs false
namespace Go.Proofs.YtliehnnljilacaaGreat
open Go Go.Ev Go.ChangeShapes Go.WideShapes Go.ChangeAt Go.RowKit Go.Proofs.Tryz
set_option maxRecDepth 100000
namespace deviceRuns
theorem aqG(H:Type)(enc:TypeId×Value→H)(W:World)(base:Nat)(args:Array Value)(ds gs:List (DataW H))(before:List MemPlace)
  (rD:∀ (j:Nat) t v,Tryz.f3.params[j]? =some t→args[j]? =some v→Value.okWide aA W .any base t v)
  (hW:DataW.Whole enc aA Tryz.f3.params.toList Rows.deviceRunsSpec.vars false W args.toList ds gs before)
  (hz:(DataW.weightsEach aA (Tryz.f3.params.toList++Rows.deviceRunsSpec.plain.varTypes aA) (ds++gs)).all (· ≤reachBytes)=true):
  Calls aA 3 args W fun e W'=>∃v,e= .returned v∧Rows.deviceRunsSpec.post enc aA Tryz.f3 false true false false W args v W':=by
 have hW':=hW;obtain⟨p,q,hA0,hV,rfl,hfz,hnd⟩:=hW;have hA:DataW.TrodAll enc aA W 0 (fun _=>true) true Tryz.f3.params.toList args.toList ds p:=hA0;rw[params3]at hA rD;obtain⟨v0,vs0,d0,ds0,p0,q0,dt,rfl,rfl,h0,r0⟩:=trodAll_cons hA;obtain⟨v1,vs1,d1,ds1,p1,q1,rfl,rfl,rfl,h1,r1⟩:=trodAll_cons r0;obtain⟨v2,vs2,d2,ds2,p2,q2,rfl,rfl,rfl,h2,r2⟩:=trodAll_cons r1;obtain⟨rfl,rfl,rfl⟩:=trodAll_nil r2;obtain rfl:args= #[v0,v1,v2]:=by cases args;simp_all
 obtain⟨x0,hb0,hd0⟩:=SD (rD 0 22 v0 rfl rfl) h0;obtain⟨x1,hb1,hd1⟩:=RO (rD 1 23 v1 rfl rfl) h1 (fun n hn=>by simpa using List.all_eq_true.1 hz _ (DataW.weights_mem_each (j:=1) rfl rfl n hn));obtain⟨x2,CV,hd2⟩:=RO (rD 2 23 v2 rfl rfl) h2 (fun n hn=>by simpa using List.all_eq_true.1 hz _ (DataW.weights_mem_each (j:=2) rfl rfl n hn));refine(Gw call3 aqF (args:=aVX.wr (x0,x1,x2,())) rfl ⟨hb0,hb1,CV⟩ W (.cons (LV.gB (aVW W _) hd0) (.cons hd1 (.cons hd2 .nil)))).mono fun e W' ⟨he,hk⟩=>⟨_,he,?_⟩;exact afW (by kernel_rfl) underlying4 (acn (by kernel_rfl)) hW' rfl rfl hk
theorem lifted(os:Os)(started:os.Started)(H:Type)(enc:TypeId×Value→H):ReturnsInHanded {} checked os 3 .any (Rows.deviceRunsSpec.pre6 enc aA Tryz.f3 Rows.deviceRunsRow.domain false) (Rows.deviceRunsSpec.post enc aA Tryz.f3 false true false false):=by
 refine returnsInHanded_of_change_sized (C:=checked) afU started (by kernel_rfl) func3
  (ChangeSpec.witness6 (enc:=enc) (C:=checked) false ⟨#[],#[.agg (Array.replicate 32 (.int .u8 0)),.slice none 0 0,.slice none 0 0],[]⟩ 8 (by kernel_rfl) (by kernel_rfl) (by kernel_rfl) (by kernel_rfl)) ?_
 intro W base args ds gs before rD hW _ hz _;exact aqG H enc W base args ds gs before rD hW hz
set_option maxHeartbeats 10000000 in
theorem closed:joinedFacts checked.prog 3 Tryz.f3 Rows.deviceRunsSpec Rows.deviceRunsRow=true:=by
 unfold joinedFacts;simp only[Bool.and_eq_true]
 and_intros
 all_goals (as_aux_lemma=>kernel_rfl)
theorem named:checked.prog.funcNamed Rows.deviceRunsRow.func=some 3:=by kernel_rfl
theorem said:Rows.DeviceRunsSaid:=OpenClaim.holds_of_wide 3 Tryz.f3 rfl rfl rfl rfl rfl rfl rfl ⟨rfl,rfl,rfl,rfl,rfl⟩ rfl rfl rfl rfl rfl named func3 closed
  (of_decide_eq_true (by kernel_rfl)) (by unfold Func.isWrapper;first|(rw[if_pos (by decide+kernel)];kernel_rfl)|(rw[if_neg (by decide+kernel)];exact⟨rfl,rfl⟩))
  (fun os started H enc _=>lifted os started H enc)
end deviceRuns
end Go.Proofs.YtliehnnljilacaaGreat
