/- The law DeviceNone, joined: a nil Device returns the documented results, and New accepts exactly the valid configurations; no conditions. -/
import Derived.Test.YtmhcoaflmgajhaaGreatA13
set_option linter.unusedVariables false
set_option linter.unusedSimpArgs false
namespace Go.Proofs.YtmhcoaflmgajhaaGreat
open Go Go.Ev Go.ChangeShapes Go.WideShapes Go.ChangeAt Go.RowKit Go.Proofs.Tryz
open Go.IntKind (i64 signed u32 u64 wrap wrap_u32)
set_option maxRecDepth 100000
namespace deviceNone
theorem MK(H:Type)(enc:TypeId×Value→H)(W:World)(base:Nat)(args:Array Value)(ds gs:List (DataW H))(before:List MemPlace)
  (lg:∀ (j:Nat) t v,Tryz.f3.params[j]? =some t→args[j]? =some v→Value.okWide Tryz.prog W .any base t v)
  (hW:DataW.Whole enc Tryz.prog Tryz.f3.params.toList Rows.deviceNoneSpec.vars false W args.toList ds gs before):
  Calls Tryz.prog 3 args W fun e W'=>∃v,e= .returned v∧Rows.deviceNoneSpec.post enc Tryz.prog Tryz.f3 false true false false W args v W':=by
 have hW':=hW;obtain⟨p,q,hA0,hV,rfl,hfz,hnd⟩:=hW;have hA:DataW.TrodAll enc Tryz.prog W 0 (fun _=>true) true Tryz.f3.params.toList args.toList ds p:=hA0;rw[params3]at hA lg;obtain⟨v0,Xm,d0,ds0,p0,q0,cq,rfl,rfl,h0,r0⟩:=trodAll_cons hA;obtain⟨v1,vs1,d1,ds1,p1,q1,rfl,rfl,rfl,h1,r1⟩:=trodAll_cons r0;obtain⟨rfl,rfl,rfl⟩:=trodAll_nil r1;obtain rfl:args= #[v0,v1]:=by cases args;simp_all
 obtain⟨x0,Xs,hd0⟩:=Ip (lg 0 24 v0 rfl rfl) h0;obtain⟨x1,hb1,hd1⟩:=QR (lg 1 27 v1 rfl rfl) h1;refine(tV call3 Xf (args:=(ab (fy NV) (ab (fy cOp) ae)).wr (x0,x1,())) rfl trivial W (.cons hd0 (.cons hd1 .nil))).mono fun e W' ⟨he,hk⟩=>⟨_,he,?_⟩;exact HG (by kernel_rfl) underlying4 (EV (by kernel_rfl)) hW' rfl rfl hk
theorem lifted(os:Os)(started:os.Started)(H:Type)(enc:TypeId×Value→H):
  ReturnsInHanded {} checked os 3 .any (Rows.deviceNoneSpec.pre6 enc Tryz.prog Tryz.f3 Rows.deviceNoneRow.domain false) (Rows.deviceNoneSpec.post enc Tryz.prog Tryz.f3 false true false false):=by
 refine returnsInHanded_of_change (C:=checked) HE started (by kernel_rfl) func3
  (ChangeSpec.witness6 (enc:=enc) (C:=checked) false ⟨#[],#[.agg #[.slice none 0 0,.int .i64 0],.agg #[.int .i64 0,.int .i64 0,.int .i64 0,.slice none 0 0]],[]⟩ 8 (by kernel_rfl) (by kernel_rfl) (by kernel_rfl) (by kernel_rfl)) ?_
 intro W base args ds gs before lg hW _ _;exact MK H enc W base args ds gs before lg hW
set_option maxHeartbeats 10000000 in
theorem closed:joinedFacts checked.prog 3 Tryz.f3 Rows.deviceNoneSpec Rows.deviceNoneRow=true:=by
 unfold joinedFacts;simp only[Bool.and_eq_true]
 and_intros
 all_goals (as_aux_lemma=>kernel_rfl)
theorem named:checked.prog.funcNamed Rows.deviceNoneRow.func=some 3:=by kernel_rfl
theorem said:Rows.DeviceNoneSaid:=
 OpenClaim.holds_of_wide 3 Tryz.f3 rfl rfl rfl rfl rfl rfl rfl ⟨rfl,rfl,rfl,rfl,rfl⟩ rfl rfl rfl rfl rfl named func3 closed
  (of_decide_eq_true (by kernel_rfl)) (by unfold Func.isWrapper;first|(rw[if_pos (by decide+kernel)];kernel_rfl)|(rw[if_neg (by decide+kernel)];exact⟨rfl,rfl⟩))
  (fun os started H enc _=>lifted os started H enc)
end deviceNone
end Go.Proofs.YtmhcoaflmgajhaaGreat
