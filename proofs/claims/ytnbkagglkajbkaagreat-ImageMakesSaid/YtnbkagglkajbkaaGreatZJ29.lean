/- The law ImageMakes, joined: Make agrees with the definition for arbitrary data and plans, results and errors. -/
import Derived.Test.YtnbkagglkajbkaaGreatC18
set_option linter.unusedVariables false
set_option linter.unusedSimpArgs false
namespace Go.Proofs.YtnbkagglkajbkaaGreat
open Go Go.Ev Go.ChangeShapes Go.WideShapes Go.ChangeAt Go.RowKit Go.Proofs.Tryz
open Go.IntKind (i64 signed u16 u64 wrap)
set_option maxRecDepth 100000
namespace imageMakes
theorem ajj(H:Type)(enc:TypeId×Value→H)(W:World)(base:Nat)(args:Array Value)(ds gs:List (DataW H))(before:List MemPlace)
  (jJ:∀ (j:Nat) t v,Tryz.f3.params[j]? =some t→args[j]? =some v→Value.okWide Tryz.prog W .any base t v)
  (hW:DataW.Whole enc Tryz.prog Tryz.f3.params.toList Rows.imageMakesSpec.vars false W args.toList ds gs before):
  Calls Tryz.prog 3 args W fun e W'=>∃v,e= .returned v∧Rows.imageMakesSpec.post enc Tryz.prog Tryz.f3 false true false false W args v W':=by
 have hW':=hW;obtain⟨p,q,hA0,hV,rfl,hfz,hnd⟩:=hW;have hA:DataW.TrodAll enc Tryz.prog W 0 (fun _=>true) true Tryz.f3.params.toList args.toList ds p:=hA0;rw[params3]at hA jJ;obtain⟨v0,vs0,d0,ds0,p0,q0,eE,rfl,rfl,h0,r0⟩:=trodAll_cons hA;obtain⟨v1,vs1,d1,ds1,p1,q1,rfl,rfl,rfl,h1,r1⟩:=trodAll_cons r0;obtain⟨v2,vs2,d2,ds2,p2,q2,rfl,rfl,rfl,h2,r2⟩:=trodAll_cons r1;obtain⟨rfl,rfl,rfl⟩:=trodAll_nil r2;obtain rfl:args= #[v0,v1,v2]:=by cases args;simp_all
 obtain⟨x0,hb0,hd0⟩:=Ns (jJ 0 22 v0 rfl rfl) h0;obtain⟨x1,hb1,hd1⟩:=Zz (jJ 1 26 v1 rfl rfl) h1;obtain⟨x2,sa,hd2⟩:=Nr (jJ 2 27 v2 rfl rfl) h2;refine(Es call3 ZM (args:=BB.wr (x0,x1,x2,())) rfl ⟨hb0.1,sa,hb1⟩ W (.cons hd0 (.cons hd1 (.cons hd2 .nil)))).mono fun e W' ⟨he,hk⟩=>⟨_,he,?_⟩;exact aa2 (by kernel_rfl) underlying4 (VY (by kernel_rfl)) hW' rfl rfl hk
theorem lifted(os:Os)(started:os.Started)(H:Type)(enc:TypeId×Value→H):
  ReturnsInHanded {} checked os 3 .any (Rows.imageMakesSpec.pre6 enc Tryz.prog Tryz.f3 Rows.imageMakesRow.domain false) (Rows.imageMakesSpec.post enc Tryz.prog Tryz.f3 false true false false):=by
 refine returnsInHanded_of_change (C:=checked) aa0 started (by kernel_rfl) func3
  (ChangeSpec.witness6 (enc:=enc) (C:=checked) false ⟨#[],#[.agg (Array.replicate 32 (.int .u8 0)),.agg #[.int .i64 0,.int .u64 0,.int .u64 0,.slice none 0 0],.slice none 0 0],[]⟩ 8 (by kernel_rfl) (by kernel_rfl) (by kernel_rfl) (by kernel_rfl)) ?_
 intro W base args ds gs before jJ hW _ _;exact ajj H enc W base args ds gs before jJ hW
set_option maxHeartbeats 10000000 in
theorem closed:joinedFacts checked.prog 3 Tryz.f3 Rows.imageMakesSpec Rows.imageMakesRow=true:=by
 unfold joinedFacts;simp only[Bool.and_eq_true]
 and_intros
 all_goals (as_aux_lemma=>kernel_rfl)
theorem named:checked.prog.funcNamed Rows.imageMakesRow.func=some 3:=by kernel_rfl
theorem said:Rows.ImageMakesSaid:=
 OpenClaim.holds_of_wide 3 Tryz.f3 rfl rfl rfl rfl rfl rfl rfl ⟨rfl,rfl,rfl,rfl,rfl⟩ rfl rfl rfl rfl rfl named func3 closed
  (of_decide_eq_true (by kernel_rfl)) (by unfold Func.isWrapper;first|(rw[if_pos (by decide+kernel)];kernel_rfl)|(rw[if_neg (by decide+kernel)];exact⟨rfl,rfl⟩))
  (fun os started H enc _=>lifted os started H enc)
end imageMakes
end Go.Proofs.YtnbkagglkajbkaaGreat
