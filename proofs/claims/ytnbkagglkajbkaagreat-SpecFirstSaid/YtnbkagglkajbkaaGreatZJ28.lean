/- The law SpecFirst, joined: if an image is damaged in several places, the error of the first one is returned. -/
import Derived.Test.YtnbkagglkajbkaaGreatB17
set_option linter.unusedVariables false
set_option linter.unusedSimpArgs false
namespace Go.Proofs.YtnbkagglkajbkaaGreat
open Go Go.Ev Go.ChangeShapes Go.WideShapes Go.ChangeAt Go.RowKit Go.Proofs.Tryz
open Go.IntKind (i64 signed u16 u64 wrap)
set_option maxRecDepth 100000
namespace specFirst
theorem lz(H:Type)(enc:TypeId×Value→H)(W:World)(base:Nat)(args:Array Value)(ds gs:List (DataW H))(before:List MemPlace)
  (c7:∀ (j:Nat) t v,f7.params[j]? =some t→args[j]? =some v→Value.okWide Tryz.prog W .any base t v)
  (hW:DataW.Whole enc Tryz.prog f7.params.toList Rows.specFirstSpec.vars false W args.toList ds gs before):
  Calls Tryz.prog 7 args W fun e W'=>∃v,e= .returned v∧Rows.specFirstSpec.post enc Tryz.prog f7 false true false false W args v W':=by
 have hW':=hW;obtain⟨p,q,hA0,hV,rfl,hfz,hnd⟩:=hW;have hA:DataW.TrodAll enc Tryz.prog W 0 (fun _=>true) true f7.params.toList args.toList ds p:=hA0;rw[params7]at hA c7;obtain⟨v0,vs0,d0,ds0,p0,q0,dM,rfl,rfl,h0,r0⟩:=trodAll_cons hA;obtain⟨v1,vs1,d1,ds1,p1,q1,rfl,rfl,rfl,h1,r1⟩:=trodAll_cons r0;obtain⟨v2,vs2,d2,ds2,p2,q2,rfl,rfl,rfl,h2,r2⟩:=trodAll_cons r1;obtain⟨v3,vs3,d3,ds3,p3,q3,rfl,rfl,rfl,h3,r3⟩:=trodAll_cons r2;obtain⟨v4,vs4,d4,ds4,p4,q4,rfl,rfl,rfl,h4,r4⟩:=trodAll_cons r3;obtain⟨v5,vs5,d5,ds5,p5,q5,rfl,rfl,rfl,h5,r5⟩:=trodAll_cons r4;obtain⟨rfl,rfl,rfl⟩:=trodAll_nil r5;obtain rfl:args= #[v0,v1,v2,v3,v4,v5]:=by cases args;simp_all
 obtain⟨x0,MF,hd0⟩:=nL (c7 0 22 v0 rfl rfl) h0;obtain⟨x1,hb1,hd1⟩:=kQ (c7 1 27 v1 rfl rfl) h1;obtain⟨x2,rfl,rfl,rfl⟩:=open_bool underlying4 (c7 2 4 v2 rfl rfl) h2;obtain⟨x3,rfl,rfl,rfl⟩:=open_bool underlying4 (c7 3 4 v3 rfl rfl) h3;obtain⟨x4,rfl,rfl,rfl⟩:=open_bool underlying4 (c7 4 4 v4 rfl rfl) h4;obtain⟨x5,rfl,rfl,rfl⟩:=open_bool underlying4 (c7 5 4 v5 rfl rfl) h5;refine(kr call7 aka (args:=(ae cB (ae (ah (e9 false false u8)) (ae (ah ja) (ae (ah ja) (ae (ah ja) (ae (ah ja) ag)))))).wr (x0,x1,x2,x3,x4,x5,())) rfl ⟨MF.1,hb1⟩ W (.cons hd0 (.cons hd1 (.cons rfl (.cons rfl (.cons rfl (.cons rfl .nil))))))).mono fun e W' ⟨he,hk⟩=>⟨_,he,?_⟩;exact tO (by kernel_rfl) underlying4 (qJ (by kernel_rfl)) hW' rfl rfl hk
theorem lifted(os:Os)(started:os.Started)(H:Type)(enc:TypeId×Value→H):
  ReturnsInHanded {} checked os 7 .any (Rows.specFirstSpec.pre6 enc Tryz.prog f7 Rows.specFirstRow.domain false) (Rows.specFirstSpec.post enc Tryz.prog f7 false true false false):=by
 refine returnsInHanded_of_change (C:=checked) tM started (by kernel_rfl) func7
  (ChangeSpec.witness6 (enc:=enc) (C:=checked) false ⟨#[],#[.agg (Array.replicate 32 (.int .u8 0)),.slice none 0 0,.bool false,.bool false,.bool false,.bool false],[]⟩ 8 (by kernel_rfl) (by kernel_rfl) (by kernel_rfl) (by kernel_rfl)) ?_
 intro W base args ds gs before c7 hW _ _;exact lz H enc W base args ds gs before c7 hW
set_option maxHeartbeats 10000000 in
theorem closed:joinedFacts checked.prog 7 f7 Rows.specFirstSpec Rows.specFirstRow=true:=by
 unfold joinedFacts;simp only[Bool.and_eq_true]
 and_intros
 all_goals (as_aux_lemma=>kernel_rfl)
theorem named:checked.prog.funcNamed Rows.specFirstRow.func=some 7:=by kernel_rfl
theorem said:Rows.SpecFirstSaid:=
 OpenClaim.holds_of_wide 7 f7 rfl rfl rfl rfl rfl rfl rfl ⟨rfl,rfl,rfl,rfl,rfl⟩ rfl rfl rfl rfl rfl named func7 closed
  (of_decide_eq_true (by kernel_rfl)) (by unfold Func.isWrapper;first|(rw[if_pos (by decide+kernel)];kernel_rfl)|(rw[if_neg (by decide+kernel)];exact⟨rfl,rfl⟩))
  (fun os started H enc _=>lifted os started H enc)
end specFirst
end Go.Proofs.YtnbkagglkajbkaaGreat
