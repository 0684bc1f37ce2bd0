/- The law SpecTells, joined: Judge agrees with the definition for arbitrary bytes, keys, floors and room. -/
import Derived.Test.YtnbkagglkajbkaaGreatA20
set_option linter.unusedVariables false
set_option linter.unusedSimpArgs false
namespace Go.Proofs.YtnbkagglkajbkaaGreat
open Go Go.Ev Go.ChangeShapes Go.WideShapes Go.ChangeAt Go.RowKit Go.Proofs.Tryz
open Go.IntKind (i64 signed u16 u64 wrap)
set_option maxRecDepth 100000
namespace specTells
theorem anq(H:Type)(enc:TypeId×Value→H)(W:World)(base:Nat)(args:Array Value)(ds gs:List (DataW H))(before:List MemPlace)
  (ns:∀ (j:Nat) t v,Tryz.f4.params[j]? =some t→args[j]? =some v→Value.okWide Tryz.prog W .any base t v)
  (hW:DataW.Whole enc Tryz.prog Tryz.f4.params.toList Rows.specTellsSpec.vars false W args.toList ds gs before):
  Calls Tryz.prog 4 args W fun e W'=>∃v,e= .returned v∧Rows.specTellsSpec.post enc Tryz.prog Tryz.f4 false true false false W args v W':=by
 have hW':=hW;obtain⟨p,q,hA0,hV,rfl,hfz,hnd⟩:=hW;have hA:DataW.TrodAll enc Tryz.prog W 0 (fun _=>true) true Tryz.f4.params.toList args.toList ds p:=hA0;rw[params4]at hA ns;obtain⟨v0,vs0,d0,ds0,p0,q0,eh,rfl,rfl,h0,r0⟩:=trodAll_cons hA;obtain⟨v1,vs1,d1,ds1,p1,q1,rfl,rfl,rfl,h1,r1⟩:=trodAll_cons r0;obtain⟨v2,vs2,d2,ds2,p2,q2,rfl,rfl,rfl,h2,r2⟩:=trodAll_cons r1;obtain⟨v3,vs3,d3,ds3,p3,q3,rfl,rfl,rfl,h3,r3⟩:=trodAll_cons r2;obtain⟨rfl,rfl,rfl⟩:=trodAll_nil r3;obtain rfl:args= #[v0,v1,v2,v3]:=by cases args;simp_all
 obtain⟨x0,hb0,hd0⟩:=Zx (ns 0 37 v0 rfl rfl) h0;obtain⟨x1,rfl,rfl,rfl,hw1⟩:=open_int underlying23 (ns 1 23 v1 rfl rfl) h1;obtain⟨x2,rfl,rfl,rfl,hw2⟩:=open_int underlying3 (ns 2 3 v2 rfl rfl) h2;obtain⟨x3,hb3,hd3⟩:=Qn (ns 3 27 v3 rfl rfl) h3;refine(G3 call4 adM (args:=DZ.wr (x0,x1,x2,x3,())) rfl ⟨hb0,hb3⟩ W (.cons hd0 (.cons rfl (.cons rfl (.cons hd3 .nil))))).mono fun e W' ⟨he,hk⟩=>⟨_,he,?_⟩;exact aeU (by kernel_rfl) underlying4 (Zw (by kernel_rfl)) hW' rfl rfl hk
theorem lifted(os:Os)(started:os.Started)(H:Type)(enc:TypeId×Value→H):
  ReturnsInHanded {} checked os 4 .any (Rows.specTellsSpec.pre6 enc Tryz.prog Tryz.f4 Rows.specTellsRow.domain false) (Rows.specTellsSpec.post enc Tryz.prog Tryz.f4 false true false false):=by
 refine returnsInHanded_of_change (C:=checked) aeS started (by kernel_rfl) func4
  (ChangeSpec.witness6 (enc:=enc) (C:=checked) false ⟨#[],#[.slice none 0 0,.int .u64 0,.int .i64 0,.slice none 0 0],[]⟩ 8 (by kernel_rfl) (by kernel_rfl) (by kernel_rfl) (by kernel_rfl)) ?_
 intro W base args ds gs before ns hW _ _;exact anq H enc W base args ds gs before ns hW
set_option maxHeartbeats 10000000 in
theorem closed:joinedFacts checked.prog 4 Tryz.f4 Rows.specTellsSpec Rows.specTellsRow=true:=by
 unfold joinedFacts;simp only[Bool.and_eq_true]
 and_intros
 all_goals (as_aux_lemma=>kernel_rfl)
theorem named:checked.prog.funcNamed Rows.specTellsRow.func=some 4:=by kernel_rfl
theorem said:Rows.SpecTellsSaid:=
 OpenClaim.holds_of_wide 4 Tryz.f4 rfl rfl rfl rfl rfl rfl rfl ⟨rfl,rfl,rfl,rfl,rfl⟩ rfl rfl rfl rfl rfl named func4 closed
  (of_decide_eq_true (by kernel_rfl)) (by unfold Func.isWrapper;first|(rw[if_pos (by decide+kernel)];kernel_rfl)|(rw[if_neg (by decide+kernel)];exact⟨rfl,rfl⟩))
  (fun os started H enc _=>lifted os started H enc)
end specTells
end Go.Proofs.YtnbkagglkajbkaaGreat
