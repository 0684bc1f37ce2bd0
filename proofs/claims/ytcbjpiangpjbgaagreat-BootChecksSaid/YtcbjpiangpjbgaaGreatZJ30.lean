/- The law BootChecks, joined: Check and Run agree with the definition for arbitrary flash contents and floors. -/
import Derived.Test.YtcbjpiangpjbgaaGreatA19
set_option linter.unusedVariables false
set_option linter.unusedSimpArgs false
namespace Go.Proofs.YtcbjpiangpjbgaaGreat
open Go Go.Ev Go.ChangeShapes Go.WideShapes Go.ChangeAt Go.RowKit Go.Proofs.Tryz
open Go.IntKind (i64 signed u32 u64 wrap wrap_u32)
set_option maxRecDepth 100000
namespace bootChecks
theorem alG(H:Type)(enc:TypeId×Value→H)(W:World)(base:Nat)(args:Array Value)(ds gs:List (DataW H))(before:List MemPlace)
  (kW:∀ (j:Nat) t v,Tryz.f3.params[j]? =some t→args[j]? =some v→Value.okWide Tryz.prog W .any base t v)
  (hW:DataW.Whole enc Tryz.prog Tryz.f3.params.toList Rows.bootChecksSpec.vars false W args.toList ds gs before):
  Calls Tryz.prog 3 args W fun e W'=>∃v,e= .returned v∧Rows.bootChecksSpec.post enc Tryz.prog Tryz.f3 false true false false W args v W':=by
 have hW':=hW;obtain⟨p,q,hA0,hV,rfl,hfz,hnd⟩:=hW;have hA:DataW.TrodAll enc Tryz.prog W 0 (fun _=>true) true Tryz.f3.params.toList args.toList ds p:=hA0;rw[params3]at hA kW;obtain⟨v0,vs0,d0,ds0,p0,q0,eA,rfl,rfl,h0,r0⟩:=trodAll_cons hA;obtain⟨v1,vs1,d1,ds1,p1,q1,rfl,rfl,rfl,h1,r1⟩:=trodAll_cons r0;obtain⟨v2,vs2,d2,ds2,p2,q2,rfl,rfl,rfl,h2,r2⟩:=trodAll_cons r1;obtain⟨v3,vs3,d3,ds3,p3,q3,rfl,rfl,rfl,h3,r3⟩:=trodAll_cons r2;obtain⟨v4,vs4,d4,ds4,p4,q4,rfl,rfl,rfl,h4,r4⟩:=trodAll_cons r3;obtain⟨v5,vs5,d5,ds5,p5,q5,rfl,rfl,rfl,h5,r5⟩:=trodAll_cons r4;obtain⟨v6,vs6,d6,ds6,p6,q6,rfl,rfl,rfl,h6,r6⟩:=trodAll_cons r5;obtain⟨rfl,rfl,rfl⟩:=trodAll_nil r6;obtain rfl:args= #[v0,v1,v2,v3,v4,v5,v6]:=by cases args;simp_all
 obtain⟨x0,hb0,hd0⟩:=ab0 (kW 0 24 v0 rfl rfl) h0;obtain⟨x1,rfl,rfl,rfl,hw1⟩:=open_int underlying3 (kW 1 3 v1 rfl rfl) h1;obtain⟨x2,rfl,rfl,rfl,hw2⟩:=open_int underlying3 (kW 2 3 v2 rfl rfl) h2;obtain⟨x3,rfl,rfl,rfl,hw3⟩:=open_int underlying25 (kW 3 25 v3 rfl rfl) h3;obtain⟨x4,rfl,rfl,rfl,hw4⟩:=open_int underlying3 (kW 4 3 v4 rfl rfl) h4;obtain⟨x5,hb5,hd5⟩:=zt (kW 5 26 v5 rfl rfl) h5;obtain⟨x6,hb6,hd6⟩:=zt (kW 6 26 v6 rfl rfl) h6;refine(Dx call3 az6 (args:=az2.wr (x0,x1,x2,x3,x4,x5,x6,())) rfl ⟨hb0,hb5,hb6⟩ W (.cons hd0 (.cons rfl (.cons rfl (.cons rfl (.cons rfl (.cons hd5 (.cons hd6 .nil)))))))).mono fun e W' ⟨he,hk⟩=>⟨_,he,?_⟩;exact aaX (by kernel_rfl) underlying4 (Vy (by kernel_rfl)) hW' rfl rfl hk
theorem lifted(os:Os)(started:os.Started)(H:Type)(enc:TypeId×Value→H):
  ReturnsInHanded {} checked os 3 .any (Rows.bootChecksSpec.pre6 enc Tryz.prog Tryz.f3 Rows.bootChecksRow.domain false) (Rows.bootChecksSpec.post enc Tryz.prog Tryz.f3 false true false false):=by
 refine returnsInHanded_of_change (C:=checked) aaV started (by kernel_rfl) func3
  (ChangeSpec.witness6 (enc:=enc) (C:=checked) false ⟨#[],#[.agg #[.slice none 0 0,.int .i64 0],.int .i64 0,.int .i64 0,.int .u64 0,.int .i64 0,.slice none 0 0,.slice none 0 0],[]⟩ 8 (by kernel_rfl) (by kernel_rfl) (by kernel_rfl) (by kernel_rfl)) ?_
 intro W base args ds gs before kW hW _ _;exact alG H enc W base args ds gs before kW hW
set_option maxHeartbeats 10000000 in
theorem closed:joinedFacts checked.prog 3 Tryz.f3 Rows.bootChecksSpec Rows.bootChecksRow=true:=by
 unfold joinedFacts;simp only[Bool.and_eq_true]
 and_intros
 all_goals (as_aux_lemma=>kernel_rfl)
theorem named:checked.prog.funcNamed Rows.bootChecksRow.func=some 3:=by kernel_rfl
theorem said:Rows.BootChecksSaid:=
 OpenClaim.holds_of_wide 3 Tryz.f3 rfl rfl rfl rfl rfl rfl rfl ⟨rfl,rfl,rfl,rfl,rfl⟩ rfl rfl rfl rfl rfl named func3 closed
  (of_decide_eq_true (by kernel_rfl)) (by unfold Func.isWrapper;first|(rw[if_pos (by decide+kernel)];kernel_rfl)|(rw[if_neg (by decide+kernel)];exact⟨rfl,rfl⟩))
  (fun os started H enc _=>lifted os started H enc)
end bootChecks
end Go.Proofs.YtcbjpiangpjbgaaGreat
