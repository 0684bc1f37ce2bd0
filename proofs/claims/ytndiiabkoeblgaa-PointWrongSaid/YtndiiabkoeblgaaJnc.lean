/- Laws of chapter 12 hold: what any points come to (PointTells), the group (PointGroup), equality and bytes (PointSame), bytes that are no point (PointWrong). No condition. -/
import Derived.Test.YtndiiabkoeblgaaJnv
import Derived.Test.YtndiiabkoeblgaaLwg
namespace Go.Proofs.Ytndiiabkoeblgaa
open Go Go.Ev Go.ChangeShapes Go.WideShapes Go.ChangeAt Go.RowKit
set_option maxRecDepth 100000
namespace pointTells
theorem contract (H : Type) (enc : TypeId × Value → H) (W : World) (base : Nat) (args : Array Value) (ds gs : List (DataW H)) (before : List MemPlace)
    (hval : ∀ (j : Nat) t v, Try.f6.params[j]? = some t → args[j]? = some v → Value.okWide Try.prog W .any base t v)
    (hW : DataW.Whole enc Try.prog Try.f6.params.toList Rows.pointTellsSpec.vars false W args.toList ds gs before) :
    Calls Try.prog 6 args W fun e W' => ∃ v, e = .returned v ∧ Rows.pointTellsSpec.post enc Try.prog Try.f6 false true false false W args v W' := by
  have hW' := hW
  obtain ⟨p, q, hA0, hV, rfl, hfz, hnd⟩ := hW
  have hA : DataW.TrodAll enc Try.prog W 0 (fun _ => true) true Try.f6.params.toList args.toList ds p := hA0
  rw [Try.params6] at hA hval
  obtain ⟨v0, vs0, d0, ds0, p0, q0, hargs, rfl, rfl, h0, r0⟩ := trodAll_cons hA
  obtain ⟨v1, vs1, d1, ds1, p1, q1, rfl, rfl, rfl, h1, r1⟩ := trodAll_cons r0
  obtain ⟨rfl, rfl, rfl⟩ := trodAll_nil r1
  obtain rfl : args = #[v0, v1] := by cases args; simp_all
  obtain ⟨a0, rfl, w0⟩ := open_b32 (hval 0 22 v0 rfl rfl) h0
  obtain ⟨a1, rfl, w1⟩ := open_b32 (hval 1 22 v1 rfl rfl) h1
  have g := gives_of_out (gam_ok (t := lawTab2 at2C decodeC addPC negPC doubleC equalPC encodeC decode9C plus9C turn9C alike9C encode9C) ⟨r_live, r_at2, r_decode, r_padd, r_pneg, r_double, r_pequal, r_encode, q_decode, q_plus, q_turn, q_alike, q_encode, trivial⟩) mixed Try.func6 (tells_out at2C decodeC addPC negPC doubleC equalPC encodeC decode9C plus9C turn9C alike9C encode9C a0 a1)
  rw [show tellsFn at2C decodeC addPC negPC doubleC equalPC encodeC decode9C plus9C turn9C alike9C encode9C a0 a1 = true from tells_true w0 w1] at g
  refine (calls_of_gives g W fun β L => .cons (vec_arg a0 β L) (.cons (vec_arg a1 β L) (.nil))).mono fun e W' ⟨he, hk⟩ => ⟨_, he, ?_⟩
  exact law_post (by kernel_rfl) Try.underlying4 (params_in (by kernel_rfl)) hW' rfl rfl hk
theorem lifted (os : Os) (started : os.Started) (H : Type) (enc : TypeId × Value → H) :
    ReturnsInHanded {} Try.checked os 6 .any (Rows.pointTellsSpec.pre6 enc Try.prog Try.f6 Rows.pointTellsRow.domain false) (Rows.pointTellsSpec.post enc Try.prog Try.f6 false true false false) := by
  refine returnsInHanded_of_change (C := Try.checked) own_knob started (by kernel_rfl) Try.func6
    (ChangeSpec.witness6 (enc := enc) (C := Try.checked) false ⟨#[], #[blank32, blank32], []⟩ 8 (by kernel_rfl) (by kernel_rfl) (by kernel_rfl) (by kernel_rfl)) ?_
  intro W base args ds gs before hval hW _ _
  exact contract H enc W base args ds gs before hval hW
theorem said : Rows.PointTellsSaid :=
  OpenClaim.holds_of_wide 6 Try.f6 rfl rfl rfl rfl rfl rfl rfl ⟨rfl, rfl, rfl, rfl, rfl⟩ rfl rfl rfl rfl rfl (by kernel_rfl) Try.func6 (by kernel_rfl)
    (of_decide_eq_true (by kernel_rfl)) (by unfold Func.isWrapper; first | (rw [if_pos (by decide +kernel)]; kernel_rfl) | (rw [if_neg (by decide +kernel)]; exact ⟨rfl, rfl⟩))
    (fun os started H enc _ => lifted os started H enc)
end pointTells
namespace pointGroup
theorem contract (H : Type) (enc : TypeId × Value → H) (W : World) (base : Nat) (args : Array Value) (ds gs : List (DataW H)) (before : List MemPlace)
    (hval : ∀ (j : Nat) t v, Try.f7.params[j]? = some t → args[j]? = some v → Value.okWide Try.prog W .any base t v)
    (hW : DataW.Whole enc Try.prog Try.f7.params.toList Rows.pointGroupSpec.vars false W args.toList ds gs before) :
    Calls Try.prog 7 args W fun e W' => ∃ v, e = .returned v ∧ Rows.pointGroupSpec.post enc Try.prog Try.f7 false true false false W args v W' := by
  have hW' := hW
  obtain ⟨p, q, hA0, hV, rfl, hfz, hnd⟩ := hW
  have hA : DataW.TrodAll enc Try.prog W 0 (fun _ => true) true Try.f7.params.toList args.toList ds p := hA0
  rw [Try.params7] at hA hval
  obtain ⟨v0, vs0, d0, ds0, p0, q0, hargs, rfl, rfl, h0, r0⟩ := trodAll_cons hA
  obtain ⟨v1, vs1, d1, ds1, p1, q1, rfl, rfl, rfl, h1, r1⟩ := trodAll_cons r0
  obtain ⟨v2, vs2, d2, ds2, p2, q2, rfl, rfl, rfl, h2, r2⟩ := trodAll_cons r1
  obtain ⟨rfl, rfl, rfl⟩ := trodAll_nil r2
  obtain rfl : args = #[v0, v1, v2] := by cases args; simp_all
  obtain ⟨a0, rfl, w0⟩ := open_b32 (hval 0 22 v0 rfl rfl) h0
  obtain ⟨a1, rfl, w1⟩ := open_b32 (hval 1 22 v1 rfl rfl) h1
  obtain ⟨a2, rfl, w2⟩ := open_b32 (hval 2 22 v2 rfl rfl) h2
  have g := gives_of_out (gam_ok (t := lawTab at2C zeroC addPC negPC doubleC equalPC encodeC) ⟨r_live, r_at2, r_zero, r_padd, r_pneg, r_double, r_pequal, r_encode, trivial⟩) mixed Try.func7 (group_out at2C zeroC addPC negPC doubleC equalPC encodeC a0 a1 a2)
  rw [group_true w0 w1 w2] at g
  refine (calls_of_gives g W fun β L => .cons (vec_arg a0 β L) (.cons (vec_arg a1 β L) (.cons (vec_arg a2 β L) (.nil)))).mono fun e W' ⟨he, hk⟩ => ⟨_, he, ?_⟩
  exact law_post (by kernel_rfl) Try.underlying4 (params_in (by kernel_rfl)) hW' rfl rfl hk
theorem lifted (os : Os) (started : os.Started) (H : Type) (enc : TypeId × Value → H) :
    ReturnsInHanded {} Try.checked os 7 .any (Rows.pointGroupSpec.pre6 enc Try.prog Try.f7 Rows.pointGroupRow.domain false) (Rows.pointGroupSpec.post enc Try.prog Try.f7 false true false false) := by
  refine returnsInHanded_of_change (C := Try.checked) own_knob started (by kernel_rfl) Try.func7
    (ChangeSpec.witness6 (enc := enc) (C := Try.checked) false ⟨#[], #[blank32, blank32, blank32], []⟩ 8 (by kernel_rfl) (by kernel_rfl) (by kernel_rfl) (by kernel_rfl)) ?_
  intro W base args ds gs before hval hW _ _
  exact contract H enc W base args ds gs before hval hW
theorem said : Rows.PointGroupSaid :=
  OpenClaim.holds_of_wide 7 Try.f7 rfl rfl rfl rfl rfl rfl rfl ⟨rfl, rfl, rfl, rfl, rfl⟩ rfl rfl rfl rfl rfl (by kernel_rfl) Try.func7 (by kernel_rfl)
    (of_decide_eq_true (by kernel_rfl)) (by unfold Func.isWrapper; first | (rw [if_pos (by decide +kernel)]; kernel_rfl) | (rw [if_neg (by decide +kernel)]; exact ⟨rfl, rfl⟩))
    (fun os started H enc _ => lifted os started H enc)
end pointGroup
namespace pointSame
theorem contract (H : Type) (enc : TypeId × Value → H) (W : World) (base : Nat) (args : Array Value) (ds gs : List (DataW H)) (before : List MemPlace)
    (hval : ∀ (j : Nat) t v, Try.f8.params[j]? = some t → args[j]? = some v → Value.okWide Try.prog W .any base t v)
    (hW : DataW.Whole enc Try.prog Try.f8.params.toList Rows.pointSameSpec.vars false W args.toList ds gs before) :
    Calls Try.prog 8 args W fun e W' => ∃ v, e = .returned v ∧ Rows.pointSameSpec.post enc Try.prog Try.f8 false true false false W args v W' := by
  have hW' := hW
  obtain ⟨p, q, hA0, hV, rfl, hfz, hnd⟩ := hW
  have hA : DataW.TrodAll enc Try.prog W 0 (fun _ => true) true Try.f8.params.toList args.toList ds p := hA0
  rw [Try.params8] at hA hval
  obtain ⟨v0, vs0, d0, ds0, p0, q0, hargs, rfl, rfl, h0, r0⟩ := trodAll_cons hA
  obtain ⟨v1, vs1, d1, ds1, p1, q1, rfl, rfl, rfl, h1, r1⟩ := trodAll_cons r0
  obtain ⟨rfl, rfl, rfl⟩ := trodAll_nil r1
  obtain rfl : args = #[v0, v1] := by cases args; simp_all
  obtain ⟨a0, rfl, w0⟩ := open_b32 (hval 0 22 v0 rfl rfl) h0
  obtain ⟨a1, rfl, w1⟩ := open_b32 (hval 1 22 v1 rfl rfl) h1
  have g := gives_of_out (gam_ok (t := lawTab at2C zeroC addPC negPC doubleC equalPC encodeC) ⟨r_live, r_at2, r_zero, r_padd, r_pneg, r_double, r_pequal, r_encode, trivial⟩) mixed Try.func8 (same_out at2C zeroC addPC negPC doubleC equalPC encodeC a0 a1)
  rw [same_true w0 w1] at g
  refine (calls_of_gives g W fun β L => .cons (vec_arg a0 β L) (.cons (vec_arg a1 β L) (.nil))).mono fun e W' ⟨he, hk⟩ => ⟨_, he, ?_⟩
  exact law_post (by kernel_rfl) Try.underlying4 (params_in (by kernel_rfl)) hW' rfl rfl hk
theorem lifted (os : Os) (started : os.Started) (H : Type) (enc : TypeId × Value → H) :
    ReturnsInHanded {} Try.checked os 8 .any (Rows.pointSameSpec.pre6 enc Try.prog Try.f8 Rows.pointSameRow.domain false) (Rows.pointSameSpec.post enc Try.prog Try.f8 false true false false) := by
  refine returnsInHanded_of_change (C := Try.checked) own_knob started (by kernel_rfl) Try.func8
    (ChangeSpec.witness6 (enc := enc) (C := Try.checked) false ⟨#[], #[blank32, blank32], []⟩ 8 (by kernel_rfl) (by kernel_rfl) (by kernel_rfl) (by kernel_rfl)) ?_
  intro W base args ds gs before hval hW _ _
  exact contract H enc W base args ds gs before hval hW
theorem said : Rows.PointSameSaid :=
  OpenClaim.holds_of_wide 8 Try.f8 rfl rfl rfl rfl rfl rfl rfl ⟨rfl, rfl, rfl, rfl, rfl⟩ rfl rfl rfl rfl rfl (by kernel_rfl) Try.func8 (by kernel_rfl)
    (of_decide_eq_true (by kernel_rfl)) (by unfold Func.isWrapper; first | (rw [if_pos (by decide +kernel)]; kernel_rfl) | (rw [if_neg (by decide +kernel)]; exact ⟨rfl, rfl⟩))
    (fun os started H enc _ => lifted os started H enc)
end pointSame
namespace pointWrong
theorem contract (H : Type) (enc : TypeId × Value → H) (W : World) (base : Nat) (args : Array Value) (ds gs : List (DataW H)) (before : List MemPlace)
    (hval : ∀ (j : Nat) t v, Try.f4.params[j]? = some t → args[j]? = some v → Value.okWide Try.prog W .any base t v)
    (hW : DataW.Whole enc Try.prog Try.f4.params.toList Rows.pointWrongSpec.vars false W args.toList ds gs before) :
    Calls Try.prog 4 args W fun e W' => ∃ v, e = .returned v ∧ Rows.pointWrongSpec.post enc Try.prog Try.f4 false true false false W args v W' := by
  have hW' := hW
  obtain ⟨p, q, hA0, hV, rfl, hfz, hnd⟩ := hW
  have hA : DataW.TrodAll enc Try.prog W 0 (fun _ => true) true Try.f4.params.toList args.toList ds p := hA0
  rw [Try.params4] at hA hval
  obtain ⟨v0, vs0, d0, ds0, p0, q0, hargs, rfl, rfl, h0, r0⟩ := trodAll_cons hA
  obtain ⟨v1, vs1, d1, ds1, p1, q1, rfl, rfl, rfl, h1, r1⟩ := trodAll_cons r0
  obtain ⟨rfl, rfl, rfl⟩ := trodAll_nil r1
  obtain rfl : args = #[v0, v1] := by cases args; simp_all
  obtain ⟨a0, rfl, rfl, rfl, w0⟩ := open_int Try.underlying3 (hval 0 3 v0 rfl rfl) h0
  obtain ⟨a1, rfl, rfl, rfl⟩ := open_bool Try.underlying4 (hval 1 4 v1 rfl rfl) h1
  have g := gives_of_out (gam_ok (t := lawTab3 zeroC decodeC negPC doubleC equalPC) ⟨r_live, r_decode, r_zero, r_pequal, r_pneg, r_double, trivial⟩) mixed Try.func4 (wrong_out zeroC decodeC negPC doubleC equalPC a0 a1)
  rw [show wrongFn zeroC decodeC equalPC a0 a1 = true from wrong_true a0 a1] at g
  refine (calls_of_gives g W fun β L => .cons (rfl) (.cons (rfl) (.nil))).mono fun e W' ⟨he, hk⟩ => ⟨_, he, ?_⟩
  exact law_post (by kernel_rfl) Try.underlying4 (params_in (by kernel_rfl)) hW' rfl rfl hk
theorem lifted (os : Os) (started : os.Started) (H : Type) (enc : TypeId × Value → H) :
    ReturnsInHanded {} Try.checked os 4 .any (Rows.pointWrongSpec.pre6 enc Try.prog Try.f4 Rows.pointWrongRow.domain false) (Rows.pointWrongSpec.post enc Try.prog Try.f4 false true false false) := by
  refine returnsInHanded_of_change (C := Try.checked) own_knob started (by kernel_rfl) Try.func4
    (ChangeSpec.witness6 (enc := enc) (C := Try.checked) false ⟨#[], #[.int .i64 0, .bool false], []⟩ 8 (by kernel_rfl) (by kernel_rfl) (by kernel_rfl) (by kernel_rfl)) ?_
  intro W base args ds gs before hval hW _ _
  exact contract H enc W base args ds gs before hval hW
theorem said : Rows.PointWrongSaid :=
  OpenClaim.holds_of_wide 4 Try.f4 rfl rfl rfl rfl rfl rfl rfl ⟨rfl, rfl, rfl, rfl, rfl⟩ rfl rfl rfl rfl rfl (by kernel_rfl) Try.func4 (by kernel_rfl)
    (of_decide_eq_true (by kernel_rfl)) (by unfold Func.isWrapper; first | (rw [if_pos (by decide +kernel)]; kernel_rfl) | (rw [if_neg (by decide +kernel)]; exact ⟨rfl, rfl⟩))
    (fun os started H enc _ => lifted os started H enc)
end pointWrong
end Go.Proofs.Ytndiiabkoeblgaa
