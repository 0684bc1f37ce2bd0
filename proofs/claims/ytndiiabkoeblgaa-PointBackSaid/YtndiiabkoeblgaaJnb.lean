/- PointBack holds: bytes that are a point are told by just these bytes, and are read again as this point. No condition. -/
import Derived.Test.YtndiiabkoeblgaaJna
import Derived.Test.YtndiiabkoeblgaaLwc
namespace Go.Proofs.Ytndiiabkoeblgaa
open Go Go.Ev Go.ChangeShapes Go.WideShapes Go.ChangeAt Go.RowKit
set_option maxRecDepth 100000
theorem okB_of : ∀ {n : Nat} {u : Vec Int n}, (∀ z ∈ u.toList, (Lit.int .u8 z).wf = true) → OkB u
  | 0, _, _ => trivial
  | _ + 1, u, h => ⟨wf_u8 (h u.1 (by simp [Vec.toList])), okB_of fun z hz => h z (by simp [Vec.toList, hz])⟩
theorem cellsB : Try.prog.cellsOf 5 = 1 := by kernel_rfl
theorem cellsB32 : Try.prog.cellsOf 22 = 32 := by kernel_rfl
theorem open_b32 {H : Type} {enc : TypeId × Value → H} {W : World} {base : Nat} {v : Value} {d : DataW H} {p : List MemPlace}
    (hval : Value.okWide Try.prog W .any base 22 v) (h : DataW.Trod enc Try.prog W 0 (fun _ => true) true 22 v d p) :
    ∃ u : B32, v = .agg (u.toList.map (.int .u8)).toArray ∧ OkB u := by
  obtain ⟨u, h1, h2⟩ := open_vec Try.underlying22 Try.underlying5 cellsB cellsB32 hval h
  exact ⟨u, h1, okB_of h2⟩
abbrev blank32 : Value := .agg (Array.replicate 32 (.int .u8 0))
namespace pointBack
theorem contract (H : Type) (enc : TypeId × Value → H) (W : World) (base : Nat) (args : Array Value) (ds gs : List (DataW H)) (before : List MemPlace)
    (hval : ∀ (j : Nat) t v, Try.f3.params[j]? = some t → args[j]? = some v → Value.okWide Try.prog W .any base t v)
    (hW : DataW.Whole enc Try.prog Try.f3.params.toList Rows.pointBackSpec.vars false W args.toList ds gs before) :
    Calls Try.prog 3 args W fun e W' => ∃ v, e = .returned v ∧ Rows.pointBackSpec.post enc Try.prog Try.f3 false true false false W args v W' := by
  have hW' := hW
  obtain ⟨p, q, hA0, hV, rfl, hfz, hnd⟩ := hW
  have hA : DataW.TrodAll enc Try.prog W 0 (fun _ => true) true Try.f3.params.toList args.toList ds p := hA0
  rw [Try.params3] at hA hval
  obtain ⟨v0, vs0, d0, ds0, p0, q0, hargs, rfl, rfl, h0, r0⟩ := trodAll_cons hA
  obtain ⟨rfl, rfl, rfl⟩ := trodAll_nil r0
  obtain rfl : args = #[v0] := by cases args; simp_all
  obtain ⟨a, rfl, ha⟩ := open_b32 (hval 0 22 v0 rfl rfl) h0
  have g := back_gives a
  rw [back_true ha] at g
  refine (calls_of_gives g W fun β L => .cons (vec_arg a β L) .nil).mono fun e W' ⟨he, hk⟩ => ⟨_, he, ?_⟩
  exact law_post (by kernel_rfl) Try.underlying4 (params_in (by kernel_rfl)) hW' rfl rfl hk
set_option maxRecDepth 100000 in
theorem lifted (os : Os) (started : os.Started) (H : Type) (enc : TypeId × Value → H) :
    ReturnsInHanded {} Try.checked os 3 .any (Rows.pointBackSpec.pre6 enc Try.prog Try.f3 Rows.pointBackRow.domain false) (Rows.pointBackSpec.post enc Try.prog Try.f3 false true false false) := by
  refine returnsInHanded_of_change (C := Try.checked) own_knob started (by kernel_rfl) Try.func3
    (ChangeSpec.witness6 (enc := enc) (C := Try.checked) false ⟨#[], #[blank32], []⟩ 8 (by kernel_rfl) (by kernel_rfl) (by kernel_rfl) (by kernel_rfl)) ?_
  intro W base args ds gs before hval hW _ _
  exact contract H enc W base args ds gs before hval hW
theorem said : Rows.PointBackSaid :=
  OpenClaim.holds_of_wide 3 Try.f3 rfl rfl rfl rfl rfl rfl rfl ⟨rfl, rfl, rfl, rfl, rfl⟩ rfl rfl rfl rfl rfl (by kernel_rfl) Try.func3 (by kernel_rfl)
    (of_decide_eq_true (by kernel_rfl)) (by unfold Func.isWrapper; first | (rw [if_pos (by decide +kernel)]; kernel_rfl) | (rw [if_neg (by decide +kernel)]; exact ⟨rfl, rfl⟩))
    (fun os started H enc _ => lifted os started H enc)
end pointBack
end Go.Proofs.Ytndiiabkoeblgaa
