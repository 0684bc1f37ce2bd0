/- The law ManifestTells, joined. -/
import Derived.Test.YtdpbkfmjknmmnaaJx
import Derived.Test.YtdpbkfmjknmmnaaG4
set_option linter.unusedVariables false
set_option linter.unusedSimpArgs false
namespace Go.Proofs.Ytdpbkfmjknmmnaa
open Go Go.Ev Go.ChangeShapes Go.WideShapes Go.ChangeAt Go.RowKit
set_option maxRecDepth 100000
theorem wf_u64 {z : Int} (h : (Lit.int .u64 z).wf = true) : 0 ≤ z ∧ z < 18446744073709551616 := by
  have := bounds_u64 h
  omega
namespace manifestTells
def labBts : List Bt := .int .i64 :: .int .i64 :: .int .u64 :: .int .u64 :: .int .i64 :: (List.replicate 64 (.int .u8) ++ (List.replicate 64 (.int .u8) ++ (List.replicate 64 (.int .u8) ++ [])))
theorem labFlat : flatT Try.prog 10 29 = some labBts := by kernel_rfl
theorem open_lab {cs : List Value} (h : All2 Bt.fits labBts cs) (β : Env) : ∃ (a b c v s : Int) (x y z : List Int), (0 ≤ c ∧ c < 18446744073709551616 ∧ 0 ≤ v ∧ v < 18446744073709551616) ∧ DenL β (kd []) ((rowsHead (rowsMan (lCons (sArr u8 64) lNil))).wr (a, b, c, v, s, x, y, z, ())) cs := by
  cases h with
  | cons h1 h => cases h with
  | cons h2 h => cases h with
  | cons h3 h => cases h with
  | cons h4 h => cases h with
  | cons h5 h =>
    obtain ⟨a, rfl, _⟩ := h1
    obtain ⟨b, rfl, _⟩ := h2
    obtain ⟨c, rfl, w3⟩ := h3
    obtain ⟨v, rfl, w4⟩ := h4
    obtain ⟨s, rfl, _⟩ := h5
    obtain ⟨x, ux, rx, rfl, lx, _, hx, _, h⟩ := fits_row (β := β) (pm := true) 64 h
    obtain ⟨y, uy, ry, rfl, ly, _, hy, _, h⟩ := fits_row (β := β) (pm := true) 64 h
    obtain ⟨z, uz, rz, rfl, lz, _, hz, _, h⟩ := fits_row (β := β) (pm := true) 64 h
    cases h
    have := wf_u64 w3
    have := wf_u64 w4
    exact ⟨a, b, c, v, s, x, y, z, by omega, DenL.cons1 rfl (DenL.cons1 rfl (DenL.cons1 rfl (DenL.cons1 rfl (DenL.cons1 rfl (HasL.cons ⟨lx, hx⟩ (HasL.cons ⟨ly, hy⟩ (HasL.cons ⟨lz, hz⟩ .nil)))))))⟩
theorem contract (H : Type) (enc : TypeId × Value → H) (W : World) (base : Nat) (args : Array Value) (ds gs : List (DataW H)) (before : List MemPlace)
    (hval : ∀ (j : Nat) t v, Try.f3.params[j]? = some t → args[j]? = some v → Value.okWide Try.prog W .any base t v)
    (hW : DataW.Whole enc Try.prog Try.f3.params.toList Rows.manifestTellsSpec.vars false W args.toList ds gs before) :
    Calls Try.prog 3 args W fun e W' => ∃ v, e = .returned v ∧ Rows.manifestTellsSpec.post enc Try.prog Try.f3 false true false false W args v W' := by
  have hW' := hW
  obtain ⟨p, q, hA0, hV, rfl, hfz, hnd⟩ := hW
  have hA : DataW.TrodAll enc Try.prog W 0 (fun _ => true) true Try.f3.params.toList args.toList ds p := hA0
  rw [Try.params3] at hA hval
  obtain ⟨v0, vs0, d0, ds0, p0, q0, hargs, rfl, rfl, h0, r0⟩ := trodAll_cons hA
  obtain ⟨rfl, rfl, rfl⟩ := trodAll_nil r0
  obtain rfl : args = #[v0] := by cases args; simp_all
  have hv := hval 0 29 v0 rfl rfl
  unfold Value.okWide at hv
  rw [Try.underlying29] at hv
  obtain ⟨cs, rfl, _, _⟩ := hv
  obtain ⟨fuel, h0⟩ := h0
  obtain ⟨a, b, c, v, s, x, y, z, hr, hd⟩ := open_lab (flat_ok 10 labFlat h0) (env0 W)
  refine (calls_of_ent tells_ok (args := labA.wr ((a, b, c, v, s, x, y, z, ()), ())) rfl hr W (.cons ⟨_, by simp [Value.cells], hd⟩ .nil)).mono fun e W' ⟨he, hk⟩ => ⟨_, he, ?_⟩
  exact law_post (by kernel_rfl) Try.underlying4 (params_in (by kernel_rfl)) hW' rfl rfl hk
theorem lifted (os : Os) (started : os.Started) (H : Type) (enc : TypeId × Value → H) :
    ReturnsInHanded {} Try.checked os 3 .any (Rows.manifestTellsSpec.pre6 enc Try.prog Try.f3 Rows.manifestTellsRow.domain false) (Rows.manifestTellsSpec.post enc Try.prog Try.f3 false true false false) := by
  refine returnsInHanded_of_change (C := Try.checked) own_knob started (by kernel_rfl) Try.func3
    (ChangeSpec.witness6 (enc := enc) (C := Try.checked) false ⟨#[], #[.agg (#[.int .i64 0, .int .i64 0, .int .u64 0, .int .u64 0, .int .i64 0] ++ Array.replicate 192 (.int .u8 0))], []⟩ 8 (by kernel_rfl) (by kernel_rfl) (by kernel_rfl) (by kernel_rfl)) ?_
  intro W base args ds gs before hval hW _ _
  exact contract H enc W base args ds gs before hval hW
theorem said : Rows.ManifestTellsSaid :=
  OpenClaim.holds_of_wide 3 Try.f3 rfl rfl rfl rfl rfl rfl rfl ⟨rfl, rfl, rfl, rfl, rfl⟩ rfl rfl rfl rfl rfl (by kernel_rfl) Try.func3 (by kernel_rfl)
    (of_decide_eq_true (by kernel_rfl)) (by unfold Func.isWrapper; first | (rw [if_pos (by decide +kernel)]; kernel_rfl) | (rw [if_neg (by decide +kernel)]; exact ⟨rfl, rfl⟩))
    (fun os started H enc _ => lifted os started H enc)
end manifestTells
end Go.Proofs.Ytdpbkfmjknmmnaa
