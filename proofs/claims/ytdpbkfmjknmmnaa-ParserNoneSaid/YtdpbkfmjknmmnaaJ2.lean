/- Laws of bytes, joined. -/
import Derived.Test.YtdpbkfmjknmmnaaJx
import Derived.Test.YtdpbkfmjknmmnaaH6
set_option linter.unusedVariables false
set_option linter.unusedSimpArgs false
namespace Go.Proofs.Ytdpbkfmjknmmnaa
open Go Go.Ev Go.ChangeShapes Go.WideShapes Go.ChangeAt Go.RowKit
set_option maxRecDepth 100000
theorem wf_u8 {z : Int} (h : (Lit.int .u8 z).wf = true) : By z := by
  have := bounds_u8 h
  unfold By; omega
theorem cells_u8 : Try.prog.cellsOf 5 = 1 := by kernel_rfl
theorem open_bytes {H : Type} {enc : TypeId × Value → H} {W : World} {base : Nat} {v : Value} {d : DataW H} {p : List MemPlace}
    (hval : Value.okWide Try.prog W .any base 31 v) (h : DataW.Trod enc Try.prog W 0 (fun _ => true) true 31 v d p) :
    ∃ l : List Int, AllBy l ∧ (LV.one (.sc (.rd false false u8 l))).den (env0 W) (kd []) v := by
  obtain ⟨fuel, h⟩ := h
  have hone : v.cells.toList = [v] := by
    unfold Value.okWide at hval
    rw [Try.underlying31] at hval
    cases v <;> first | rfl | (exfalso; simp [Cell.okWide, Cell.ok, Try.underlying31] at hval)
  rw [hone] at h
  rcases open_ints Try.underlying31 Try.underlying5 cells_u8 h with ⟨e, _⟩ | ⟨a, len, cap, zs, e, _, hlc, _, hzl, _, hcell, hwf⟩
  · obtain rfl : v = .slice none 0 0 := by simpa using e
    exact ⟨[], fun z hz => (by simp at hz), rfl, (fun e => by cases e), .inr (.inr ⟨rfl, rfl⟩)⟩
  · obtain rfl : v = .slice (some a) len cap := by simpa using e
    simp only [if_true] at hzl
    refine ⟨zs.take len, fun z hz => wf_u8 (hwf z (List.mem_of_mem_take hz)), rfl, (fun e => by cases e), .inr (.inl ⟨rfl, rfl, by decide, ?_⟩)⟩
    refine ⟨some a, len, cap, rfl, by simp; omega, hlc, (fun e => by cases e), fun h0 => ?_⟩
    have h00 := hcell 0 (by omega)
    have hsp : a.spot = none := by
      have : a.add 0 = a := by cases a; simp [Addr.add]
      rw [this] at h00
      exact World.cell?_spot h00
    refine ⟨a, (zs.take len).map (.int .u8), rfl, hsp, ?_, fun i u hu => ?_⟩
    · generalize zs.take len = l
      induction l with
      | nil => exact .nil
      | cons x l ih => exact HasL.cons (vs := [.int .u8 x]) rfl ih
    · rw [List.getElem?_map] at hu
      obtain ⟨z, hz, rfl⟩ := map_some hu
      have hil : i < len ∧ i < zs.length := by
        have := (List.getElem?_eq_some_iff.1 hz).1
        simp at this; omega
      rw [hcell i hil.2]
      rw [List.getElem?_take, if_pos hil.1] at hz
      rw [List.getD_eq_getElem?_getD, hz]; rfl
namespace parserPlays
theorem contract (H : Type) (enc : TypeId × Value → H) (W : World) (base : Nat) (args : Array Value) (ds gs : List (DataW H)) (before : List MemPlace)
    (hval : ∀ (j : Nat) t v, Try.f4.params[j]? = some t → args[j]? = some v → Value.okWide Try.prog W .any base t v)
    (hW : DataW.Whole enc Try.prog Try.f4.params.toList Rows.parserPlaysSpec.vars false W args.toList ds gs before) :
    Calls Try.prog 4 args W fun e W' => ∃ v, e = .returned v ∧ Rows.parserPlaysSpec.post enc Try.prog Try.f4 false true false false W args v W' := by
  have hW' := hW
  obtain ⟨p, q, hA0, hV, rfl, hfz, hnd⟩ := hW
  have hA : DataW.TrodAll enc Try.prog W 0 (fun _ => true) true Try.f4.params.toList args.toList ds p := hA0
  rw [Try.params4] at hA hval
  obtain ⟨v0, vs0, d0, ds0, p0, q0, hargs, rfl, rfl, h0, r0⟩ := trodAll_cons hA
  obtain ⟨rfl, rfl, rfl⟩ := trodAll_nil r0
  obtain rfl : args = #[v0] := by cases args; simp_all
  obtain ⟨l, hb, hd⟩ := open_bytes (hval 0 31 v0 rfl rfl) h0
  refine (calls_of_ent parserPlays_ok (args := bA.wr (l, ())) rfl hb W (.cons hd .nil)).mono fun e W' ⟨he, hk⟩ => ⟨_, he, ?_⟩
  exact law_post (by kernel_rfl) Try.underlying4 (params_in (by kernel_rfl)) hW' rfl rfl hk
theorem lifted (os : Os) (started : os.Started) (H : Type) (enc : TypeId × Value → H) :
    ReturnsInHanded {} Try.checked os 4 .any (Rows.parserPlaysSpec.pre6 enc Try.prog Try.f4 Rows.parserPlaysRow.domain false) (Rows.parserPlaysSpec.post enc Try.prog Try.f4 false true false false) := by
  refine returnsInHanded_of_change (C := Try.checked) own_knob started (by kernel_rfl) Try.func4
    (ChangeSpec.witness6 (enc := enc) (C := Try.checked) false ⟨#[], #[.slice none 0 0], []⟩ 8 (by kernel_rfl) (by kernel_rfl) (by kernel_rfl) (by kernel_rfl)) ?_
  intro W base args ds gs before hval hW _ _
  exact contract H enc W base args ds gs before hval hW
theorem said : Rows.ParserPlaysSaid :=
  OpenClaim.holds_of_wide 4 Try.f4 rfl rfl rfl rfl rfl rfl rfl ⟨rfl, rfl, rfl, rfl, rfl⟩ rfl rfl rfl rfl rfl (by kernel_rfl) Try.func4 (by kernel_rfl)
    (of_decide_eq_true (by kernel_rfl)) (by unfold Func.isWrapper; first | (rw [if_pos (by decide +kernel)]; kernel_rfl) | (rw [if_neg (by decide +kernel)]; exact ⟨rfl, rfl⟩))
    (fun os started H enc _ => lifted os started H enc)
end parserPlays
end Go.Proofs.Ytdpbkfmjknmmnaa
