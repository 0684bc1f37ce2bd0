/- Parsers: the laws' code. -/
import Derived.Test.YtdpbkfmjknmmnaaH5
set_option linter.unusedVariables false
set_option linter.unusedSimpArgs false
namespace Go.Proofs.Ytdpbkfmjknmmnaa
open Go Go.Ev
set_option maxRecDepth 100000
theorem alive27_tree  : fnT Try.prog [(21, newE), (24, byteE), (23, wantE), (25, numE), (28, wholeE)] [] Try.f19 [] [] [.auto] =
    End.need
      (false = false →
        ¬(1 : Int) = (0 : Int) →
          (0 : Int) ≤ (0 : Int) ∧
            (0 : Int) < (4096 : Int) ∧ (4096 : Nat) = (4096 : Nat) ∧ ((1 : Int) = (4 : Int) → (8 : Int) = (4 : Int)))
      (End.ite (((7 : Int) == (7 : Int)) == true)
        (End.ite ((!false) == true)
          (End.ite (((0 : Int) == (0 : Int)) == true)
            (End.leaf (LV.one (VV.sc (SV.bool (SB.sym !(1 : Int) == (0 : Int))))) [])
            (End.leaf (LV.one (VV.sc (SV.bool (SB.lit false)))) []))
          (End.leaf (LV.one (VV.sc (SV.bool (SB.lit false)))) []))
        (End.leaf (LV.one (VV.sc (SV.bool (SB.lit false)))) [])) := by kernel_rfl
noncomputable def alive27E : Ent := Ent.of [] lNil lNil fun _ _ => .leaf none (.one (.sc (.bool (.lit true)))) []
theorem plays_tree (l : List Int) : fnT Try.prog [(19, alive27E), (21, newE), (22, rnewE), (20, plEnt)] [] Try.f4 (bA.wr (l, ())) [] [.fr [.sym], .auto] =
    End.ite (decide ((2500 : Int) < ↑l.length)) (End.leaf (LV.one (VV.sc (SV.bool (SB.sym true)))) [])
      (End.need
        (Sim
            { blocks := (0 : Int), block := (0 : Int), part := (1 : Int), len := (0 : Int), want := (8 : Int),
              buf := List.replicate (4096 : Nat) (0 : Int), bad := false }
            { part := (1 : Int), blocks := (0 : Int), block := (0 : Int), want := (8 : Int), held := [], bad := false,
              whole := false } ∧
          AllBy l ∧ l.length ≤ (70368744177664 : Nat))
        (End.leaf (LV.one (VV.sc (SV.bool (SB.sym true)))) [])) := by kernel_rfl
theorem alive27_ok : alive27E.Ok Try.prog 19 := by
  refine Ent.ofOk Try.call19 fun x y Q h => ?_
  refine (fnT_ok mixed (tabC new_ok (tabC byte_ok (tabC want_ok (tabC num_ok' (tabC whole_ok tab0))))) Try.func19 rfl (LT := []) (ks := [.auto]) (LOk.nil _)).useD (D := []) ?_ h.2
  show (fnT _ _ _ _ [] [] _).sat _
  rw [alive27_tree]
  exact ⟨fun _ _ => ⟨by omega, by omega, rfl, fun h => by omega⟩, fun _ => ⟨fun _ => ⟨fun _ => ⟨fun β L val h => h, rfl⟩, fun h => by cases h⟩, fun h => by cases h⟩, fun h => by cases h⟩
noncomputable def parserPlaysE : Ent := Ent.ofS [some u8] bA lNil fun x _ => .leaf (some (AllBy x.1)) (nB true) []
theorem parserPlays_ok : parserPlaysE.Ok Try.prog 4 := by
  refine (Ent.ofOk Try.call4 fun x y Q h => ?_).sym
  obtain ⟨l, _⟩ := x
  obtain ⟨hl, hq⟩ := h
  have hl : AllBy l := hl
  refine (fnT_ok mixed (tabC alive27_ok (tabC new_ok (tabC rnew_ok (tabC pl_ok tab0)))) Try.func4 rfl (LT := []) (ks := [.fr [.sym], .auto]) (LOk.nil _)).use (D := []) ?_ hq
  show (fnT _ _ _ _ (bA.wr (l, ())) [] _).sat _
  rw [plays_tree]
  refine ⟨fun _ => ⟨rfl, rfl⟩, fun h => ⟨⟨sim_new, hl, ?_⟩, rfl, rfl⟩⟩
  simp at h; omega
end Go.Proofs.Ytdpbkfmjknmmnaa
