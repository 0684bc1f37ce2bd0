/- Parsers: at a block. -/
import Derived.Test.YtdpbkfmjknmmnaaH6
set_option linter.unusedVariables false
set_option linter.unusedSimpArgs false
namespace Go.Proofs.Ytdpbkfmjknmmnaa
open Go Go.Ev
set_option maxRecDepth 100000
def atR (blocks block : Int) : RR := ⟨4, blocks, block, 4, [], false, block == blocks⟩
noncomputable def ratE : Ent := Ent.ofS [] iiA lNil fun x _ => .ite (atBad x.1 x.2.1) (.leaf none (.tup [.sc (.con (.pointer none)), .sc (.int .i64 (.sym 1))]) []) (.leaf none (.tup [.sc (.ptr 0 0), .sc (.int .i64 (.sym 0))]) [(0, rI (atR x.1 x.2.1))])
theorem at_law_tree (a b : Int) (l : List Int) : fnT Try.prog [(19, alive27E), (26, atE), (27, ratE), (25, numE), (20, plEnt)] [] Try.f6 ((lCons (vOne (sInt .i64)) (lCons (vOne (sInt .i64)) (lCons (vOne (sRd false false u8)) lNil))).wr (a, b, l, ())) [] [.fr [.sym], .auto] =
    End.ite (decide ((2500 : Int) < ↑l.length)) (End.leaf (LV.one (VV.sc (SV.bool (SB.sym true)))) [])
      (End.ite (atBad a b)
        (End.ite (atBad a b)
          (End.ite (((1 : Int) != (1 : Int)) == false)
            (End.ite ((1 : Int) != (0 : Int))
              (End.ite (((1 : Int) == (1 : Int)) == true) (End.leaf (LV.one (VV.sc (SV.bool (SB.sym true)))) [])
                (End.leaf (LV.one (VV.sc (SV.bool (SB.sym false)))) []))
              End.fail)
            (End.ite (((1 : Int) == (1 : Int)) == true) (End.leaf (LV.one (VV.sc (SV.bool (SB.sym true)))) [])
              (End.leaf (LV.one (VV.sc (SV.bool (SB.sym false)))) [])))
          (End.ite (((1 : Int) != (0 : Int)) == false)
            (End.ite ((0 : Int) != (0 : Int))
              (End.ite (((1 : Int) == (0 : Int)) == true) (End.leaf (LV.one (VV.sc (SV.bool (SB.sym true)))) [])
                (End.leaf (LV.one (VV.sc (SV.bool (SB.sym false)))) []))
              End.fail)
            (End.ite (((1 : Int) == (0 : Int)) == true) (End.leaf (LV.one (VV.sc (SV.bool (SB.sym true)))) [])
              (End.leaf (LV.one (VV.sc (SV.bool (SB.sym false)))) []))))
        (End.ite (atBad a b)
          (End.ite (((0 : Int) != (1 : Int)) == false)
            (End.ite ((1 : Int) != (0 : Int))
              (End.ite (((0 : Int) == (1 : Int)) == true) (End.leaf (LV.one (VV.sc (SV.bool (SB.sym false)))) [])
                (End.leaf (LV.one (VV.sc (SV.bool (SB.sym false)))) []))
              End.fail)
            (End.ite (((0 : Int) == (1 : Int)) == true) (End.leaf (LV.one (VV.sc (SV.bool (SB.sym false)))) [])
              (End.leaf (LV.one (VV.sc (SV.bool (SB.sym false)))) [])))
          (End.ite (((0 : Int) != (0 : Int)) == false)
            (End.ite ((0 : Int) != (0 : Int))
              (End.ite (((0 : Int) == (0 : Int)) == true) (End.leaf (LV.one (VV.sc (SV.bool (SB.sym false)))) [])
                (End.leaf (LV.one (VV.sc (SV.bool (SB.sym false)))) []))
              (End.need
                (Sim
                    { blocks := (atP a b).blocks, block := (atP a b).block, part := (atP a b).part, len := (atP a b).len,
                      want := (atP a b).want, buf := (atP a b).buf, bad := (atP a b).bad }
                    { part := (4 : Int), blocks := a, block := b, want := (4 : Int), held := [], bad := false,
                      whole := b == a } ∧
                  AllBy l ∧ l.length ≤ (70368744177664 : Nat))
                (End.leaf (LV.one (VV.sc (SV.bool (SB.sym true)))) [])))
            (End.ite (((0 : Int) == (0 : Int)) == true) (End.leaf (LV.one (VV.sc (SV.bool (SB.sym false)))) [])
              (End.leaf (LV.one (VV.sc (SV.bool (SB.sym false)))) []))))) := by kernel_rfl
theorem sim_at {a b : Int} (h : atBad a b = false) : Sim (atP a b) (atR a b) := by
  simp [atBad] at h
  have hz : (zeros 4096).length = 4096 := by simp [zeros]
  by_cases hl : b < a
  · have e : atP a b = ⟨a, b, 4, 0, 4, zeros 4096, false⟩ := by unfold atP sizesF; rw [if_pos hl]
    have hne : (b == a) = false := by simp; omega
    have e2 : atR a b = ⟨4, a, b, 4, [], false, false⟩ := by unfold atR; rw [hne]
    rw [e, e2]
    exact Sim.ofRun hz rfl rfl rfl (by simp) (fun _ => rfl) ⟨rfl, by simp, by simp, rfl, rfl, rfl, by simp, by simp, rfl, fun _ h => (by simp at h), fun e => (by simp at e), fun _ => ⟨rfl, by simp; omega, by simp; omega, by simp; omega, hl⟩⟩
  · have e : atP a b = ⟨a, b, 0, 0, 0, zeros 4096, false⟩ := by unfold atP sizesF; rw [if_neg hl]
    have he : (b == a) = true := by simp; omega
    have e2 : atR a b = ⟨4, a, b, 4, [], false, true⟩ := by unfold atR; rw [he]
    rw [e, e2]
    exact ⟨hz, rfl, rfl, by simp, fun _ => rfl, fun _ _ => ⟨rfl, rfl⟩, fun _ e => (by cases e)⟩
theorem rat_tree2 (a b : Int) : fnT Try.prog [] [] Try.f27 (iiA.wr (a, b, ())) [] [.fr [.sym], .auto, symR] =
    End.ite (decide (a < (1 : Int)) == false)
      (End.ite (decide ((16 : Int) < a) == false)
        (End.ite (decide (b < (0 : Int)) == false)
          (End.ite (decide (a < b))
            (End.leaf (LV.tup [VV.sc (SV.con (Value.pointer none)), VV.sc (SV.int IntKind.i64 (SI.sym (1 : Int)))]) [])
            (End.leaf (LV.tup [VV.sc (SV.ptr (0 : Nat) (0 : Nat)), VV.sc (SV.int IntKind.i64 (SI.sym (0 : Int)))])
              [some
                  (Item.blk
                    [SV.int IntKind.i64 (SI.sym (4 : Int)), SV.int IntKind.i64 (SI.sym a), SV.int IntKind.i64 (SI.sym b),
                      SV.int IntKind.i64 (SI.sym (4 : Int)), SV.rd true false (Ty.int IntKind.u8) [],
                      SV.bool (SB.sym false), SV.bool (SB.sym (b == a))]
                    (69 : Nat))]))
          (End.leaf (LV.tup [VV.sc (SV.con (Value.pointer none)), VV.sc (SV.int IntKind.i64 (SI.sym (1 : Int)))]) []))
        (End.leaf (LV.tup [VV.sc (SV.con (Value.pointer none)), VV.sc (SV.int IntKind.i64 (SI.sym (1 : Int)))]) []))
      (End.leaf (LV.tup [VV.sc (SV.con (Value.pointer none)), VV.sc (SV.int IntKind.i64 (SI.sym (1 : Int)))]) []) := by kernel_rfl
theorem rat_ok : ratE.Ok Try.prog 27 := by
  refine (Ent.ofOk Try.call27 fun x y Q h => ?_).sym
  obtain ⟨a, b, _⟩ := x
  have key : ∀ {V : LV} {D : List (Nat × Ev.Item)}, (fnT Try.prog [] [] Try.f27 (iiA.wr (a, b, ())) [] [.fr [.sym], .auto, symR]).sat (fun v hp' => v = V ∧ hp' = applyD D []) → Q V D →
      CallsEv Try.prog 27 (iiA.wr (a, b, ())) [] fun v hp' => ∃ d, Q v d ∧ hp' = applyD d [] := fun h1 h2 =>
    (fnT_ok mixed tab0 Try.func27 rfl (LT := []) (ks := [.fr [.sym], .auto, symR]) (LOk.nil _)).use h1 h2
  have hs : (fnT Try.prog [] [] Try.f27 (iiA.wr (a, b, ())) [] [.fr [.sym], .auto, symR]) = _ := rat_tree2 a b
  cases hb : atBad a b with
  | true =>
    refine key ?_ (h.1 hb).2
    rw [hs]
    simp [atBad] at hb
    refine ⟨fun h1 => ⟨fun h2 => ⟨fun h3 => ⟨fun h4 => ⟨rfl, rfl⟩, fun h4 => ?_⟩, fun h3 => ⟨rfl, rfl⟩⟩, fun h2 => ⟨rfl, rfl⟩⟩, fun h1 => ⟨rfl, rfl⟩⟩
    simp at h1 h2 h3 h4
    omega
  | false =>
    refine key ?_ (h.2 hb).2
    rw [hs]
    simp [atBad] at hb
    refine ⟨fun h1 => ⟨fun h2 => ⟨fun h3 => ⟨fun h4 => ?_, fun h4 => ⟨rfl, rfl⟩⟩, fun h3 => ?_⟩, fun h2 => ?_⟩, fun h1 => ?_⟩
    · simp at h4; omega
    · simp at h3; omega
    · simp at h2; omega
    · simp at h1; omega
abbrev iibA : Cod (List LV) (Int × Int × List Int × Unit) := lCons (vOne (sInt .i64)) (lCons (vOne (sInt .i64)) (lCons (vOne (sRd false false u8)) lNil))
noncomputable def parserAtE : Ent := Ent.ofS [none, none, some u8] iibA lNil fun x _ => .leaf (some (AllBy x.2.2.1)) (nB true) []
theorem parserAt_ok : parserAtE.Ok Try.prog 6 := by
  refine (Ent.ofOk Try.call6 fun x y Q h => ?_).sym
  obtain ⟨a, b, l, _⟩ := x
  obtain ⟨hl, hq⟩ := h
  have hl : AllBy l := hl
  refine (fnT_ok mixed (tabC alive27_ok (tabC at_ok (tabC rat_ok (tabC num_ok' (tabC pl_ok tab0))))) Try.func6 rfl (LT := []) (ks := [.fr [.sym], .auto]) (LOk.nil _)).use (D := []) ?_ hq
  show (fnT _ _ _ _ (iibA.wr (a, b, l, ())) [] _).sat _
  rw [at_law_tree]
  refine ⟨fun _ => ⟨rfl, rfl⟩, fun h0 => ⟨fun hb => ⟨fun _ => ⟨fun _ => ⟨fun _ => ⟨fun _ => ⟨rfl, rfl⟩, fun h => (by cases h)⟩, fun h => (by cases h)⟩, fun h => (by cases h)⟩, fun h => ?_⟩, fun hb => ⟨fun h => ?_, fun _ => ⟨fun _ => ⟨fun h => (by cases h), fun _ => ⟨⟨sim_at hb, hl, ?_⟩, rfl, rfl⟩⟩, fun h => (by cases h)⟩⟩⟩⟩
  · rw [hb] at h; cases h
  · rw [hb] at h; cases h
  · simp at h0; omega
end Go.Proofs.Ytdpbkfmjknmmnaa
