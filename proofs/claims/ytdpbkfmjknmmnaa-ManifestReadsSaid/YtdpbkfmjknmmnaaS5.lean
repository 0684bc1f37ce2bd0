/- Manifests: what is signed of them, and their names. -/
import Derived.Test.YtdpbkfmjknmmnaaS4
import Derived.Test.YtdpbkfmjknmmnaaG4
set_option linter.unusedVariables false
set_option linter.unusedSimpArgs false
namespace Go.Proofs.Ytdpbkfmjknmmnaa
open Go Go.Ev
set_option maxRecDepth 100000
def signedF (b : List Int) : List Int := shaF (b.take 160)
def idF (b : List Int) : List Int := (shaF b).take 8
noncomputable def signedE : Ent := Ent.ofS [some u8] (bA) (lNil) fun x_ y_ => (fun (b : List Int) => .leaf (some (b.length < 1152921504606846976)) (nRow .u8 64 (signedF b)) []) x_.1 
theorem signed_tree (b : List Int) : fnT Try.prog [(29, ofE)] [] Try.f31 ((bA).wr (b, ())) ((lNil).wr ()) [.fr [.sym], .auto] =
    End.need
      ((0 : Int) ≤ (0 : Int) ∧
        ((0 : Int) ≤ if (160 : Int) < (↑b.length : Int) then (160 : Int) else (↑b.length : Int)) ∧
          (if (160 : Int) < (↑b.length : Int) then (160 : Int) else (↑b.length : Int)) ≤ (↑b.length : Int))
      (End.need
        ((1 : Nat) < (2305843009213693952 : Nat) ∧
          [List.take ((if (160 : Int) < (↑b.length : Int) then (160 : Int) else (↑b.length : Int)) - (0 : Int)).toNat
                    (List.drop (0 : Nat) b)].flatten.length <
            (1152921504606846976 : Nat))
        (End.leaf
          (LV.one
            (VV.agg
              [SV.arr (Ty.int IntKind.u8) (64 : Nat)
                  (shaF
                    [List.take
                          ((if (160 : Int) < (↑b.length : Int) then (160 : Int) else (↑b.length : Int)) - (0 : Int)).toNat
                          (List.drop (0 : Nat) b)].flatten)]))
          [])) := by kernel_rfl
theorem signed_ok : signedE.Ok Try.prog 31 := by
  refine (Ent.ofOk Try.call31 fun x_ y_ Q H_ => ?_).sym
  obtain ⟨b, _⟩ := x_
  obtain ⟨hn, hq⟩ := H_
  have hn : b.length < 1152921504606846976 := hn
  refine (fnT_ok mixed ((tabC of_ok tab0)) Try.func31 rfl (LT := []) (ks := [.fr [.sym], .auto]) (LOk.nil _)).use (D := []) ?_ hq
  show (fnT _ _ _ _ ((bA).wr (b, ())) ((lNil).wr ()) _).sat _
  rw [signed_tree]
  have e : List.take ((if (160 : Int) < b.length then (160 : Int) else b.length) - 0).toNat (List.drop 0 b) = b.take 160 := by
    rw [List.drop_zero]
    split
    · rfl
    · rw [List.take_of_length_le (by omega), List.take_of_length_le (by omega)]
  rw [e, List.flatten_singleton]
  refine ⟨⟨by omega, by split <;> omega, by split <;> omega⟩, ⟨by omega, by simp; omega⟩, rfl, rfl⟩
noncomputable def idE : Ent := Ent.ofS [some u8] (bA) (lNil) fun x_ y_ => (fun (b : List Int) => .leaf (some (b.length < 1152921504606846976)) (nRow .u8 8 (idF b)) []) x_.1 
theorem id_tree (b : List Int) : fnT Try.prog [(29, ofE)] [] Try.f30 ((bA).wr (b, ())) ((lNil).wr ()) [.fr [.sym], .rowF 0 0 8 .u8, .auto] =
    End.need ((1 : Nat) < (2305843009213693952 : Nat) ∧ [b].flatten.length < (1152921504606846976 : Nat))
      (End.need ((0 : Int) ≤ (0 : Int) ∧ (0 : Int) ≤ (64 : Int) ∧ (64 : Int) ≤ (64 : Int))
        (End.need ((8 : Nat) ≤ (64 : Nat))
          (End.need ((8 : Nat) ≤ (64 : Nat))
            (End.leaf
              (LV.one
                (VV.agg
                  [SV.arr (Ty.int IntKind.u8) (8 : Nat)
                      (List.take (8 : Nat)
                        (List.drop (0 : Nat) (List.take (64 : Nat) (List.drop (0 : Nat) (shaF [b].flatten)))))]))
              [])))) := by kernel_rfl
theorem id_ok : idE.Ok Try.prog 30 := by
  refine (Ent.ofOk Try.call30 fun x_ y_ Q H_ => ?_).sym
  obtain ⟨b, _⟩ := x_
  obtain ⟨hn, hq⟩ := H_
  have hn : b.length < 1152921504606846976 := hn
  refine (fnT_ok mixed ((tabC of_ok tab0)) Try.func30 rfl (LT := []) (ks := [.fr [.sym], .rowF 0 0 8 .u8, .auto]) (LOk.nil _)).use (D := []) ?_ hq
  show (fnT _ _ _ _ ((bA).wr (b, ())) ((lNil).wr ()) _).sat _
  rw [id_tree]
  rw [List.flatten_singleton, take_all (sha_length b)]
  exact ⟨⟨by omega, hn⟩, by omega, by omega, by omega, rfl, rfl⟩
--use alive bootjacklaw24.alive
noncomputable def namesE : Ent := Ent.ofS [some u8] (bA) (lNil) fun x_ y_ => (fun (b : List Int) => .leaf (some (AllBy b)) (nB true) []) x_.1 
theorem names_tree (b : List Int) : fnT Try.prog [(10, aliveE), (29, ofE), (30, idE), (31, signedE)] [] Try.f8 ((bA).wr (b, ())) ((lNil).wr ()) [.fr [.sym], .auto] =
    End.ite (decide ((400 : Int) < (↑b.length : Int))) (End.leaf (LV.one (VV.sc (SV.bool (SB.sym true)))) [])
      (End.ite (decide ((160 : Int) < (↑b.length : Int)))
        (End.need ((1 : Nat) < (2305843009213693952 : Nat) ∧ [b].flatten.length < (1152921504606846976 : Nat))
          (End.need (b.length < (1152921504606846976 : Nat))
            (End.ite ((idF b).getD (0 : Nat) (0 : Int) != (shaF [b].flatten).getD (0 : Nat) (0 : Int))
              (End.leaf (LV.one (VV.sc (SV.bool (SB.sym false)))) [])
              (End.ite ((idF b).getD (1 : Nat) (0 : Int) != (shaF [b].flatten).getD (1 : Nat) (0 : Int))
                (End.leaf (LV.one (VV.sc (SV.bool (SB.sym false)))) [])
                (End.ite ((idF b).getD (2 : Nat) (0 : Int) != (shaF [b].flatten).getD (2 : Nat) (0 : Int))
                  (End.leaf (LV.one (VV.sc (SV.bool (SB.sym false)))) [])
                  (End.ite ((idF b).getD (3 : Nat) (0 : Int) != (shaF [b].flatten).getD (3 : Nat) (0 : Int))
                    (End.leaf (LV.one (VV.sc (SV.bool (SB.sym false)))) [])
                    (End.ite ((idF b).getD (4 : Nat) (0 : Int) != (shaF [b].flatten).getD (4 : Nat) (0 : Int))
                      (End.leaf (LV.one (VV.sc (SV.bool (SB.sym false)))) [])
                      (End.ite ((idF b).getD (5 : Nat) (0 : Int) != (shaF [b].flatten).getD (5 : Nat) (0 : Int))
                        (End.leaf (LV.one (VV.sc (SV.bool (SB.sym false)))) [])
                        (End.ite ((idF b).getD (6 : Nat) (0 : Int) != (shaF [b].flatten).getD (6 : Nat) (0 : Int))
                          (End.leaf (LV.one (VV.sc (SV.bool (SB.sym false)))) [])
                          (End.ite ((idF b).getD (7 : Nat) (0 : Int) != (shaF [b].flatten).getD (7 : Nat) (0 : Int))
                            (End.leaf (LV.one (VV.sc (SV.bool (SB.sym false)))) [])
                            (End.need (b.length < (1152921504606846976 : Nat))
                              (End.need ((0 : Int) ≤ (0 : Int) ∧ (0 : Int) ≤ (160 : Int) ∧ (160 : Int) ≤ (↑b.length : Int))
                                (End.need
                                  ((1 : Nat) < (2305843009213693952 : Nat) ∧
                                    [List.take (160 : Nat) (List.drop (0 : Nat) b)].flatten.length <
                                      (1152921504606846976 : Nat))
                                  (End.leaf
                                    (LV.one
                                      (VV.sc
                                        (SV.bool
                                          (SB.sym
                                            (decide
                                              (signedF b =
                                                shaF [List.take (160 : Nat) (List.drop (0 : Nat) b)].flatten))))))
                                    []))))))))))))))
        (End.need ((1 : Nat) < (2305843009213693952 : Nat) ∧ [b].flatten.length < (1152921504606846976 : Nat))
          (End.need (b.length < (1152921504606846976 : Nat))
            (End.ite ((idF b).getD (0 : Nat) (0 : Int) != (shaF [b].flatten).getD (0 : Nat) (0 : Int))
              (End.leaf (LV.one (VV.sc (SV.bool (SB.sym false)))) [])
              (End.ite ((idF b).getD (1 : Nat) (0 : Int) != (shaF [b].flatten).getD (1 : Nat) (0 : Int))
                (End.leaf (LV.one (VV.sc (SV.bool (SB.sym false)))) [])
                (End.ite ((idF b).getD (2 : Nat) (0 : Int) != (shaF [b].flatten).getD (2 : Nat) (0 : Int))
                  (End.leaf (LV.one (VV.sc (SV.bool (SB.sym false)))) [])
                  (End.ite ((idF b).getD (3 : Nat) (0 : Int) != (shaF [b].flatten).getD (3 : Nat) (0 : Int))
                    (End.leaf (LV.one (VV.sc (SV.bool (SB.sym false)))) [])
                    (End.ite ((idF b).getD (4 : Nat) (0 : Int) != (shaF [b].flatten).getD (4 : Nat) (0 : Int))
                      (End.leaf (LV.one (VV.sc (SV.bool (SB.sym false)))) [])
                      (End.ite ((idF b).getD (5 : Nat) (0 : Int) != (shaF [b].flatten).getD (5 : Nat) (0 : Int))
                        (End.leaf (LV.one (VV.sc (SV.bool (SB.sym false)))) [])
                        (End.ite ((idF b).getD (6 : Nat) (0 : Int) != (shaF [b].flatten).getD (6 : Nat) (0 : Int))
                          (End.leaf (LV.one (VV.sc (SV.bool (SB.sym false)))) [])
                          (End.ite ((idF b).getD (7 : Nat) (0 : Int) != (shaF [b].flatten).getD (7 : Nat) (0 : Int))
                            (End.leaf (LV.one (VV.sc (SV.bool (SB.sym false)))) [])
                            (End.need (b.length < (1152921504606846976 : Nat))
                              (End.need
                                ((0 : Int) ≤ (0 : Int) ∧
                                  (0 : Int) ≤ (↑b.length : Int) ∧ (↑b.length : Int) ≤ (↑b.length : Int))
                                (End.need
                                  ((1 : Nat) < (2305843009213693952 : Nat) ∧
                                    [List.take ((↑b.length : Int) - (0 : Int)).toNat
                                              (List.drop (0 : Nat) b)].flatten.length <
                                      (1152921504606846976 : Nat))
                                  (End.leaf
                                    (LV.one
                                      (VV.sc
                                        (SV.bool
                                          (SB.sym
                                            (decide
                                              (signedF b =
                                                shaF
                                                  [List.take ((↑b.length : Int) - (0 : Int)).toNat
                                                        (List.drop (0 : Nat) b)].flatten))))))
                                    []))))))))))))))) := by kernel_rfl
theorem names_ok : namesE.Ok Try.prog 8 := by
  refine (Ent.ofOk Try.call8 fun x_ y_ Q H_ => ?_).sym
  obtain ⟨b, _⟩ := x_
  obtain ⟨hn, hq⟩ := H_
  have hn : AllBy b := hn
  refine (fnT_ok mixed ((tabC alive_ok (tabC of_ok (tabC id_ok (tabC signed_ok tab0))))) Try.func8 rfl (LT := []) (ks := [.fr [.sym], .auto]) (LOk.nil _)).use (D := []) ?_ hq
  show (fnT _ _ _ _ ((bA).wr (b, ())) ((lNil).wr ()) _).sat _
  rw [names_tree]
  have hi : ∀ i, i < 8 → ((idF b).getD i 0 != (shaF b).getD i 0) = false := fun i hi => by
    unfold idF
    simp [List.getD_eq_getElem?_getD, List.getElem?_take, hi]
  have hs : ∀ n, n = min b.length 160 → decide (signedF b = shaF (List.take n b)) = true := fun n hn => by
    refine decide_eq_true ?_
    unfold signedF
    rw [hn]
    congr 1
    rcases Nat.le_total b.length 160 with h | h
    · rw [Nat.min_eq_left h, List.take_of_length_le h, List.take_of_length_le (Nat.le_refl _)]
    · rw [Nat.min_eq_right h]
  simp only [List.flatten_singleton, hi 0 (by omega), hi 1 (by omega), hi 2 (by omega), hi 3 (by omega), hi 4 (by omega), hi 5 (by omega), hi 6 (by omega), hi 7 (by omega), List.drop_zero]
  refine ⟨fun h => ⟨rfl, rfl⟩, fun h => ⟨fun h1 => ?_, fun h1 => ?_⟩⟩
  · have h1 := of_decide_eq_true h1
    have h := of_decide_eq_false h
    refine ⟨⟨by omega, by omega⟩, by omega, ?_⟩
    iterate 8 (refine ⟨fun h => (by cases h), fun _ => ?_⟩)
    exact ⟨by omega, by omega, ⟨by omega, by simp; omega⟩, nB_eq (hs _ (by omega)), rfl⟩
  · have h1 := of_decide_eq_false h1
    have h := of_decide_eq_false h
    refine ⟨⟨by omega, by omega⟩, by omega, ?_⟩
    iterate 8 (refine ⟨fun h => (by cases h), fun _ => ?_⟩)
    exact ⟨by omega, by omega, ⟨by omega, by simp; omega⟩, nB_eq (hs _ (by omega)), rfl⟩
end Go.Proofs.Ytdpbkfmjknmmnaa
