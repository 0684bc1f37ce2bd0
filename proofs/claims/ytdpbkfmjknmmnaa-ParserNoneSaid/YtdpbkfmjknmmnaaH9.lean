/- Parsers: one that is none. -/
import Derived.Test.YtdpbkfmjknmmnaaH8
set_option linter.unusedVariables false
set_option linter.unusedSimpArgs false
namespace Go.Ev
open Go
/-- a law for two shapes -/
def Ent.or (e e' : Ent) : Ent := ⟨e.tys, fun args hp => match e.run args hp with
  | .fail => e'.run args hp
  | o => o⟩
theorem Ent.Ok.or {P : Program} {f : FuncId} {e e' : Ent} (h : e.Ok P f) (h' : e'.Ok P f) : (e.or e').Ok P f := by
  refine ⟨h.enters, fun args hp Q hq => ?_⟩
  simp only [Ent.or] at hq
  split at hq
  · exact h'.calls args hp Q hq
  · exact h.calls args hp Q hq
end Go.Ev
namespace Go.Proofs.Ytdpbkfmjknmmnaa
open Go Go.Ev
set_option maxRecDepth 100000
abbrev nP : Cod LV Unit := vOne sNilP
noncomputable def nwantE : Ent := Ent.ofS [] (lSkip nP lNil) lNil fun _ _ => .leaf none (nI 0) []
noncomputable def nwholeE : Ent := Ent.ofS [] (lSkip nP lNil) lNil fun _ _ => .leaf none (nB false) []
noncomputable def nbyteE : Ent := Ent.ofS [] (lSkip nP (lCons (vOne (sInt .u8)) lNil)) lNil fun _ _ => .leaf none (byteV (0, [], false, 1)) []
theorem nwant_tree  : fnT Try.prog [] [] Try.f23 ((lSkip nP lNil).wr ()) [] [.fr [.sym], .auto] =
    End.leaf (LV.one (VV.sc (SV.int IntKind.i64 (SI.sym (0 : Int))))) [] := by kernel_rfl
theorem nwhole_tree  : fnT Try.prog [] [] Try.f28 ((lSkip nP lNil).wr ()) [] [.fr [.sym], .auto] =
    End.leaf (LV.one (VV.sc (SV.bool (SB.sym false)))) [] := by kernel_rfl
theorem nbyte_tree (b : Int) : fnT Try.prog [] [] Try.f24 ((lSkip nP (lCons (vOne (sInt .u8)) lNil)).wr (b, ())) [] [.fr [.sym], .fr [.rd true u8], .auto] =
    End.leaf
      (LV.tup
        [VV.agg [SV.int IntKind.i64 (SI.sym (0 : Int)), SV.rd true false (Ty.int IntKind.u8) []],
          VV.sc (SV.bool (SB.sym false)), VV.sc (SV.int IntKind.i64 (SI.sym (1 : Int)))])
      [] := by kernel_rfl
theorem nwant_ok : nwantE.Ok Try.prog 23 := by
  refine (Ent.ofOk Try.call23 fun x y Q h => ?_).sym
  refine (fnT_ok mixed tab0 Try.func23 rfl (LT := []) (ks := [.fr [.sym], .auto]) (LOk.nil _)).use (D := []) ?_ h.2
  show (fnT _ _ _ _ ((lSkip nP lNil).wr ()) [] _).sat _
  rw [nwant_tree]
  exact ⟨rfl, rfl⟩
theorem nwhole_ok : nwholeE.Ok Try.prog 28 := by
  refine (Ent.ofOk Try.call28 fun x y Q h => ?_).sym
  refine (fnT_ok mixed tab0 Try.func28 rfl (LT := []) (ks := [.fr [.sym], .auto]) (LOk.nil _)).use (D := []) ?_ h.2
  show (fnT _ _ _ _ ((lSkip nP lNil).wr ()) [] _).sat _
  rw [nwhole_tree]
  exact ⟨rfl, rfl⟩
theorem nbyte_ok : nbyteE.Ok Try.prog 24 := by
  refine (Ent.ofOk Try.call24 fun x y Q h => ?_).sym
  obtain ⟨b, _⟩ := x
  refine (fnT_ok mixed tab0 Try.func24 rfl (LT := []) (ks := [.fr [.sym], .fr [.rd true u8], .auto]) (LOk.nil _)).use (D := []) ?_ h.2
  show (fnT _ _ _ _ ((lSkip nP (lCons (vOne (sInt .u8)) lNil)).wr (b, ())) [] _).sat _
  rw [nbyte_tree]
  exact ⟨rfl, rfl⟩
noncomputable abbrev nTab : List (FuncId × Ent) := [(19, alive27E), (24, nbyteE), (26, atE), (25, numE), (23, nwantE.or wantE), (28, nwholeE.or wholeE)]
theorem nTab_ok : ∀ p ∈ nTab, p.2.Ok Try.prog p.1 := tabC alive27_ok (tabC nbyte_ok (tabC at_ok (tabC num_ok' (tabC (nwant_ok.or want_ok) (tabC (nwhole_ok.or whole_ok) tab0)))))
abbrev nnA : Cod (List LV) (Int × Int × Int × Unit) := lCons (vOne (sInt .u8)) (lCons (vOne (sInt .i64)) (lCons (vOne (sInt .i64)) lNil))
theorem n_tree (z a b : Int) : fnT Try.prog nTab [] Try.f7 (nnA.wr (z, a, b, ())) [] [.fr [.sym], .auto] =
    End.ite (atBad a b)
      (End.ite (decide ((1 : Int) ≤ a) == true)
        (End.ite (decide (a ≤ (16 : Int)) == true)
          (End.ite (decide ((0 : Int) ≤ b) == true)
            (End.ite (false == false)
              (End.ite (((1 : Int) != (1 : Int)) == false)
                (End.ite (((0 : Int) != (0 : Int)) == false)
                  (End.ite (((0 : Int) != (0 : Int)) == false)
                    (End.ite (false == false)
                      (End.ite ((!false == decide (b ≤ a)) == false)
                        (End.ite (!((1 : Int) == (0 : Int)) == decide (b ≤ a))
                          (End.leaf (LV.one (VV.sc (SV.bool (SB.sym false)))) [])
                          (End.ite ((!decide (b ≤ a)) == false)
                            (End.ite ((false == (b == a)) == true)
                              (End.leaf (LV.one (VV.sc (SV.bool (SB.sym (((0 : Int) == (4 : Int)) == decide (b < a)))))) [])
                              (End.leaf (LV.one (VV.sc (SV.bool (SB.sym false)))) []))
                            (End.leaf (LV.one (VV.sc (SV.bool (SB.sym true)))) [])))
                        (End.leaf (LV.one (VV.sc (SV.bool (SB.sym false)))) []))
                      (End.leaf (LV.one (VV.sc (SV.bool (SB.sym false)))) []))
                    (End.leaf (LV.one (VV.sc (SV.bool (SB.sym false)))) []))
                  (End.leaf (LV.one (VV.sc (SV.bool (SB.sym false)))) []))
                (End.leaf (LV.one (VV.sc (SV.bool (SB.sym false)))) []))
              (End.leaf (LV.one (VV.sc (SV.bool (SB.sym false)))) []))
            (End.ite (false == false)
              (End.ite (((1 : Int) != (1 : Int)) == false)
                (End.ite (((0 : Int) != (0 : Int)) == false)
                  (End.ite (((0 : Int) != (0 : Int)) == false)
                    (End.ite (false == false)
                      (End.ite (!((1 : Int) == (0 : Int)) == false) (End.leaf (LV.one (VV.sc (SV.bool (SB.sym false)))) [])
                        (End.leaf (LV.one (VV.sc (SV.bool (SB.sym true)))) []))
                      (End.leaf (LV.one (VV.sc (SV.bool (SB.sym false)))) []))
                    (End.leaf (LV.one (VV.sc (SV.bool (SB.sym false)))) []))
                  (End.leaf (LV.one (VV.sc (SV.bool (SB.sym false)))) []))
                (End.leaf (LV.one (VV.sc (SV.bool (SB.sym false)))) []))
              (End.leaf (LV.one (VV.sc (SV.bool (SB.sym false)))) [])))
          (End.ite (false == false)
            (End.ite (((1 : Int) != (1 : Int)) == false)
              (End.ite (((0 : Int) != (0 : Int)) == false)
                (End.ite (((0 : Int) != (0 : Int)) == false)
                  (End.ite (false == false)
                    (End.ite (!((1 : Int) == (0 : Int)) == false) (End.leaf (LV.one (VV.sc (SV.bool (SB.sym false)))) [])
                      (End.leaf (LV.one (VV.sc (SV.bool (SB.sym true)))) []))
                    (End.leaf (LV.one (VV.sc (SV.bool (SB.sym false)))) []))
                  (End.leaf (LV.one (VV.sc (SV.bool (SB.sym false)))) []))
                (End.leaf (LV.one (VV.sc (SV.bool (SB.sym false)))) []))
              (End.leaf (LV.one (VV.sc (SV.bool (SB.sym false)))) []))
            (End.leaf (LV.one (VV.sc (SV.bool (SB.sym false)))) [])))
        (End.ite (false == false)
          (End.ite (((1 : Int) != (1 : Int)) == false)
            (End.ite (((0 : Int) != (0 : Int)) == false)
              (End.ite (((0 : Int) != (0 : Int)) == false)
                (End.ite (false == false)
                  (End.ite (!((1 : Int) == (0 : Int)) == false) (End.leaf (LV.one (VV.sc (SV.bool (SB.sym false)))) [])
                    (End.leaf (LV.one (VV.sc (SV.bool (SB.sym true)))) []))
                  (End.leaf (LV.one (VV.sc (SV.bool (SB.sym false)))) []))
                (End.leaf (LV.one (VV.sc (SV.bool (SB.sym false)))) []))
              (End.leaf (LV.one (VV.sc (SV.bool (SB.sym false)))) []))
            (End.leaf (LV.one (VV.sc (SV.bool (SB.sym false)))) []))
          (End.leaf (LV.one (VV.sc (SV.bool (SB.sym false)))) [])))
      (End.ite (decide ((1 : Int) ≤ a) == true)
        (End.ite (decide (a ≤ (16 : Int)) == true)
          (End.ite (decide ((0 : Int) ≤ b) == true)
            (End.ite (false == false)
              (End.ite (((1 : Int) != (1 : Int)) == false)
                (End.ite (((0 : Int) != (0 : Int)) == false)
                  (End.ite (((0 : Int) != (0 : Int)) == false)
                    (End.ite (false == false)
                      (End.ite ((!true == decide (b ≤ a)) == false)
                        (End.ite (!((0 : Int) == (0 : Int)) == decide (b ≤ a))
                          (End.leaf (LV.one (VV.sc (SV.bool (SB.sym false)))) [])
                          (End.ite ((!decide (b ≤ a)) == false)
                            (End.ite ((((atP a b).part == (0 : Int)) == (b == a)) == true)
                              (End.leaf
                                (LV.one
                                  (VV.sc
                                    (SV.bool
                                      (SB.sym
                                        (((if (atP a b).bad = true then (0 : Int)
                                            else IntKind.i64.wrap ((atP a b).want - (atP a b).len)) ==
                                            (4 : Int)) ==
                                          decide (b < a))))))
                                [])
                              (End.leaf (LV.one (VV.sc (SV.bool (SB.sym false)))) []))
                            (End.leaf (LV.one (VV.sc (SV.bool (SB.sym true)))) [])))
                        (End.leaf (LV.one (VV.sc (SV.bool (SB.sym false)))) []))
                      (End.leaf (LV.one (VV.sc (SV.bool (SB.sym false)))) []))
                    (End.leaf (LV.one (VV.sc (SV.bool (SB.sym false)))) []))
                  (End.leaf (LV.one (VV.sc (SV.bool (SB.sym false)))) []))
                (End.leaf (LV.one (VV.sc (SV.bool (SB.sym false)))) []))
              (End.leaf (LV.one (VV.sc (SV.bool (SB.sym false)))) []))
            (End.ite (false == false)
              (End.ite (((1 : Int) != (1 : Int)) == false)
                (End.ite (((0 : Int) != (0 : Int)) == false)
                  (End.ite (((0 : Int) != (0 : Int)) == false)
                    (End.ite (false == false) (End.leaf (LV.one (VV.sc (SV.bool (SB.sym false)))) [])
                      (End.leaf (LV.one (VV.sc (SV.bool (SB.sym false)))) []))
                    (End.leaf (LV.one (VV.sc (SV.bool (SB.sym false)))) []))
                  (End.leaf (LV.one (VV.sc (SV.bool (SB.sym false)))) []))
                (End.leaf (LV.one (VV.sc (SV.bool (SB.sym false)))) []))
              (End.leaf (LV.one (VV.sc (SV.bool (SB.sym false)))) [])))
          (End.ite (false == false)
            (End.ite (((1 : Int) != (1 : Int)) == false)
              (End.ite (((0 : Int) != (0 : Int)) == false)
                (End.ite (((0 : Int) != (0 : Int)) == false)
                  (End.ite (false == false) (End.leaf (LV.one (VV.sc (SV.bool (SB.sym false)))) [])
                    (End.leaf (LV.one (VV.sc (SV.bool (SB.sym false)))) []))
                  (End.leaf (LV.one (VV.sc (SV.bool (SB.sym false)))) []))
                (End.leaf (LV.one (VV.sc (SV.bool (SB.sym false)))) []))
              (End.leaf (LV.one (VV.sc (SV.bool (SB.sym false)))) []))
            (End.leaf (LV.one (VV.sc (SV.bool (SB.sym false)))) [])))
        (End.ite (false == false)
          (End.ite (((1 : Int) != (1 : Int)) == false)
            (End.ite (((0 : Int) != (0 : Int)) == false)
              (End.ite (((0 : Int) != (0 : Int)) == false)
                (End.ite (false == false) (End.leaf (LV.one (VV.sc (SV.bool (SB.sym false)))) [])
                  (End.leaf (LV.one (VV.sc (SV.bool (SB.sym false)))) []))
                (End.leaf (LV.one (VV.sc (SV.bool (SB.sym false)))) []))
              (End.leaf (LV.one (VV.sc (SV.bool (SB.sym false)))) []))
            (End.leaf (LV.one (VV.sc (SV.bool (SB.sym false)))) []))
          (End.leaf (LV.one (VV.sc (SV.bool (SB.sym false)))) []))) := by kernel_rfl
noncomputable def parserNoneE : Ent := Ent.ofS [] nnA lNil fun _ _ => .leaf none (nB true) []
theorem parserNone_ok : parserNoneE.Ok Try.prog 7 := by
  refine (Ent.ofOk Try.call7 fun x y Q h => ?_).sym
  obtain ⟨z, a, b, _⟩ := x
  refine (fnT_ok mixed nTab_ok Try.func7 rfl (LT := []) (ks := [.fr [.sym], .auto]) (LOk.nil _)).use (D := []) ?_ h.2
  show (fnT _ _ _ _ (nnA.wr (z, a, b, ())) [] _).sat _
  rw [n_tree]
  have hz : ∀ c : Bool, (c = true) → LV.one (.sc (.bool (.sym c))) = nB true := fun c h => by rw [h]
  have hbad : atBad a b = true ↔ (a < 1 ∨ 16 < a ∨ b < 0 ∨ a < b) := by simp [atBad]
  have hlt : b < a → atP a b = ⟨a, b, 4, 0, 4, zeros 4096, false⟩ := fun h => by unfold atP sizesF; rw [if_pos h]
  have hge : ¬ b < a → atP a b = ⟨a, b, 0, 0, 0, zeros 4096, false⟩ := fun h => by unfold atP sizesF; rw [if_neg h]
  generalize atBad a b = t at *
  by_cases hl : b < a
  · rw [hlt hl]
    have hne : (b == a) = false := by simp; omega
    simp only [hne]
    repeat' (first | exact ⟨hz _ rfl, rfl⟩ | exact ⟨hz _ (by rw [decide_eq_true hl]; decide), rfl⟩ | refine ⟨fun _ => ?_, fun _ => ?_⟩ | (simp_all; done) | (simp_all; omega))
  · rw [hge hl]
    dsimp only
    repeat' (first | exact ⟨hz _ rfl, rfl⟩ | exact ⟨hz _ (by rw [decide_eq_false hl]; first | rfl | decide | simp), rfl⟩ | refine ⟨fun _ => ?_, fun _ => ?_⟩ | (simp_all; done) | (simp_all; omega))
end Go.Proofs.Ytdpbkfmjknmmnaa
