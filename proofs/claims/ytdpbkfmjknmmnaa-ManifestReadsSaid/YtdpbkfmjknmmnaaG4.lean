/- Headers read; the law ManifestTells. -/
import Derived.Test.YtdpbkfmjknmmnaaG3
set_option linter.unusedVariables false
set_option linter.unusedSimpArgs false
namespace Go.Proofs.Ytdpbkfmjknmmnaa
open Go Go.Ev
set_option maxRecDepth 100000

noncomputable def equalE : Ent := Ent.ofS [some u8, some u8] bbA lNil fun x _ => .leaf none (nB (strEq x.1 x.2.1)) []
theorem equal_ok : equalE.Ok Try.prog 50 := by
  refine (Ent.ofOk Try.call50 fun x y Q h => ?_).sym
  obtain ⟨a, b, _⟩ := x
  refine (fnT_ok mixed tab0 Try.func50 rfl (LT := []) (ks := []) (LOk.nil _)).use (D := []) ?_ h.2
  show (fnT _ _ _ _ (bbA.wr (a, b, ())) [] _).sat _
  rw [equal_tree]
  exact ⟨rfl, rfl⟩
noncomputable def ctxE : Ent := Ent.of [] lNil lNil fun _ _ => .leaf none (.one (.sc (.sl 0 0))) [(0, .own 0 u8 [98, 111, 111, 116, 106, 97, 99, 107])]
theorem ctx_ok : ctxE.Ok Try.prog 38 := by
  refine Ent.ofOk Try.call38 fun x y Q h => ?_
  refine (fnT_ok mixed tab0 Try.func38 rfl (LT := []) (ks := [.auto, .vers]) (LOk.nil _)).use (D := [(0, .own 0 u8 [98, 111, 111, 116, 106, 97, 99, 107])]) ?_ h.2
  show (fnT _ _ _ _ [] [] _).sat _
  rw [context_tree]
  exact ⟨rfl, rfl⟩
theorem gethead_tree (l : List Int) : fnT Try.prog [(11, headE), (50, equalE)] [] Try.f32 (bA.wr (l, ())) [] [.fr [.sym], .auto] =
    End.ite (↑l.length != (8 : Int))
      (End.leaf
        (LV.tup
          [VV.agg [SV.int IntKind.i64 (SI.sym (0 : Int)), SV.int IntKind.i64 (SI.sym (0 : Int))],
            VV.sc (SV.bool (SB.sym false))])
        [])
      (End.need ((0 : Int) ≤ (4 : Int) ∧ (4 : Int) < ↑l.length)
        (End.need ((0 : Int) ≤ (5 : Int) ∧ (5 : Int) < ↑l.length)
          (End.ite
            (!strEq (headF (IntKind.i64.wrap (l.getD (4 : Nat) (0 : Int))) (IntKind.i64.wrap (l.getD (5 : Nat) (0 : Int))))
                l)
            (End.leaf
              (LV.tup
                [VV.agg [SV.int IntKind.i64 (SI.sym (0 : Int)), SV.int IntKind.i64 (SI.sym (0 : Int))],
                  VV.sc (SV.bool (SB.sym false))])
              [])
            (End.leaf
              (LV.tup
                [VV.agg
                    [SV.int IntKind.i64 (SI.sym (IntKind.i64.wrap (l.getD (4 : Nat) (0 : Int)))),
                      SV.int IntKind.i64 (SI.sym (IntKind.i64.wrap (l.getD (5 : Nat) (0 : Int))))],
                  VV.sc (SV.bool (SB.sym true))])
              [])))) := by kernel_rfl
theorem gethead'_tree (l : List Int) : fnT Try.prog [(12, headE)] [] Try.f33 (bA.wr (l, ())) [] [.fr [.sym], .auto] =
    End.ite (↑l.length != (8 : Int))
      (End.leaf
        (LV.tup
          [VV.agg [SV.int IntKind.i64 (SI.sym (0 : Int)), SV.int IntKind.i64 (SI.sym (0 : Int))],
            VV.sc (SV.bool (SB.sym false))])
        [])
      (End.need ((0 : Int) ≤ (4 : Int) ∧ (4 : Int) < ↑l.length)
        (End.need ((0 : Int) ≤ (5 : Int) ∧ (5 : Int) < ↑l.length)
          (End.ite
            (!strEq (headF (IntKind.i64.wrap (l.getD (4 : Nat) (0 : Int))) (IntKind.i64.wrap (l.getD (5 : Nat) (0 : Int))))
                l)
            (End.leaf
              (LV.tup
                [VV.agg [SV.int IntKind.i64 (SI.sym (0 : Int)), SV.int IntKind.i64 (SI.sym (0 : Int))],
                  VV.sc (SV.bool (SB.sym false))])
              [])
            (End.leaf
              (LV.tup
                [VV.agg
                    [SV.int IntKind.i64 (SI.sym (IntKind.i64.wrap (l.getD (4 : Nat) (0 : Int)))),
                      SV.int IntKind.i64 (SI.sym (IntKind.i64.wrap (l.getD (5 : Nat) (0 : Int))))],
                  VV.sc (SV.bool (SB.sym true))])
              [])))) := by kernel_rfl
def getHeadF (l : List Int) : (Int × Int) × Bool :=
  if l.length = 8 ∧ strEq (headF (IntKind.i64.wrap (l.getD 4 0)) (IntKind.i64.wrap (l.getD 5 0))) l = true then ((IntKind.i64.wrap (l.getD 4 0), IntKind.i64.wrap (l.getD 5 0)), true) else ((0, 0), false)
def getHeadV (r : (Int × Int) × Bool) : LV := .tup [.agg [.int .i64 (.sym r.1.1), .int .i64 (.sym r.1.2)], .sc (.bool (.sym r.2))]
noncomputable def getHeadE : Ent := Ent.ofS [some u8] bA lNil fun x _ => .leaf none (getHeadV (getHeadF x.1)) []
theorem getHeadV_no {l : List Int} (h : ¬ (l.length = 8 ∧ strEq (headF (IntKind.i64.wrap (l.getD 4 0)) (IntKind.i64.wrap (l.getD 5 0))) l = true)) : LV.tup [.agg [.int .i64 (.sym 0), .int .i64 (.sym 0)], .sc (.bool (.sym false))] = getHeadV (getHeadF l) := by
  unfold getHeadF; rw [if_neg h]; rfl
theorem getHeadV_yes {l : List Int} (h : l.length = 8 ∧ strEq (headF (IntKind.i64.wrap (l.getD 4 0)) (IntKind.i64.wrap (l.getD 5 0))) l = true) :
    LV.tup [.agg [.int .i64 (.sym (IntKind.i64.wrap (l.getD 4 0))), .int .i64 (.sym (IntKind.i64.wrap (l.getD 5 0)))], .sc (.bool (.sym true))] = getHeadV (getHeadF l) := by
  unfold getHeadF; rw [if_pos h]; rfl
theorem getHead_ok : getHeadE.Ok Try.prog 32 := by
  refine (Ent.ofOk Try.call32 fun x y Q h => ?_).sym
  obtain ⟨l, _⟩ := x
  refine (fnT_ok mixed (tabC head_ok (tabC equal_ok tab0)) Try.func32 rfl (LT := []) (ks := [.fr [.sym], .auto]) (LOk.nil _)).use (D := []) ?_ h.2
  show (fnT _ _ _ _ (bA.wr (l, ())) [] _).sat _
  rw [gethead_tree]
  refine ⟨fun h1 => ⟨getHeadV_no ?_, rfl⟩, fun h1 => ?_⟩
  · intro h; rw [h.1] at h1; cases h1
  · have h1' : (l.length : Int) = 8 := bne_eq_false_iff_eq.1 h1
    refine ⟨⟨by omega, by omega⟩, ⟨by omega, by omega⟩, fun h2 => ⟨getHeadV_no ?_, rfl⟩, fun h2 => ⟨getHeadV_yes ⟨by omega, ?_⟩, rfl⟩⟩
    · intro h; rw [h.2] at h2; cases h2
    · revert h2; cases strEq _ _ <;> simp
theorem getHead'_ok : getHeadE.Ok Try.prog 33 := by
  refine (Ent.ofOk Try.call33 fun x y Q h => ?_).sym
  obtain ⟨l, _⟩ := x
  refine (fnT_ok mixed (tabC head'_ok tab0) Try.func33 rfl (LT := []) (ks := [.fr [.sym], .auto]) (LOk.nil _)).use (D := []) ?_ h.2
  show (fnT _ _ _ _ (bA.wr (l, ())) [] _).sat _
  rw [gethead'_tree]
  refine ⟨fun h1 => ⟨getHeadV_no ?_, rfl⟩, fun h1 => ?_⟩
  · intro h; rw [h.1] at h1; cases h1
  · have h1' : (l.length : Int) = 8 := bne_eq_false_iff_eq.1 h1
    refine ⟨⟨by omega, by omega⟩, ⟨by omega, by omega⟩, fun h2 => ⟨getHeadV_no ?_, rfl⟩, fun h2 => ⟨getHeadV_yes ⟨by omega, ?_⟩, rfl⟩⟩
    · intro h; rw [h.2] at h2; cases h2
    · revert h2; cases strEq _ _ <;> simp
theorem alive_tree  : fnT Try.prog [(11, headE), (32, getHeadE), (38, ctxE)] [] Try.f10 [] [] [.auto] =
    End.ite
      (strEq (headF (0 : Int) (1 : Int))
          (List.map (fun x => ↑x.toNat)
            [(66 : UInt8), (74 : UInt8), (75 : UInt8), (49 : UInt8), (0 : UInt8), (1 : UInt8), (0 : UInt8), (0 : UInt8)]) ==
        true)
      (End.ite (true == true)
        (End.ite (((1 : Int) == (1 : Int)) == true)
          (End.leaf
            (LV.one
              (VV.sc
                (SV.bool
                  (SB.sym
                    (strEq
                      [(98 : Int), (111 : Int), (111 : Int), (116 : Int), (106 : Int), (97 : Int), (99 : Int), (107 : Int)]
                      (List.map (fun x => ↑x.toNat)
                        [(98 : UInt8), (111 : UInt8), (111 : UInt8), (116 : UInt8), (106 : UInt8), (97 : UInt8),
                          (99 : UInt8), (107 : UInt8)]))))))
            [])
          (End.leaf (LV.one (VV.sc (SV.bool (SB.lit false)))) []))
        (End.leaf (LV.one (VV.sc (SV.bool (SB.lit false)))) []))
      (End.leaf (LV.one (VV.sc (SV.bool (SB.lit false)))) []) := by kernel_rfl
noncomputable def aliveE : Ent := Ent.of [] lNil lNil fun _ _ => .leaf none (.one (.sc (.bool (.lit true)))) []
theorem alive_ok : aliveE.Ok Try.prog 10 := by
  refine Ent.ofOk Try.call10 fun x y Q h => ?_
  refine (fnT_ok mixed (tabC head_ok (tabC getHead_ok (tabC ctx_ok tab0))) Try.func10 rfl (LT := []) (ks := [.auto]) (LOk.nil _)).useD (D := []) ?_ h.2
  show (fnT _ _ _ _ [] [] _).sat _
  rw [alive_tree]
  have e1 : strEq (headF 0 1) (List.map (fun x => (x.toNat : Int)) [(66 : UInt8), 74, 75, 49, 0, 1, 0, 0]) = true := by kernel_rfl
  have e2 : strEq [98, 111, 111, 116, 106, 97, 99, 107] (List.map (fun x => (x.toNat : Int)) [(98 : UInt8), 111, 111, 116, 106, 97, 99, 107]) = true := by kernel_rfl
  rw [e1, e2]
  exact ⟨fun _ => ⟨fun _ => ⟨fun _ => ⟨fun β L val h => h, rfl⟩, fun h => by cases h⟩, fun h => by cases h⟩, fun h => by cases h⟩
abbrev labTA : Cod (List LV) ((Int × Int × Int × Int × Int × List Int × List Int × List Int × Unit) × Unit) := labA
theorem tells_tree (a b c v s : Int) (x y z : List Int) : fnT Try.prog [(10, aliveE), (11, headE), (12, headE), (13, manE), (14, manE), (15, labE), (16, labE), (17, rightE), (18, rightE)] [] Try.f3 (labA.wr ((a, b, c, v, s, x, y, z, ()), ())) [] [.auto] =
    End.ite (strEq (headF a b) (headF a b) == true)
      (End.need ((0 : Int) ≤ c ∧ c < (18446744073709551616 : Int) ∧ (0 : Int) ≤ v ∧ v < (18446744073709551616 : Int))
        (End.need ((0 : Int) ≤ c ∧ c < (18446744073709551616 : Int) ∧ (0 : Int) ≤ v ∧ v < (18446744073709551616 : Int))
          (End.ite (strEq (manF c v s x y) (manF c v s x y) == true)
            (End.need ((0 : Int) ≤ c ∧ c < (18446744073709551616 : Int) ∧ (0 : Int) ≤ v ∧ v < (18446744073709551616 : Int))
              (End.need
                ((0 : Int) ≤ c ∧ c < (18446744073709551616 : Int) ∧ (0 : Int) ≤ v ∧ v < (18446744073709551616 : Int))
                (End.ite (strEq (labF (headF a b) (manF c v s x y) z) (labF (headF a b) (manF c v s x y) z) == true)
                  (End.leaf (LV.one (VV.sc (SV.bool (SB.sym (rightF c v s == rightF c v s))))) [])
                  (End.leaf (LV.one (VV.sc (SV.bool (SB.lit false)))) []))))
            (End.leaf (LV.one (VV.sc (SV.bool (SB.lit false)))) []))))
      (End.leaf (LV.one (VV.sc (SV.bool (SB.lit false)))) []) := by kernel_rfl
theorem strEq_self (l : List Int) : strEq l l = true := by simp [strEq]
noncomputable def tellsE : Ent := Ent.ofS [] labA lNil fun x _ => .leaf (some (0 ≤ x.1.2.2.1 ∧ x.1.2.2.1 < 18446744073709551616 ∧ 0 ≤ x.1.2.2.2.1 ∧ x.1.2.2.2.1 < 18446744073709551616)) (nB true) []
theorem tells_ok : tellsE.Ok Try.prog 3 := by
  refine (Ent.ofOk Try.call3 fun x y Q h => ?_).sym
  obtain ⟨⟨a, b, c, v, s, x, y, z, _⟩, _⟩ := x
  obtain ⟨hr, hq⟩ := h
  simp only at hr
  refine (fnT_ok mixed (tabC alive_ok (tabC head_ok (tabC head'_ok (tabC man_ok (tabC man'_ok (tabC lab_ok (tabC lab'_ok (tabC right_ok (tabC right'_ok tab0))))))))) Try.func3 rfl (LT := []) (ks := [.auto]) (LOk.nil _)).use (D := []) ?_ hq
  show (fnT _ _ _ _ (labA.wr ((a, b, c, v, s, x, y, z, ()), ())) [] _).sat _
  rw [tells_tree]
  refine ⟨fun _ => ⟨hr, hr, fun _ => ⟨hr, hr, fun _ => ⟨nB_eq (by simp), rfl⟩, fun h => ?_⟩, fun h => ?_⟩, fun h => ?_⟩ <;> simp [strEq_self] at h
end Go.Proofs.Ytdpbkfmjknmmnaa
