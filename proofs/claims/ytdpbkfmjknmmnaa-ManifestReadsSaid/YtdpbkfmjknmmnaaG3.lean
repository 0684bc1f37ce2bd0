/- Headers, manifests, labels: how they are encoded. -/
import Derived.Test.YtdpbkfmjknmmnaaG2
set_option linter.unusedVariables false
set_option linter.unusedSimpArgs false
namespace Go.Proofs.Ytdpbkfmjknmmnaa
open Go Go.Ev
set_option maxRecDepth 100000

abbrev rowsHead {Y : Type} (r : Cod (List SV) Y) : Cod (List SV) (Int × Int × Y) := lCons (sInt .i64) (lCons (sInt .i64) r)
abbrev rowsMan {Y : Type} (r : Cod (List SV) Y) : Cod (List SV) (Int × Int × Int × List Int × List Int × Y) := lCons (sInt .u64) (lCons (sInt .u64) (lCons (sInt .i64) (lCons (sArr u8 64) (lCons (sArr u8 64) r))))
abbrev headA : Cod (List LV) ((Int × Int × Unit) × Unit) := lCons (vAgg (rowsHead lNil)) lNil
abbrev manA : Cod (List LV) ((Int × Int × Int × List Int × List Int × Unit) × Unit) := lCons (vAgg (rowsMan lNil)) lNil
abbrev labA : Cod (List LV) ((Int × Int × Int × Int × Int × List Int × List Int × List Int × Unit) × Unit) := lCons (vAgg (rowsHead (rowsMan (lCons (sArr u8 64) lNil)))) lNil

def headF (a b : Int) : List Int := if 0 ≤ a ∧ a < 8 ∧ 1 ≤ b ∧ b ≤ 16 then [66, 74, 75, 49, a, b, 0, 0] else []
def rightF (c v s : Int) : Bool := decide (v ≤ c ∧ 1 ≤ s ∧ s ≤ 131072)
noncomputable def headE : Ent := Ent.ofS [] headA lNil fun x _ => .leaf none (.one (.sc (.sl 0 0))) [(0, .own 0 u8 (headF x.1.1 x.1.2.1))]
noncomputable def rightE : Ent := Ent.ofS [] manA lNil fun x _ => .leaf none (nB (rightF x.1.1 x.1.2.1 x.1.2.2.1)) []

theorem puthead_tree (a b : Int) : fnT Try.prog [(39, catE)] [] Try.f11 (headA.wr ((a, b, ()), ())) [] [.ownF 0 u8, .auto, .vers] =
    End.ite (decide (a < (0 : Int)) == false)
      (End.ite (decide ((8 : Int) ≤ a) == false)
        (End.ite (decide (b < (1 : Int)) == false)
          (End.ite (decide ((16 : Int) < b))
            (End.leaf (LV.one (VV.sc (SV.sl (0 : Nat) (0 : Nat)))) [some (Item.own (0 : Nat) (Ty.int IntKind.u8) [])])
            (End.need ((8 : Nat) ≤ (70368744177664 : Nat) ∧ (2 : Nat) ≤ (140737488355328 : Nat))
              (End.leaf (LV.one (VV.sc (SV.sl (0 : Nat) (0 : Nat))))
                [some
                    (Item.own (0 : Nat) (Ty.int IntKind.u8)
                      [[(66 : Int), (74 : Int), (75 : Int), (49 : Int)],
                          [IntKind.u8.wrap a, IntKind.u8.wrap b, (0 : Int), (0 : Int)]].flatten)])))
          (End.leaf (LV.one (VV.sc (SV.sl (0 : Nat) (0 : Nat)))) [some (Item.own (0 : Nat) (Ty.int IntKind.u8) [])]))
        (End.leaf (LV.one (VV.sc (SV.sl (0 : Nat) (0 : Nat)))) [some (Item.own (0 : Nat) (Ty.int IntKind.u8) [])]))
      (End.leaf (LV.one (VV.sc (SV.sl (0 : Nat) (0 : Nat)))) [some (Item.own (0 : Nat) (Ty.int IntKind.u8) [])]) := by kernel_rfl
theorem puthead'_tree (a b : Int) : fnT Try.prog [] [] Try.f12 (headA.wr ((a, b, ()), ())) [] [.ownF 0 u8, .auto, .vers] =
    End.ite (decide (a < (0 : Int)) == false)
      (End.ite (decide ((8 : Int) ≤ a) == false)
        (End.ite (decide (b < (1 : Int)) == false)
          (End.ite (decide ((16 : Int) < b))
            (End.leaf (LV.one (VV.sc (SV.sl (0 : Nat) (0 : Nat)))) [some (Item.own (0 : Nat) (Ty.int IntKind.u8) [])])
            (End.leaf (LV.one (VV.sc (SV.sl (0 : Nat) (0 : Nat))))
              [some
                  (Item.own (0 : Nat) (Ty.int IntKind.u8)
                    [(66 : Int), (74 : Int), (75 : Int), (49 : Int), IntKind.u8.wrap a, IntKind.u8.wrap b, (0 : Int),
                      (0 : Int)])]))
          (End.leaf (LV.one (VV.sc (SV.sl (0 : Nat) (0 : Nat)))) [some (Item.own (0 : Nat) (Ty.int IntKind.u8) [])]))
        (End.leaf (LV.one (VV.sc (SV.sl (0 : Nat) (0 : Nat)))) [some (Item.own (0 : Nat) (Ty.int IntKind.u8) [])]))
      (End.leaf (LV.one (VV.sc (SV.sl (0 : Nat) (0 : Nat)))) [some (Item.own (0 : Nat) (Ty.int IntKind.u8) [])]) := by kernel_rfl
theorem right_tree (c v s : Int) (a b : List Int) : fnT Try.prog [] [] Try.f17 (manA.wr ((c, v, s, a, b, ()), ())) [] [.fr [.sym], .auto] =
    End.ite (decide (v ≤ c) == true)
      (End.ite (decide ((1 : Int) ≤ s) == true)
        (End.leaf (LV.one (VV.sc (SV.bool (SB.sym (decide (s ≤ (131072 : Int))))))) [])
        (End.leaf (LV.one (VV.sc (SV.bool (SB.sym false)))) []))
      (End.leaf (LV.one (VV.sc (SV.bool (SB.sym false)))) []) := by kernel_rfl
theorem right'_tree (c v s : Int) (a b : List Int) : fnT Try.prog [] [] Try.f18 (manA.wr ((c, v, s, a, b, ()), ())) [] [.fr [.sym], .auto] =
    End.ite (decide (v ≤ c) == true)
      (End.ite (decide ((1 : Int) ≤ s) == true)
        (End.leaf (LV.one (VV.sc (SV.bool (SB.sym (decide (s ≤ (131072 : Int))))))) [])
        (End.leaf (LV.one (VV.sc (SV.bool (SB.sym false)))) []))
      (End.leaf (LV.one (VV.sc (SV.bool (SB.sym false)))) []) := by kernel_rfl
theorem put_tree (c v s : Int) (a b : List Int) : fnT Try.prog [(17, rightE), (40, numEnt), (39, catE)] [] Try.f13 (manA.wr ((c, v, s, a, b, ()), ())) [] [.ownF 0 u8, .auto, .vers] =
    End.ite (!rightF c v s)
      (End.leaf (LV.one (VV.sc (SV.sl (0 : Nat) (0 : Nat)))) [some (Item.own (0 : Nat) (Ty.int IntKind.u8) [])])
      (End.need ((0 : Int) ≤ c ∧ c < (18446744073709551616 : Int))
        (End.need ((0 : Int) ≤ v ∧ v < (18446744073709551616 : Int))
          (End.need ((0 : Int) ≤ IntKind.u64.wrap s ∧ IntKind.u64.wrap s < (18446744073709551616 : Int))
            (End.need ((0 : Int) ≤ (0 : Int) ∧ (0 : Int) ≤ (64 : Int) ∧ (64 : Int) ≤ (64 : Int))
              (End.need ((0 : Int) ≤ (0 : Int) ∧ (0 : Int) ≤ (64 : Int) ∧ (64 : Int) ≤ (64 : Int))
                (End.need
                  ([lowL (8 : Nat) c, lowL (8 : Nat) v, lowL (8 : Nat) (IntKind.u64.wrap s),
                            List.take (64 : Nat) (List.drop (0 : Nat) a),
                            List.take (64 : Nat) (List.drop (0 : Nat) b)].flatten.length ≤
                      (70368744177664 : Nat) ∧
                    (5 : Nat) ≤ (140737488355328 : Nat))
                  (End.leaf (LV.one (VV.sc (SV.sl (0 : Nat) (0 : Nat))))
                    [some
                        (Item.own (0 : Nat) (Ty.int IntKind.u8)
                          [lowL (8 : Nat) c, lowL (8 : Nat) v, lowL (8 : Nat) (IntKind.u64.wrap s),
                              List.take (64 : Nat) (List.drop (0 : Nat) a),
                              List.take (64 : Nat) (List.drop (0 : Nat) b)].flatten)]))))))) := by kernel_rfl
theorem put'_tree (c v s : Int) (a b : List Int) : fnT Try.prog [(18, rightE), (41, lowEnt)] [] Try.f14 (manA.wr ((c, v, s, a, b, ()), ())) [] [.ownF 0 u8, .auto, .vers] =
    End.ite (!rightF c v s)
      (End.leaf (LV.one (VV.sc (SV.sl (0 : Nat) (0 : Nat)))) [some (Item.own (0 : Nat) (Ty.int IntKind.u8) [])])
      (End.need
        ((0 : Int) ≤ c ∧ c < (18446744073709551616 : Int) ∧ (0 : Int) ≤ (8 : Int) ∧ (8 : Int) ≤ (70368744177664 : Int))
        (End.need
          ((0 : Int) ≤ v ∧ v < (18446744073709551616 : Int) ∧ (0 : Int) ≤ (8 : Int) ∧ (8 : Int) ≤ (70368744177664 : Int))
          (End.need ((16 : Nat) ≤ (70368744177664 : Nat) ∧ (16 : Nat) ≤ (70368744177664 : Nat))
            (End.need
              ((0 : Int) ≤ IntKind.u64.wrap s ∧
                IntKind.u64.wrap s < (18446744073709551616 : Int) ∧
                  (0 : Int) ≤ (8 : Int) ∧ (8 : Int) ≤ (70368744177664 : Int))
              (End.need ((24 : Nat) ≤ (70368744177664 : Nat) ∧ (24 : Nat) ≤ (70368744177664 : Nat))
                (End.need ((0 : Int) ≤ (0 : Int) ∧ (0 : Int) ≤ (64 : Int) ∧ (64 : Int) ≤ (64 : Int))
                  (End.need
                    (((24 : Nat) + (List.take (64 : Nat) (List.drop (0 : Nat) a)).length) * (1 : Nat) ≤
                        (70368744177664 : Nat) ∧
                      (24 : Nat) + (List.take (64 : Nat) (List.drop (0 : Nat) a)).length ≤ (70368744177664 : Nat))
                    (End.need ((0 : Int) ≤ (0 : Int) ∧ (0 : Int) ≤ (64 : Int) ∧ (64 : Int) ≤ (64 : Int))
                      (End.need
                        (((lowL (8 : Nat) c ++ lowL (8 : Nat) v ++ lowL (8 : Nat) (IntKind.u64.wrap s) ++
                                    List.take (64 : Nat) (List.drop (0 : Nat) a)).length +
                                (List.take (64 : Nat) (List.drop (0 : Nat) b)).length) *
                              (1 : Nat) ≤
                            (70368744177664 : Nat) ∧
                          (lowL (8 : Nat) c ++ lowL (8 : Nat) v ++ lowL (8 : Nat) (IntKind.u64.wrap s) ++
                                  List.take (64 : Nat) (List.drop (0 : Nat) a)).length +
                              (List.take (64 : Nat) (List.drop (0 : Nat) b)).length ≤
                            (70368744177664 : Nat))
                        (End.leaf (LV.one (VV.sc (SV.sl (0 : Nat) (0 : Nat))))
                          [some
                              (Item.own (0 : Nat) (Ty.int IntKind.u8)
                                (lowL (8 : Nat) c ++ lowL (8 : Nat) v ++ lowL (8 : Nat) (IntKind.u64.wrap s) ++
                                    List.take (64 : Nat) (List.drop (0 : Nat) a) ++
                                  List.take (64 : Nat) (List.drop (0 : Nat) b)))])))))))))) := by kernel_rfl

theorem own_eq {l m : List Int} (h : l = m) : [some (Item.own 0 u8 l)] = applyD [(0, Item.own 0 u8 m)] [] := by rw [h]; rfl
theorem head_ok : headE.Ok Try.prog 11 := by
  refine (Ent.ofOk Try.call11 fun x y Q h => ?_).sym
  obtain ⟨⟨a, b, _⟩, _⟩ := x
  refine (fnT_ok mixed (tabC cat_ok tab0) Try.func11 rfl (LT := []) (ks := [.ownF 0 u8, .auto, .vers]) (LOk.nil _)).use (D := [(0, .own 0 u8 (headF a b))]) ?_ h.2
  show (fnT _ _ _ _ (headA.wr ((a, b, ()), ())) [] _).sat _
  rw [puthead_tree]
  refine ⟨fun h1 => ⟨fun h2 => ⟨fun h3 => ⟨fun h4 => ⟨rfl, own_eq ?_⟩, fun h4 => ⟨by omega, rfl, own_eq ?_⟩⟩, fun h3 => ⟨rfl, own_eq ?_⟩⟩, fun h2 => ⟨rfl, own_eq ?_⟩⟩, fun h1 => ⟨rfl, own_eq ?_⟩⟩ <;>
    simp at * <;> unfold headF <;> first | (rw [if_neg (by omega)]) | (rw [if_pos (by omega), wrap_u8, wrap_u8, Int.emod_eq_of_lt (by omega) (by omega), Int.emod_eq_of_lt (by omega) (by omega)])
theorem head'_ok : headE.Ok Try.prog 12 := by
  refine (Ent.ofOk Try.call12 fun x y Q h => ?_).sym
  obtain ⟨⟨a, b, _⟩, _⟩ := x
  refine (fnT_ok mixed tab0 Try.func12 rfl (LT := []) (ks := [.ownF 0 u8, .auto, .vers]) (LOk.nil _)).use (D := [(0, .own 0 u8 (headF a b))]) ?_ h.2
  show (fnT _ _ _ _ (headA.wr ((a, b, ()), ())) [] _).sat _
  rw [puthead'_tree]
  refine ⟨fun h1 => ⟨fun h2 => ⟨fun h3 => ⟨fun h4 => ⟨rfl, own_eq ?_⟩, fun h4 => ⟨rfl, own_eq ?_⟩⟩, fun h3 => ⟨rfl, own_eq ?_⟩⟩, fun h2 => ⟨rfl, own_eq ?_⟩⟩, fun h1 => ⟨rfl, own_eq ?_⟩⟩ <;>
    simp at * <;> unfold headF <;> first | (rw [if_neg (by omega)]) | (rw [if_pos (by omega), wrap_u8, wrap_u8, Int.emod_eq_of_lt (by omega) (by omega), Int.emod_eq_of_lt (by omega) (by omega)])
theorem nB_eq {b c : Bool} (h : b = c) : nB b = nB c := by rw [h]
theorem right_ok : rightE.Ok Try.prog 17 := by
  refine (Ent.ofOk Try.call17 fun x y Q h => ?_).sym
  obtain ⟨⟨c, v, s, a, b, _⟩, _⟩ := x
  refine (fnT_ok mixed tab0 Try.func17 rfl (LT := []) (ks := [.fr [.sym], .auto]) (LOk.nil _)).use (D := []) ?_ h.2
  show (fnT _ _ _ _ (manA.wr ((c, v, s, a, b, ()), ())) [] _).sat _
  rw [right_tree]
  refine ⟨fun h1 => ⟨fun h2 => ⟨nB_eq ?_, rfl⟩, fun h2 => ⟨nB_eq ?_, rfl⟩⟩, fun h1 => ⟨nB_eq ?_, rfl⟩⟩ <;> simp_all [rightF] <;> omega
theorem right'_ok : rightE.Ok Try.prog 18 := by
  refine (Ent.ofOk Try.call18 fun x y Q h => ?_).sym
  obtain ⟨⟨c, v, s, a, b, _⟩, _⟩ := x
  refine (fnT_ok mixed tab0 Try.func18 rfl (LT := []) (ks := [.fr [.sym], .auto]) (LOk.nil _)).use (D := []) ?_ h.2
  show (fnT _ _ _ _ (manA.wr ((c, v, s, a, b, ()), ())) [] _).sat _
  rw [right'_tree]
  refine ⟨fun h1 => ⟨fun h2 => ⟨nB_eq ?_, rfl⟩, fun h2 => ⟨nB_eq ?_, rfl⟩⟩, fun h1 => ⟨nB_eq ?_, rfl⟩⟩ <;> simp_all [rightF] <;> omega

def manF (c v s : Int) (a b : List Int) : List Int := if rightF c v s = true then lowL 8 c ++ lowL 8 v ++ lowL 8 s ++ a.take 64 ++ b.take 64 else []
theorem rightF_range {c v s : Int} (h : rightF c v s = true) : 1 ≤ s ∧ s ≤ 131072 := by simp [rightF] at h; omega
noncomputable def manE : Ent := Ent.ofS [] manA lNil fun x _ => .leaf (some (0 ≤ x.1.1 ∧ x.1.1 < 18446744073709551616 ∧ 0 ≤ x.1.2.1 ∧ x.1.2.1 < 18446744073709551616)) (.one (.sc (.sl 0 0))) [(0, .own 0 u8 (manF x.1.1 x.1.2.1 x.1.2.2.1 x.1.2.2.2.1 x.1.2.2.2.2.1))]
theorem man_ok : manE.Ok Try.prog 13 := by
  refine (Ent.ofOk Try.call13 fun x y Q h => ?_).sym
  obtain ⟨⟨c, v, s, a, b, _⟩, _⟩ := x
  obtain ⟨⟨h1, h2, h3, h4⟩, hq⟩ := h
  simp only at h1 h2 h3 h4
  refine (fnT_ok mixed (tabC right_ok (tabC num_ok (tabC cat_ok tab0))) Try.func13 rfl (LT := []) (ks := [.ownF 0 u8, .auto, .vers]) (LOk.nil _)).use (D := [(0, .own 0 u8 (manF c v s a b))]) ?_ hq
  show (fnT _ _ _ _ (manA.wr ((c, v, s, a, b, ()), ())) [] _).sat _
  rw [put_tree]
  refine ⟨fun hb => ⟨rfl, own_eq ?_⟩, fun hb => ?_⟩
  · simp at hb; simp [manF, hb]
  · simp at hb
    obtain ⟨r1, r2⟩ := rightF_range hb
    have e := wrap_u64 (n := s) (by omega) (by omega)
    rw [e]
    refine ⟨⟨h1, h2⟩, ⟨h3, h4⟩, ⟨by omega, by omega⟩, ⟨by omega, by omega, by omega⟩, ⟨by omega, by omega, by omega⟩, ⟨?_, by omega⟩, rfl, own_eq ?_⟩
    · simp [lowL_length]; omega
    · simp [manF, hb]
theorem man'_ok : manE.Ok Try.prog 14 := by
  refine (Ent.ofOk Try.call14 fun x y Q h => ?_).sym
  obtain ⟨⟨c, v, s, a, b, _⟩, _⟩ := x
  obtain ⟨⟨h1, h2, h3, h4⟩, hq⟩ := h
  simp only at h1 h2 h3 h4
  refine (fnT_ok mixed (tabC right'_ok (tabC low_ok tab0)) Try.func14 rfl (LT := []) (ks := [.ownF 0 u8, .auto, .vers]) (LOk.nil _)).use (D := [(0, .own 0 u8 (manF c v s a b))]) ?_ hq
  show (fnT _ _ _ _ (manA.wr ((c, v, s, a, b, ()), ())) [] _).sat _
  rw [put'_tree]
  refine ⟨fun hb => ⟨rfl, own_eq ?_⟩, fun hb => ?_⟩
  · simp at hb; simp [manF, hb]
  · simp at hb
    obtain ⟨r1, r2⟩ := rightF_range hb
    have e := wrap_u64 (n := s) (by omega) (by omega)
    rw [e]
    refine ⟨⟨h1, h2, by omega, by omega⟩, ⟨h3, h4, by omega, by omega⟩, ⟨by omega, by omega⟩, ⟨by omega, by omega, by omega, by omega⟩, ⟨by omega, by omega⟩, ⟨by omega, by omega, by omega⟩, ⟨?_, ?_⟩, ⟨by omega, by omega, by omega⟩, ⟨?_, ?_⟩, rfl, own_eq ?_⟩
    · simp; omega
    · simp; omega
    · simp [lowL_length]; omega
    · simp [lowL_length]; omega
    · simp [manF, hb]

def labF (hd mn sg : List Int) : List Int := if hd.length = 0 ∨ mn.length = 0 then [] else hd ++ mn ++ sg.take 64
theorem putlabel_tree (a b c v s : Int) (x y z : List Int) : fnT Try.prog [(11, headE), (13, manE), (39, catE)] [] Try.f15 (labA.wr ((a, b, c, v, s, x, y, z, ()), ())) [] [.ownF 0 u8, .auto, .vers] =
    End.need ((0 : Int) ≤ c ∧ c < (18446744073709551616 : Int) ∧ (0 : Int) ≤ v ∧ v < (18446744073709551616 : Int))
      (End.ite ((↑(headF a b).length == (0 : Int)) == false)
        (End.ite (↑(manF c v s x y).length == (0 : Int))
          (End.leaf (LV.one (VV.sc (SV.sl (0 : Nat) (0 : Nat)))) [some (Item.own (0 : Nat) (Ty.int IntKind.u8) [])])
          (End.need ((0 : Int) ≤ (0 : Int) ∧ (0 : Int) ≤ (64 : Int) ∧ (64 : Int) ≤ (64 : Int))
            (End.need
              ([headF a b, manF c v s x y, List.take (64 : Nat) (List.drop (0 : Nat) z)].flatten.length ≤
                  (70368744177664 : Nat) ∧
                (3 : Nat) ≤ (140737488355328 : Nat))
              (End.leaf (LV.one (VV.sc (SV.sl (0 : Nat) (0 : Nat))))
                [some
                    (Item.own (0 : Nat) (Ty.int IntKind.u8)
                      [headF a b, manF c v s x y, List.take (64 : Nat) (List.drop (0 : Nat) z)].flatten)]))))
        (End.leaf (LV.one (VV.sc (SV.sl (0 : Nat) (0 : Nat)))) [some (Item.own (0 : Nat) (Ty.int IntKind.u8) [])])) := by kernel_rfl
theorem putlabel'_tree (a b c v s : Int) (x y z : List Int) : fnT Try.prog [(12, headE), (14, manE)] [] Try.f16 (labA.wr ((a, b, c, v, s, x, y, z, ()), ())) [] [.ownF 0 u8, .auto, .vers] =
    End.need ((0 : Int) ≤ c ∧ c < (18446744073709551616 : Int) ∧ (0 : Int) ≤ v ∧ v < (18446744073709551616 : Int))
      (End.ite ((↑(headF a b).length == (0 : Int)) == false)
        (End.ite (↑(manF c v s x y).length == (0 : Int))
          (End.leaf (LV.one (VV.sc (SV.sl (0 : Nat) (0 : Nat)))) [some (Item.own (0 : Nat) (Ty.int IntKind.u8) [])])
          (End.need
            (((headF a b).length + (manF c v s x y).length) * (1 : Nat) ≤ (70368744177664 : Nat) ∧
              (headF a b).length + (manF c v s x y).length ≤ (70368744177664 : Nat))
            (End.need ((0 : Int) ≤ (0 : Int) ∧ (0 : Int) ≤ (64 : Int) ∧ (64 : Int) ≤ (64 : Int))
              (End.need
                (((headF a b ++ manF c v s x y).length + (List.take (64 : Nat) (List.drop (0 : Nat) z)).length) *
                      (1 : Nat) ≤
                    (70368744177664 : Nat) ∧
                  (headF a b ++ manF c v s x y).length + (List.take (64 : Nat) (List.drop (0 : Nat) z)).length ≤
                    (70368744177664 : Nat))
                (End.leaf (LV.one (VV.sc (SV.sl (0 : Nat) (0 : Nat))))
                  [some
                      (Item.own (0 : Nat) (Ty.int IntKind.u8)
                        (headF a b ++ manF c v s x y ++ List.take (64 : Nat) (List.drop (0 : Nat) z)))])))))
        (End.leaf (LV.one (VV.sc (SV.sl (0 : Nat) (0 : Nat)))) [some (Item.own (0 : Nat) (Ty.int IntKind.u8) [])])) := by kernel_rfl
theorem headF_len (a b : Int) : (headF a b).length ≤ 8 := by unfold headF; split <;> simp
theorem manF_len (c v s : Int) (a b : List Int) : (manF c v s a b).length ≤ 152 := by unfold manF; split <;> simp [lowL_length]; omega
noncomputable def labE : Ent := Ent.ofS [] labA lNil fun x _ => .leaf (some (0 ≤ x.1.2.2.1 ∧ x.1.2.2.1 < 18446744073709551616 ∧ 0 ≤ x.1.2.2.2.1 ∧ x.1.2.2.2.1 < 18446744073709551616)) (.one (.sc (.sl 0 0)))
  [(0, .own 0 u8 (labF (headF x.1.1 x.1.2.1) (manF x.1.2.2.1 x.1.2.2.2.1 x.1.2.2.2.2.1 x.1.2.2.2.2.2.1 x.1.2.2.2.2.2.2.1) x.1.2.2.2.2.2.2.2.1))]
theorem lab_ok : labE.Ok Try.prog 15 := by
  refine (Ent.ofOk Try.call15 fun x y Q h => ?_).sym
  obtain ⟨⟨a, b, c, v, s, x, y, z, _⟩, _⟩ := x
  obtain ⟨hr, hq⟩ := h
  simp only at hr
  refine (fnT_ok mixed (tabC head_ok (tabC man_ok (tabC cat_ok tab0))) Try.func15 rfl (LT := []) (ks := [.ownF 0 u8, .auto, .vers]) (LOk.nil _)).use (D := [(0, .own 0 u8 (labF (headF a b) (manF c v s x y) z))]) ?_ hq
  show (fnT _ _ _ _ (labA.wr ((a, b, c, v, s, x, y, z, ()), ())) [] _).sat _
  rw [putlabel_tree]
  have h1 := headF_len a b
  have h2 := manF_len c v s x y
  generalize headF a b = hd at *
  generalize manF c v s x y = mn at *
  refine ⟨hr, fun hb => ⟨fun hc => ⟨rfl, own_eq ?_⟩, fun hc => ⟨by omega, ⟨?_, by omega⟩, rfl, own_eq ?_⟩⟩, fun hb => ⟨rfl, own_eq ?_⟩⟩
  · simp at hb hc; simp [labF, hc]
  · simp; omega
  · simp at hb hc; simp [labF, hc, hb]
  · simp at hb; simp [labF, hb]
theorem lab'_ok : labE.Ok Try.prog 16 := by
  refine (Ent.ofOk Try.call16 fun x y Q h => ?_).sym
  obtain ⟨⟨a, b, c, v, s, x, y, z, _⟩, _⟩ := x
  obtain ⟨hr, hq⟩ := h
  simp only at hr
  refine (fnT_ok mixed (tabC head'_ok (tabC man'_ok tab0)) Try.func16 rfl (LT := []) (ks := [.ownF 0 u8, .auto, .vers]) (LOk.nil _)).use (D := [(0, .own 0 u8 (labF (headF a b) (manF c v s x y) z))]) ?_ hq
  show (fnT _ _ _ _ (labA.wr ((a, b, c, v, s, x, y, z, ()), ())) [] _).sat _
  rw [putlabel'_tree]
  have h1 := headF_len a b
  have h2 := manF_len c v s x y
  generalize headF a b = hd at *
  generalize manF c v s x y = mn at *
  refine ⟨hr, fun hb => ⟨fun hc => ⟨rfl, own_eq ?_⟩, fun hc => ⟨⟨by omega, by omega⟩, by omega, ⟨?_, ?_⟩, rfl, own_eq ?_⟩⟩, fun hb => ⟨rfl, own_eq ?_⟩⟩
  · simp at hb hc; simp [labF, hc]
  · simp; omega
  · simp; omega
  · simp at hb hc; simp [labF, hc, hb]
  · simp at hb; simp [labF, hb]

/-! ### Bytes that are equal; headers read -/
abbrev bbA : Cod (List LV) (List Int × List Int × Unit) := lCons (vOne (sRd false false u8)) (lCons (vOne (sRd false false u8)) lNil)
theorem equal_tree (a b : List Int) : fnT Try.prog [] [] Try.f50 (bbA.wr (a, b, ())) [] [] =
    End.leaf (LV.one (VV.sc (SV.bool (SB.sym (strEq a b))))) [] := by kernel_rfl
theorem context_tree  : fnT Try.prog [] [] Try.f38 [] [] [.auto, .vers] =
    End.leaf (LV.one (VV.sc (SV.sl (0 : Nat) (0 : Nat))))
      [some
          (Item.own (0 : Nat) (Ty.int IntKind.u8)
            [(98 : Int), (111 : Int), (111 : Int), (116 : Int), (106 : Int), (97 : Int), (99 : Int), (107 : Int)])] := by kernel_rfl
end Go.Proofs.Ytdpbkfmjknmmnaa
