/- slices.Concat. -/
import Derived.Test.YtdpbkfmjknmmnaaG0
set_option linter.unusedVariables false
set_option linter.unusedSimpArgs false
namespace Go.Proofs.Ytdpbkfmjknmmnaa
open Go Go.Ev
set_option maxRecDepth 100000

theorem wrap_ok {n : Int} (h1 : -9223372036854775808 ≤ n) (h2 : n ≤ 9223372036854775807) : IntKind.i64.wrap n = n := by
  rw [IntKind.wrap_i64]; omega

section
noncomputable abbrev catFn : Func := Try.f39
abbrev catC0 : Cod (List LV) (List (List Int) × Int × List (List Int) × Int × Int × Unit) := lCons (vOne (sRd false false (.sl u8))) (jk 2 (lCons (vOne (sInt .i64)) (jk 5 (lCons (vOne (sRd false false (.sl u8))) (lCons (vOne (sInt .i64)) (lCons (vOne (sInt .i64)) (jk 24 lNil)))))))
abbrev catK0 : List Wk := [.fr (fmS 36 [(0, .keep), (3, .sym), (9, .keep), (10, .sym), (11, .sym)])]
abbrev catE0 : Cod (List LV) (List (List Int) × Int × Unit) := lCons (vOne (sRd false false (.sl u8))) (jk 2 (lCons (vOne (sInt .i64)) (jk 32 lNil)))
abbrev catX0 : List Wk := [.fr (fmS 36 [(0, .keep), (3, .sym)])]
theorem cat_rnd0 (l0 ls : List (List Int)) (s n i : Int) : rndT Try.prog [] [] catFn 0 [] (wsE catK0 0 catX0) ((stC catC0 lNil).wr ((l0, s, ls, n, i, ()), ())) =
    .ite (decide (i < n)) (.need (0 ≤ i ∧ i < ls.length) (.ite (decide (IntKind.i64.wrap (s + (ls.getD i.toNat []).length) < 0)) .fail
      (.leaf .normal ((stC catC0 lNil).wr ((l0, IntKind.i64.wrap (s + (ls.getD i.toNat []).length), ls, n, IntKind.i64.wrap (i + 1), ()), ())))))
      (.leaf (.exit 0) ((stC catE0 lNil).wr ((l0, s, ()), ()))) := by kernel_rfl
theorem flat_take (ls : List (List Int)) (i : Nat) (h : i < ls.length) : (ls.take (i + 1)).flatten = (ls.take i).flatten ++ ls.getD i [] := by
  rw [List.take_add_one, List.flatten_append, List.getD_eq_getElem?_getD, List.getElem?_eq_getElem h]
  simp
theorem flat_le (ls : List (List Int)) (i : Nat) : (ls.take i).flatten.length ≤ ls.flatten.length := by
  have : ls.flatten = (ls.take i).flatten ++ (ls.drop i).flatten := by rw [← List.flatten_append, List.take_append_drop]
  rw [this, List.length_append]; omega
noncomputable def catF0 (x : (List (List Int) × Int × List (List Int) × Int × Int × Unit) × Unit) : Res :=
  .need (x.1.2.1 = 0 ∧ x.1.2.2.2.1 = x.1.2.2.1.length ∧ x.1.2.2.2.2.1 = 0 ∧ x.1.2.2.1.flatten.length ≤ 140737488355328 ∧ x.1.2.2.1.length ≤ 140737488355328) (.leaf (.exit 0) ((stC catE0 lNil).wr ((x.1.1, (x.1.2.2.1.flatten.length : Int), ()), ())))
theorem cat_loop0 (x) : Ex Try.prog [] (.loop (loopAt catFn 0)) ((stC catC0 lNil).wr x) (catF0 x) := by
  obtain ⟨⟨l0, s, ls, n, i, _⟩, _⟩ := x
  refine Ex.need fun ⟨h1, h2, h3, h4, h5⟩ => ?_
  simp only at h1 h2 h3 h4 h5
  subst h1 h2 h3
  refine loopR mixed tab0 (LOk.nil _) (fun k => ls.length - k) (fun k : Nat => (stC catC0 lNil).wr ((l0, ((ls.take k).flatten.length : Int), ls, (ls.length : Int), (k : Int), ()), ())) (fun k => k ≤ ls.length)
    (fun k => .leaf (.exit 0) ((stC catE0 lNil).wr ((l0, (ls.flatten.length : Int), ()), ()))) (fun k _ => cat_rnd0 l0 ls _ _ _) (fun k R hk hs => ?_) 0 (Nat.zero_le _)
  · have hle := flat_le ls k
    refine ⟨fun hb => ?_, fun hb => ?_⟩
    · have hlt : k < ls.length := by simpa using hb
      have hft := flat_take ls k hlt
      have hle1 := flat_le ls (k + 1)
      have hlen : ((ls.take (k + 1)).flatten.length : Int) = (ls.take k).flatten.length + (ls.getD k []).length := by rw [hft, List.length_append]; omega
      refine ⟨⟨by omega, by omega⟩, fun hb2 => ?_, fun _ => .inl ⟨rfl, k + 1, ?_, hlt, by omega, hs⟩⟩
      · rw [wrap_ok (by omega) (by simp only [Int.toNat_natCast]; omega)] at hb2
        simp at hb2; omega
      · rw [wrap_ok (by omega) (by simp only [Int.toNat_natCast]; omega), wrap_ok (by omega) (by omega)]
        simp only [Int.toNat_natCast]
        rw [← hlen]
        rfl
    · have hge : k = ls.length := by simp at hb; omega
      subst hge
      rw [List.take_length]
      exact .inr ⟨by simp, hs⟩

abbrev catC2 : Cod (List LV) (List (List Int) × Int × Int × Unit) := jk 6 (lSkip (vOne (sSl 0 0)) (jk 18 (lCons (vOne (sRd false false (.sl u8))) (lCons (vOne (sInt .i64)) (lCons (vOne (sInt .i64)) (jk 8 lNil))))))
abbrev catK2 : List Wk := [.fr (fmS 36 [(6, .keep), (25, .keep), (26, .sym), (27, .sym)]), .auto, .vers]
abbrev catE2 : Cod (List LV) Unit := jk 6 (lSkip (vOne (sSl 0 0)) (jk 29 lNil))
abbrev catX2 : List Wk := [.fr (fmS 36 [(6, .keep)]), .auto, .vers]
abbrev own1 : Cod Hp (List Int × Unit) := lCons (iOwn 0 u8) lNil
theorem cat_rnd2 (ls : List (List Int)) (acc : List Int) (n i : Int) : rndT Try.prog [] [] catFn 2 [] (wsE catK2 2 catX2) ((stC catC2 own1).wr ((ls, n, i, ()), (acc, ()))) =
    .ite (decide (i < n)) (.need (0 ≤ i ∧ i < ls.length) (.need ((acc.length + (ls.getD i.toNat []).length) * 1 ≤ 70368744177664 ∧ acc.length + (ls.getD i.toNat []).length ≤ 70368744177664)
      (.leaf .normal ((stC catC2 own1).wr ((ls, n, IntKind.i64.wrap (i + 1), ()), (acc ++ ls.getD i.toNat [], ()))))))
      (.leaf (.exit 2) ((stC catE2 own1).wr ((), (acc, ())))) := by kernel_rfl
noncomputable def catF2 (x : (List (List Int) × Int × Int × Unit) × List Int × Unit) : Res :=
  .need (x.1.2.1 = x.1.1.length ∧ x.1.2.2.1 = 0 ∧ x.2.1 = [] ∧ x.1.1.flatten.length ≤ 70368744177664 ∧ x.1.1.length ≤ 140737488355328) (.leaf (.exit 2) ((stC catE2 own1).wr ((), (x.1.1.flatten, ()))))
theorem cat_loop2 (x) : Ex Try.prog [] (.loop (loopAt catFn 2)) ((stC catC2 own1).wr x) (catF2 x) := by
  obtain ⟨⟨ls, n, i, _⟩, acc, _⟩ := x
  refine Ex.need fun ⟨h2, h3, h1, h4, h5⟩ => ?_
  simp only at h1 h2 h3 h4 h5
  subst h1 h2 h3
  refine loopR mixed tab0 (LOk.nil _) (fun k => ls.length - k) (fun k : Nat => (stC catC2 own1).wr ((ls, (ls.length : Int), (k : Int), ()), ((ls.take k).flatten, ()))) (fun k => k ≤ ls.length)
    (fun k => .leaf (.exit 2) ((stC catE2 own1).wr ((), (ls.flatten, ())))) (fun k _ => cat_rnd2 ls _ _ _) (fun k R hk hs => ?_) 0 (Nat.zero_le _)
  refine ⟨fun hb => ?_, fun hb => ?_⟩
  · have hlt : k < ls.length := by simpa using hb
    have hft := flat_take ls k hlt
    have hle1 := flat_le ls (k + 1)
    have hlen : (ls.take (k + 1)).flatten.length = (ls.take k).flatten.length + (ls.getD k []).length := by rw [hft, List.length_append]
    refine ⟨⟨by omega, by omega⟩, ⟨by simp only [Int.toNat_natCast]; omega, by simp only [Int.toNat_natCast]; omega⟩, .inl ⟨rfl, k + 1, ?_, hlt, by omega, hs⟩⟩
    rw [wrap_ok (by omega) (by omega)]
    simp only [Int.toNat_natCast]
    rw [← hft]
    rfl
  · have hge : k = ls.length := by simp at hb; omega
    subst hge
    rw [List.take_length]
    exact .inr ⟨by simp, hs⟩

abbrev catA : Cod (List LV) (List (List Int) × Unit) := lCons (vOne (sRd false false (.sl u8))) lNil
/-- all, one behind the other -/
noncomputable def catE : Ent := Ent.ofS [some (.sl u8)] catA lNil fun x _ => .leaf (some (x.1.flatten.length ≤ 70368744177664 ∧ x.1.length ≤ 140737488355328)) (.one (.sc (.sl 0 0))) [(0, .own 0 u8 x.1.flatten)]
noncomputable abbrev catLT : LTab := [(0, loopF (stC catC0 lNil) 0 catK0 catF0), (2, loopF (stC catC2 own1) 0 catK2 catF2)]
theorem cat_tree (ls : List (List Int)) : fnT Try.prog [(54, growE)] catLT catFn (catA.wr (ls, ())) [] [.auto, .vers] =
    .need ((0 : Int) = 0 ∧ (ls.length : Int) = ls.length ∧ (0 : Int) = 0 ∧ ls.flatten.length ≤ 140737488355328 ∧ ls.length ≤ 140737488355328) (.need (0 ≤ (ls.flatten.length : Int) ∧ (ls.flatten.length : Int) ≤ 140737488355328)
      (.need ((ls.length : Int) = ls.length ∧ (0 : Int) = 0 ∧ ([] : List Int) = [] ∧ ls.flatten.length ≤ 70368744177664 ∧ ls.length ≤ 140737488355328) (.leaf (.one (.sc (.sl 0 0))) [some (.own 0 u8 ls.flatten)]))) := by kernel_rfl
theorem cat_ok : catE.Ok Try.prog 39 := by
  refine (Ent.ofOk Try.call39 fun x y Q h => ?_).sym
  obtain ⟨ls, _⟩ := x
  obtain ⟨⟨h1, h2⟩, hq⟩ := h
  refine (fnT_ok mixed (tabC grow_ok tab0) Try.func39 rfl (LT := catLT) (ks := [.auto, .vers]) (LOk.ofTab (LTC rfl (loopF_ok (hp := []) cat_loop0) (LTC rfl (loopF_ok (hp := []) cat_loop2) LT0)))).use (D := [(0, .own 0 u8 ls.flatten)]) ?_ hq
  show (fnT _ _ _ _ (catA.wr (ls, ())) [] _).sat _
  rw [cat_tree]
  simp only at h1 h2
  exact ⟨⟨rfl, rfl, rfl, by omega, by omega⟩, ⟨by omega, by omega⟩, ⟨rfl, rfl, rfl, h1, h2⟩, rfl, rfl⟩
end
end Go.Proofs.Ytdpbkfmjknmmnaa
