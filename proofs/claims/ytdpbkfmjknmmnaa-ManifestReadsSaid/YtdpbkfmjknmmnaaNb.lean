/- Numbers of bytes, as the document reckons them. -/
import Derived.Test.YtdpbkfmjknmmnaaG1
import Derived.Test.YtdpbkfmjknmmnaaBt
set_option linter.unusedVariables false
set_option linter.unusedSimpArgs false
namespace Go.Proofs.Ytdpbkfmjknmmnaa
open Go Go.Ev
set_option maxRecDepth 100000
/-- bytes as a number, the lowest one first -/
def numW : List Int → Int
  | [] => 0
  | x :: l => IntKind.u64.wrap (IntKind.u64.wrap (numW l * 256) + IntKind.u64.wrap x)
abbrev nbC : Cod (List LV) (List Int × Int × Int × Unit) := lCons (vOne (sRd false false u8)) (jk 2 (lCons (vOne (sInt .u64)) (lCons (vOne (sInt .i64)) (jk 16 lNil))))
abbrev nbE : Cod (List LV) (Int × Unit) := jk 3 (lCons (vOne (sInt .u64)) (jk 17 lNil))
abbrev nbK : List Wk := [.fr (fmS 21 [(0, .keep), (3, .sym), (4, .sym)])]
abbrev nbX : List Wk := [.fr (fmS 21 [(3, .sym)])]
noncomputable abbrev nbFn : Func := Try.f52
theorem nb_rnd (l : List Int) (n i : Int) : rndT Try.prog [] [] nbFn 0 [] (wsE nbK 0 nbX) ((stC nbC lNil).wr ((l, n, i, ()), ())) =
    Res.ite (decide ((0 : Int) ≤ i))
      (Res.need ((0 : Int) ≤ i ∧ i < (↑l.length : Int))
        (Res.leaf Exit.normal
          {
            fr :=
              [LV.one (VV.sc (SV.rd false false (Ty.int IntKind.u8) l)), LV.junk, LV.junk,
                LV.one
                  (VV.sc
                    (SV.int IntKind.u64
                      (SI.sym
                        (IntKind.u64.wrap
                          (IntKind.u64.wrap (n * (256 : Int)) + IntKind.u64.wrap (l.getD i.toNat (0 : Int))))))),
                LV.one (VV.sc (SV.int IntKind.i64 (SI.sym (IntKind.i64.wrap (i - (1 : Int)))))), LV.junk, LV.junk, LV.junk,
                LV.junk, LV.junk, LV.junk, LV.junk, LV.junk, LV.junk, LV.junk, LV.junk, LV.junk, LV.junk, LV.junk, LV.junk,
                LV.junk],
            hp := [] }))
      (Res.leaf (Exit.exit (0 : Nat))
        {
          fr :=
            [LV.junk, LV.junk, LV.junk, LV.one (VV.sc (SV.int IntKind.u64 (SI.sym n))), LV.junk, LV.junk, LV.junk, LV.junk,
              LV.junk, LV.junk, LV.junk, LV.junk, LV.junk, LV.junk, LV.junk, LV.junk, LV.junk, LV.junk, LV.junk, LV.junk,
              LV.junk],
          hp := [] }) := by kernel_rfl
noncomputable def nbF (x : (List Int × Int × Int × Unit) × Unit) : Res :=
  .need (x.1.2.1 = 0 ∧ x.1.2.2.1 = IntKind.i64.wrap (x.1.1.length - 1) ∧ x.1.1.length ≤ 70368744177664) (.leaf (.exit 0) ((stC nbE lNil).wr ((numW x.1.1, ()), ())))
theorem nb_loop (x) : Ex Try.prog [] (.loop (loopAt nbFn 0)) ((stC nbC lNil).wr x) (nbF x) := by
  obtain ⟨⟨l, n, i, _⟩, _⟩ := x
  refine Ex.need fun ⟨h1, h2, h3⟩ => ?_
  simp only at h1 h2 h3
  rw [wrap_ok (by omega) (by omega)] at h2
  subst h1 h2
  have key := loopR mixed tab0 (LOk.nil _) (fun j => j) (fun j : Nat => (stC nbC lNil).wr ((l, numW (l.drop j), (j : Int) - 1, ()), ())) (fun j => j ≤ l.length)
    (fun j => .leaf (.exit 0) ((stC nbE lNil).wr ((numW l, ()), ()))) (fun j _ => nb_rnd l _ _) (fun j R hj hs => ?_) l.length (Nat.le_refl _)
  · simp only [List.drop_length] at key
    exact key
  · refine ⟨fun hb => ?_, fun hb => ?_⟩
    · have hlt : 0 < j := by simp at hb; omega
      obtain ⟨k, rfl⟩ : ∃ k, j = k + 1 := ⟨j - 1, by omega⟩
      refine ⟨⟨by omega, by omega⟩, .inl ⟨rfl, k, ?_, by omega, by omega, hs⟩⟩
      have e1 : IntKind.i64.wrap (((k + 1 : Nat) : Int) - 1 - 1) = (k : Int) - 1 := by rw [wrap_ok (by omega) (by omega)]; omega
      have e2 : (((k + 1 : Nat) : Int) - 1).toNat = k := by omega
      rw [e1, e2, drop_getD (show k < l.length by omega)]
      rfl
    · have : j = 0 := by simp at hb; omega
      subst this
      exact .inr ⟨by simp, hs⟩
noncomputable abbrev nbLT : LTab := [(0, loopF (stC nbC lNil) 0 nbK nbF)]
noncomputable def nbEnt : Ent := Ent.ofS [some u8] bA lNil fun x _ => .leaf (some (x.1.length ≤ 70368744177664)) (nU (numW x.1)) []
theorem nb_tree (l : List Int) : fnT Try.prog [] nbLT nbFn (bA.wr (l, ())) [] [.auto] =
    End.need
      ((0 : Int) = (0 : Int) ∧
        IntKind.i64.wrap ((↑l.length : Int) - (1 : Int)) = IntKind.i64.wrap ((↑l.length : Int) - (1 : Int)) ∧
          l.length ≤ (70368744177664 : Nat))
      (End.leaf (LV.one (VV.sc (SV.int IntKind.u64 (SI.sym (numW l))))) []) := by kernel_rfl
theorem nb_ok : nbEnt.Ok Try.prog 52 := by
  refine (Ent.ofOk Try.call52 fun x y Q h => ?_).sym
  obtain ⟨l, _⟩ := x
  obtain ⟨hl, hq⟩ := h
  have hl : l.length ≤ 70368744177664 := hl
  refine (fnT_ok mixed tab0 Try.func52 rfl (LT := nbLT) (ks := [.auto]) (LOk.ofTab (LTC rfl (loopF_ok (hp := []) nb_loop) LT0))).use (D := []) ?_ hq
  show (fnT _ _ _ _ (bA.wr (l, ())) [] _).sat _
  rw [nb_tree]
  exact ⟨⟨rfl, rfl, hl⟩, rfl, rfl⟩
theorem ba_loop (bs : ByteArray) : ∀ (k i : Nat) (r : List UInt8), bs.size - i = k → ByteArray.toList.loop bs i r = r.reverse ++ bs.data.toList.drop i := by
  intro k
  induction k with
  | zero =>
    intro i r h
    unfold ByteArray.toList.loop
    rw [if_neg (by omega), List.drop_eq_nil_of_le (by simp; exact Nat.sub_eq_zero_iff_le.1 h)]
    simp
  | succ k ih =>
    intro i r h
    unfold ByteArray.toList.loop
    have hi : i < bs.size := by omega
    have hi' : i < bs.data.toList.length := by simpa using hi
    rw [if_pos hi, ih (i + 1) _ (by omega), List.drop_eq_getElem_cons hi']
    have : bs.get! i = bs.data.toList[i] := by
      cases bs with | mk d => simp [ByteArray.get!, ByteArray.size] at *; exact getElem!_pos d i hi
    rw [this]; simp
theorem ba_toList (bs : ByteArray) : bs.toList = bs.data.toList := by
  unfold ByteArray.toList
  rw [ba_loop bs _ 0 [] rfl]; simp
theorem strOf_size' (l : List Int) : (strOf l).toList.length = l.length := by
  rw [ba_toList]
  simp [strOf]
theorem strEq_len {l m : List Int} (h : strEq l m = true) : l.length = m.length := by
  unfold strEq at h
  have := congrArg List.length (beq_iff_eq.1 h)
  rwa [strOf_size', strOf_size'] at this
theorem numW_range : ∀ {l : List Int}, AllBy l → l.length ≤ 8 → 0 ≤ numW l ∧ numW l < 256 ^ l.length ∧ ∀ c, By c → l.length < 8 → numW (c :: l) = numW l * 256 + c
  | [], _, _ => ⟨by simp [numW], by simp [numW], fun c hc _ => by
    obtain ⟨h0, h1⟩ := hc
    simp only [numW]
    rw [wrap_u64 (n := 0 * 256) (by omega) (by omega), wrap_u64 (n := c) (by omega) (by omega), wrap_u64 (by omega) (by omega)]⟩
  | x :: l, hb, hl => by
    simp only [List.length_cons] at hl
    have hx : By x := hb x (by simp)
    have hb' : AllBy l := fun z hz => hb z (by simp [hz])
    obtain ⟨h1, h2, h3⟩ := numW_range hb' (by omega)
    have e := h3 x hx (by omega)
    obtain ⟨hx0, hx1⟩ := hx
    have hp : (256 : Int) ^ (l.length + 1) = 256 ^ l.length * 256 := Int.pow_succ _ _
    have hlt : numW (x :: l) < 256 ^ (l.length + 1) := by rw [e, hp]; omega
    refine ⟨by rw [e]; omega, hlt, fun c hc h8 => ?_⟩
    simp only [List.length_cons] at h8
    obtain ⟨hc0, hc1⟩ := hc
    have hle : (256 : Int) ^ (l.length + 1) ≤ 256 ^ 7 := by
      have : (256 : Nat) ^ (l.length + 1) ≤ 256 ^ 7 := Nat.pow_le_pow_right (by omega) (by omega)
      exact_mod_cast this
    have h7 : (256 : Int) ^ 7 = 72057594037927936 := by decide
    have h0 : 0 ≤ numW (x :: l) := by rw [e]; omega
    have hd : numW (c :: x :: l) = IntKind.u64.wrap (IntKind.u64.wrap (numW (x :: l) * 256) + IntKind.u64.wrap c) := rfl
    rw [hd, wrap_u64 (n := numW (x :: l) * 256) (by omega) (by omega), wrap_u64 (n := c) (by omega) (by omega), wrap_u64 (by omega) (by omega)]
theorem numW_snoc : ∀ {l : List Int} {c : Int}, AllBy l → By c → l.length < 8 → numW (l ++ [c]) = numW l + c * 256 ^ l.length
  | [], c, hb, hc, _ => by
    have := (numW_range (l := []) (fun _ h => by simp at h) (by simp)).2.2 c hc (by simp)
    simp only [List.nil_append, List.length_nil, Int.pow_zero]
    rw [this]; simp [numW]
  | x :: l, c, hb, hc, h8 => by
    simp only [List.length_cons] at h8
    have hx : By x := hb x (by simp)
    have hb' : AllBy l := fun z hz => hb z (by simp [hz])
    have hb2 : AllBy (l ++ [c]) := fun z hz => by
      rcases List.mem_append.1 hz with h | h
      · exact hb' z h
      · simp at h; subst h; exact hc
    have e1 := (numW_range hb2 (by simp; omega)).2.2 x hx (by simp; omega)
    have e2 := (numW_range hb' (by omega)).2.2 x hx (by omega)
    rw [List.cons_append, e1, numW_snoc hb' hc (by omega), e2, List.length_cons, Int.pow_succ, Int.add_mul, Int.mul_assoc]
    omega
theorem by_getD {l : List Int} (h : AllBy l) (i : Nat) : By (l.getD i 0) := by
  rw [List.getD_eq_getElem?_getD]
  cases he : l[i]? with
  | none => exact ⟨by simp, by simp⟩
  | some z => exact h z (List.mem_of_getElem? he)
theorem map_getD_drop {l : List Int} {j n : Nat} (h : j + n ≤ l.length) : (List.range n).map (fun i => l.getD (j + i) 0) = (l.drop j).take n := by
  apply List.ext_getElem?
  intro i
  simp only [List.getElem?_map, List.getElem?_take, List.getElem?_drop]
  rcases Nat.lt_or_ge i n with h1 | h1
  · rw [List.getElem?_range h1]
    simp [List.getD_eq_getElem?_getD, h1, List.getElem?_eq_getElem (show j + i < l.length by omega)]
  · rw [List.getElem?_eq_none (by simpa using h1)]
    simp [show ¬ i < n by omega]
--use rnum bootjackref1.Number
noncomputable abbrev rnumE : Ent := nbEnt
theorem rnum_ok : rnumE.Ok Try.prog 52 := nb_ok
end Go.Proofs.Ytdpbkfmjknmmnaa
