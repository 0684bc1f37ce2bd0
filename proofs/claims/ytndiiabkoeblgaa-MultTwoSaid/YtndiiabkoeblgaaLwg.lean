/- Laws of chapter 12: what their code gives is true. -/
import Derived.Test.YtndiiabkoeblgaaLwf
namespace Go.Proofs.Ytndiiabkoeblgaa
open Go Go.Ev BJ

theorem dec_is (b : B32) : ∃ P : BJ.Pt, IsP (decE b).1 P := by
  unfold decE
  simp only []
  by_cases h : (xOfE (toF (valB b % p2255))).2 = true ∧ valB b % p2255 < (pp : Int) ∧ ¬(128 ≤ b.get 31 ∧ (xOfE (toF (valB b % p2255))).1 = 0)
  · rw [if_pos h]
    have ho := xOf_on h.1
    generalize (xOfE (toF (valB b % p2255))).1 = X at *
    generalize toF (valB b % p2255) = Y at *
    by_cases h2 : 128 ≤ b.get 31
    · rw [if_pos h2]
      have ho' : OnC (-X) Y := by unfold OnC at *; grobner
      exact ⟨⟨-X, Y, ho'⟩, isP_aff ⟨-X, Y, ho'⟩⟩
    · rw [if_neg h2]
      exact ⟨⟨X, Y, ho⟩, isP_aff ⟨X, Y, ho⟩⟩
  · rw [if_neg h]
    exact ⟨_, isP_zero⟩
theorem base_on : OnC baseX baseY := by unfold OnC; decide +kernel
def baseP : BJ.Pt := ⟨baseX, baseY, base_on⟩
theorem base_isP : IsP baseE baseP := by
  rw [base_lit]; exact isP_aff baseP

/-- a point of the program, and what it stands for -/
structure Rep (p : Pt) (P : BJ.Pt) : Prop where
  ok : OkPt p
  is : IsP (ptE p) P
theorem rep_zero : Rep zeroC BJ.Pt.zero := ⟨zero_is.1, by rw [zero_is.2]; exact isP_zero⟩
theorem rep_base : Rep baseC baseP := ⟨base_is.1, by rw [base_is.2]; exact base_isP⟩
theorem rep_add {p q : Pt} {P Q : BJ.Pt} (hp : Rep p P) (hq : Rep q Q) : Rep (addPC p q) (P.add Q) := by
  obtain ⟨h1, _, h3⟩ := add_pt hp.ok hq.ok
  exact ⟨h1, by rw [h3]; exact isP_add hp.is hq.is⟩
theorem rep_double {p : Pt} {P : BJ.Pt} (hp : Rep p P) : Rep (doubleC p) (P.add P) := rep_add hp hp
theorem rep_neg {p : Pt} {P : BJ.Pt} (hp : Rep p P) : Rep (negPC p) P.neg := by
  obtain ⟨h1, _, h3⟩ := neg_pt hp.ok
  exact ⟨h1, by rw [h3]; exact isP_neg hp.is⟩
theorem rep_eq {p q : Pt} {P Q : BJ.Pt} (hp : Rep p P) (hq : Rep q Q) : equalPC p q = true ↔ P = Q := by
  rw [equal_pt hp.ok hq.ok]; exact isP_eq hp.is hq.is
theorem rep_same {p q : Pt} {P : BJ.Pt} (hp : Rep p P) (hq : Rep q P) : equalPC p q = true := (rep_eq hp hq).2 rfl
noncomputable def encP (P : BJ.Pt) : B32 := if P.x.val % 2 = 1 then topSet (bytesF P.y) else bytesF P.y
theorem rep_enc {p : Pt} {P : BJ.Pt} (hp : Rep p P) : encodeC p = encP P := by
  rw [encode_pt hp.ok]
  unfold encE encP
  rw [isP_x hp.is, isP_y hp.is]
theorem encP_val (P : BJ.Pt) : valB (encP P) = (P.y.val : Int) + (if P.x.val % 2 = 1 then p2255 else 0) := by
  unfold encP
  obtain ⟨h1, h2⟩ := bytesF_val P.y
  by_cases h : P.x.val % 2 = 1
  · rw [if_pos h, if_pos h, (topSet_val h1 (bytes_top _).2).2, h2]
  · rw [if_neg h, if_neg h, h2, Int.add_zero]
theorem encP_inj {P Q : BJ.Pt} (h : encP P = encP Q) : P = Q := by
  have hv := congrArg valB h
  rw [encP_val, encP_val] at hv
  have hp := pp_pos P.y
  have hq := pp_pos Q.y
  have c1 := p2255_int
  have c2 := pp_int
  have hy : P.y = Q.y := F_ext (by split at hv <;> split at hv <;> omega)
  have hpar : P.x.val % 2 = 1 ↔ Q.x.val % 2 = 1 := by
    split at hv <;> split at hv <;> omega
  refine BJ.Pt.ext' ?_ hy
  have e1 := xOf_of P.on
  have e2 := xOf_of Q.on
  rw [← hy] at e2
  have hc : P.x = Q.x ∨ P.x = -Q.x := by
    rcases e1.2 with a | a <;> rcases e2.2 with b | b <;> rw [a] at b
    · exact .inl b
    · exact .inr b
    · right; grobner
    · left; grobner
  rcases hc with h1 | h1
  · exact h1
  · by_cases h0 : Q.x = 0
    · rw [h1, h0]; grobner
    · have := neg_odd h0
      rw [← h1] at this
      omega

/-! ### Points out of bytes -/
noncomputable def atE (b : B32) : E4 := if (decE b).2 = true then (decE b).1 else rnds (fun _ p => addE p p) (w (b.1.tmod 7)).toNat baseE
theorem dbl_is : ∀ k : Nat, (OkPt (rnds (fun _ => doubleC) k baseC) ∧ ptE (rnds (fun _ => doubleC) k baseC) = rnds (fun _ p => addE p p) k baseE) ∧ rnds (fun _ q => plus9C q q) k base9C = pn (rnds (fun _ p => addE p p) k baseE) ∧ ∃ P, IsP (rnds (fun _ p => addE p p) k baseE) P
  | 0 => ⟨base_is, base9_pn, _, base_isP⟩
  | k + 1 => by
    obtain ⟨⟨h1, h2⟩, h3, P, h4⟩ := dbl_is k
    simp only [rnds]
    obtain ⟨a1, _, a3⟩ := add_pt h1 h1
    refine ⟨⟨a1, ?_⟩, ?_, _, isP_add h4 h4⟩
    · rw [← h2]; exact a3
    · rw [h3, plus9_pn]
theorem at2_is {b : B32} (hb : OkB b) : (OkPt (at2C b).1 ∧ ptE (at2C b).1 = atE b) ∧ (at2C b).2 = pn (atE b) ∧ ∃ P, IsP (atE b) P := by
  obtain ⟨d1, d2, d3⟩ := decode_pt hb
  have d4 := decode9_pn hb
  obtain ⟨k1, k2, k3⟩ := dbl_is (w (b.1.tmod 7)).toNat
  have hboth : isBoth decodeC decode9C b = (decE b).2 := by
    unfold isBoth
    rw [d3, d4]
    cases (decE b).2 <;> rfl
  have e : at2C b = (selPt (decE b).2 (decodeC b).1 (rnds (fun _ => doubleC) (w (b.1.tmod 7)).toNat baseC), selPn (decE b).2 (decode9C b).1 (rnds (fun _ q => plus9C q q) (w (b.1.tmod 7)).toNat base9C)) := by
    rw [← hboth]; rfl
  rw [e, selPt_eq, selPn_eq]
  unfold atE
  cases h : (decE b).2 with
  | true => exact ⟨⟨d1, by rw [if_pos rfl]; exact d2⟩, by rw [if_pos rfl]; show (decode9C b).1 = _; rw [d4], by rw [if_pos rfl]; exact dec_is b⟩
  | false => exact ⟨⟨k1.1, by rw [if_neg (by simp)]; exact k1.2⟩, by rw [if_neg (by simp)]; exact k2, by rw [if_neg (by simp)]; exact k3⟩
theorem at2_rep {b : B32} (hb : OkB b) : ∃ P, Rep (at2C b).1 P := by
  obtain ⟨⟨h1, h2⟩, _, P, h3⟩ := at2_is hb
  exact ⟨P, h1, by rw [h2]; exact h3⟩

/-! ### The laws -/
theorem group_true {a b c : B32} (ha : OkB a) (hb : OkB b) (hc : OkB c) : both (equalPC (addPC (at2C a).1 (at2C b).1) (addPC (at2C b).1 (at2C a).1)) (both (equalPC (addPC (addPC (at2C a).1 (at2C b).1) (at2C c).1) (addPC (at2C a).1 (addPC (at2C b).1 (at2C c).1))) (both (equalPC (addPC (at2C a).1 zeroC) (at2C a).1)
      (both (equalPC (addPC (at2C a).1 (negPC (at2C a).1)) zeroC) (both (equalPC (doubleC (at2C a).1) (addPC (at2C a).1 (at2C a).1)) (equalPC (negPC (negPC (at2C a).1)) (at2C a).1))))) = true := by
  obtain ⟨P, hP⟩ := at2_rep ha
  obtain ⟨Q, hQ⟩ := at2_rep hb
  obtain ⟨R, hR⟩ := at2_rep hc
  refine both_true ((rep_eq (rep_add hP hQ) (rep_add hQ hP)).2 (BJ.Pt.add_comm _ _)) (both_true ((rep_eq (rep_add (rep_add hP hQ) hR) (rep_add hP (rep_add hQ hR))).2 (BJ.Pt.add_assoc _ _ _)) (both_true ((rep_eq (rep_add hP rep_zero) hP).2 (BJ.Pt.add_zero _))
    (both_true ((rep_eq (rep_add hP (rep_neg hP)) rep_zero).2 (BJ.Pt.add_neg _)) (both_true (rep_same (rep_double hP) (rep_add hP hP)) ((rep_eq (rep_neg (rep_neg hP)) hP).2 (BJ.neg_neg _))))))
theorem same_true {a b : B32} (ha : OkB a) (hb : OkB b) : both (equalPC (addPC (addPC (at2C a).1 (at2C b).1) (negPC (at2C b).1)) (at2C a).1) (both (eqV (encodeC (addPC (addPC (at2C a).1 (at2C b).1) (negPC (at2C b).1))) (encodeC (at2C a).1)) (equalPC (at2C a).1 (at2C b).1 == eqV (encodeC (at2C a).1) (encodeC (at2C b).1))) = true := by
  obtain ⟨P, hP⟩ := at2_rep ha
  obtain ⟨Q, hQ⟩ := at2_rep hb
  have e : (P.add Q).add Q.neg = P := by rw [BJ.Pt.add_assoc, BJ.Pt.add_neg, BJ.Pt.add_zero]
  have h := rep_add (rep_add hP hQ) (rep_neg hQ)
  rw [e] at h
  refine both_true (rep_same h hP) (both_true ?_ ?_)
  · rw [rep_enc h, rep_enc hP]; exact (eqV_iff _ _).2 rfl
  · rw [rep_enc hP, rep_enc hQ, beq_iff_eq, Bool.eq_iff_iff, rep_eq hP hQ, eqV_iff]
    exact ⟨fun h => by rw [h], encP_inj⟩
noncomputable def tellsC : B32 → B32 → Bool := tellsFn at2C decodeC addPC negPC doubleC equalPC encodeC decode9C plus9C turn9C alike9C encode9C
theorem tells_true {a b : B32} (ha : OkB a) (hb : OkB b) : tellsC a b = true := by
  obtain ⟨d1, d2, d3⟩ := decode_pt ha
  have d4 := decode9_pn ha
  obtain ⟨⟨p1, p2⟩, p3, _⟩ := at2_is ha
  obtain ⟨⟨r1, r2⟩, r3, _⟩ := at2_is hb
  obtain ⟨s1, _, s2⟩ := add_pt p1 r1
  obtain ⟨t1, _, t2⟩ := add_pt p1 p1
  obtain ⟨n1, _, n2⟩ := neg_pt p1
  unfold tellsC tellsFn
  simp only [selN_self]
  have h1 : ((decodeC a).2 != (decode9C a).2) = false := by rw [d3, d4]; simp
  have h2 : eqV (encodeC (decodeC a).1) (encode9C (decode9C a).1) = true := by rw [encode_pt d1, d2, d4, encode9_pn]; exact (eqV_iff _ _).2 rfl
  rw [h1, h2]
  show both _ _ = true
  refine both_true ?_ (both_true ?_ (both_true ?_ (both_true ?_ ?_)))
  · rw [encode_pt p1, p2, p3, encode9_pn]; exact (eqV_iff _ _).2 rfl
  · rw [encode_pt s1, s2, p2, r2, p3, r3, plus9_pn, encode9_pn]; exact (eqV_iff _ _).2 rfl
  · have e : encodeC (doubleC (at2C a).1) = encE (addE (atE a) (atE a)) := by rw [← p2, ← t2]; exact encode_pt t1
    rw [e, p3, plus9_pn, encode9_pn]; exact (eqV_iff _ _).2 rfl
  · rw [encode_pt n1, n2, p2, p3, turn9_pn, encode9_pn]; exact (eqV_iff _ _).2 rfl
  · rw [equal_pt p1 r1, p2, r2, p3, r3, alike9_pn, beq_iff_eq]
theorem exp_val (lo hi : Int) : valB (feExp lo hi) = lo + 452312848583266388373324160190187140051835877600158453279131187530910662400 + hi * 452312848583266388373324160190187140051835877600158453279131187530910662656 := by
  simp only [feExp, Vec.ofFn, valB]
  simp
  omega
noncomputable def wrongC : Int → Bool → Bool := wrongFn zeroC decodeC equalPC
theorem wrong_bad {n : Int} (h1 : ¬ n < 237) (h2 : ¬ n > 255) (odd : Bool) : (decodeC (feExp n (bif !odd then 127 else 255))).2 = false ∧ equalPC (decodeC (feExp n (bif !odd then 127 else 255))).1 zeroC = true := by
  have ho : OkB (feExp n (bif !odd then 127 else 255)) := OkB_exp (by omega) (by cases odd <;> simp)
  have hv := exp_val n (bif !odd then 127 else 255)
  obtain ⟨d1, d2, d3⟩ := decode_pt ho
  have hno : ¬ (valB (feExp n (bif !odd then 127 else 255)) % p2255 < (pp : Int)) := by
    have c2 := pp_int
    have c3 : ∀ x : Int, x % p2255 = x % 57896044618658097711785492504343953926634992332820282019728792003956564819968 := fun _ => rfl
    rw [hv, c3]
    cases odd
    · simp only [Bool.not_false, cond_true]; omega
    · simp only [Bool.not_true, cond_false]; omega
  have hd : decE (feExp n (bif !odd then 127 else 255)) = (zeroE, false) := by
    unfold decE
    simp only []
    rw [if_neg (fun h => hno h.2.1)]
  rw [hd] at d2 d3
  refine ⟨d3, ?_⟩
  rw [equal_pt d1 zero_is.1, d2, zero_is.2]
  exact eqE_self _
theorem wrong_core (g : Bool) (m odd : Bool) (z : Int) (decode : B32 → Pt × Bool) (eq : Pt → Pt → Bool) (zero : Pt) (h : g = true → m = false → (decode (feExp z (bif !odd then 127 else 255))).2 = false ∧ eq (decode (feExp z (bif !odd then 127 else 255))).1 zero = true) :
    (bif (bif g then m else true) then true else both (!(decode (feExp z (bif !odd then 127 else 255))).2) (eq (decode (feExp z (bif !odd then 127 else 255))).1 zero)) = true := by
  cases g
  · rfl
  · cases m
    · obtain ⟨h1, h2⟩ := h rfl rfl
      rw [h1, h2]; rfl
    · rfl
theorem wrong_true (n : Int) (odd : Bool) : wrongC n odd = true := by
  unfold wrongC wrongFn
  simp only [bif_self]
  refine wrong_core _ _ odd _ decodeC equalPC zeroC fun h1 h2 => ?_
  have h3 : ¬ n < 237 := by simpa using h1
  have h4 : ¬ n > 255 := by simpa using h2
  have hz : IntKind.u8.wrap n = n := by rw [wrap_u8]; omega
  rw [hz]
  exact wrong_bad h3 h4 odd
end Go.Proofs.Ytndiiabkoeblgaa
