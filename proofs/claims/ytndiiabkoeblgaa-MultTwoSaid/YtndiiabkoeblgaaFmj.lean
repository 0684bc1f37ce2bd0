/- The program's functions of numbers modulo p and of points, each with what it gives. -/
import Derived.Test.YtndiiabkoeblgaaFmi
namespace Go.Proofs.Ytndiiabkoeblgaa
open Go Go.Ev BJ

theorem r_carry : RowP Try.prog 84 (fn1 cFe (one cFe) feCarry) := row1 Try.call84 fun a => gives_of_out (gam_ok (t := []) trivial) mixed Try.func84 (feCarry_out a)
theorem r_small : RowP Try.prog 50 (fn1 (cInt .u64) (one cFe) feSmall) := row1 Try.call50 fun a => gives_of_out (gam_ok (t := []) trivial) mixed Try.func50 (feSmall_out a)
theorem r_from : RowP Try.prog 41 (fn1 cB32 (one cFe) feFrom) := row1 Try.call41 fun a => gives_of_out (gam_ok (t := []) trivial) mixed Try.func41 (feFrom_out a)
theorem r_add : RowP Try.prog 55 (fn2 cFe cFe (one cFe) addC) := row2 Try.call55 fun a b => gives_of_out (gam_ok (t := [(84, fn1 cFe (one cFe) feCarry)]) ⟨r_carry, trivial⟩) mixed Try.func55 (feAdd_out feCarry a b)
theorem r_sub : RowP Try.prog 54 (fn2 cFe cFe (one cFe) subC) := row2 Try.call54 fun a b => gives_of_out (gam_ok (t := [(84, fn1 cFe (one cFe) feCarry)]) ⟨r_carry, trivial⟩) mixed Try.func54 (feSub_out feCarry a b)
theorem r_neg : RowP Try.prog 45 (fn1 cFe (one cFe) negC) := row1 Try.call45 fun a => gives_of_out (gam_ok (t := [(54, fn2 cFe cFe (one cFe) subC)]) ⟨r_sub, trivial⟩) mixed Try.func45 (feNeg_out subC a)
theorem r_mul64 : RowP Try.prog 94 (fn2 (cInt .u64) (cInt .u64) (two (cInt .u64) (cInt .u64)) mulFn) := row2 Try.call94 fun a b => gives_of_out (gam_ok (t := []) trivial) mixed Try.func94 (mulFn_out a b)
theorem r_add64 : RowP Try.prog 91 (carryFn add64) := add64_row Try.func91 (by kernel_rfl) (by kernel_rfl) (by kernel_rfl) (by kernel_rfl) rfl

/-- a product asks nothing -/
theorem mulRun_needs (x y : Fe) : ∀ (l : List (Nat × Nat)) (r : List (Int × Int)), (∀ k, 0 ≤ (r.getD k (0, 0)).2 ∧ (r.getD k (0, 0)).2 < 18446744073709551616) → ∀ p ∈ (mulRun mulFn add64 x y l r).2, p
  | [], r, _, p, hp => by simp [mulRun] at hp
  | (i, j) :: l, r, hr, p, hp => by
    have hstep : (mulRun mulFn add64 x y ((i, j) :: l) r).2 = (0 ≤ (add64 (r.getD ((i + j) % 5) (0, 0)).2 (mulFn (coef x i j) (y.get j)).2 0).2 ∧ (add64 (r.getD ((i + j) % 5) (0, 0)).2 (mulFn (coef x i j) (y.get j)).2 0).2 ≤ 1) ::
      (mulRun mulFn add64 x y l (r.set ((i + j) % 5) ((add64 (r.getD ((i + j) % 5) (0, 0)).1 (mulFn (coef x i j) (y.get j)).1 (add64 (r.getD ((i + j) % 5) (0, 0)).2 (mulFn (coef x i j) (y.get j)).2 0).2).1, (add64 (r.getD ((i + j) % 5) (0, 0)).2 (mulFn (coef x i j) (y.get j)).2 0).1))).2 := rfl
    rw [hstep] at hp
    have h0 := hr ((i + j) % 5)
    generalize (r.getD ((i + j) % 5) (0, 0)) = q at *
    have hm : 0 ≤ (mulFn (coef x i j) (y.get j)).2 ∧ (mulFn (coef x i j) (y.get j)).2 < 18446744073709551616 := by
      show 0 ≤ w64 (coef x i j * y.get j) ∧ w64 (coef x i j * y.get j) < 18446744073709551616
      unfold w64; rw [wrap_u64']; omega
    have hs := add64_val h0.1 hm.1 (c := 0) (by omega)
    rcases List.mem_cons.1 hp with rfl | hp
    · rw [hs]
      show 0 ≤ (q.2 + (mulFn (coef x i j) (y.get j)).2 + 0) / 18446744073709551616 ∧ (q.2 + (mulFn (coef x i j) (y.get j)).2 + 0) / 18446744073709551616 ≤ 1
      omega
    · refine mulRun_needs x y l _ (fun k => ?_) p hp
      have hget : ∀ (v : Int × Int) (a k : Nat), (r.set a v).getD k (0, 0) = r.getD k (0, 0) ∨ (r.set a v).getD k (0, 0) = v := by
        intro v a k
        simp only [List.getD_eq_getElem?_getD, List.getElem?_set]
        split
        · split
          · exact .inr rfl
          · rename_i e h; subst e; left; rw [List.getElem?_eq_none (by omega)]
        · exact .inl rfl
      rcases hget _ ((i + j) % 5) k with e | e
      · rw [e]; exact hr k
      · rw [e, hs]
        show 0 ≤ (q.2 + (mulFn (coef x i j) (y.get j)).2 + 0) % 18446744073709551616 ∧ (q.2 + (mulFn (coef x i j) (y.get j)).2 + 0) % 18446744073709551616 < 18446744073709551616
        omega
theorem mulNeeds_all (x y : Fe) : needs (conjAll (mulNeeds mulFn add64 x y)) := needs_conjAll (mulRun_needs x y mulSteps _ fun k => by
  have : ([(0, 0), (0, 0), (0, 0), (0, 0), (0, 0)] : List (Int × Int)).getD k (0, 0) = (0, 0) := by
    match k with
    | 0 => rfl
    | 1 => rfl
    | 2 => rfl
    | 3 => rfl
    | 4 => rfl
    | k + 5 => rfl
  rw [this]; exact ⟨by decide, by decide⟩)
theorem r_mul : RowP Try.prog 49 (fn2 cFe cFe (one cFe) mulC) := row2 Try.call49 fun a b =>
  gives_of_outQ (addInl_ok (gam_ok (t := [(94, fn2 (cInt .u64) (cInt .u64) (two (cInt .u64) (cInt .u64)) mulFn), (91, carryFn add64), (84, fn1 cFe (one cFe) feCarry)]) ⟨r_mul64, r_add64, r_carry, trivial⟩) mixed Try.func83 Try.call83)
    mixed Try.func49 (feMul_out mulFn add64 feCarry a b) (mulNeeds_all a b)
theorem r_square : RowP Try.prog 81 (fn1 cFe (one cFe) fun x => mulC x x) := row1 Try.call81 fun a => gives_of_out (gam_ok (t := [(49, fn2 cFe cFe (one cFe) mulC)]) ⟨r_mul, trivial⟩) mixed Try.func81 (feSquare_out mulC a)
noncomputable def leastC : Fe → Fe := feLeast feCarry
theorem r_least : RowP Try.prog 85 (fn1 cFe (one cFe) leastC) := row1 Try.call85 fun a => gives_of_out (gam_ok (t := [(84, fn1 cFe (one cFe) feCarry)]) ⟨r_carry, trivial⟩) mixed Try.func85 (feLeast_out feCarry a)
theorem r_bytes : RowP Try.prog 52 (fn1 cFe (one cB32) feBytes) := row1 Try.call52 fun a => gives_of_out (gam_ok (t := [(85, fn1 cFe (one cFe) leastC)]) ⟨r_least, trivial⟩) mixed Try.func52 (feBytes_out leastC a)
theorem r_canonical : RowP Try.prog 43 (fn1 cB32 (one cBool) canonicalC) := row1 Try.call43 fun a => gives_of_out (gam_ok (t := [(52, fn1 cFe (one cB32) feBytes), (41, fn1 cB32 (one cFe) feFrom)]) ⟨r_bytes, r_from, trivial⟩) mixed Try.func43 (feCanonical_out feFrom feBytes a)
theorem r_equal : RowP Try.prog 48 (fn2 cFe cFe (one cBool) eqC) := row2 Try.call48 fun a b => gives_of_out (gam_ok (t := [(52, fn1 cFe (one cB32) feBytes)]) ⟨r_bytes, trivial⟩) mixed Try.func48 (feEqual_out feBytes a b)
theorem r_isZero : RowP Try.prog 44 (fn1 cFe (one cBool) isZeroC) := row1 Try.call44 fun a => gives_of_out (gam_ok (t := [(48, fn2 cFe cFe (one cBool) eqC)]) ⟨r_equal, trivial⟩) mixed Try.func44 (feIsZero_out eqC a)
theorem r_odd : RowP Try.prog 53 (fn1 cFe (one cBool) oddC) := row1 Try.call53 fun a => gives_of_out (gam_ok (t := [(52, fn1 cFe (one cB32) feBytes)]) ⟨r_bytes, trivial⟩) mixed Try.func53 (feOdd_out feBytes a)
theorem r_exp : RowP Try.prog 96 (fn2 (cInt .u8) (cInt .u8) (one cB32) feExp) := row2 Try.call96 fun a b => gives_of_out (gam_ok (t := []) trivial) mixed Try.func96 (feExp_out a b)
theorem r_pow : RowP Try.prog 95 (fn2 cFe cB32 (one cFe) powC) := row2 Try.call95 fun a b => pow_gives feSmall (fun x => mulC x x) mulC ⟨r_small, r_square, r_mul, trivial⟩ a b
theorem r_invert : RowP Try.prog 80 (fn1 cFe (one cFe) invC) := row1 Try.call80 fun a => gives_of_out (gam_ok (t := [(95, fn2 cFe cB32 (one cFe) powC), (96, fn2 (cInt .u8) (cInt .u8) (one cB32) feExp)]) ⟨r_pow, r_exp, trivial⟩) mixed Try.func80 (feInvert_out powC feExp a)
theorem r_sqrt : RowP Try.prog 97 (fn1 cFe (two cFe cBool) sqrtC) := row1 Try.call97 fun a =>
  gives_of_out (gam_ok (t := rootTab powC feExp mulC (fun x => mulC x x) negC feSmall eqC oddC) ⟨r_pow, r_exp, r_mul, r_square, r_neg, r_small, r_equal, r_odd, trivial⟩) mixed Try.func97 (feSqrt_out powC feExp mulC (fun x => mulC x x) negC feSmall eqC oddC a)
theorem r_ratio : RowP Try.prog 82 (fn2 cFe cFe (two cFe cBool) ratioC) := row2 Try.call82 fun a b =>
  gives_of_out (gam_ok (t := [(49, fn2 cFe cFe (one cFe) mulC), (80, fn1 cFe (one cFe) invC), (44, fn1 cFe (one cBool) isZeroC), (97, fn1 cFe (two cFe cBool) sqrtC)]) ⟨r_mul, r_invert, r_isZero, r_sqrt, trivial⟩) mixed Try.func82 (ratio_out mulC invC isZeroC sqrtC a b)
end Go.Proofs.Ytndiiabkoeblgaa
