/- Laws of chapter 13: what their code gives, and that it is true. -/
import Derived.Test.YtndiiabkoeblgaaLwh
namespace Go.Proofs.Ytndiiabkoeblgaa
open Go Go.Ev BJ

set_option maxRecDepth 1000000
section
variable (alive : Unit) (mult : B32 → Pt → Pt) (mbase : B32 → Pt) (base zero : Pt) (double neg : Pt → Pt) (equal : Pt → Pt → Bool) (at13 : B32 → Pt) (add : Pt → Pt → Pt) (half : B32 → B32) (plus : B32 → B32 → B32) (two3 : B32 → Pt → B32 → Pt)
theorem alive13_out : outQ Try.prog (gam [(23, fn2 cB32 cPt (one cPt) mult), (34, fn1 cB32 (one cPt) mbase), (40, fn0 (one cPt) base), (29, fn1 cPt (one cPt) double), (16, fn2 cPt cPt (one cBool) equal)]) Try.f19 [] =
    some (none, .one (cBool.wr (both (equal (mbase (lit32 1)) base) (equal (mult (lit32 2) base) (double base))))) := by kernel_rfl
theorem half_out (a : B32) : outQ Try.prog (gam []) Try.f21 [.one (cB32.wr a)] = some (none, .one (cB32.wr (clear9 a))) := by kernel_rfl
theorem plus13_out (a b : B32) : outQ Try.prog (gam []) Try.f24 [.one (cB32.wr a), .one (cB32.wr b)] = some (none, .one (cB32.wr (plusV 0 a b))) := by kernel_rfl
def lawTab4 : Tab := [(19, fn0 oneTrue ()), (20, fn1 cB32 (one cPt) at13), (21, fn1 cB32 (one cB32) half), (24, fn2 cB32 cB32 (one cB32) plus), (23, fn2 cB32 cPt (one cPt) mult), (22, fn2 cPt cPt (one cPt) add), (30, fn1 cPt (one cPt) neg), (17, fn0 (one cPt) zero), (16, fn2 cPt cPt (one cBool) equal)]
theorem sums_out (m n b : B32) : outQ Try.prog (gam (lawTab4 mult zero neg equal at13 add half plus)) Try.f5 [.one (cB32.wr m), .one (cB32.wr n), .one (cB32.wr b)] =
    some (none, .one (cBool.wr (both (equal (add (mult (half m) (at13 b)) (mult (half n) (at13 b))) (mult (plus (half m) (half n)) (at13 b))) (equal (mult (plus (half m) (lit32 1)) (at13 b)) (add (mult (half m) (at13 b)) (at13 b)))))) := by kernel_rfl
theorem over_out (n a b : B32) : outQ Try.prog (gam (lawTab4 mult zero neg equal at13 add half plus)) Try.f10 [.one (cB32.wr n), .one (cB32.wr a), .one (cB32.wr b)] =
    some (none, .one (cBool.wr (both (equal (mult n (add (at13 a) (at13 b))) (add (mult n (at13 a)) (mult n (at13 b)))) (both (equal (mult n (neg (at13 a))) (neg (mult n (at13 a)))) (equal (mult (lit32 0) (at13 a)) zero))))) := by kernel_rfl
def lawTab5 (encode : Pt → B32) (decode9 : B32 → Pn × Bool) (encode9 : Pn → B32) (mult9 : B32 → Pn → Pn) (base9 : Pn) : Tab := [(19, fn0 oneTrue ()), (20, fn1 cB32 (one cPt) at13), (23, fn2 cB32 cPt (one cPt) mult), (34, fn1 cB32 (one cPt) mbase), (18, fn1 cPt (one cB32) encode),
  (25, fn1 cB32 (two cPn cBool) decode9), (26, fn1 cPn (one cB32) encode9), (35, fn2 cB32 cPn (one cPn) mult9), (36, fn0 (one cPn) base9)]
theorem mtells_out (encode : Pt → B32) (decode9 : B32 → Pn × Bool) (encode9 : Pn → B32) (mult9 : B32 → Pn → Pn) (base9 : Pn) (n b : B32) : outQ Try.prog (gam (lawTab5 mult mbase at13 encode decode9 encode9 mult9 base9)) Try.f12 [.one (cB32.wr n), .one (cB32.wr b)] =
    some (none, .one (cBool.wr (both (decode9 (encode (at13 b))).2 (both (eqV (encode (mult n (at13 b))) (encode9 (mult9 n (decode9 (encode (at13 b))).1))) (eqV (encode (mbase n)) (encode9 (mult9 n base9))))))) := by kernel_rfl
def lawTab6 : Tab := [(19, fn0 oneTrue ()), (20, fn1 cB32 (one cPt) at13), (23, fn2 cB32 cPt (one cPt) mult), (34, fn1 cB32 (one cPt) mbase), (33, fn3 cB32 cPt cB32 (one cPt) two3), (22, fn2 cPt cPt (one cPt) add), (16, fn2 cPt cPt (one cBool) equal)]
theorem mtwo_out (m n b : B32) : outQ Try.prog (gam (lawTab6 mult mbase equal at13 add two3)) Try.f11 [.one (cB32.wr m), .one (cB32.wr n), .one (cB32.wr b)] =
    some (none, .one (cBool.wr (equal (two3 m (at13 b) n) (add (mult m (at13 b)) (mbase n))))) := by kernel_rfl
end

theorem rep_at {b : B32} (hb : OkB b) : ∃ P, Rep (atC b) P := by
  obtain ⟨d1, d2, d3⟩ := decode_pt hb
  obtain ⟨k1, _, P, k3⟩ := dbl_is (w (b.1.tmod 7)).toNat
  show ∃ P, Rep (selPt (decodeC b).2 (decodeC b).1 (rnds (fun _ => doubleC) (w (b.1.tmod 7)).toNat baseC)) P
  rw [selPt_eq]
  cases (decodeC b).2 with
  | true =>
    obtain ⟨Q, hQ⟩ := dec_is b
    exact ⟨Q, d1, by rw [cond_true, d2]; exact hQ⟩
  | false => exact ⟨P, k1.1, by rw [cond_false, k1.2]; exact k3⟩
theorem rep_mbase {n : B32} (hn : OkB n) : Rep (multBaseC n) (nsm (valB n).toNat baseP) := rep_mult hn rep_base
theorem alive13_true : both (equalPC (multBaseC (lit32 1)) baseC) (equalPC (multC (lit32 2) baseC) (doubleC baseC)) = true := by
  obtain ⟨o1, v1⟩ := lit32_val (n := 1) (by omega)
  obtain ⟨o2, v2⟩ := lit32_val (n := 2) (by omega)
  have h1 := rep_mbase o1
  have h2 := rep_mult o2 rep_base
  rw [v1] at h1
  rw [v2] at h2
  refine both_true ((rep_eq h1 rep_base).2 (nsm_one _)) ((rep_eq h2 (rep_double rep_base)).2 ?_)
  show (nsm 1 baseP).add baseP = _
  rw [nsm_one]
theorem r_live13 : RowP Try.prog 19 (fn0 oneTrue ()) := row0 Try.call19 (gives_true (gives_of_out (gam_ok (t := [(23, fn2 cB32 cPt (one cPt) multC), (34, fn1 cB32 (one cPt) multBaseC), (40, fn0 (one cPt) baseC), (29, fn1 cPt (one cPt) doubleC), (16, fn2 cPt cPt (one cBool) equalPC)])
  ⟨r_mult, r_multBase, r_base, r_double, r_pequal, trivial⟩) mixed Try.func19 (alive13_out multC multBaseC baseC doubleC equalPC)) alive13_true)
theorem r_half : RowP Try.prog 21 (fn1 cB32 (one cB32) clear9) := row1 Try.call21 fun a => gives_of_out (gam_ok (t := []) trivial) mixed Try.func21 (half_out a)
noncomputable def plus13C (a b : B32) : B32 := plusV 0 a b
theorem r_plus13 : RowP Try.prog 24 (fn2 cB32 cB32 (one cB32) plus13C) := row2 Try.call24 fun a b => gives_of_out (gam_ok (t := []) trivial) mixed Try.func24 (plus13_out a b)
theorem half_val {a : B32} (h : OkB a) : OkB (clear9 a) ∧ valB (clear9 a) < p2255 := by
  rw [clear9_eq h]
  obtain ⟨h1, h2⟩ := clear_val h
  refine ⟨h1, ?_⟩
  have := p2255_int
  rw [h2]; omega
theorem plus13_val {a b : B32} (ha : OkB a) (hb : OkB b) (h : valB a + valB b < 115792089237316195423570985008687907853269984665640564039457584007913129639936) : OkB (plus13C a b) ∧ (valB (plus13C a b)).toNat = (valB a).toNat + (valB b).toNat := by
  obtain ⟨h1, h2⟩ := plusV_val 0 a b (by omega) ha hb
  have a0 := valB_nonneg ha
  have b0 := valB_nonneg hb
  rw [p256, Int.zero_add] at h2
  refine ⟨h1, ?_⟩
  show (valB (plusV 0 a b)).toNat = _
  rw [h2]; omega
theorem sums_true {m n b : B32} (hm : OkB m) (hn : OkB n) (hb : OkB b) : both (equalPC (addPC (multC (clear9 m) (atC b)) (multC (clear9 n) (atC b))) (multC (plus13C (clear9 m) (clear9 n)) (atC b))) (equalPC (multC (plus13C (clear9 m) (lit32 1)) (atC b)) (addPC (multC (clear9 m) (atC b)) (atC b))) = true := by
  obtain ⟨P, hP⟩ := rep_at hb
  obtain ⟨m1, m2⟩ := half_val hm
  obtain ⟨n1, n2⟩ := half_val hn
  obtain ⟨o1, v1⟩ := lit32_val (n := 1) (by omega)
  have c1 := p2255_int
  obtain ⟨s1, s2⟩ := plus13_val m1 n1 (by omega)
  obtain ⟨t1, t2⟩ := plus13_val m1 o1 (by rw [v1]; omega)
  have h1 := rep_mult s1 hP
  have h2 := rep_mult t1 hP
  rw [s2] at h1
  rw [t2, v1] at h2
  refine both_true ((rep_eq (rep_add (rep_mult m1 hP) (rep_mult n1 hP)) h1).2 (nsm_add _ _ _).symm) ((rep_eq h2 (rep_add (rep_mult m1 hP) hP)).2 ?_)
  rfl
theorem over_true {n a b : B32} (hn : OkB n) (ha : OkB a) (hb : OkB b) : both (equalPC (multC n (addPC (atC a) (atC b))) (addPC (multC n (atC a)) (multC n (atC b)))) (both (equalPC (multC n (negPC (atC a))) (negPC (multC n (atC a)))) (equalPC (multC (lit32 0) (atC a)) zeroC)) = true := by
  obtain ⟨P, hP⟩ := rep_at ha
  obtain ⟨Q, hQ⟩ := rep_at hb
  obtain ⟨o1, v1⟩ := lit32_val (n := 0) (by omega)
  have h0 := rep_mult o1 hP
  rw [v1] at h0
  refine both_true ((rep_eq (rep_mult hn (rep_add hP hQ)) (rep_add (rep_mult hn hP) (rep_mult hn hQ))).2 (nsm_over _ _ _)) (both_true ((rep_eq (rep_mult hn (rep_neg hP)) (rep_neg (rep_mult hn hP))).2 (nsm_neg _ _)) ((rep_eq h0 rep_zero).2 rfl))
theorem mtells_true {n b : B32} (hn : OkB n) (hb : OkB b) : both (decode9C (encodeC (atC b))).2 (both (eqV (encodeC (multC n (atC b))) (encode9C (mult9C n (decode9C (encodeC (atC b))).1))) (eqV (encodeC (multBaseC n)) (encode9C (mult9C n base9C)))) = true := by
  obtain ⟨P, hP⟩ := rep_at hb
  obtain ⟨e1, e2⟩ := dec_encP P
  have hd : decode9C (encodeC (atC b)) = (pn (affE P.x P.y), true) := by rw [rep_enc hP, decode9_pn e1, e2]
  rw [hd]
  have enc_of : ∀ {e : E4} {Q : BJ.Pt}, IsP e Q → encE e = encP Q := fun h => by
    unfold encE encP; rw [isP_x h, isP_y h]
  refine both_true rfl (both_true ?_ ?_)
  · show eqV _ (encode9C (mult9C n (pn (affE P.x P.y)))) = true
    rw [mult9_pn hn, encode9_pn, rep_enc (rep_mult hn hP), enc_of (mult_isP (val_lt hn) (isP_aff P))]
    exact (eqV_iff _ _).2 rfl
  · rw [base9_pn, mult9_pn hn, encode9_pn, rep_enc (rep_mbase hn), enc_of (mult_isP (val_lt hn) base_isP)]
    exact (eqV_iff _ _).2 rfl
end Go.Proofs.Ytndiiabkoeblgaa
