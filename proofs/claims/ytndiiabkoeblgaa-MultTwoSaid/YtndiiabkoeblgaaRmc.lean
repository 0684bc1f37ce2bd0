/- The document's numbers modulo p: bytes, powers, roots; its points: each function gives the numbers that it should. -/
import Derived.Test.YtndiiabkoeblgaaRmb
import Derived.Test.YtndiiabkoeblgaaLwc
namespace Go.Proofs.Ytndiiabkoeblgaa
open Go Go.Ev BJ

set_option maxRecDepth 100000
theorem small9_dig {n : Int} (h0 : 0 ≤ n) (h1 : n < 18446744073709551616) : small9 n = digF (toF n) := by
  have hv : ((toF n).val : Int) = n := by rw [toF_val, Int.emod_eq_of_lt h0 (by simp only [pp]; omega)]
  unfold digF digD small9
  rw [hv]
  apply ofFn_congr
  intro i hi
  have e : (65536 ^ i : Nat) = 2 ^ (16 * i) := by rw [show (65536 : Nat) = 2 ^ 16 from rfl, ← Nat.pow_mul]
  by_cases h4 : i < 4
  · rw [if_pos h4]
    have e1 : shr64 n ((16 * i : Nat) : Int) = n / (2 ^ (16 * i) : Nat) := shr_div .u64 n (16 * i) (by show 16 * i ≤ 64; omega)
    have e2 : and64 (shr64 n ((16 * i : Nat) : Int)) 65535 = shr64 n ((16 * i : Nat) : Int) % (2 ^ 16 : Nat) := and_u64 (m := 16) (by decide) _ 65535 (by decide)
    have e3 : ((2 ^ 16 : Nat) : Int) = 65536 := by decide
    rw [e2, e1, e, e3, w_id (by omega) (by omega)]
  · rw [if_neg h4]
    have h : (65536 ^ 4 : Nat) ≤ 65536 ^ i := Nat.pow_le_pow_right (by omega) (by omega)
    have h' : (65536 ^ 4 : Nat) = 18446744073709551616 := by decide
    rw [h'] at h
    rw [Int.ediv_eq_zero_of_lt h0 (by omega)]; rfl
theorem bytes9_dig (a : F) : bytes9 (digF a) = bytesF a := by
  have hV := pp_pos a
  unfold bytes9 bytesF digB
  apply ofFn_congr
  intro i hi
  obtain ⟨h1, h2⟩ := digF_val a
  have hg := get_valD h1 (i := i / 2) (by omega)
  rw [h2] at hg
  have hr := get_digit h1 (i := i / 2) (by omega)
  have e : (65536 ^ (i / 2) : Nat) = 256 ^ (2 * (i / 2)) := by rw [show (65536 : Nat) = 256 ^ 2 from rfl, ← Nat.pow_mul]
  rw [e] at hg
  by_cases he : i % 2 = 0
  · rw [if_pos he]
    have e1 : lowBits ((digF a).get (i / 2)) 255 = (digF a).get (i / 2) % (2 ^ 8 : Nat) := and_i64 (m := 8) (by decide) _ 255 (by decide)
    have e2 : ((2 ^ 8 : Nat) : Int) = 256 := by decide
    rw [e1, e2, wrap_u8, hg, show 2 * (i / 2) = i from by omega]
    omega
  · rw [if_neg he]
    have e1 : down ((digF a).get (i / 2)) 8 = (digF a).get (i / 2) / (2 ^ 8 : Nat) := shr_div .i64 _ 8 (by decide)
    have e2 : ((2 ^ 8 : Nat) : Int) = 256 := by decide
    have e3 : (256 ^ i : Nat) = 256 ^ (2 * (i / 2)) * 256 := by rw [← Nat.pow_succ]; congr 1; omega
    rw [e1, e2, wrap_u8, hg, e3, Int.natCast_mul, ← Int.ediv_ediv_of_nonneg (Int.natCast_nonneg _)]
    generalize (a.val : Int) / ((256 ^ (2 * (i / 2)) : Nat) : Int) = q
    have : (((256 : Nat)) : Int) = 256 := rfl
    rw [this]
    omega
theorem okLow_of : {n : Nat} → {v : Vec Int (n + 1)} → OkD v → OkLow v
  | 0, _, _ => trivial
  | _ + 1, _, h => ⟨h.1, okLow_of h.2⟩
noncomputable def from9C : B32 → Fn := from9 normC
theorem from9_dig {b : B32} (h : OkB b) : from9C b = digF (toF (valB b % 57896044618658097711785492504343953926634992332820282019728792003956564819968)) := by
  have hV := valB_nonneg h
  have hV2 := valB_lt h
  rw [p256] at hV2
  have hp : pairs9 b = digD 16 (valB b) := by
    unfold pairs9 digD
    apply ofFn_congr
    intro i hi
    have g1 := get_val h (i := 2 * i) (by omega)
    have g2 := get_val h (i := 2 * i + 1) (by omega)
    have b1 := get_byte h (i := 2 * i) (by omega)
    have b2 := get_byte h (i := 2 * i + 1) (by omega)
    rw [w_id (x := b.get (2 * i)) (by omega) (by omega), w_id (x := b.get (2 * i + 1)) (by omega) (by omega), w_id (x := 256 * b.get (2 * i + 1)) (by omega) (by omega), w_id (by omega) (by omega), g1, g2]
    have e : (65536 ^ i : Nat) = 256 ^ (2 * i) := by rw [show (65536 : Nat) = 256 ^ 2 from rfl, ← Nat.pow_mul]
    rw [e, Nat.pow_succ, Int.natCast_mul, ← Int.ediv_ediv_of_nonneg (Int.natCast_nonneg _)]
    generalize valB b / ((256 ^ (2 * i) : Nat) : Int) = q
    have : (((256 : Nat)) : Int) = 256 := rfl
    rw [this]
    omega
  obtain ⟨d1, d2⟩ := digD_spec 16 (valB b) hV
  rw [p16, Int.emod_eq_of_lt hV (by omega)] at d2
  have hg := get_valD d1 (i := 15) (by decide)
  rw [d2] at hg
  rw [p240] at hg
  have hu := upd_low (n := 15) (fun x => lowBits x 32767) (digD 16 (valB b))
  rw [p240, d2] at hu
  have hb := upd_bd (n := 15) (B := 70368744177664) (fun x => lowBits x 32767) (digD 16 (valB b)) (okLow_of d1) (by decide) (by
    show -70368744177664 ≤ lowBits (Vec.get (n := 16) (digD 16 (valB b)) 15) 32767 ∧ lowBits (Vec.get (n := 16) (digD 16 (valB b)) 15) 32767 ≤ 70368744177664
    rw [low_15]; omega)
  have hv : valD (Vec.upd (n := 16) (fun x => lowBits x 32767) 15 (digD 16 (valB b))) = valB b % 57896044618658097711785492504343953926634992332820282019728792003956564819968 := by
    refine hu.trans ?_
    show valB b + _ * (lowBits (Vec.get (n := 16) (digD 16 (valB b)) 15) 32767 - Vec.get (n := 16) (digD 16 (valB b)) 15) = _
    rw [low_15, hg]; omega
  show normC (Vec.upd (fun x => lowBits x 32767) 15 (pairs9 b)) = _
  rw [hp, norm_dig hb (by rw [hv]; omega) (by rw [hv]; omega), hv]
theorem clear9_eq {b : B32} (_h : OkB b) : clear9 b = clearTop b := by
  refine upd_congr ?_
  show bitAnd .u8 (b.get 31) 127 = bitAndNot .u8 (b.get 31) 128
  rw [andNot_top]
  exact and_u8 (m := 7) (by decide) _ 127 (by decide)
noncomputable def canonical9C (b : B32) : Bool := eqV (bytes9 (from9C (clear9 b))) (clear9 b)
theorem canonical9_dig {b : B32} (h : OkB b) : canonical9C b = decide (valB b % p2255 < (pp : Int)) := by
  obtain ⟨h1, h2⟩ := clear_val h
  have hlt : valB (clearTop b) < 57896044618658097711785492504343953926634992332820282019728792003956564819968 := by rw [h2]; omega
  unfold canonical9C
  rw [clear9_eq h, from9_dig h1, bytes9_dig, Int.emod_eq_of_lt (valB_nonneg h1) hlt, bytes_of_val h1 hlt, h2]
theorem odd9_dig (a : F) : odd9 (digF a) = decide (a.val % 2 = 1) := by
  obtain ⟨h1, h2⟩ := digF_val a
  have h3 : (digF a).1 + 65536 * valD (digF a).2 = (a.val : Int) := h2
  have h4 := h1.1
  unfold odd9
  generalize (digF a).1 = x at *
  generalize valD (digF a).2 = y at *
  rw [Int.tmod_eq_emod_of_nonneg h4.1]
  by_cases h : a.val % 2 = 1
  · rw [decide_eq_true h, beq_iff_eq]; omega
  · rw [decide_eq_false h]
    refine Bool.eq_false_iff.2 fun e => h ?_
    rw [beq_iff_eq] at e; omega
theorem bit9_eq {e : B32} (h : OkB e) {i : Nat} (hi : i < 256) : bitFn9 e i = bitFn e i := by
  obtain ⟨h1, h2⟩ := get_byte h (i := i / 8) (by omega)
  unfold bitFn9 bitFn
  have e1 : shr .u8 (e.get (i / 8)) ((i % 8 : Nat) : Int) = e.get (i / 8) / (2 ^ (i % 8) : Nat) := shr_div .u8 _ _ (by show i % 8 ≤ 8; omega)
  have hp : (0 : Int) < ((2 ^ (i % 8) : Nat) : Int) := by have := Nat.pow_pos (n := i % 8) (show 0 < 2 by decide); omega
  have h3 : 0 ≤ e.get (i / 8) / ((2 ^ (i % 8) : Nat) : Int) := Int.ediv_nonneg h1 (by omega)
  have h4 : e.get (i / 8) / ((2 ^ (i % 8) : Nat) : Int) ≤ e.get (i / 8) := Int.ediv_le_self _ h1
  rw [e1, wrap_i64 (by omega) (by omega), and_i64 (m := 1) (by decide) _ 1 (by decide), and_u8 (m := 1) (by decide) _ 1 (by decide), wrap_i64 (by omega) (by omega)]
noncomputable def pow9C (x : Fn) (e : B32) : Fn := powFn9 bitFn9 small9 mul9C x e
theorem pow9_dig (a : F) {e : B32} (he : OkB e) : pow9C (digF a) e = digF (F.pow a (valB e).toNat) := by
  have hV := valB_nonneg he
  have hV2 := valB_lt he
  obtain ⟨N, hN⟩ := Int.eq_ofNat_of_zero_le hV
  have key : ∀ k, k ≤ 256 → rnds (powStep9 bitFn9 mul9C (digF a) e) k (small9 1) = digF (F.pow a (N / 2 ^ (256 - k))) := by
    intro k
    induction k with
    | zero =>
      intro _
      have h256 : (256 ^ 32 : Nat) = 2 ^ 256 := by rw [show (256 : Nat) = 2 ^ 8 from rfl, ← Nat.pow_mul]
      have : N / 2 ^ (256 - 0) = 0 := Nat.div_eq_of_lt (by rw [hN] at hV2; rw [Nat.sub_zero, ← h256]; omega)
      rw [this, F.pow_zero]
      show small9 1 = _
      rw [small9_dig (by decide) (by decide), toF_one]
    | succ k ih =>
      intro hk
      show powStep9 bitFn9 mul9C (digF a) e k (rnds (powStep9 bitFn9 mul9C (digF a) e) k (small9 1)) = _
      rw [ih (by omega)]
      unfold powStep9
      rw [mul9_dig, mul9_dig, bit9_eq he (by omega), bitFn_val he (by omega), selN_eq, hN, Int.toNat_natCast]
      have hdiv : N / 2 ^ (256 - k) = N / 2 ^ (256 - (k + 1)) / 2 := by
        rw [Nat.div_div_eq_div_mul, ← Nat.pow_succ]; congr 2; omega
      rw [hdiv]
      have e255 : 255 - k = 256 - (k + 1) := by omega
      rw [e255]
      unfold bitE
      generalize N / 2 ^ (256 - (k + 1)) = M at *
      by_cases hb : M % 2 = 1
      · rw [decide_eq_true hb, cond_true]
        have : M = 2 * (M / 2) + 1 := by omega
        conv => rhs; rw [this]
        rw [F.pow_succ, F.pow_double]
      · rw [decide_eq_false hb, cond_false]
        have : M = 2 * (M / 2) := by omega
        conv => rhs; rw [this]
        rw [F.pow_double]
  have := key 256 (by omega)
  rw [hN, Int.toNat_natCast]
  have e1 : N / 2 ^ (256 - 256) = N := by simp
  rw [e1] at this
  exact this
noncomputable def inv9C (x : Fn) : Fn := pow9C x (feExp 235 127)
theorem inv9_dig (a : F) : inv9C (digF a) = digF (F.inv a) := by
  unfold inv9C
  rw [pow9_dig a (OkB_exp (by omega) (by omega)), exp_inv]; rfl
noncomputable def sqrt9C : Fn → Fn × Bool := rootFn9 small9 mul9C neg9C odd9 pow9C
theorem sel_dig (b : Bool) (a c : F) : selN b (digF a) (digF c) = digF (if b = true then a else c) := by
  rw [selN_eq]; cases b <;> rfl
theorem pick9 (R a : F) : (selN (!(decide (R * R = a))) (digF 0) (selN (decide (R.val % 2 = 1)) (digF (-R)) (digF R)), bif !(decide (R * R = a)) then false else true) = (digF (pickRoot R a).1, (pickRoot R a).2) := by
  unfold pickRoot
  by_cases h : R * R = a
  · rw [decide_eq_true h, if_pos h]
    by_cases h2 : R.val % 2 = 1
    · rw [decide_eq_true h2, selN_eq, selN_eq]
      show (digF (-R), true) = (digF (if R.val % 2 = 1 then -R else R), true)
      rw [if_pos h2]
    · rw [decide_eq_false h2, selN_eq, selN_eq]
      show (digF R, true) = (digF (if R.val % 2 = 1 then -R else R), true)
      rw [if_neg h2]
  · rw [decide_eq_false h, if_neg h, selN_eq]; rfl
theorem t2F : toF 2 = 2 := by decide +kernel
theorem sqrt9_dig (a : F) : sqrt9C (digF a) = (digF (rootOf a).1, (rootOf a).2) := by
  have h1 := pow9_dig a (OkB_exp (lo := 254) (hi := 15) (by omega) (by omega))
  have h2 := pow9_dig 2 (OkB_exp (lo := 251) (hi := 31) (by omega) (by omega))
  rw [exp_root] at h1
  rw [exp_ii] at h2
  have h3 : small9 2 = digF 2 := by rw [small9_dig (by decide) (by decide), t2F]
  have e1 : selN (!(eqV (mul9C (pow9C (digF a) (feExp 254 15)) (pow9C (digF a) (feExp 254 15))) (digF a))) (mul9C (pow9C (digF a) (feExp 254 15)) (pow9C (small9 2) (feExp 251 31))) (pow9C (digF a) (feExp 254 15)) =
      digF (if F.pow a ((pp + 3) / 8) * F.pow a ((pp + 3) / 8) = a then F.pow a ((pp + 3) / 8) else F.pow a ((pp + 3) / 8) * F.pow 2 ((pp - 1) / 4)) := by
    rw [h1, h3, h2, mul9_dig, mul9_dig, eq_dig, sel_dig]
    by_cases h : F.pow a ((pp + 3) / 8) * F.pow a ((pp + 3) / 8) = a
    · rw [decide_eq_true h, if_pos h]; rfl
    · rw [decide_eq_false h, if_neg h]; rfl
  unfold sqrt9C rootFn9
  simp only [e1, selN_self]
  rw [mul9_dig, eq_dig, odd9_dig, neg9_dig, zero_dig, pick9, ← root_pick]
noncomputable def ratio9C : Fn → Fn → Fn × Bool := ratioFn9 mul9C inv9C sqrt9C
theorem ratio9_s1 (u v : F) : ratio9C (digF u) (digF v) = (selN (eqV (digF v) zero9) zero9 (sqrt9C (mul9C (digF u) (inv9C (digF v)))).1, bif eqV (digF v) zero9 then eqV (digF u) zero9 else (sqrt9C (mul9C (digF u) (inv9C (digF v)))).2) := rfl
theorem ratio9_s2 (u v : F) : sqrt9C (mul9C (digF u) (inv9C (digF v))) = (digF (rootOf (u * F.inv v)).1, (rootOf (u * F.inv v)).2) := by
  rw [inv9_dig, mul9_dig, sqrt9_dig]
theorem ratio9_s3 (u v : F) (z : F × Bool) : (selN (eqV (digF v) zero9) zero9 (digF z.1, z.2).1, bif eqV (digF v) zero9 then eqV (digF u) zero9 else (digF z.1, z.2).2) = (selN (decide (v = 0)) (digF 0) (digF z.1), bif decide (v = 0) then decide (u = 0) else z.2) := by
  rw [zero_dig, eq_dig, eq_dig]
theorem ratio9_core (u v : F) (z : F × Bool) : (selN (decide (v = 0)) (digF 0) (digF z.1), bif decide (v = 0) then decide (u = 0) else z.2) = (digF (if v = 0 then ((0 : F), decide (u = 0)) else z).1, (if v = 0 then ((0 : F), decide (u = 0)) else z).2) := by
  by_cases h : v = 0
  · rw [decide_eq_true h, if_pos h, selN_eq, cond_true, cond_true]
  · rw [decide_eq_false h, if_neg h, selN_eq, cond_false, cond_false]
theorem ratio9_s4 (u v : F) : ratioOf u v = if v = 0 then ((0 : F), decide (u = 0)) else rootOf (u * F.inv v) := by unfold ratioOf; rfl
theorem ratio9_dig (u v : F) : ratio9C (digF u) (digF v) = (digF (ratioOf u v).1, (ratioOf u v).2) := by
  rw [ratio9_s1, ratio9_s2, ratio9_s4]
  generalize rootOf (u * F.inv v) = z
  rw [ratio9_s3, ratio9_core]

/-! ### Points -/
noncomputable def pn (p : E4) : Pn := (digF p.1, digF p.2.1, digF p.2.2.1, digF p.2.2.2)
theorem selPn_dig (b : Bool) (p q : E4) : selPn b (pn p) (pn q) = pn (if b = true then p else q) := by
  rw [selPn_eq]; cases b <;> rfl
noncomputable def edge9C : Fn := mul9C (neg9C (small9 121665)) (inv9C (small9 121666))
theorem edge_num : -(toF 121665) * F.inv (toF 121666) = dd := by rw [F.inv_K]; decide +kernel
theorem edge9_dig : edge9C = digF dd := by
  unfold edge9C
  rw [small9_dig (by decide) (by decide), small9_dig (by decide) (by decide), neg9_dig, inv9_dig, mul9_dig, edge_num]
noncomputable def zero9C : Pn := zeroPn small9
theorem one9 : small9 1 = digF 1 := by rw [small9_dig (by decide) (by decide), toF_one]
theorem zero9_pn : zero9C = pn zeroE := by
  unfold zero9C zeroPn pn zeroE affE
  rw [one9, zero_dig]
  have : (0 : F) * 1 = 0 := by decide +kernel
  simp only [this]
noncomputable def of9C : Fn → Fn → Pn := ofPn small9 mul9C
theorem of9_pn (x y : F) : of9C (digF x) (digF y) = pn (affE x y) := by
  unfold of9C ofPn pn affE
  rw [one9, mul9_dig]
noncomputable def xOf9C : Fn → Fn × Bool := xOfFn small9 mul9C add9C sub9C ratio9C edge9C
theorem xOf9_dig (y : F) : xOf9C (digF y) = (digF (xOfE y).1, (xOfE y).2) := by
  unfold xOf9C xOfFn
  rw [one9, edge9_dig, mul9_dig, mul9_dig, sub9_dig, add9_dig, ratio9_dig]; rfl
theorem t4F : toF 4 = 4 := by decide +kernel
theorem t5F : toF 5 = 5 := by decide +kernel
noncomputable def base9C : Pn := baseFn9 small9 mul9C inv9C of9C xOf9C
theorem base9_pn : base9C = pn baseE := by
  unfold base9C baseFn9
  rw [small9_dig (by decide) (by decide), small9_dig (by decide) (by decide), t4F, t5F, inv9_dig, mul9_dig, xOf9_dig]
  show of9C (digF (xOfE (4 * F.inv 5)).1) (digF (4 * F.inv 5)) = _
  rw [of9_pn]; rfl
noncomputable def decode9C : B32 → Pn × Bool := decodeFn9 neg9C from9C canonical9C zero9C of9C xOf9C
theorem decode9_core (c ok t : Bool) (b : B32) (X Y : F) (hc : canonical9C b = c) (hf : from9C b = digF Y) (hx : xOf9C (digF Y) = (digF X, ok)) (ht : decide (b.get 31 > 127) = t) :
    decode9C b = (if (ok && c && !(t && decide (X = 0))) = true then pn (affE (if t = true then -X else X) Y) else pn zeroE, ok && c && !(t && decide (X = 0))) := by
  unfold decode9C decodeFn9
  simp only [hc, hf, hx, ht, selN_self, Bool.cond_self]
  rw [zero_dig, eq_dig, neg9_dig, sel_dig, of9_pn, zero9_pn, selPn_dig, selPn_dig]
  generalize decide (X = 0) = z
  cases c <;> cases ok <;> cases t <;> cases z <;> rfl
theorem decode9_pn {b : B32} (h : OkB b) : decode9C b = (pn (decE b).1, (decE b).2) := by
  rw [decode9_core (canonical9C b) (xOfE (toF (valB b % p2255))).2 (decide (b.get 31 > 127)) b (xOfE (toF (valB b % p2255))).1 (toF (valB b % p2255)) rfl (from9_dig h) (xOf9_dig _) rfl, canonical9_dig h]
  have ht : decide (b.get 31 > 127) = decide (128 ≤ b.get 31) := by congr 1
  rw [ht]
  unfold decE
  simp only []
  generalize (xOfE (toF (valB b % p2255))).2 = ok at *
  generalize (xOfE (toF (valB b % p2255))).1 = X at *
  have hg : (ok && decide (valB b % p2255 < (pp : Int)) && !(decide (128 ≤ b.get 31) && decide (X = 0))) = decide (ok = true ∧ valB b % p2255 < (pp : Int) ∧ ¬(128 ≤ b.get 31 ∧ X = 0)) := by
    cases ok
    · simp
    · by_cases h1 : valB b % p2255 < (pp : Int) <;> by_cases h2 : 128 ≤ b.get 31 <;> by_cases h3 : X = 0 <;> simp [h2, h3]
  rw [hg]
  by_cases h : ok = true ∧ valB b % p2255 < (pp : Int) ∧ ¬(128 ≤ b.get 31 ∧ X = 0)
  · rw [decide_eq_true h, if_pos h, if_pos rfl]
    by_cases h2 : 128 ≤ b.get 31
    · rw [decide_eq_true h2, if_pos rfl, if_pos h2]
    · rw [decide_eq_false h2, if_neg (by decide), if_neg h2]
  · rw [decide_eq_false h, if_neg h, if_neg (by decide)]
noncomputable def encode9C : Pn → B32 := encodeFn9 mul9C inv9C odd9 bytes9
theorem encode9_pn (p : E4) : encode9C (pn p) = encE p := by
  unfold encode9C encodeFn9
  show selN (odd9 (mul9C (digF p.1) (inv9C (digF p.2.2.1)))) (Vec.upd (fun x => IntKind.u8.wrap (x + 128)) 31 (bytes9 (mul9C (digF p.2.1) (inv9C (digF p.2.2.1))))) (bytes9 (mul9C (digF p.2.1) (inv9C (digF p.2.2.1)))) = _
  rw [inv9_dig, mul9_dig, mul9_dig, bytes9_dig, odd9_dig, selN_dec]
  have hb := bytes_top (p.2.1 * F.inv p.2.2.1)
  have hu : Vec.upd (fun x => IntKind.u8.wrap (x + 128)) 31 (bytesF (p.2.1 * F.inv p.2.2.1)) = topSet (bytesF (p.2.1 * F.inv p.2.2.1)) := by
    refine upd_congr ?_
    generalize Vec.get (bytesF (p.2.1 * F.inv p.2.2.1)) 31 = z at *
    show IntKind.u8.wrap (z + 128) = z + 128
    rw [wrap_u8]; omega
  rw [hu]; rfl
noncomputable def plus39C : Pn → Pn → Fn → Pn := plusFn9 mul9C add9C sub9C
noncomputable def plus9C (p q : Pn) : Pn := plus39C p q (add9C edge9C edge9C)
theorem addE_dd (p q : E4) : addE p q = (((p.2.1 + p.1) * (q.2.1 + q.1) - (p.2.1 - p.1) * (q.2.1 - q.1)) * ((p.2.2.1 + p.2.2.1) * q.2.2.1 - p.2.2.2 * q.2.2.2 * (dd + dd)),
    ((p.2.2.1 + p.2.2.1) * q.2.2.1 + p.2.2.2 * q.2.2.2 * (dd + dd)) * ((p.2.1 + p.1) * (q.2.1 + q.1) + (p.2.1 - p.1) * (q.2.1 - q.1)),
    ((p.2.2.1 + p.2.2.1) * q.2.2.1 - p.2.2.2 * q.2.2.2 * (dd + dd)) * ((p.2.2.1 + p.2.2.1) * q.2.2.1 + p.2.2.2 * q.2.2.2 * (dd + dd)),
    ((p.2.1 + p.1) * (q.2.1 + q.1) - (p.2.1 - p.1) * (q.2.1 - q.1)) * ((p.2.1 + p.1) * (q.2.1 + q.1) + (p.2.1 - p.1) * (q.2.1 - q.1))) := by
  unfold addE
  simp only []
  have e1 : p.2.2.2 * q.2.2.2 * dd + p.2.2.2 * q.2.2.2 * dd = p.2.2.2 * q.2.2.2 * (dd + dd) := by generalize dd = d; grobner
  have e2 : p.2.2.1 * q.2.2.1 + p.2.2.1 * q.2.2.1 = (p.2.2.1 + p.2.2.1) * q.2.2.1 := by grobner
  rw [e1, e2]
theorem plus39_pn (p q : E4) : plus39C (pn p) (pn q) (digF (dd + dd)) = pn (addE p q) := by
  rw [addE_dd]
  unfold plus39C plusFn9 pn
  simp only [mul9_dig, add9_dig, sub9_dig]
theorem plus9_pn (p q : E4) : plus9C (pn p) (pn q) = pn (addE p q) := by
  unfold plus9C
  rw [edge9_dig, add9_dig, plus39_pn]
noncomputable def turn9C (p : Pn) : Pn := (neg9C p.1, p.2.1, p.2.2.1, neg9C p.2.2.2)
theorem turn9_pn (p : E4) : turn9C (pn p) = pn (negE p) := by
  unfold turn9C pn negE
  simp only [neg9_dig]
noncomputable def alike9C : Pn → Pn → Bool := alikeFn9 mul9C
theorem alike9_pn (p q : E4) : alike9C (pn p) (pn q) = eqE p q := by
  unfold alike9C alikeFn9 pn eqE
  simp only [mul9_dig, eq_dig]
  cases decide (p.1 * q.2.2.1 = q.1 * p.2.2.1) <;> rfl
end Go.Proofs.Ytndiiabkoeblgaa
