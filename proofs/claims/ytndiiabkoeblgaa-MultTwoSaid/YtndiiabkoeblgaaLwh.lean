/- Multiples of points: what they stand for. -/
import Derived.Test.YtndiiabkoeblgaaLwg
namespace Go.Proofs.Ytndiiabkoeblgaa
open Go Go.Ev BJ

theorem mult_isP {V : Nat} (hV : V < 2 ^ 256) {p : E4} {P : BJ.Pt} (hp : IsP p P) : IsP (multE V p) (nsm V P) := by
  have key : ∀ k, k ≤ 256 → IsP (rnds (stepE V p) k zeroE) (nsm (V / 2 ^ (256 - k)) P) := by
    intro k
    induction k with
    | zero =>
      intro _
      rw [Nat.sub_zero, Nat.div_eq_of_lt hV]
      exact isP_zero
    | succ k ih =>
      intro hk
      have h := ih (by omega)
      show IsP (stepE V p k (rnds (stepE V p) k zeroE)) _
      have hdiv : V / 2 ^ (256 - k) = V / 2 ^ (256 - (k + 1)) / 2 := by
        rw [Nat.div_div_eq_div_mul, ← Nat.pow_succ]; congr 2; omega
      rw [hdiv] at h
      unfold stepE bitE
      rw [show 255 - k = 256 - (k + 1) from by omega]
      generalize V / 2 ^ (256 - (k + 1)) = M at *
      have h2 := isP_add h h
      rw [← nsm_add] at h2
      by_cases hb : M % 2 = 1
      · rw [decide_eq_true hb, if_pos rfl]
        have h3 := isP_add h2 hp
        have e : (nsm (M / 2 + M / 2) P).add P = nsm M P := by
          have : M = (M / 2 + M / 2) + 1 := by omega
          conv => rhs; rw [this]
          rfl
        rw [e] at h3; exact h3
      · rw [decide_eq_false hb, if_neg (by simp)]
        rw [show M / 2 + M / 2 = M from by omega] at h2; exact h2
  have := key 256 (by omega)
  rw [Nat.sub_self, Nat.pow_zero, Nat.div_one] at this
  exact this
theorem val_lt {n : B32} (h : OkB n) : (valB n).toNat < 2 ^ 256 := by
  have h1 := valB_lt h
  have h0 := valB_nonneg h
  have h256 : (256 ^ 32 : Nat) = 2 ^ 256 := by rw [show (256 : Nat) = 2 ^ 8 from rfl, ← Nat.pow_mul]
  rw [h256] at h1
  omega
theorem rep_mult {n : B32} {p : Pt} {P : BJ.Pt} (hn : OkB n) (hp : Rep p P) : Rep (multC n p) (nsm (valB n).toNat P) := by
  obtain ⟨h1, h2⟩ := mult_pt hn hp.ok
  exact ⟨h1, by rw [h2]; exact mult_isP (val_lt hn) hp.is⟩
theorem mult9_pn {n : B32} (hn : OkB n) (p : E4) : mult9C n (pn p) = pn (multE (valB n).toNat p) := by
  have hd : add9C edge9C edge9C = digF (dd + dd) := by rw [edge9_dig, add9_dig]
  have key : ∀ k, k ≤ 256 → rnds (fun k q => multStep9 bitFn9 plus39C n (pn p) (add9C edge9C edge9C) (255 - (k : Int)) q) k zero9C = pn (rnds (stepE (valB n).toNat p) k zeroE) := by
    intro k
    induction k with
    | zero => intro _; exact zero9_pn
    | succ k ih =>
      intro hk
      simp only [rnds]
      rw [ih (by omega)]
      unfold multStep9 stepE
      rw [hd, plus39_pn, plus39_pn, show (255 - (k : Int)).toNat = 255 - k from by omega, bit9_eq hn (by omega), bitFn_val hn (by omega), selPn_dig]
  exact key 256 (by omega)

/-- what bytes of a point are read as -/
theorem dec_encP (P : BJ.Pt) : OkB (encP P) ∧ decE (encP P) = (affE P.x P.y, true) := by
  obtain ⟨b1, b2⟩ := bytesF_val P.y
  have hv := encP_val P
  have hok : OkB (encP P) := by
    unfold encP
    split
    · exact (topSet_val b1 (bytes_top _).2).1
    · exact b1
  have hp := pp_pos P.y
  have c1 := p2255_int
  have c2 := pp_int
  have hm : valB (encP P) % p2255 = (P.y.val : Int) := by
    have c3 : ∀ x : Int, x % p2255 = x % 57896044618658097711785492504343953926634992332820282019728792003956564819968 := fun _ => rfl
    rw [hv, c3]
    split <;> omega
  have hF : toF (valB (encP P) % p2255) = P.y := by rw [hm, toF_of]
  have h31 := get_val hok (i := 31) (by decide)
  rw [p255] at h31
  have htop : 128 ≤ (encP P).get 31 ↔ P.x.val % 2 = 1 := by
    rw [h31, hv]
    split <;> omega
  obtain ⟨x1, x2⟩ := xOf_of P.on
  have hev := xOf_even P.y
  refine ⟨hok, ?_⟩
  unfold decE
  simp only [hF]
  have hcond : (xOfE P.y).2 = true ∧ valB (encP P) % p2255 < (pp : Int) ∧ ¬(128 ≤ (encP P).get 31 ∧ (xOfE P.y).1 = 0) := by
    refine ⟨x1, by rw [hm]; exact hp.2, fun ⟨h1, h2⟩ => ?_⟩
    have hodd := htop.1 h1
    have hx0 : P.x = 0 := by
      rcases x2 with h | h
      · rw [← h, h2]
      · have : P.x = -(xOfE P.y).1 := by rw [h]; grobner
        rw [this, h2]; grobner
    rw [hx0, BJ.F.zero_val] at hodd; cases hodd
  rw [if_pos hcond]
  have hsel : (if 128 ≤ (encP P).get 31 then -(xOfE P.y).1 else (xOfE P.y).1) = P.x := by
    generalize (xOfE P.y).1 = X at *
    by_cases h : P.x.val % 2 = 1
    · rw [if_pos (htop.2 h)]
      rcases x2 with e | e
      · rw [e] at hev; omega
      · rw [e]; grobner
    · rw [if_neg fun h' => h (htop.1 h')]
      rcases x2 with e | e
      · exact e
      · by_cases h0 : P.x = 0
        · rw [e, h0]; grobner
        · have := neg_odd h0
          rw [← e] at this
          omega
  rw [hsel]

/-! ### The small functions of chapter 13's laws -/
def plusV : {n : Nat} → Int → Vec Int n → Vec Int n → Vec Int n
  | 0, _, _, _ => ()
  | _ + 1, c, a, b => (IntKind.u8.wrap (lowBits (w (w (c + w a.1) + w b.1)) 255), plusV (down (w (w (c + w a.1) + w b.1)) 8) a.2 b.2)
theorem plusV_val : {n : Nat} → (c : Int) → (a b : Vec Int n) → (0 ≤ c ∧ c < 256) → OkB a → OkB b → OkB (plusV c a b) ∧ valB (plusV c a b) = (c + valB a + valB b) % (256 ^ n : Nat)
  | 0, c, a, b, _, _, _ => ⟨trivial, by simp [valB]⟩
  | n + 1, c, a, b, hc, ha, hb => by
    have h1 := ha.1
    have h2 := hb.1
    have hw : w (w (c + w a.1) + w b.1) = c + a.1 + b.1 := by
      rw [w_id (x := a.1) (by omega) (by omega), w_id (x := b.1) (by omega) (by omega), w_id (x := c + a.1) (by omega) (by omega), w_id (by omega) (by omega)]
    have e1 : lowBits (c + a.1 + b.1) 255 = (c + a.1 + b.1) % (2 ^ 8 : Nat) := and_i64 (m := 8) (by decide) _ 255 (by decide)
    have e2 : down (c + a.1 + b.1) 8 = (c + a.1 + b.1) / (2 ^ 8 : Nat) := shr_div .i64 _ 8 (by decide)
    have e3 : ((2 ^ 8 : Nat) : Int) = 256 := by decide
    rw [e3] at e1 e2
    obtain ⟨k1, k2⟩ := plusV_val ((c + a.1 + b.1) / 256) a.2 b.2 (by omega) ha.2 hb.2
    have hd : IntKind.u8.wrap ((c + a.1 + b.1) % 256) = (c + a.1 + b.1) % 256 := by rw [wrap_u8]; omega
    show ((0 ≤ IntKind.u8.wrap (lowBits (w (w (c + w a.1) + w b.1)) 255) ∧ IntKind.u8.wrap (lowBits (w (w (c + w a.1) + w b.1)) 255) < 256) ∧ OkB (plusV (down (w (w (c + w a.1) + w b.1)) 8) a.2 b.2)) ∧
      IntKind.u8.wrap (lowBits (w (w (c + w a.1) + w b.1)) 255) + 256 * valB (plusV (down (w (w (c + w a.1) + w b.1)) 8) a.2 b.2) = (c + (a.1 + 256 * valB a.2) + (b.1 + 256 * valB b.2)) % (256 ^ (n + 1) : Nat)
    rw [hw, e1, e2, hd, k2]
    refine ⟨⟨by omega, k1⟩, ?_⟩
    have e4 : (256 ^ (n + 1) : Nat) = 256 * 256 ^ n := by rw [Nat.pow_succ, Nat.mul_comm]
    rw [e4]
    have hm0 : 0 < ((256 ^ n : Nat) : Int) := by have := Nat.pow_pos (n := n) (show 0 < 256 by decide); omega
    generalize (256 ^ n : Nat) = m at *
    generalize valB a.2 = A
    generalize valB b.2 = B
    generalize hs : c + a.1 + b.1 = s at *
    have e5 : c + (a.1 + 256 * A) + (b.1 + 256 * B) = s % 256 + 256 * (s / 256 + A + B) := by omega
    rw [e5]
    generalize s / 256 + A + B = t
    have h3 := Int.emod_nonneg t (b := (m : Int)) (by omega)
    have h4 := Int.emod_lt_of_pos t hm0
    have h5 := Int.emod_add_mul_ediv t (m : Int)
    have h6 : s % 256 + 256 * t = (s % 256 + 256 * (t % m)) + ((256 * m : Nat) : Int) * (t / m) := by
      rw [Int.natCast_mul, Int.mul_assoc]
      generalize (m : Int) * (t / m) = z at *
      omega
    rw [h6, Int.add_mul_emod_self_left]
    exact (Int.emod_eq_of_lt (by omega) (by rw [Int.natCast_mul]; omega)).symm
noncomputable def lit32 (n : Int) : B32 := Vec.ofFn 32 fun j => if j = 0 then n else 0
theorem lit32_val {n : Int} (h : 0 ≤ n ∧ n < 256) : OkB (lit32 n) ∧ valB (lit32 n) = n := by
  refine ⟨OkB_ofFn fun i _ => ?_, ?_⟩
  · show 0 ≤ (if i = 0 then n else 0) ∧ (if i = 0 then n else 0) < 256
    split <;> omega
  · simp [lit32, Vec.ofFn, valB]
end Go.Proofs.Ytndiiabkoeblgaa
