/- Plain facts about the machine's numbers: bits as remainders and quotients. -/
import Derived.Test.YtdpbkfmjknmmnaaVw
set_option linter.unusedVariables false
set_option linter.unusedSimpArgs false
namespace Go.Ev
open Go

theorem wrap_u64 {n : Int} (h0 : 0 ≤ n) (h1 : n < 18446744073709551616) : IntKind.u64.wrap n = n := by
  simp only [IntKind.wrap, IntKind.bits, IntKind.signed]
  simp; omega
theorem wrap_u64' (n : Int) : IntKind.u64.wrap n = n % 18446744073709551616 := by
  simp only [IntKind.wrap, IntKind.bits, IntKind.signed]
  simp
theorem wrap_u8 (n : Int) : IntKind.u8.wrap n = n % 256 := by
  simp only [IntKind.wrap, IntKind.bits, IntKind.signed]
  simp
theorem wrap_i64 {n : Int} (h0 : -9223372036854775808 ≤ n) (h1 : n < 9223372036854775808) : IntKind.i64.wrap n = n := by
  simp only [IntKind.wrap, IntKind.bits, IntKind.signed]
  simp
  split <;> omega

theorem toNat_ofInt (n : Nat) (x : Int) : (BitVec.ofInt n x).toNat = (x % (2 ^ n : Nat)).toNat := by simp [BitVec.toNat_ofInt]

theorem and_mask {n m : Nat} (hm : m ≤ n) (x : Int) : (BitVec.ofInt n x &&& BitVec.ofInt n (2 ^ m - 1)).toNat = (x % (2 ^ m : Nat)).toNat := by
  rw [BitVec.toNat_and, toNat_ofInt, toNat_ofInt]
  have hp : (2 : Nat) ^ m ≤ 2 ^ n := Nat.pow_le_pow_right (by omega) hm
  have hpos : 0 < (2 : Nat) ^ m := Nat.two_pow_pos m
  have e : (((2 : Int) ^ m - 1) % ((2 ^ n : Nat) : Int)).toNat = 2 ^ m - 1 := by
    have : ((2 : Int) ^ m - 1) = ((2 ^ m - 1 : Nat) : Int) := by
      rw [Int.natCast_sub (by omega)]; simp
    rw [this, ← Int.natCast_emod, Int.toNat_natCast, Nat.mod_eq_of_lt (by omega)]
  rw [e, Nat.and_two_pow_sub_one_eq_mod]
  have h1 : ((x % ((2 ^ n : Nat) : Int)).toNat % 2 ^ m : Nat) = (x % ((2 ^ m : Nat) : Int)).toNat := by
    have hn0 : 0 ≤ x % ((2 ^ n : Nat) : Int) := Int.emod_nonneg _ (by have := Nat.two_pow_pos n; omega)
    have hm0 : 0 ≤ x % ((2 ^ m : Nat) : Int) := Int.emod_nonneg _ (by omega)
    apply Int.ofNat_inj.1
    rw [Int.natCast_emod, Int.toNat_of_nonneg hn0, Int.toNat_of_nonneg hm0]
    refine Int.emod_emod_of_dvd _ ?_
    exact Int.natCast_dvd_natCast.2 (Nat.pow_dvd_pow 2 hm)
  exact h1

theorem and_u64 {m : Nat} (hm : m < 64) (x y : Int) (hy : y = 2 ^ m - 1) : bitAnd .u64 x y = x % (2 ^ m : Nat) := by
  subst hy
  unfold bitAnd
  have := and_mask (n := 64) (m := m) (by omega) x
  show IntKind.u64.wrap ((BitVec.ofInt 64 x &&& BitVec.ofInt 64 (2 ^ m - 1)).toNat : Int) = _
  rw [this]
  have hm0 : 0 ≤ x % ((2 ^ m : Nat) : Int) := Int.emod_nonneg _ (by have := Nat.two_pow_pos m; omega)
  rw [Int.toNat_of_nonneg hm0]
  have hlt : x % ((2 ^ m : Nat) : Int) < ((2 ^ m : Nat) : Int) := Int.emod_lt_of_pos _ (by have := Nat.two_pow_pos m; omega)
  have hp : (2 : Nat) ^ m ≤ 2 ^ 63 := Nat.pow_le_pow_right (by omega) (by omega)
  exact wrap_u64 hm0 (by have : (2 : Nat) ^ 63 = 9223372036854775808 := by decide
                         omega)
theorem and_i64 {m : Nat} (hm : m < 63) (x y : Int) (hy : y = 2 ^ m - 1) : bitAnd .i64 x y = x % (2 ^ m : Nat) := by
  subst hy
  unfold bitAnd
  have := and_mask (n := 64) (m := m) (by omega) x
  show IntKind.i64.wrap ((BitVec.ofInt 64 x &&& BitVec.ofInt 64 (2 ^ m - 1)).toNat : Int) = _
  rw [this]
  have hm0 : 0 ≤ x % ((2 ^ m : Nat) : Int) := Int.emod_nonneg _ (by have := Nat.two_pow_pos m; omega)
  rw [Int.toNat_of_nonneg hm0]
  have hlt : x % ((2 ^ m : Nat) : Int) < ((2 ^ m : Nat) : Int) := Int.emod_lt_of_pos _ (by have := Nat.two_pow_pos m; omega)
  have hp : (2 : Nat) ^ m ≤ 2 ^ 62 := Nat.pow_le_pow_right (by omega) (by omega)
  exact wrap_i64 (by omega) (by have : (2 : Nat) ^ 62 = 4611686018427387904 := by decide
                                omega)
theorem and_u8 {m : Nat} (hm : m < 8) (x y : Int) (hy : y = 2 ^ m - 1) : bitAnd .u8 x y = x % (2 ^ m : Nat) := by
  subst hy
  unfold bitAnd
  have := and_mask (n := 8) (m := m) (by omega) x
  show IntKind.u8.wrap ((BitVec.ofInt 8 x &&& BitVec.ofInt 8 (2 ^ m - 1)).toNat : Int) = _
  rw [this]
  have hm0 : 0 ≤ x % ((2 ^ m : Nat) : Int) := Int.emod_nonneg _ (by have := Nat.two_pow_pos m; omega)
  rw [Int.toNat_of_nonneg hm0]
  have hlt : x % ((2 ^ m : Nat) : Int) < ((2 ^ m : Nat) : Int) := Int.emod_lt_of_pos _ (by have := Nat.two_pow_pos m; omega)
  have hp : (2 : Nat) ^ m ≤ 2 ^ 7 := Nat.pow_le_pow_right (by omega) (by omega)
  rw [wrap_u8]
  exact Int.emod_eq_of_lt hm0 (by omega)

theorem shr_div (k : IntKind) (x : Int) (n : Nat) (hn : n ≤ k.bits) : shr k x n = x / (2 ^ n : Nat) := by
  unfold shr
  rw [Int.toNat_natCast, Nat.min_eq_left hn, Int.fdiv_eq_ediv_of_nonneg]
  · simp
  · exact Int.le_of_lt (Int.pow_pos (by omega))

theorem shl_mul (k : IntKind) (x : Int) (n : Nat) (hn : n ≤ k.bits) : shl k x n = k.wrap (x * (2 ^ n : Nat)) := by
  unfold shl
  rw [Int.toNat_natCast, Nat.min_eq_left hn]
  simp

/-- bits that do not meet -/
theorem or_add {n : Nat} {m : Nat} {x y : Int} (hx0 : 0 ≤ x) (hxn : x < (2 ^ n : Nat)) (hx : x % (2 ^ m : Nat) = 0) (hy0 : 0 ≤ y) (hy : y < (2 ^ m : Nat)) (hyn : y < (2 ^ n : Nat)) :
    ((BitVec.ofInt n x ||| BitVec.ofInt n y).toNat : Int) = x + y := by
  rw [BitVec.toNat_or, toNat_ofInt, toNat_ofInt, Int.emod_eq_of_lt hx0 hxn, Int.emod_eq_of_lt hy0 hyn]
  obtain ⟨a, rfl⟩ := Int.eq_ofNat_of_zero_le hx0
  obtain ⟨b, rfl⟩ := Int.eq_ofNat_of_zero_le hy0
  simp only [Int.toNat_natCast]
  have hd : a % 2 ^ m = 0 := by
    have := hx; rw [← Int.natCast_emod] at this; omega
  have hb : b < 2 ^ m := by omega
  have e : a = 2 ^ m * (a / 2 ^ m) := (Nat.mul_div_cancel' (Nat.dvd_of_mod_eq_zero hd)).symm
  have := Nat.two_pow_add_eq_or_of_lt hb (a / 2 ^ m)
  rw [← e] at this
  rw [← this]; simp

theorem or_u64 {m : Nat} {x y : Int} (hx0 : 0 ≤ x) (hx : x % (2 ^ m : Nat) = 0) (hy0 : 0 ≤ y) (hy : y < (2 ^ m : Nat)) (h64 : x + y < 18446744073709551616) : bitOr .u64 x y = x + y := by
  unfold bitOr
  have e : (2 ^ 64 : Nat) = 18446744073709551616 := by decide
  have h := or_add (n := 64) hx0 (by omega) hx hy0 hy (by omega)
  show IntKind.u64.wrap ((BitVec.ofInt 64 x ||| BitVec.ofInt 64 y).toNat : Int) = _
  rw [h]; exact wrap_u64 (by omega) h64
theorem or_u8 {m : Nat} {x y : Int} (hx0 : 0 ≤ x) (hx : x % (2 ^ m : Nat) = 0) (hy0 : 0 ≤ y) (hy : y < (2 ^ m : Nat)) (h8 : x + y < 256) : bitOr .u8 x y = x + y := by
  unfold bitOr
  have h := or_add (n := 8) hx0 (by omega) hx hy0 hy (by omega)
  show IntKind.u8.wrap ((BitVec.ofInt 8 x ||| BitVec.ofInt 8 y).toNat : Int) = _
  rw [h, wrap_u8]; omega
theorem or_comm' (k : IntKind) (x y : Int) : bitOr k x y = bitOr k y x := by
  unfold bitOr; rw [BitVec.or_comm]
end Go.Ev
