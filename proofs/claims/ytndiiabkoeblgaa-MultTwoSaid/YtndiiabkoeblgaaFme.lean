/- The program's numbers modulo p: numbers of bytes, powers. -/
import Derived.Test.YtndiiabkoeblgaaFmd
import Derived.Test.YtndiiabkoeblgaaFec
namespace Go.Proofs.Ytndiiabkoeblgaa
open Go Go.Ev BJ

def wsum (f : Nat → Int) : Nat → Int
  | 0 => 0
  | n + 1 => wsum f n + f n * (256 ^ n : Nat)
theorem or_words (f : Nat → Int) : ∀ n, n ≤ 8 → (∀ i, i < n → 0 ≤ f i ∧ f i < 256) →
    (List.range n).foldl (fun acc i => bitOr .u64 acc (shl .u64 (w64 (f i)) ((8 * i : Nat) : Int))) 0 = wsum f n ∧ 0 ≤ wsum f n ∧ wsum f n < (256 ^ n : Nat)
  | 0, _, _ => ⟨rfl, by simp [wsum], by simp [wsum]⟩
  | n + 1, hn, hf => by
    obtain ⟨h1, h2, h3⟩ := or_words f n (by omega) fun i hi => hf i (by omega)
    have h4 := hf n (by omega)
    rw [List.range_succ, List.foldl_append, h1]
    simp only [List.foldl_cons, List.foldl_nil, wsum]
    have hle : 256 ^ n ≤ 256 ^ 7 := Nat.pow_le_pow_right (by omega) (by omega)
    have h7 : (256 : Nat) ^ 7 = 72057594037927936 := by decide
    have e8 : (2 ^ (8 * n) : Nat) = 256 ^ n := by rw [Nat.pow_mul]
    have hmul : 0 ≤ f n * (256 ^ n : Nat) ∧ f n * (256 ^ n : Nat) ≤ 255 * (256 ^ n : Nat) := ⟨Int.mul_nonneg h4.1 (Int.natCast_nonneg _), Int.mul_le_mul_of_nonneg_right (by omega) (Int.natCast_nonneg _)⟩
    have hm : f n * (256 ^ n : Nat) % (256 ^ n : Nat) = 0 := Int.mul_emod_left _ _
    have e : shl .u64 (w64 (f n)) ((8 * n : Nat) : Int) = f n * (256 ^ n : Nat) := by
      rw [shl_mul .u64 _ _ (by show 8 * n ≤ 64; omega), e8]
      unfold w64
      rw [wrap_u64 (n := f n) (by omega) (by omega)]
      exact wrap_u64 hmul.1 (by omega)
    have e2 : (256 ^ (n + 1) : Nat) = 256 * 256 ^ n := by rw [Nat.pow_succ, Nat.mul_comm]
    rw [e, or_comm', or_u64 (m := 8 * n) hmul.1 (by rw [e8]; exact hm) h2 (by rw [e8]; exact h3) (by omega), e2]
    refine ⟨by omega, by omega, by omega⟩

theorem get_ofFn {f : Nat → Int} : ∀ {n i : Nat}, i < n → Vec.get (Vec.ofFn n f) i = f i
  | 0, _, h => absurd h (by omega)
  | n + 1, 0, _ => rfl
  | n + 1, i + 1, h => by
    show Vec.get (Vec.ofFn n fun k => f (k + 1)) i = _
    rw [get_ofFn (n := n) (by omega)]
theorem get_val {n : Nat} {v : Vec Int n} (h : OkB v) {i : Nat} (hi : i < n) : v.get i = valB v / (256 ^ i : Nat) % 256 := by
  conv => lhs; rw [← digB_valB h]
  unfold digB
  rw [get_ofFn hi]
theorem get_byte {n : Nat} {v : Vec Int n} (h : OkB v) {i : Nat} (hi : i < n) : 0 ≤ v.get i ∧ v.get i < 256 := by
  rw [get_val h hi]; omega

theorem wsum_dig (V : Int) (hV : 0 ≤ V) : ∀ n, wsum (fun i => V / (256 ^ i : Nat) % 256) n = V % (256 ^ n : Nat)
  | 0 => by simp [wsum]
  | n + 1 => by
    simp only [wsum]
    rw [wsum_dig V hV n]
    have e2 : (256 ^ (n + 1) : Nat) = 256 ^ n * 256 := Nat.pow_succ ..
    rw [e2]
    generalize hm : (256 ^ n : Nat) = m
    have hm0 : 0 < (m : Int) := by have := Nat.pow_pos (n := n) (show 0 < 256 by decide); omega
    have h3 := Int.emod_nonneg V (b := (m : Int)) (by omega)
    have h4 := Int.emod_lt_of_pos V hm0
    have h5 := Int.emod_add_mul_ediv V (m : Int)
    have h6 : V = (V % m + V / m % 256 * m) + ((m * 256 : Nat) : Int) * (V / m / 256) := by
      rw [Int.natCast_mul, Int.mul_assoc]
      have h7 : V / m = V / m % 256 + 256 * (V / m / 256) := by omega
      have h8 : (m : Int) * (V / m) = m * (V / m % 256) + m * (256 * (V / m / 256)) := by rw [← Int.mul_add, ← h7]
      rw [Int.mul_comm (V / m % 256) m]
      have h9 : (m : Int) * (((256 : Nat) : Int) * (V / m / 256)) = m * (256 * (V / m / 256)) := rfl
      rw [h9]; omega
    have h10 : 0 ≤ V / m % 256 * m ∧ V / m % 256 * m ≤ 255 * m := ⟨Int.mul_nonneg (by omega) (by omega), Int.mul_le_mul_of_nonneg_right (by omega) (by omega)⟩
    conv => rhs; rw [h6]
    rw [Int.add_mul_emod_self_left]
    exact (Int.emod_eq_of_lt (by omega) (by rw [Int.natCast_mul]; omega)).symm

theorem word_val {b : B32} (h : OkB b) (j : Nat) (hj : j < 4) : word b j = valB b / (256 ^ (8 * j) : Nat) % 18446744073709551616 := by
  have h1 := (or_words (fun i => b.get (8 * j + i)) 8 (by omega) fun i hi => get_byte h (by omega)).1
  have hV := valB_nonneg h
  unfold word
  rw [h1]
  have h2 : wsum (fun i => b.get (8 * j + i)) 8 = wsum (fun i => valB b / (256 ^ (8 * j) : Nat) / (256 ^ i : Nat) % 256) 8 := by
    have key : ∀ n, n ≤ 8 → wsum (fun i => b.get (8 * j + i)) n = wsum (fun i => valB b / (256 ^ (8 * j) : Nat) / (256 ^ i : Nat) % 256) n := by
      intro n
      induction n with
      | zero => intro _; rfl
      | succ n ih =>
        intro hn
        simp only [wsum]
        rw [ih (by omega), get_val h (by omega), Int.ediv_ediv_of_nonneg (Int.natCast_nonneg _), ← Int.natCast_mul, ← Nat.pow_add]
    exact key 8 (by omega)
  rw [h2, wsum_dig _ (Int.ediv_nonneg hV (Int.natCast_nonneg _)) 8]
  rfl

theorem from_val {b : B32} (h : OkB b) : Ok5 (feFrom b) ∧ val5 (feFrom b) = valB b % 57896044618658097711785492504343953926634992332820282019728792003956564819968 := by
  have hV := valB_nonneg h
  have hV2 := valB_lt h
  rw [p256] at hV2
  have w0 := word_val h 0 (by omega)
  have w1 := word_val h 1 (by omega)
  have w2 := word_val h 2 (by omega)
  have w3 := word_val h 3 (by omega)
  have q0 : (256 ^ (8 * 0) : Nat) = 1 := by decide
  have q1 : (256 ^ (8 * 1) : Nat) = 18446744073709551616 := by decide
  have q2 : (256 ^ (8 * 2) : Nat) = 340282366920938463463374607431768211456 := by decide
  have q3 : (256 ^ (8 * 3) : Nat) = 6277101735386680763835789423207666416102355444464034512896 := by decide
  rw [q0] at w0; rw [q1] at w1; rw [q2] at w2; rw [q3] at w3
  unfold feFrom
  rw [w0, w1, w2, w3]
  generalize valB b = V at *
  obtain ⟨a0, ha0⟩ : ∃ a, a = V / ((1 : Nat) : Int) % 18446744073709551616 := ⟨_, rfl⟩
  obtain ⟨a1, ha1⟩ : ∃ a, a = V / ((18446744073709551616 : Nat) : Int) % 18446744073709551616 := ⟨_, rfl⟩
  obtain ⟨a2, ha2⟩ : ∃ a, a = V / ((340282366920938463463374607431768211456 : Nat) : Int) % 18446744073709551616 := ⟨_, rfl⟩
  obtain ⟨a3, ha3⟩ : ∃ a, a = V / ((6277101735386680763835789423207666416102355444464034512896 : Nat) : Int) % 18446744073709551616 := ⟨_, rfl⟩
  rw [← ha0, ← ha1, ← ha2, ← ha3]
  have sh : ∀ (x : Int) (n : Nat), n ≤ 64 → shr64 x n = x / (2 ^ n : Nat) := fun x n hn => shr_div .u64 x n hn
  have sl : ∀ (x : Int) (n : Nat), n ≤ 64 → shl .u64 x n = x * (2 ^ n : Nat) % 18446744073709551616 := fun x n hn => by rw [shl_mul .u64 x n hn, wrap_u64']
  have s51 := sh a0 51 (by decide)
  have s38 := sh a1 38 (by decide)
  have s25 := sh a2 25 (by decide)
  have s12 := sh a3 12 (by decide)
  have l13 := sl a1 13 (by decide)
  have l26 := sl a2 26 (by decide)
  have l39 := sl a3 39 (by decide)
  have e51 : (2 ^ 51 : Nat) = 2251799813685248 := by decide
  have e38 : (2 ^ 38 : Nat) = 274877906944 := by decide
  have e25 : (2 ^ 25 : Nat) = 33554432 := by decide
  have e12 : (2 ^ 12 : Nat) = 4096 := by decide
  have e13 : (2 ^ 13 : Nat) = 8192 := by decide
  have e26 : (2 ^ 26 : Nat) = 67108864 := by decide
  have e39 : (2 ^ 39 : Nat) = 549755813888 := by decide
  rw [e51] at s51; rw [e38] at s38; rw [e25] at s25; rw [e12] at s12; rw [e13] at l13; rw [e26] at l26; rw [e39] at l39
  have o1 : bitOr .u64 (shr64 a0 51) (shl .u64 a1 13) = a0 / 2251799813685248 + a1 * 8192 % 18446744073709551616 := by
    have e : bitOr .u64 (shl .u64 a1 13) (shr64 a0 51) = shl .u64 a1 13 + shr64 a0 51 := or_u64 (m := 13) (by rw [show shl .u64 a1 13 = _ from l13]; omega) (by rw [show shl .u64 a1 13 = _ from l13, e13]; omega) (by rw [show shr64 a0 51 = _ from s51]; omega) (by rw [show shr64 a0 51 = _ from s51, e13]; omega) (by rw [show shl .u64 a1 13 = _ from l13, show shr64 a0 51 = _ from s51]; omega)
    rw [or_comm', e, show shl .u64 a1 13 = _ from l13, show shr64 a0 51 = _ from s51]; omega
  have o2 : bitOr .u64 (shr64 a1 38) (shl .u64 a2 26) = a1 / 274877906944 + a2 * 67108864 % 18446744073709551616 := by
    have e : bitOr .u64 (shl .u64 a2 26) (shr64 a1 38) = shl .u64 a2 26 + shr64 a1 38 := or_u64 (m := 26) (by rw [show shl .u64 a2 26 = _ from l26]; omega) (by rw [show shl .u64 a2 26 = _ from l26, e26]; omega) (by rw [show shr64 a1 38 = _ from s38]; omega) (by rw [show shr64 a1 38 = _ from s38, e26]; omega) (by rw [show shl .u64 a2 26 = _ from l26, show shr64 a1 38 = _ from s38]; omega)
    rw [or_comm', e, show shl .u64 a2 26 = _ from l26, show shr64 a1 38 = _ from s38]; omega
  have o3 : bitOr .u64 (shr64 a2 25) (shl .u64 a3 39) = a2 / 33554432 + a3 * 549755813888 % 18446744073709551616 := by
    have e : bitOr .u64 (shl .u64 a3 39) (shr64 a2 25) = shl .u64 a3 39 + shr64 a2 25 := or_u64 (m := 39) (by rw [show shl .u64 a3 39 = _ from l39]; omega) (by rw [show shl .u64 a3 39 = _ from l39, e39]; omega) (by rw [show shr64 a2 25 = _ from s25]; omega) (by rw [show shr64 a2 25 = _ from s25, e39]; omega) (by rw [show shl .u64 a3 39 = _ from l39, show shr64 a2 25 = _ from s25]; omega)
    rw [or_comm', e, show shl .u64 a3 39 = _ from l39, show shr64 a2 25 = _ from s25]; omega
  rw [o1, o2, o3, show shr64 a3 12 = _ from s12]
  simp only [and_msk]
  constructor
  · simp only [Ok5, Lim]; omega
  · simp only [val5]; omega
end Go.Proofs.Ytndiiabkoeblgaa
