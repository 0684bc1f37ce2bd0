/- What the laws lean on, part 5: a reader of code, plain facts, and what each function gives; no conditions. -/
import Derived.Test.YthdfifcgobfgdaaGreatA4
section
namespace Go.Proofs.YthdfifcgobfgdaaGreat
open Go Go.Ev BJ
def wsum (f : Nat → Int) : Nat → Int
  | 0 => 0
  | n + 1 => wsum f n + f n * (256 ^ n : Nat)
theorem or_words (f : Nat → Int) : ∀ n, n ≤ 8 → (∀ i, i < n → 0 ≤ f i ∧ f i < 256) →
    (List.range n).foldl (fun acc i => bitOr .u64 acc (shl .u64 (w64 (f i)) ((8 * i : Nat) : Int))) 0 = wsum f n ∧ 0 ≤ wsum f n ∧ wsum f n < (256 ^ n : Nat)
  | 0, _, _ => ⟨rfl, by simp [wsum], by simp [wsum]⟩
  | n + 1, hn, hf => by
    obtain ⟨h1, h2, h3⟩ := or_words f n (by omega) fun i hi => hf i (by omega)
    have h4 := hf n (by omega)
    rw [List.range_succ, List.foldl_append, h1]
    simp only [List.foldl_cons, List.foldl_nil, wsum]
    have hle : 256 ^ n ≤ 256 ^ 7 := Nat.pow_le_pow_right (by omega) (by omega)
    have h7 : (256 : Nat) ^ 7 = 72057594037927936 := by decide
    have e8 : (2 ^ (8 * n) : Nat) = 256 ^ n := by rw [Nat.pow_mul]
    have hmul : 0 ≤ f n * (256 ^ n : Nat) ∧ f n * (256 ^ n : Nat) ≤ 255 * (256 ^ n : Nat) := ⟨Int.mul_nonneg h4.1 (Int.natCast_nonneg _), Int.mul_le_mul_of_nonneg_right (by omega) (Int.natCast_nonneg _)⟩
    have hm : f n * (256 ^ n : Nat) % (256 ^ n : Nat) = 0 := Int.mul_emod_left _ _
    have e : shl .u64 (w64 (f n)) ((8 * n : Nat) : Int) = f n * (256 ^ n : Nat) := by
      rw [shl_mul .u64 _ _ (by show 8 * n ≤ 64; omega), e8]
      unfold w64
      rw [wrap_u64 (n := f n) (by omega) (by omega)]
      exact wrap_u64 hmul.1 (by omega)
    have e2 : (256 ^ (n + 1) : Nat) = 256 * 256 ^ n := by rw [Nat.pow_succ, Nat.mul_comm]
    rw [e, or_comm', or_u64 (m := 8 * n) hmul.1 (by rw [e8]; exact hm) h2 (by rw [e8]; exact h3) (by omega), e2]
    refine ⟨by omega, by omega, by omega⟩
theorem get_ofFn {f : Nat → Int} : ∀ {n i : Nat}, i < n → Vec.get (Vec.ofFn n f) i = f i
  | 0, _, h => absurd h (by omega)
  | n + 1, 0, _ => rfl
  | n + 1, i + 1, h => by
    show Vec.get (Vec.ofFn n fun k => f (k + 1)) i = _
    rw [get_ofFn (n := n) (by omega)]
theorem get_val {n : Nat} {v : Vec Int n} (h : OkB v) {i : Nat} (hi : i < n) : v.get i = valB v / (256 ^ i : Nat) % 256 := by
  conv => lhs; rw [← digB_valB h]
  unfold digB
  rw [get_ofFn hi]
theorem get_byte {n : Nat} {v : Vec Int n} (h : OkB v) {i : Nat} (hi : i < n) : 0 ≤ v.get i ∧ v.get i < 256 := by
  rw [get_val h hi]; omega
theorem wsum_dig (V : Int) (hV : 0 ≤ V) : ∀ n, wsum (fun i => V / (256 ^ i : Nat) % 256) n = V % (256 ^ n : Nat)
  | 0 => by simp [wsum]
  | n + 1 => by
    simp only [wsum]
    rw [wsum_dig V hV n]
    have e2 : (256 ^ (n + 1) : Nat) = 256 ^ n * 256 := Nat.pow_succ ..
    rw [e2]
    generalize hm : (256 ^ n : Nat) = m
    have hm0 : 0 < (m : Int) := by have := Nat.pow_pos (n := n) (show 0 < 256 by decide); omega
    have h3 := Int.emod_nonneg V (b := (m : Int)) (by omega)
    have h4 := Int.emod_lt_of_pos V hm0
    have h5 := Int.emod_add_mul_ediv V (m : Int)
    have h6 : V = (V % m + V / m % 256 * m) + ((m * 256 : Nat) : Int) * (V / m / 256) := by
      rw [Int.natCast_mul, Int.mul_assoc]
      have h7 : V / m = V / m % 256 + 256 * (V / m / 256) := by omega
      have h8 : (m : Int) * (V / m) = m * (V / m % 256) + m * (256 * (V / m / 256)) := by rw [← Int.mul_add, ← h7]
      rw [Int.mul_comm (V / m % 256) m]
      have h9 : (m : Int) * (((256 : Nat) : Int) * (V / m / 256)) = m * (256 * (V / m / 256)) := rfl
      rw [h9]; omega
    have h10 : 0 ≤ V / m % 256 * m ∧ V / m % 256 * m ≤ 255 * m := ⟨Int.mul_nonneg (by omega) (by omega), Int.mul_le_mul_of_nonneg_right (by omega) (by omega)⟩
    conv => rhs; rw [h6]
    rw [Int.add_mul_emod_self_left]
    exact (Int.emod_eq_of_lt (by omega) (by rw [Int.natCast_mul]; omega)).symm
theorem word_val {b : B32} (h : OkB b) (j : Nat) (hj : j < 4) : word b j = valB b / (256 ^ (8 * j) : Nat) % 18446744073709551616 := by
  have h1 := (or_words (fun i => b.get (8 * j + i)) 8 (by omega) fun i hi => get_byte h (by omega)).1
  have hV := valB_nonneg h
  unfold word
  rw [h1]
  have h2 : wsum (fun i => b.get (8 * j + i)) 8 = wsum (fun i => valB b / (256 ^ (8 * j) : Nat) / (256 ^ i : Nat) % 256) 8 := by
    have key : ∀ n, n ≤ 8 → wsum (fun i => b.get (8 * j + i)) n = wsum (fun i => valB b / (256 ^ (8 * j) : Nat) / (256 ^ i : Nat) % 256) n := by
      intro n
      induction n with
      | zero => intro _; rfl
      | succ n ih =>
        intro hn
        simp only [wsum]
        rw [ih (by omega), get_val h (by omega), Int.ediv_ediv_of_nonneg (Int.natCast_nonneg _), ← Int.natCast_mul, ← Nat.pow_add]
    exact key 8 (by omega)
  rw [h2, wsum_dig _ (Int.ediv_nonneg hV (Int.natCast_nonneg _)) 8]
  rfl
theorem from_val {b : B32} (h : OkB b) : Ok5 (feFrom b) ∧ val5 (feFrom b) = valB b % 57896044618658097711785492504343953926634992332820282019728792003956564819968 := by
  have hV := valB_nonneg h
  have hV2 := valB_lt h
  rw [p256] at hV2
  have w0 := word_val h 0 (by omega)
  have w1 := word_val h 1 (by omega)
  have w2 := word_val h 2 (by omega)
  have w3 := word_val h 3 (by omega)
  have q0 : (256 ^ (8 * 0) : Nat) = 1 := by decide
  have q1 : (256 ^ (8 * 1) : Nat) = 18446744073709551616 := by decide
  have q2 : (256 ^ (8 * 2) : Nat) = 340282366920938463463374607431768211456 := by decide
  have q3 : (256 ^ (8 * 3) : Nat) = 6277101735386680763835789423207666416102355444464034512896 := by decide
  rw [q0] at w0; rw [q1] at w1; rw [q2] at w2; rw [q3] at w3
  unfold feFrom
  rw [w0, w1, w2, w3]
  generalize valB b = V at *
  obtain ⟨a0, ha0⟩ : ∃ a, a = V / ((1 : Nat) : Int) % 18446744073709551616 := ⟨_, rfl⟩
  obtain ⟨a1, ha1⟩ : ∃ a, a = V / ((18446744073709551616 : Nat) : Int) % 18446744073709551616 := ⟨_, rfl⟩
  obtain ⟨a2, ha2⟩ : ∃ a, a = V / ((340282366920938463463374607431768211456 : Nat) : Int) % 18446744073709551616 := ⟨_, rfl⟩
  obtain ⟨a3, ha3⟩ : ∃ a, a = V / ((6277101735386680763835789423207666416102355444464034512896 : Nat) : Int) % 18446744073709551616 := ⟨_, rfl⟩
  rw [← ha0, ← ha1, ← ha2, ← ha3]
  have sh : ∀ (x : Int) (n : Nat), n ≤ 64 → shr64 x n = x / (2 ^ n : Nat) := fun x n hn => shr_div .u64 x n hn
  have sl : ∀ (x : Int) (n : Nat), n ≤ 64 → shl .u64 x n = x * (2 ^ n : Nat) % 18446744073709551616 := fun x n hn => by rw [shl_mul .u64 x n hn, wrap_u64']
  have s51 := sh a0 51 (by decide)
  have s38 := sh a1 38 (by decide)
  have s25 := sh a2 25 (by decide)
  have s12 := sh a3 12 (by decide)
  have l13 := sl a1 13 (by decide)
  have l26 := sl a2 26 (by decide)
  have l39 := sl a3 39 (by decide)
  have e51 : (2 ^ 51 : Nat) = 2251799813685248 := by decide
  have e38 : (2 ^ 38 : Nat) = 274877906944 := by decide
  have e25 : (2 ^ 25 : Nat) = 33554432 := by decide
  have e12 : (2 ^ 12 : Nat) = 4096 := by decide
  have e13 : (2 ^ 13 : Nat) = 8192 := by decide
  have e26 : (2 ^ 26 : Nat) = 67108864 := by decide
  have e39 : (2 ^ 39 : Nat) = 549755813888 := by decide
  rw [e51] at s51; rw [e38] at s38; rw [e25] at s25; rw [e12] at s12; rw [e13] at l13; rw [e26] at l26; rw [e39] at l39
  have o1 : bitOr .u64 (shr64 a0 51) (shl .u64 a1 13) = a0 / 2251799813685248 + a1 * 8192 % 18446744073709551616 := by
    have e : bitOr .u64 (shl .u64 a1 13) (shr64 a0 51) = shl .u64 a1 13 + shr64 a0 51 := or_u64 (m := 13) (by rw [show shl .u64 a1 13 = _ from l13]; omega) (by rw [show shl .u64 a1 13 = _ from l13, e13]; omega) (by rw [show shr64 a0 51 = _ from s51]; omega) (by rw [show shr64 a0 51 = _ from s51, e13]; omega) (by rw [show shl .u64 a1 13 = _ from l13, show shr64 a0 51 = _ from s51]; omega)
    rw [or_comm', e, show shl .u64 a1 13 = _ from l13, show shr64 a0 51 = _ from s51]; omega
  have o2 : bitOr .u64 (shr64 a1 38) (shl .u64 a2 26) = a1 / 274877906944 + a2 * 67108864 % 18446744073709551616 := by
    have e : bitOr .u64 (shl .u64 a2 26) (shr64 a1 38) = shl .u64 a2 26 + shr64 a1 38 := or_u64 (m := 26) (by rw [show shl .u64 a2 26 = _ from l26]; omega) (by rw [show shl .u64 a2 26 = _ from l26, e26]; omega) (by rw [show shr64 a1 38 = _ from s38]; omega) (by rw [show shr64 a1 38 = _ from s38, e26]; omega) (by rw [show shl .u64 a2 26 = _ from l26, show shr64 a1 38 = _ from s38]; omega)
    rw [or_comm', e, show shl .u64 a2 26 = _ from l26, show shr64 a1 38 = _ from s38]; omega
  have o3 : bitOr .u64 (shr64 a2 25) (shl .u64 a3 39) = a2 / 33554432 + a3 * 549755813888 % 18446744073709551616 := by
    have e : bitOr .u64 (shl .u64 a3 39) (shr64 a2 25) = shl .u64 a3 39 + shr64 a2 25 := or_u64 (m := 39) (by rw [show shl .u64 a3 39 = _ from l39]; omega) (by rw [show shl .u64 a3 39 = _ from l39, e39]; omega) (by rw [show shr64 a2 25 = _ from s25]; omega) (by rw [show shr64 a2 25 = _ from s25, e39]; omega) (by rw [show shl .u64 a3 39 = _ from l39, show shr64 a2 25 = _ from s25]; omega)
    rw [or_comm', e, show shl .u64 a3 39 = _ from l39, show shr64 a2 25 = _ from s25]; omega
  rw [o1, o2, o3, show shr64 a3 12 = _ from s12]
  simp only [and_msk]
  constructor
  · simp only [Ok5, Lim]; omega
  · simp only [val5]; omega
end Go.Proofs.YthdfifcgobfgdaaGreat
namespace BJ
theorem F.pow_add (a : F) (m n : Nat) : F.pow a (m + n) = F.pow a m * F.pow a n := by
  induction n with
  | zero => rw [Nat.add_zero, F.pow_zero]; grobner
  | succ n ih => rw [← Nat.add_assoc, F.pow_succ, ih, F.pow_succ]; grobner
theorem F.pow_double (a : F) (m : Nat) : F.pow a (2 * m) = F.pow a m * F.pow a m := by rw [Nat.two_mul, F.pow_add]
theorem F.pow_one (a : F) : F.pow a 1 = a := by rw [F.pow_succ, F.pow_zero]; grobner
def rootOf (a : F) : F × Bool :=
  let r := F.pow a ((pp + 3) / 8)
  let r1 := if r * r = a then r else r * F.pow 2 ((pp - 1) / 4)
  if r1 * r1 = a then (if r1.val % 2 = 1 then -r1 else r1, true) else (0, false)
def ratioOf (u v : F) : F × Bool := if v = 0 then (0, decide (u = 0)) else rootOf (u * F.inv v)
end BJ
namespace Go.Proofs.YthdfifcgobfgdaaGreat
open Go Go.Ev BJ
theorem andNot_top (x : Int) : bitAndNot .u8 x 128 = x % 128 := by
  have e : bitAndNot .u8 x 128 = bitAnd .u8 x 127 := by
    unfold bitAndNot bitAnd
    have : (~~~BitVec.ofInt IntKind.u8.bits 128) = BitVec.ofInt IntKind.u8.bits 127 := by decide
    rw [this]
  rw [e]
  exact and_u8 (m := 7) (by decide) x 127 (by decide)
theorem upd_last (g : Int → Int) : ∀ {n : Nat} {v : Vec Int (n + 1)}, OkB v → (∀ x, 0 ≤ x → x < 256 → 0 ≤ g x ∧ g x < 256) →
    OkB (Vec.upd g n v) ∧ valB (Vec.upd g n v) = valB v - v.get n * (256 ^ n : Nat) + g (v.get n) * (256 ^ n : Nat)
  | 0, v, h, hg => by
    obtain ⟨x, u⟩ := v
    refine ⟨⟨hg x h.1.1 h.1.2, h.2⟩, ?_⟩
    show g x + 256 * 0 = x + 256 * 0 - x * ((256 ^ 0 : Nat) : Int) + g x * ((256 ^ 0 : Nat) : Int)
    rw [Nat.pow_zero]; omega
  | n + 1, v, h, hg => by
    obtain ⟨x, u⟩ := v
    obtain ⟨h1, h2⟩ := upd_last g (n := n) (v := u) h.2 hg
    refine ⟨⟨h.1, h1⟩, ?_⟩
    show x + 256 * valB (Vec.upd g n u) = x + 256 * valB u - Vec.get u n * ((256 ^ (n + 1) : Nat) : Int) + g (Vec.get u n) * ((256 ^ (n + 1) : Nat) : Int)
    rw [h2]
    have e2 : (256 ^ (n + 1) : Nat) = 256 * 256 ^ n := by rw [Nat.pow_succ, Nat.mul_comm]
    rw [e2, Int.natCast_mul]
    have sw : ∀ a b : Int, a * (((256 : Nat) : Int) * b) = 256 * (a * b) := fun a b => by rw [← Int.mul_assoc, Int.mul_comm a, Int.mul_assoc]; rfl
    rw [sw, sw]; omega
theorem p255 : (256 ^ 31 : Nat) = 452312848583266388373324160190187140051835877600158453279131187530910662656 := by decide
theorem clear_val {b : B32} (h : OkB b) : OkB (clearTop b) ∧ valB (clearTop b) = valB b % 57896044618658097711785492504343953926634992332820282019728792003956564819968 := by
  obtain ⟨h1, h2⟩ := upd_last (fun x => bitAndNot .u8 x 128) (n := 31) h fun x h1 h2 => by show 0 ≤ bitAndNot .u8 x 128 ∧ bitAndNot .u8 x 128 < 256; rw [andNot_top]; omega
  refine ⟨h1, h2.trans ?_⟩
  have hV := valB_nonneg h
  have hV2 := valB_lt h
  rw [p256] at hV2
  show valB b - b.get 31 * _ + bitAndNot .u8 (b.get 31) 128 * _ = _
  rw [andNot_top, get_val h (by decide), p255]
  omega
theorem from_fe {b : B32} (h : OkB b) : Ok5 (feFrom b) ∧ fe (feFrom b) = toF (valB b % 57896044618658097711785492504343953926634992332820282019728792003956564819968) := by
  obtain ⟨h1, h2⟩ := from_val h
  exact ⟨h1, by unfold fe; rw [h2]⟩
theorem bytes_of_val {b : B32} (h : OkB b) (_hlt : valB b < 57896044618658097711785492504343953926634992332820282019728792003956564819968) : eqV (bytesF (toF (valB b))) b = decide (valB b < (pp : Int)) := by
  have h0 := valB_nonneg h
  by_cases hp : valB b < (pp : Int)
  · rw [decide_eq_true hp]
    refine (eqV_iff _ _).2 ?_
    obtain ⟨h1, h2⟩ := bytesF_val (toF (valB b))
    exact valB_inj h1 h (by rw [h2, toF_val, Int.emod_eq_of_lt h0 hp])
  · rw [decide_eq_false hp]
    refine Bool.eq_false_iff.2 fun e => hp ?_
    have e2 := (eqV_iff _ _).1 e
    have h2 := (bytesF_val (toF (valB b))).2
    rw [e2, toF_val] at h2
    rw [h2]; exact Int.emod_lt_of_pos _ (by decide)
theorem canonical_fe {b : B32} (h : OkB b) : eqV (feBytes (feFrom (clearTop b))) (clearTop b) = decide (valB (clearTop b) < (pp : Int)) := by
  obtain ⟨h1, h2⟩ := clear_val h
  obtain ⟨h3, h4⟩ := from_fe h1
  have hlt : valB (clearTop b) < 57896044618658097711785492504343953926634992332820282019728792003956564819968 := by rw [h2]; omega
  rw [bytes_fe h3, h4, Int.emod_eq_of_lt (valB_nonneg h1) hlt, bytes_of_val h1 hlt]
noncomputable abbrev mulC : Fe → Fe → Fe := mulOut mulFn add64 feCarry
theorem bit_val {e : B32} (h : OkB e) {i : Nat} (hi : i < 256) : bitU8 e i = decide ((valB e).toNat / 2 ^ i % 2 = 1) := by
  have hV := valB_nonneg h
  unfold bitU8
  have e1 : shr .u8 (e.get (i / 8)) ((i % 8 : Nat) : Int) = e.get (i / 8) / (2 ^ (i % 8) : Nat) := shr_div .u8 _ _ (by show i % 8 ≤ 8; omega)
  rw [e1, and_u8 (m := 1) (by decide) _ 1 (by decide), get_val h (by omega)]
  obtain ⟨N, hN⟩ := Int.eq_ofNat_of_zero_le hV
  rw [hN]
  have key : (((N : Int) / (256 ^ (i / 8) : Nat) % 256 / (2 ^ (i % 8) : Nat) % (2 ^ 1 : Nat) == 1) = true) ↔ N / 2 ^ i % 2 = 1 := by
    rw [beq_iff_eq]
    have e2 : (2 ^ i : Nat) = 256 ^ (i / 8) * 2 ^ (i % 8) := by
      rw [show (256 : Nat) = 2 ^ 8 from rfl, ← Nat.pow_mul, ← Nat.pow_add]; congr 1; omega
    rw [e2, ← Nat.div_div_eq_div_mul, ← Int.natCast_ediv]
    generalize N / 256 ^ (i / 8) = W at *
    have h8 : i % 8 < 8 := Nat.mod_lt _ (by decide)
    generalize i % 8 = m at *
    have hm : m = 0 ∨ m = 1 ∨ m = 2 ∨ m = 3 ∨ m = 4 ∨ m = 5 ∨ m = 6 ∨ m = 7 := by omega
    rcases hm with rfl | rfl | rfl | rfl | rfl | rfl | rfl | rfl <;> simp <;> omega
  rw [Int.toNat_natCast]
  by_cases hb : N / 2 ^ i % 2 = 1
  · rw [decide_eq_true hb]; exact key.2 hb
  · rw [decide_eq_false hb]; exact Bool.eq_false_iff.2 fun e => hb (key.1 e)
theorem square_fe {x : Fe} (hx : Ok5 x) : Ok5 (mulC x x) ∧ fe (mulC x x) = fe x * fe x := mul_fe hx hx
noncomputable def powC (x : Fe) (e : B32) : Fe := powFn feSmall (fun x => mulC x x) mulC x e
theorem selN_ite {n : Nat} {b : Bool} {p : Prop} [Decidable p] (h : b = decide p) (v u : Vec Int n) : selN b v u = if p then v else u := by
  rw [selN_eq, h]; by_cases hp : p <;> simp [hp]
theorem pow_fe {x : Fe} {e : B32} (hx : Ok5 x) (he : OkB e) : Ok5 (powC x e) ∧ fe (powC x e) = F.pow (fe x) (valB e).toNat := by
  have hV := valB_nonneg he
  have hV2 := valB_lt he
  obtain ⟨N, hN⟩ := Int.eq_ofNat_of_zero_le hV
  have key : ∀ k, k ≤ 256 → Ok5 (rnds (powStep (fun x => mulC x x) mulC x e) k (feSmall 1)) ∧ fe (rnds (powStep (fun x => mulC x x) mulC x e) k (feSmall 1)) = F.pow (fe x) (N / 2 ^ (256 - k)) := by
    intro k
    induction k with
    | zero =>
      intro _
      obtain ⟨h1, h2⟩ := small_fe (n := 1) ⟨by decide, by decide⟩
      refine ⟨h1, ?_⟩
      have h256 : (256 ^ 32 : Nat) = 2 ^ 256 := by rw [show (256 : Nat) = 2 ^ 8 from rfl, ← Nat.pow_mul]
      have : N / 2 ^ (256 - 0) = 0 := Nat.div_eq_of_lt (by rw [hN] at hV2; rw [Nat.sub_zero, ← h256]; omega)
      rw [this, F.pow_zero]
      exact h2.trans toF_one
    | succ k ih =>
      intro hk
      obtain ⟨h1, h2⟩ := ih (by omega)
      show Ok5 (powStep (fun x => mulC x x) mulC x e k _) ∧ fe (powStep (fun x => mulC x x) mulC x e k _) = _
      generalize rnds (powStep (fun x => mulC x x) mulC x e) k (feSmall 1) = r at *
      obtain ⟨s1, s2⟩ := square_fe h1
      obtain ⟨m1, m2⟩ := mul_fe s1 hx
      unfold powStep
      rw [selN_ite (bit_val he (i := 255 - k) (by omega)), hN, Int.toNat_natCast]
      have hdiv : N / 2 ^ (256 - k) = N / 2 ^ (256 - (k + 1)) / 2 := by
        rw [Nat.div_div_eq_div_mul, ← Nat.pow_succ]; congr 2; omega
      rw [hdiv] at h2
      have e255 : 255 - k = 256 - (k + 1) := by omega
      rw [e255]
      generalize N / 2 ^ (256 - (k + 1)) = M at *
      split
      · rename_i hb
        refine ⟨m1, ?_⟩
        show fe (mulC (mulC r r) x) = _
        rw [m2, s2, h2]
        have : M = 2 * (M / 2) + 1 := by omega
        conv => rhs; rw [this]
        rw [F.pow_succ, F.pow_double]
      · rename_i hb
        refine ⟨s1, ?_⟩
        show fe (mulC r r) = _
        rw [s2, h2]
        have : M = 2 * (M / 2) := by omega
        conv => rhs; rw [this]
        rw [F.pow_double]
  have := key 256 (by omega)
  rw [hN, Int.toNat_natCast]
  have e : N / 2 ^ (256 - 256) = N := by simp
  rw [e] at this
  unfold powC powFn
  exact this
theorem OkB_ofFn {f : Nat → Int} : ∀ {n : Nat}, (∀ i, i < n → 0 ≤ f i ∧ f i < 256) → OkB (Vec.ofFn n f)
  | 0, _ => trivial
  | n + 1, h => ⟨h 0 (by omega), OkB_ofFn (n := n) fun i hi => h (i + 1) (by omega)⟩
theorem OkB_exp {lo hi : Int} (h1 : 0 ≤ lo ∧ lo < 256) (h2 : 0 ≤ hi ∧ hi < 256) : OkB (feExp lo hi) := OkB_ofFn fun i _ => by
  show 0 ≤ (if i = 0 then lo else if i = 31 then hi else 255) ∧ (if i = 0 then lo else if i = 31 then hi else 255) < 256
  split
  · exact h1
  · split
    · exact h2
    · omega
theorem exp_inv : (valB (feExp 235 127)).toNat = pp - 2 := by decide +kernel
theorem exp_root : (valB (feExp 254 15)).toNat = (pp + 3) / 8 := by decide +kernel
theorem exp_ii : (valB (feExp 251 31)).toNat = (pp - 1) / 4 := by decide +kernel
noncomputable def invC (x : Fe) : Fe := powC x (feExp 235 127)
theorem inv_fe {x : Fe} (hx : Ok5 x) : Ok5 (invC x) ∧ fe (invC x) = F.inv (fe x) := by
  obtain ⟨h1, h2⟩ := pow_fe hx (OkB_exp (lo := 235) (hi := 127) (by omega) (by omega))
  rw [exp_inv] at h2
  exact ⟨h1, h2⟩
noncomputable def addC : Fe → Fe → Fe := feAdd feCarry
noncomputable def subC : Fe → Fe → Fe := feSub feCarry
noncomputable def negC (x : Fe) : Fe := subC feZero x
noncomputable def eqC (x y : Fe) : Bool := eqV (feBytes x) (feBytes y)
noncomputable def oddC : Fe → Bool := feOdd feBytes
noncomputable def isZeroC (x : Fe) : Bool := eqC x feZero
noncomputable def sqrtC : Fe → Fe × Bool := rootFn powC feExp mulC (fun x => mulC x x) negC feSmall eqC oddC
noncomputable def ratioC : Fe → Fe → Fe × Bool := fun u v => (selN (isZeroC v) feZero (sqrtC (mulC u (invC v))).1, bif isZeroC v then isZeroC u else (sqrtC (mulC u (invC v))).2)
theorem neg_fe {x : Fe} (hx : Ok5 x) : Ok5 (negC x) ∧ fe (negC x) = -fe x := by
  obtain ⟨h1, h2⟩ := sub_fe zero_fe.1 hx
  refine ⟨h1, ?_⟩
  show fe (feSub feCarry feZero x) = _
  rw [h2, zero_fe.2]; grobner
theorem isZero_fe {x : Fe} (hx : Ok5 x) : isZeroC x = decide (fe x = 0) := by
  unfold isZeroC eqC; rw [equal_fe hx zero_fe.1, zero_fe.2]
theorem sqrt_fe {x : Fe} (hx : Ok5 x) : Ok5 (sqrtC x).1 ∧ fe (sqrtC x).1 = (rootOf (fe x)).1 ∧ (sqrtC x).2 = (rootOf (fe x)).2 := by
  obtain ⟨r1, r2⟩ := pow_fe hx (OkB_exp (lo := 254) (hi := 15) (by omega) (by omega))
  rw [exp_root] at r2
  obtain ⟨t1, t2⟩ := small_fe (n := 2) ⟨by decide, by decide⟩
  obtain ⟨i1, i2⟩ := pow_fe t1 (OkB_exp (lo := 251) (hi := 31) (by omega) (by omega))
  have t3 : toF 2 = 2 := by decide +kernel
  rw [exp_ii, t2, t3] at i2
  unfold sqrtC rootFn
  simp only [selN_self]
  obtain ⟨s1, s2⟩ := square_fe r1
  obtain ⟨m1, m2⟩ := mul_fe r1 i1
  have q1 : eqC (mulC (powC x (feExp 254 15)) (powC x (feExp 254 15))) x = decide (F.pow (fe x) ((pp + 3) / 8) * F.pow (fe x) ((pp + 3) / 8) = fe x) := by
    unfold eqC; rw [equal_fe s1 hx, s2, r2]
  generalize hR : selN (!eqC (mulC (powC x (feExp 254 15)) (powC x (feExp 254 15))) x) (mulC (powC x (feExp 254 15)) (powC (feSmall 2) (feExp 251 31))) (powC x (feExp 254 15)) = R
  have hR1 : Ok5 R ∧ fe R = if F.pow (fe x) ((pp + 3) / 8) * F.pow (fe x) ((pp + 3) / 8) = fe x then F.pow (fe x) ((pp + 3) / 8) else F.pow (fe x) ((pp + 3) / 8) * F.pow 2 ((pp - 1) / 4) := by
    rw [← hR, q1, selN_eq]
    by_cases hq : F.pow (fe x) ((pp + 3) / 8) * F.pow (fe x) ((pp + 3) / 8) = fe x
    · rw [decide_eq_true hq, if_pos hq]; exact ⟨r1, r2⟩
    · rw [decide_eq_false hq, if_neg hq]; exact ⟨m1, by show fe (mulC _ _) = _; rw [m2, r2, i2]⟩
  obtain ⟨hR1, hR2⟩ := hR1
  obtain ⟨u1, u2⟩ := square_fe hR1
  have q2 : eqC (mulC R R) x = decide (fe R * fe R = fe x) := by unfold eqC; rw [equal_fe u1 hx, u2]
  obtain ⟨n1, n2⟩ := neg_fe hR1
  have ho : oddC R = decide ((fe R).val % 2 = 1) := odd_fe hR1
  rw [q2, ho, selN_eq, selN_eq]
  have hroot : rootOf (fe x) = if fe R * fe R = fe x then (if (fe R).val % 2 = 1 then -fe R else fe R, true) else (0, false) := by
    unfold rootOf; rw [hR2]
  rw [hroot]
  by_cases h1 : fe R * fe R = fe x
  · rw [decide_eq_true h1, if_pos h1]
    by_cases h2 : (fe R).val % 2 = 1
    · rw [decide_eq_true h2, if_pos h2]; exact ⟨n1, n2, rfl⟩
    · rw [decide_eq_false h2, if_neg h2]; exact ⟨hR1, rfl, rfl⟩
  · rw [decide_eq_false h1, if_neg h1]; exact ⟨zero_fe.1, zero_fe.2, rfl⟩
end Go.Proofs.YthdfifcgobfgdaaGreat
namespace Go.Proofs.YthdfifcgobfgdaaGreat
open Go Go.Ev BJ
theorem ratio_core (bv bu : Bool) (fu : F) (z : Fe × Bool) (y : F × Bool) (v : F) (hz1 : bv = decide (v = 0)) (hz2 : bu = decide (fu = 0)) (s1 : Ok5 z.1) (s2 : fe z.1 = y.1) (s3 : z.2 = y.2) :
    Ok5 (selN bv feZero z.1) ∧ fe (selN bv feZero z.1) = (if v = 0 then ((0 : F), decide (fu = 0)) else y).1 ∧ (bif bv then bu else z.2) = (if v = 0 then ((0 : F), decide (fu = 0)) else y).2 := by
  rw [selN_eq]
  by_cases h : v = 0
  · rw [if_pos h, hz1, decide_eq_true h]; exact ⟨zero_fe.1, zero_fe.2, hz2⟩
  · rw [if_neg h, hz1, decide_eq_false h]; exact ⟨s1, s2, s3⟩
theorem ratio_fe {u v : Fe} (hu : Ok5 u) (hv : Ok5 v) : Ok5 (ratioC u v).1 ∧ fe (ratioC u v).1 = (ratioOf (fe u) (fe v)).1 ∧ (ratioC u v).2 = (ratioOf (fe u) (fe v)).2 := by
  have hi := inv_fe hv
  have hm := mul_fe hu hi.1
  have hs := sqrt_fe hm.1
  have e : fe (mulOut mulFn add64 feCarry u (invC v)) = fe u * F.inv (fe v) := hm.2.trans (by rw [hi.2])
  rw [e] at hs
  exact ratio_core _ _ (fe u) _ _ (fe v) (isZero_fe hv) (isZero_fe hu) hs.1 hs.2.1 hs.2.2
end Go.Proofs.YthdfifcgobfgdaaGreat
namespace BJ
abbrev E4 := F × F × F × F
def affE (x y : F) : E4 := (x, y, 1, x * y)
def zeroE : E4 := affE 0 1
def addE (p q : E4) : E4 :=
  let a := (p.2.1 - p.1) * (q.2.1 - q.1)
  let b := (p.2.1 + p.1) * (q.2.1 + q.1)
  let c := p.2.2.2 * q.2.2.2 * dd + p.2.2.2 * q.2.2.2 * dd
  let d := p.2.2.1 * q.2.2.1 + p.2.2.1 * q.2.2.1
  ((b - a) * (d - c), (d + c) * (b + a), (d - c) * (d + c), (b - a) * (b + a))
def negE (p : E4) : E4 := (-p.1, p.2.1, p.2.2.1, -p.2.2.2)
def xOfE (y : F) : F × Bool := ratioOf (y * y - 1) (dd * (y * y) + 1)
def baseE : E4 := affE (xOfE (4 * F.inv 5)).1 (4 * F.inv 5)
end BJ
namespace Go.Proofs.YthdfifcgobfgdaaGreat
open Go Go.Ev BJ
def Ok4 (p : Pt) : Prop := Ok5 p.2.1 ∧ Ok5 p.2.2.1 ∧ Ok5 p.2.2.2.1 ∧ Ok5 p.2.2.2.2
def OkPt (p : Pt) : Prop := p.1 = true → Ok4 p
noncomputable def ptF (p : Pt) : E4 := (fe p.2.1, fe p.2.2.1, fe p.2.2.2.1, fe p.2.2.2.2)
noncomputable def ptE (p : Pt) : E4 := if p.1 = true then ptF p else zeroE
noncomputable def edgeC : Fe := feFrom edgeBytes
theorem edge_fe : Ok5 edgeC ∧ fe edgeC = dd := by
  have hb : OkB edgeBytes := by simp [edgeBytes, OkB]
  obtain ⟨h1, h2⟩ := from_fe hb
  refine ⟨h1, h2.trans ?_⟩
  decide +kernel
noncomputable def affineC : Fe → Fe → Pt := affineFn mulC feSmall
theorem one_fe : Ok5 (feSmall 1) ∧ fe (feSmall 1) = 1 := by
  obtain ⟨h1, h2⟩ := small_fe (n := 1) ⟨by decide, by decide⟩
  exact ⟨h1, h2.trans toF_one⟩
theorem affine_pt {x y : Fe} (hx : Ok5 x) (hy : Ok5 y) : (affineC x y).1 = true ∧ Ok4 (affineC x y) ∧ ptF (affineC x y) = affE (fe x) (fe y) := by
  obtain ⟨m1, m2⟩ := mul_fe hx hy
  obtain ⟨o1, o2⟩ := one_fe
  refine ⟨rfl, ⟨hx, hy, o1, m1⟩, ?_⟩
  show (fe x, fe y, fe (feSmall 1), fe (mulC x y)) = _
  rw [o2, m2]; rfl
noncomputable def zeroC : Pt := affineC feZero (feSmall 1)
theorem zero_pt : zeroC.1 = true ∧ Ok4 zeroC ∧ ptF zeroC = zeroE := by
  obtain ⟨h1, h2, h3⟩ := affine_pt zero_fe.1 one_fe.1
  refine ⟨h1, h2, h3.trans ?_⟩
  rw [zero_fe.2, one_fe.2]; rfl
noncomputable def ownC : Pt → Pt := ownFn zeroC
theorem own_pt {p : Pt} (h : OkPt p) : (ownC p).1 = true ∧ Ok4 (ownC p) ∧ ptF (ownC p) = ptE p := by
  unfold ownC ownFn
  rw [selPt_eq]
  unfold ptE
  cases hp : p.1 with
  | false => simp only [Bool.not_false, cond_true, Bool.false_eq_true, if_false]; exact zero_pt
  | true => simp only [Bool.not_true, cond_false, if_true]; exact ⟨hp, h hp, trivial⟩
theorem ok_of {p : Pt} (h1 : p.1 = true) (h2 : Ok4 p) : OkPt p ∧ ptE p = ptF p := ⟨fun _ => h2, if_pos h1⟩
noncomputable def crossC : Fe → Fe → Fe → Fe → Pt := crossFn mulC
noncomputable def addPC : Pt → Pt → Pt := addFn mulC addC subC edgeC ownC crossC
theorem addC_fe {x y : Fe} (hx : Ok5 x) (hy : Ok5 y) : Ok5 (addC x y) ∧ fe (addC x y) = fe x + fe y := add_fe hx hy
theorem subC_fe {x y : Fe} (hx : Ok5 x) (hy : Ok5 y) : Ok5 (subC x y) ∧ fe (subC x y) = fe x - fe y := sub_fe hx hy
theorem mulC_fe {x y : Fe} (hx : Ok5 x) (hy : Ok5 y) : Ok5 (mulC x y) ∧ fe (mulC x y) = fe x * fe y := mul_fe hx hy
theorem cross_pt {e f g h : Fe} (he : Ok5 e) (hf : Ok5 f) (hg : Ok5 g) (hh : Ok5 h) : (crossC e f g h).1 = true ∧ Ok4 (crossC e f g h) ∧ ptF (crossC e f g h) = (fe e * fe f, fe g * fe h, fe f * fe g, fe e * fe h) := by
  obtain ⟨a1, a2⟩ := mulC_fe he hf
  obtain ⟨b1, b2⟩ := mulC_fe hg hh
  obtain ⟨c1, c2⟩ := mulC_fe hf hg
  obtain ⟨d1, d2⟩ := mulC_fe he hh
  refine ⟨rfl, ⟨a1, b1, c1, d1⟩, ?_⟩
  show (fe (mulC e f), fe (mulC g h), fe (mulC f g), fe (mulC e h)) = _
  rw [a2, b2, c2, d2]
theorem add_core {p q : Pt} (hp : Ok4 p) (hq : Ok4 q) :
    let r := crossC (subC (mulC (addC p.2.2.1 p.2.1) (addC q.2.2.1 q.2.1)) (mulC (subC p.2.2.1 p.2.1) (subC q.2.2.1 q.2.1)))
      (subC (addC (mulC p.2.2.2.1 q.2.2.2.1) (mulC p.2.2.2.1 q.2.2.2.1)) (addC (mulC (mulC p.2.2.2.2 q.2.2.2.2) edgeC) (mulC (mulC p.2.2.2.2 q.2.2.2.2) edgeC)))
      (addC (addC (mulC p.2.2.2.1 q.2.2.2.1) (mulC p.2.2.2.1 q.2.2.2.1)) (addC (mulC (mulC p.2.2.2.2 q.2.2.2.2) edgeC) (mulC (mulC p.2.2.2.2 q.2.2.2.2) edgeC)))
      (addC (mulC (addC p.2.2.1 p.2.1) (addC q.2.2.1 q.2.1)) (mulC (subC p.2.2.1 p.2.1) (subC q.2.2.1 q.2.1)))
    r.1 = true ∧ Ok4 r ∧ ptF r = addE (ptF p) (ptF q) := by
  obtain ⟨px, py, pz, pt⟩ := hp
  obtain ⟨qx, qy, qz, qt⟩ := hq
  have a1 := subC_fe py px
  have a2 := subC_fe qy qx
  have a := mulC_fe a1.1 a2.1
  have b1 := addC_fe py px
  have b2 := addC_fe qy qx
  have b := mulC_fe b1.1 b2.1
  have c1 := mulC_fe pt qt
  have c2 := mulC_fe c1.1 edge_fe.1
  have c := addC_fe c2.1 c2.1
  have d1 := mulC_fe pz qz
  have d := addC_fe d1.1 d1.1
  have e := subC_fe b.1 a.1
  have f := subC_fe d.1 c.1
  have g := addC_fe d.1 c.1
  have h := addC_fe b.1 a.1
  obtain ⟨r1, r2, r3⟩ := cross_pt e.1 f.1 g.1 h.1
  refine ⟨r1, r2, r3.trans ?_⟩
  rw [e.2, f.2, g.2, h.2, d.2, c.2, b.2, a.2, d1.2, c2.2, c1.2, b1.2, b2.2, a1.2, a2.2, edge_fe.2]
  rfl
theorem add_pt {p q : Pt} (hp : OkPt p) (hq : OkPt q) : OkPt (addPC p q) ∧ (addPC p q).1 = true ∧ ptE (addPC p q) = addE (ptE p) (ptE q) := by
  obtain ⟨p1, p2, p3⟩ := own_pt hp
  obtain ⟨q1, q2, q3⟩ := own_pt hq
  obtain ⟨r1, r2, r3⟩ := add_core p2 q2
  rw [p3, q3] at r3
  obtain ⟨s1, s2⟩ := ok_of r1 r2
  exact ⟨s1, r1, s2.trans r3⟩
noncomputable def negPC : Pt → Pt := negFn negC ownC
theorem neg_pt {p : Pt} (hp : OkPt p) : OkPt (negPC p) ∧ (negPC p).1 = true ∧ ptE (negPC p) = negE (ptE p) := by
  obtain ⟨p1, p2, p3⟩ := own_pt hp
  obtain ⟨n1, n2⟩ := neg_fe p2.1
  obtain ⟨m1, m2⟩ := neg_fe p2.2.2.2
  have h1 : (negPC p).1 = true := p1
  have h2 : Ok4 (negPC p) := ⟨n1, p2.2.1, p2.2.2.1, m1⟩
  obtain ⟨s1, s2⟩ := ok_of h1 h2
  refine ⟨s1, h1, s2.trans ?_⟩
  rw [← p3]
  show (fe (negC _), fe _, fe _, fe (negC _)) = _
  rw [n2, m2]; rfl
end Go.Proofs.YthdfifcgobfgdaaGreat
namespace Go.Proofs.YthdfifcgobfgdaaGreat
open Go Go.Ev BJ
noncomputable def topSet (b : B32) : B32 := Vec.upd (fun x => x + 128) 31 b
noncomputable def encE (p : E4) : B32 := if (p.1 * F.inv p.2.2.1).val % 2 = 1 then topSet (bytesF (p.2.1 * F.inv p.2.2.1)) else bytesF (p.2.1 * F.inv p.2.2.1)
abbrev p2255 : Int := 57896044618658097711785492504343953926634992332820282019728792003956564819968
noncomputable def decE (b : B32) : E4 × Bool :=
  let y := toF (valB b % p2255)
  let x := (xOfE y).1
  if (xOfE y).2 = true ∧ valB b % p2255 < (pp : Int) ∧ ¬ (128 ≤ b.get 31 ∧ x = 0) then (affE (if 128 ≤ b.get 31 then -x else x) y, true) else (zeroE, false)
theorem upd_congr {f g : Int → Int} : ∀ {n i : Nat} {v : Vec Int n}, f (v.get i) = g (v.get i) → Vec.upd f i v = Vec.upd g i v
  | 0, _, _, _ => rfl
  | n + 1, 0, v, h => by
    show (f v.1, v.2) = (g v.1, v.2)
    rw [show f v.1 = g v.1 from h]
  | n + 1, i + 1, v, h => by
    show (v.1, Vec.upd f i v.2) = (v.1, Vec.upd g i v.2)
    rw [upd_congr (n := n) (i := i) (v := v.2) h]
theorem bytes_top (a : F) : 0 ≤ (bytesF a).get 31 ∧ (bytesF a).get 31 < 128 := by
  obtain ⟨h1, h2⟩ := bytesF_val a
  rw [get_val h1 (by decide), h2, p255]
  have := a.isLt
  simp only [pp] at this
  omega
noncomputable def rootC : Fe → Fe × Bool := fun y => ratioC (subC (mulC y y) (feSmall 1)) (addC (mulC edgeC (mulC y y)) (feSmall 1))
theorem root_fe {y : Fe} (hy : Ok5 y) : Ok5 (rootC y).1 ∧ fe (rootC y).1 = (xOfE (fe y)).1 ∧ (rootC y).2 = (xOfE (fe y)).2 := by
  have s := mulC_fe hy hy
  have a := subC_fe s.1 one_fe.1
  have m := mulC_fe edge_fe.1 s.1
  have b := addC_fe m.1 one_fe.1
  have r := ratio_fe a.1 b.1
  have e1 : fe (subC (mulC y y) (feSmall 1)) = fe y * fe y - 1 := by rw [a.2, s.2, one_fe.2]
  have e2 : fe (addC (mulC edgeC (mulC y y)) (feSmall 1)) = dd * (fe y * fe y) + 1 := by rw [b.2, m.2, s.2, one_fe.2, edge_fe.2]
  rw [e1, e2] at r
  exact r
noncomputable def baseC : Pt := affineC (rootC (mulC (feSmall 4) (invC (feSmall 5)))).1 (mulC (feSmall 4) (invC (feSmall 5)))
theorem t4 : toF 4 = 4 := by decide +kernel
theorem t5 : toF 5 = 5 := by decide +kernel
theorem base_pt : baseC.1 = true ∧ Ok4 baseC ∧ ptF baseC = baseE := by
  have h4 := small_fe (n := 4) ⟨by decide, by decide⟩
  have h5 := small_fe (n := 5) ⟨by decide, by decide⟩
  have i := inv_fe h5.1
  have m := mulC_fe h4.1 i.1
  have r := root_fe m.1
  have e : fe (mulC (feSmall 4) (invC (feSmall 5))) = 4 * F.inv 5 := by rw [m.2, i.2, h4.2, h5.2, t4, t5]
  have a := affine_pt r.1 m.1
  refine ⟨a.1, a.2.1, a.2.2.trans ?_⟩
  rw [r.2.1, e]; rfl
noncomputable def placeC : Pt → Fe × Fe := placeFn mulC invC ownC
noncomputable def encodeC : Pt → B32 := encodeFn oddC feBytes placeC
theorem selN_dec {n : Nat} {p : Prop} [Decidable p] (v u : Vec Int n) : selN (decide p) v u = if p then v else u := selN_ite rfl v u
theorem encode_pt {p : Pt} (hp : OkPt p) : encodeC p = encE (ptE p) := by
  obtain ⟨p1, p2, p3⟩ := own_pt hp
  have i := inv_fe p2.2.2.1
  have x := mulC_fe p2.1 i.1
  have y := mulC_fe p2.2.1 i.1
  unfold encodeC encodeFn
  have ex : (placeC p).1 = mulC (ownC p).2.1 (invC (ownC p).2.2.2.1) := rfl
  have ey : (placeC p).2 = mulC (ownC p).2.2.1 (invC (ownC p).2.2.2.1) := rfl
  simp only [ex, ey]
  have ho : oddC (mulC (ownC p).2.1 (invC (ownC p).2.2.2.1)) = decide ((fe (mulC (ownC p).2.1 (invC (ownC p).2.2.2.1))).val % 2 = 1) := odd_fe x.1
  rw [ho, selN_dec, bytes_fe y.1, x.2, y.2, i.2]
  have hb := bytes_top (fe (ownC p).2.2.1 * F.inv (fe (ownC p).2.2.2.1))
  have hu : Vec.upd (fun x => bitOr .u8 x 128) 31 (bytesF (fe (ownC p).2.2.1 * F.inv (fe (ownC p).2.2.2.1))) = topSet (bytesF (fe (ownC p).2.2.1 * F.inv (fe (ownC p).2.2.2.1))) := by
    refine upd_congr ?_
    generalize Vec.get (bytesF (fe (ownC p).2.2.1 * F.inv (fe (ownC p).2.2.2.1))) 31 = z at *
    show bitOr .u8 z 128 = z + 128
    rw [or_comm', or_u8 (m := 7) (by omega) (by decide) hb.1 (by omega) (by omega)]; omega
  rw [hu, ← p3]; rfl
theorem topBit_val {b : B32} (h : OkB b) : topBit b = decide (128 ≤ b.get 31) := by
  obtain ⟨h1, h2⟩ := get_byte h (i := 31) (by decide)
  unfold topBit
  generalize b.get 31 = x at *
  have key : ∀ k : Fin 256, (bitAnd .u8 (k.val : Int) 128 != 0) = decide ((128 : Int) ≤ (k.val : Int)) := by decide +kernel
  obtain ⟨k, rfl⟩ := Int.eq_ofNat_of_zero_le h1
  exact key ⟨k, by omega⟩
noncomputable def canonicalC (b : B32) : Bool := eqV (feBytes (feFrom (clearTop b))) (clearTop b)
noncomputable def decodeC : B32 → Pt × Bool := decodeFn negC isZeroC feFrom canonicalC affineC rootC
theorem decode_pt {b : B32} (hb : OkB b) : OkPt (decodeC b).1 ∧ ptE (decodeC b).1 = (decE b).1 ∧ (decodeC b).2 = (decE b).2 := by
  obtain ⟨y1, y2⟩ := from_fe hb
  obtain ⟨x1, x2, x3⟩ := root_fe y1
  have hc : canonicalC b = decide (valB b % p2255 < (pp : Int)) := by unfold canonicalC; rw [canonical_fe hb, (clear_val hb).2]
  have ht := topBit_val hb
  have hz := isZero_fe x1
  obtain ⟨n1, n2⟩ := neg_fe x1
  rw [x2, y2] at hz n2
  rw [y2] at x2 x3
  have ha : ∀ (u : Fe), Ok5 u → (affineC u (feFrom b)).1 = true ∧ Ok4 (affineC u (feFrom b)) ∧ ptF (affineC u (feFrom b)) = affE (fe u) (toF (valB b % p2255)) := fun u hu => by
    have := affine_pt hu y1
    rw [y2] at this; exact this
  have hbad : ∀ (ok c t z : Bool), (bif (!ok) == false then bif (!c) == false then bif t == true then z else false else true else true) = !(ok && c && !(t && z)) := by decide
  have hnone : OkPt ptNone ∧ ptE ptNone = zeroE := ⟨fun h => by simp [ptNone] at h, rfl⟩
  unfold decodeC decodeFn decE
  simp only [selN_self, Bool.cond_self, hc, ht, hz, x3, hbad]
  generalize (xOfE (toF (valB b % p2255))).2 = ok at *
  generalize hX : (xOfE (toF (valB b % p2255))).1 = X at *
  have hg : (ok && decide (valB b % p2255 < (pp : Int)) && !(decide (128 ≤ b.get 31) && decide (X = 0))) = decide (ok = true ∧ valB b % p2255 < (pp : Int) ∧ ¬(128 ≤ b.get 31 ∧ X = 0)) := by
    cases ok
    · simp
    · by_cases h1 : valB b % p2255 < (pp : Int) <;> by_cases h2 : 128 ≤ b.get 31 <;> by_cases h3 : X = 0 <;> simp [h2, h3]
  rw [hg, selPt_eq, selN_dec]
  by_cases h : ok = true ∧ valB b % p2255 < (pp : Int) ∧ ¬(128 ≤ b.get 31 ∧ X = 0)
  · rw [decide_eq_true h, if_pos h]
    by_cases htop : 128 ≤ b.get 31
    · rw [if_pos htop, if_pos htop]
      obtain ⟨a1, a2, a3⟩ := ha _ n1
      obtain ⟨o1, o2⟩ := ok_of a1 a2
      exact ⟨o1, o2.trans (a3.trans (by rw [n2])), rfl⟩
    · rw [if_neg htop, if_neg htop]
      obtain ⟨a1, a2, a3⟩ := ha _ x1
      obtain ⟨o1, o2⟩ := ok_of a1 a2
      exact ⟨o1, o2.trans (a3.trans (by rw [x2])), rfl⟩
  · rw [decide_eq_false h, if_neg h]
    exact ⟨hnone.1, hnone.2, rfl⟩
def bitE (V : Nat) (i : Nat) : Bool := decide (V / 2 ^ i % 2 = 1)
noncomputable def stepE4 (V : Nat) (p : E4) (k : Nat) (r : E4) : E4 := if bitE V (255 - k) = true then addE (addE r r) p else addE r r
noncomputable def multE (V : Nat) (p : E4) : E4 := rnds (stepE4 V p) 256 zeroE
theorem bitFn_val {e : B32} (h : OkB e) {i : Nat} (hi : i < 256) : (bitFn e i == 1) = bitE (valB e).toNat i := by
  have h1 := bit_val h hi
  unfold bitU8 at h1
  unfold bitE bitFn
  rw [← h1]
  have e1 : shr .u8 (e.get (i / 8)) ((i % 8 : Nat) : Int) = e.get (i / 8) / (2 ^ (i % 8) : Nat) := shr_div .u8 _ _ (by show i % 8 ≤ 8; omega)
  rw [e1, and_u8 (m := 1) (by decide) _ 1 (by decide), wrap_i64 (by omega) (by omega)]
noncomputable def doubleC (p : Pt) : Pt := addPC p p
noncomputable def multC : B32 → Pt → Pt := multFn bitFn zeroC doubleC addPC
theorem mult_pt {n : B32} {p : Pt} (hn : OkB n) (hp : OkPt p) : OkPt (multC n p) ∧ ptE (multC n p) = multE (valB n).toNat (ptE p) := by
  have key : ∀ k, k ≤ 256 → OkPt (rnds (multStep bitFn doubleC addPC n p) k zeroC) ∧ ptE (rnds (multStep bitFn doubleC addPC n p) k zeroC) = rnds (stepE4 (valB n).toNat (ptE p)) k zeroE := by
    intro k
    induction k with
    | zero =>
      intro _
      obtain ⟨z1, z2, z3⟩ := zero_pt
      obtain ⟨o1, o2⟩ := ok_of z1 z2
      exact ⟨o1, o2.trans z3⟩
    | succ k ih =>
      intro hk
      obtain ⟨h1, h2⟩ := ih (by omega)
      show OkPt (multStep bitFn doubleC addPC n p k _) ∧ ptE (multStep bitFn doubleC addPC n p k _) = stepE4 _ _ k _
      rw [← h2]
      generalize rnds (multStep bitFn doubleC addPC n p) k zeroC = r at *
      obtain ⟨d1, _, d3⟩ := add_pt h1 h1
      obtain ⟨a1, _, a3⟩ := add_pt d1 hp
      unfold multStep stepE4
      rw [selPt_eq, bitFn_val hn (by omega)]
      cases bitE (valB n).toNat (255 - k)
      · exact ⟨d1, d3⟩
      · refine ⟨a1, ?_⟩
        rw [if_pos rfl, ← d3]; exact a3
  exact key 256 (by omega)
end Go.Proofs.YthdfifcgobfgdaaGreat
namespace Go.Proofs.YthdfifcgobfgdaaGreat
open Go Go.Ev BJ
theorem mulRun_needs (x y : Fe) : ∀ (l : List (Nat × Nat)) (r : List (Int × Int)), (∀ k, 0 ≤ (r.getD k (0, 0)).2 ∧ (r.getD k (0, 0)).2 < 18446744073709551616) → ∀ p ∈ (mulRun mulFn add64 x y l r).2, p
  | [], r, _, p, hp => by simp [mulRun] at hp
  | (i, j) :: l, r, hr, p, hp => by
    have hstep : (mulRun mulFn add64 x y ((i, j) :: l) r).2 = (0 ≤ (add64 (r.getD ((i + j) % 5) (0, 0)).2 (mulFn (coef x i j) (y.get j)).2 0).2 ∧ (add64 (r.getD ((i + j) % 5) (0, 0)).2 (mulFn (coef x i j) (y.get j)).2 0).2 ≤ 1) ::
      (mulRun mulFn add64 x y l (r.set ((i + j) % 5) ((add64 (r.getD ((i + j) % 5) (0, 0)).1 (mulFn (coef x i j) (y.get j)).1 (add64 (r.getD ((i + j) % 5) (0, 0)).2 (mulFn (coef x i j) (y.get j)).2 0).2).1, (add64 (r.getD ((i + j) % 5) (0, 0)).2 (mulFn (coef x i j) (y.get j)).2 0).1))).2 := rfl
    rw [hstep] at hp
    have h0 := hr ((i + j) % 5)
    generalize (r.getD ((i + j) % 5) (0, 0)) = q at *
    have hm : 0 ≤ (mulFn (coef x i j) (y.get j)).2 ∧ (mulFn (coef x i j) (y.get j)).2 < 18446744073709551616 := by
      show 0 ≤ w64 (coef x i j * y.get j) ∧ w64 (coef x i j * y.get j) < 18446744073709551616
      unfold w64; rw [wrap_u64']; omega
    have hs := add64_val h0.1 hm.1 (c := 0) (by omega)
    rcases List.mem_cons.1 hp with rfl | hp
    · rw [hs]
      show 0 ≤ (q.2 + (mulFn (coef x i j) (y.get j)).2 + 0) / 18446744073709551616 ∧ (q.2 + (mulFn (coef x i j) (y.get j)).2 + 0) / 18446744073709551616 ≤ 1
      omega
    · refine mulRun_needs x y l _ (fun k => ?_) p hp
      have hget : ∀ (v : Int × Int) (a k : Nat), (r.set a v).getD k (0, 0) = r.getD k (0, 0) ∨ (r.set a v).getD k (0, 0) = v := by
        intro v a k
        simp only [List.getD_eq_getElem?_getD, List.getElem?_set]
        split
        · split
          · exact .inr rfl
          · rename_i e h; subst e; left; rw [List.getElem?_eq_none (by omega)]
        · exact .inl rfl
      rcases hget _ ((i + j) % 5) k with e | e
      · rw [e]; exact hr k
      · rw [e, hs]
        show 0 ≤ (q.2 + (mulFn (coef x i j) (y.get j)).2 + 0) % 18446744073709551616 ∧ (q.2 + (mulFn (coef x i j) (y.get j)).2 + 0) % 18446744073709551616 < 18446744073709551616
        omega
noncomputable def leastC : Fe → Fe := feLeast feCarry
end Go.Proofs.YthdfifcgobfgdaaGreat
namespace Go.Proofs.YthdfifcgobfgdaaGreat
open Go Go.Ev BJ
end Go.Proofs.YthdfifcgobfgdaaGreat
namespace Go.Proofs.YthdfifcgobfgdaaGreat
open Go Go.Ev BJ
def valD : {n : Nat} → Vec Int n → Int
  | 0, _ => 0
  | _ + 1, v => v.1 + 65536 * valD v.2
def OkD : {n : Nat} → Vec Int n → Prop
  | 0, _ => True
  | _ + 1, v => (0 ≤ v.1 ∧ v.1 < 65536) ∧ OkD v.2
theorem valD_nonneg : {n : Nat} → {v : Vec Int n} → OkD v → 0 ≤ valD v
  | 0, _, _ => Int.le_refl _
  | n + 1, v, h => by have := valD_nonneg h.2; have := h.1; simp only [valD]; omega
theorem valD_lt : {n : Nat} → {v : Vec Int n} → OkD v → valD v < (65536 ^ n : Nat)
  | 0, _, _ => by simp [valD]
  | n + 1, v, h => by
    have h1 := valD_lt h.2
    have h2 := h.1
    simp only [valD]
    have e : (65536 ^ (n + 1) : Nat) = 65536 * 65536 ^ n := by rw [Nat.pow_succ, Nat.mul_comm]
    rw [e]
    generalize (65536 ^ n : Nat) = m at *
    omega
theorem valD_inj : {n : Nat} → {v u : Vec Int n} → OkD v → OkD u → valD v = valD u → v = u
  | 0, _, _, _, _, _ => rfl
  | n + 1, v, u, hv, hu, h => by
    simp only [valD] at h
    have h1 := hv.1
    have h2 := hu.1
    have e1 : v.1 = u.1 := by omega
    have e2 : valD v.2 = valD u.2 := by omega
    exact Prod.ext e1 (valD_inj hv.2 hu.2 e2)
def digD (n : Nat) (V : Int) : Vec Int n := Vec.ofFn n fun j => V / (65536 ^ j : Nat) % 65536
theorem digD_spec : (n : Nat) → (V : Int) → 0 ≤ V → OkD (digD n V) ∧ valD (digD n V) = V % (65536 ^ n : Nat)
  | 0, V, h => ⟨trivial, by simp [valD]⟩
  | n + 1, V, h => by
    have e : digD (n + 1) V = (V / (65536 ^ 0 : Nat) % 65536, digD n (V / 65536)) := by
      unfold digD
      show (_, Vec.ofFn n fun i => V / (65536 ^ (i + 1) : Nat) % 65536) = _
      have : (fun i : Nat => V / (65536 ^ (i + 1) : Nat) % 65536) = fun j : Nat => V / 65536 / (65536 ^ j : Nat) % 65536 := by
        funext j
        rw [Int.ediv_ediv_of_nonneg (by omega)]
        congr 2
        rw [Nat.pow_succ]; simp [Int.mul_comm]
      rw [this]
    rw [e]
    obtain ⟨h1, h2⟩ := digD_spec n (V / 65536) (by omega)
    refine ⟨⟨by simp only [Nat.pow_zero]; omega, h1⟩, ?_⟩
    show V / (65536 ^ 0 : Nat) % 65536 + 65536 * valD (digD n (V / 65536)) = _
    rw [h2]
    have e2 : (65536 ^ (n + 1) : Nat) = 65536 * 65536 ^ n := by rw [Nat.pow_succ, Nat.mul_comm]
    rw [e2]
    generalize hm : (65536 ^ n : Nat) = m
    have hm0 : 0 < (m : Int) := by have := Nat.pow_pos (n := n) (show 0 < 65536 by decide); omega
    have h3 := Int.emod_nonneg (V / 65536) (b := (m : Int)) (by omega)
    have h4 := Int.emod_lt_of_pos (V / 65536) hm0
    have h5 := Int.emod_add_mul_ediv (V / 65536) (m : Int)
    have h6 : V = (V % 65536 + 65536 * (V / 65536 % m)) + ((65536 * m : Nat) : Int) * (V / 65536 / m) := by
      rw [Int.natCast_mul, Int.mul_assoc]
      generalize (m : Int) * (V / 65536 / m) = z at *
      omega
    rw [Nat.pow_zero]
    have h7 : V % ((65536 * m : Nat) : Int) = V % 65536 + 65536 * (V / 65536 % m) := by
      conv => lhs; rw [h6]
      rw [Int.add_mul_emod_self_left]
      exact Int.emod_eq_of_lt (by omega) (by rw [Int.natCast_mul]; omega)
    rw [h7]; omega
theorem digD_valD {n : Nat} {v : Vec Int n} (h : OkD v) : digD n (valD v) = v := by
  obtain ⟨h1, h2⟩ := digD_spec n (valD v) (valD_nonneg h)
  exact valD_inj h1 h (by rw [h2, Int.emod_eq_of_lt (valD_nonneg h) (valD_lt h)])
theorem get_valD {n : Nat} {v : Vec Int n} (h : OkD v) {i : Nat} (hi : i < n) : v.get i = valD v / (65536 ^ i : Nat) % 65536 := by
  conv => lhs; rw [← digD_valD h]
  unfold digD
  rw [get_ofFn hi]
theorem get_digit {n : Nat} {v : Vec Int n} (h : OkD v) {i : Nat} (hi : i < n) : 0 ≤ v.get i ∧ v.get i < 65536 := by
  rw [get_valD h hi]; omega
def Bd (B : Int) : {n : Nat} → Vec Int n → Prop
  | 0, _ => True
  | _ + 1, v => (-B ≤ v.1 ∧ v.1 ≤ B) ∧ Bd B v.2
def lowD : {n : Nat} → Vec Int (n + 1) → Int
  | 0, _ => 0
  | _ + 1, v => v.1 + 65536 * lowD v.2
def OkLow : {n : Nat} → Vec Int (n + 1) → Prop
  | 0, _ => True
  | _ + 1, v => (0 ≤ v.1 ∧ v.1 < 65536) ∧ OkLow v.2
theorem low_last : {n : Nat} → (v : Vec Int (n + 1)) → valD v = lowD v + (65536 ^ n : Nat) * v.get n
  | 0, v => by simp [valD, lowD, Vec.get]
  | n + 1, v => by
    have h := low_last v.2
    show v.1 + 65536 * valD v.2 = v.1 + 65536 * lowD v.2 + (65536 ^ (n + 1) : Nat) * Vec.get v.2 n
    rw [h]
    have e : (65536 ^ (n + 1) : Nat) = 65536 * 65536 ^ n := by rw [Nat.pow_succ, Nat.mul_comm]
    rw [e, Int.natCast_mul, Int.mul_add, Int.mul_assoc]
    generalize ((65536 ^ n : Nat) : Int) * Vec.get v.2 n = z
    omega
theorem low_range : {n : Nat} → {v : Vec Int (n + 1)} → OkLow v → 0 ≤ lowD v ∧ lowD v < (65536 ^ n : Nat)
  | 0, _, _ => by simp [lowD]
  | n + 1, v, h => by
    obtain ⟨h1, h2⟩ := low_range h.2
    have h3 := h.1
    have e : (65536 ^ (n + 1) : Nat) = 65536 * 65536 ^ n := by rw [Nat.pow_succ, Nat.mul_comm]
    rw [e]
    generalize (65536 ^ n : Nat) = m at *
    simp only [lowD]
    omega
theorem okD_of_low : {n : Nat} → {v : Vec Int (n + 1)} → OkLow v → (0 ≤ v.get n ∧ v.get n < 65536) → OkD v
  | 0, _, _, h => ⟨h, trivial⟩
  | _ + 1, _, h, h' => ⟨h.1, okD_of_low h.2 h'⟩
theorem low_16 (x : Int) : lowBits x 65535 = x % 65536 := and_i64 (m := 16) (by decide) x 65535 (by decide)
theorem down_16 (x : Int) : down x 16 = x / 65536 := shr_div .i64 x 16 (by decide)
theorem low_15 (x : Int) : lowBits x 32767 = x % 32768 := and_i64 (m := 15) (by decide) x 32767 (by decide)
theorem down_15 (x : Int) : down x 15 = x / 32768 := shr_div .i64 x 15 (by decide)
theorem w_id {x : Int} (h0 : -9223372036854775808 ≤ x) (h1 : x < 9223372036854775808) : w x = x := wrap_i64 h0 h1
theorem carried_spec : {n : Nat} → (x : Int) → (v : Vec Int n) → (-(70368744177664 + 2147483648) ≤ x ∧ x ≤ 70368744177664 + 2147483648) → Bd 70368744177664 v → valD (carried9 x v) = x + 65536 * valD v ∧ OkLow (carried9 x v)
  | 0, x, v, _, _ => ⟨by simp [carried9, valD], trivial⟩
  | n + 1, x, v, hx, hv => by
    have h1 := hv.1
    have hw : w (v.1 + down x 16) = v.1 + x / 65536 := by rw [down_16]; exact w_id (by omega) (by omega)
    obtain ⟨e1, e2⟩ := carried_spec (n := n) (v.1 + x / 65536) v.2 (by omega) hv.2
    show lowBits x 65535 + 65536 * valD (carried9 (w (v.1 + down x 16)) v.2) = x + 65536 * (v.1 + 65536 * valD v.2) ∧ ((0 ≤ lowBits x 65535 ∧ lowBits x 65535 < 65536) ∧ OkLow (carried9 (w (v.1 + down x 16)) v.2))
    rw [hw, e1, low_16]
    exact ⟨by omega, by omega, e2⟩
theorem p240 : (65536 ^ 15 : Nat) = 1766847064778384329583297500742918515827483896875618958121606201292619776 := by decide
theorem pass_spec {t : Fn} (h : Bd 70368744177664 t) : valD (pass9 t) = valD t ∧ OkLow (n := 15) (pass9 t) := by
  have h1 := h.1
  exact carried_spec (n := 15) t.1 t.2 (by omega) h.2
def foldV (V : Int) : Int := V % 57896044618658097711785492504343953926634992332820282019728792003956564819968 + 19 * (V / 57896044618658097711785492504343953926634992332820282019728792003956564819968)
theorem upd_low : {n : Nat} → (f : Int → Int) → (v : Vec Int (n + 1)) → valD (Vec.upd f n v) = valD v + (65536 ^ n : Nat) * (f (v.get n) - v.get n)
  | 0, f, v => by
    show f v.1 + 65536 * 0 = v.1 + 65536 * 0 + (65536 ^ 0 : Nat) * (f v.1 - v.1)
    rw [Nat.pow_zero]; omega
  | n + 1, f, v => by
    have h := upd_low f v.2
    show v.1 + 65536 * valD (Vec.upd f n v.2) = v.1 + 65536 * valD v.2 + (65536 ^ (n + 1) : Nat) * (f (Vec.get v.2 n) - Vec.get v.2 n)
    rw [h]
    have e : (65536 ^ (n + 1) : Nat) = 65536 * 65536 ^ n := by rw [Nat.pow_succ, Nat.mul_comm]
    rw [e, Int.natCast_mul, Int.mul_add, Int.mul_assoc]
    generalize ((65536 ^ n : Nat) : Int) * (f (Vec.get v.2 n) - Vec.get v.2 n) = z
    omega
theorem upd_bd {B : Int} : {n : Nat} → (f : Int → Int) → (v : Vec Int (n + 1)) → OkLow v → 65536 ≤ B → (-B ≤ f (v.get n) ∧ f (v.get n) ≤ B) → Bd B (Vec.upd f n v)
  | 0, _, _, _, _, h => ⟨h, trivial⟩
  | n + 1, f, v, hl, hB, h => ⟨by have := hl.1; show -B ≤ v.1 ∧ v.1 ≤ B; omega, upd_bd f v.2 hl.2 hB h⟩
theorem fold_num {V low L : Int} (e3 : V = low + (1766847064778384329583297500742918515827483896875618958121606201292619776 : Nat) * L) (e4 : 0 ≤ low) (e5 : low < (1766847064778384329583297500742918515827483896875618958121606201292619776 : Nat)) (h0 : 0 ≤ V) (h1 : V < 31828687130226345097944463881396533766429193651030253916189694521162207808802136034115584) :
    (0 ≤ L ∧ L < 18014398509481984) ∧ V + (1766847064778384329583297500742918515827483896875618958121606201292619776 : Nat) * (L % 32768 - L) + 19 * (L / 32768) = foldV V := by
  unfold foldV
  omega
theorem fold_val (r : Fn) (L : Int) (hL : Vec.get (n := 16) r 15 = L) (h0 : 0 ≤ L) (h1 : L < 18014398509481984) (hd : 0 ≤ r.1 ∧ r.1 < 65536) (hl : OkLow (n := 15) r) :
    Bd 70368744177664 (fold9 r) ∧ valD (fold9 r) = valD r + (1766847064778384329583297500742918515827483896875618958121606201292619776 : Nat) * (L % 32768 - L) + 19 * (L / 32768) := by
  have hu := upd_low (n := 15) (fun x => lowBits x 32767) r
  have hb := upd_bd (n := 15) (B := 70368744177664) (fun x => lowBits x 32767) r hl (by decide) (by
    show -70368744177664 ≤ lowBits (Vec.get (n := 16) r 15) 32767 ∧ lowBits (Vec.get (n := 16) r 15) 32767 ≤ 70368744177664
    rw [low_15]; omega)
  rw [hL, p240] at hu
  have hu' : valD (Vec.upd (n := 16) (fun x => lowBits x 32767) 15 r) = valD r + (1766847064778384329583297500742918515827483896875618958121606201292619776 : Nat) * (L % 32768 - L) := by rw [← low_15 L]; exact hu
  have hw1 : w (19 * down L 15) = 19 * (L / 32768) := by rw [down_15]; exact w_id (by omega) (by omega)
  have hw2 : w (r.1 + w (19 * down L 15)) = r.1 + 19 * (L / 32768) := by rw [hw1]; exact w_id (by omega) (by omega)
  have hf : fold9 r = (w (r.1 + w (19 * down (r.get 15) 15)), (Vec.upd (fun x => lowBits x 32767) 15 r).2) := rfl
  have hs : (Vec.upd (fun x => lowBits x 32767) 15 r) = (r.1, (Vec.upd (fun x => lowBits x 32767) 15 r).2) := rfl
  rw [hf, hL, hw2]
  rw [hs] at hb hu'
  generalize (Vec.upd (fun x => lowBits x 32767) 15 r).2 = z at *
  have e1 : valD (n := 16) (r.1, z) = r.1 + 65536 * valD z := rfl
  have e2 : valD (n := 16) (r.1 + 19 * (L / 32768), z) = r.1 + 19 * (L / 32768) + 65536 * valD z := rfl
  rw [e1] at hu'
  rw [e2]
  exact ⟨⟨by show -70368744177664 ≤ r.1 + 19 * (L / 32768) ∧ r.1 + 19 * (L / 32768) ≤ 70368744177664; omega, hb.2⟩, by omega⟩
theorem step_spec {t : Fn} (h : Bd 70368744177664 t) (h0 : 0 ≤ valD t) (h1 : valD t < 31828687130226345097944463881396533766429193651030253916189694521162207808802136034115584) : Bd 70368744177664 (fold9 (pass9 t)) ∧ valD (fold9 (pass9 t)) = foldV (valD t) := by
  obtain ⟨e1, e2⟩ := pass_spec h
  have e3 := low_last (n := 15) (pass9 t)
  obtain ⟨e4, e5⟩ := low_range (n := 15) e2
  rw [p240] at e3 e5
  rw [e1] at e3
  obtain ⟨⟨n1, n2⟩, n3⟩ := fold_num e3 e4 e5 h0 h1
  obtain ⟨f1, f2⟩ := fold_val (pass9 t) _ rfl n1 n2 e2.1 e2
  exact ⟨f1, f2.trans (by rw [e1]; exact n3)⟩
def valK : Nat → {n : Nat} → Vec Int n → Int
  | 0, _, _ => 0
  | k + 1, _, v => valK k v + (65536 ^ k : Nat) * v.get k
theorem valK_range {n : Nat} {v : Vec Int n} (h : OkD v) : ∀ k, k ≤ n → 0 ≤ valK k v ∧ valK k v < (65536 ^ k : Nat)
  | 0, _ => by simp [valK]
  | k + 1, hk => by
    obtain ⟨h1, h2⟩ := valK_range h k (by omega)
    obtain ⟨h3, h4⟩ := get_digit h (i := k) (by omega)
    have e : (65536 ^ (k + 1) : Nat) = 65536 * 65536 ^ k := by rw [Nat.pow_succ, Nat.mul_comm]
    have e0 : valK (k + 1) v = valK k v + (65536 ^ k : Nat) * v.get k := rfl
    rw [e, e0]
    obtain ⟨m, hm⟩ : ∃ m : Nat, m = 65536 ^ k := ⟨_, rfl⟩
    rw [← hm] at h2 ⊢
    clear hm e e0
    generalize v.get k = d at *
    have h5 : (m : Int) * d ≤ m * 65535 := Int.mul_le_mul_of_nonneg_left (by omega) (by omega)
    have h6 : 0 ≤ (m : Int) * d := Int.mul_nonneg (by omega) h3
    omega
theorem below_val {a b : Fn} (ha : OkD a) (hb : OkD b) : ∀ k, k ≤ 16 → belowAt a b k = decide (valK k a < valK k b)
  | 0, _ => by simp [belowAt, valK]
  | k + 1, hk => by
    have ih := below_val ha hb k (by omega)
    obtain ⟨a1, a2⟩ := valK_range ha k (by omega)
    obtain ⟨b1, b2⟩ := valK_range hb k (by omega)
    have e0 : valK (k + 1) a = valK k a + (65536 ^ k : Nat) * a.get k := rfl
    have e1 : valK (k + 1) b = valK k b + (65536 ^ k : Nat) * b.get k := rfl
    have e2 : belowAt a b (k + 1) = bif a.get k != b.get k then decide (a.get k < b.get k) else belowAt a b k := rfl
    rw [e0, e1, e2, ih]
    obtain ⟨m, hm⟩ : ∃ m : Nat, m = 65536 ^ k := ⟨_, rfl⟩
    rw [← hm] at a2 b2 ⊢
    clear hm e0 e1 e2 ih
    generalize a.get k = x at *
    generalize b.get k = y at *
    by_cases hxy : x = y
    · subst hxy; simp
    · have : (x != y) = true := by simpa using hxy
      rw [this, cond_true]
      by_cases hlt : x < y
      · have h1 : (m : Int) * (x + 1) ≤ m * y := Int.mul_le_mul_of_nonneg_left (by omega) (by omega)
        rw [Int.mul_add] at h1
        rw [decide_eq_true hlt, decide_eq_true]; omega
      · have h1 : (m : Int) * (y + 1) ≤ m * x := Int.mul_le_mul_of_nonneg_left (by omega) (by omega)
        rw [Int.mul_add] at h1
        rw [decide_eq_false hlt, decide_eq_false]; omega
theorem valK_get : {n : Nat} → (v : Vec Int (n + 1)) → (k : Nat) → valK (k + 1) v = v.1 + 65536 * valK k v.2
  | _, v, 0 => by simp [valK, Vec.get]
  | n, v, k + 1 => by
    have h := valK_get v k
    have e : (65536 ^ (k + 1) : Nat) = 65536 * 65536 ^ k := by rw [Nat.pow_succ, Nat.mul_comm]
    show valK (k + 1) v + (65536 ^ (k + 1) : Nat) * Vec.get v.2 k = v.1 + 65536 * (valK k v.2 + (65536 ^ k : Nat) * Vec.get v.2 k)
    rw [h, e, Int.natCast_mul, Int.mul_add, Int.mul_assoc]
    generalize ((65536 ^ k : Nat) : Int) * Vec.get v.2 k = z
    omega
theorem valK_all : {n : Nat} → (v : Vec Int n) → valK n v = valD v
  | 0, _ => rfl
  | n + 1, v => by rw [valK_get, valK_all v.2]; rfl
def Ok16 (x : Fn) : Prop := OkD x ∧ valD x < (pp : Int)
def fn9 (x : Fn) : F := toF (valD x)
theorem prime_ok : OkD prime9 := by simp [prime9, OkD]
theorem prime_val : valD prime9 = (pp : Int) := by decide +kernel
theorem sub_val : {n : Nat} → (v u : Vec Int n) → OkD v → OkD u → valD (Vec.zip (fun a b => w (a - b)) v u) = valD v - valD u ∧ Bd 70368744177664 (Vec.zip (fun a b => w (a - b)) v u)
  | 0, _, _, _, _ => ⟨rfl, trivial⟩
  | n + 1, v, u, hv, hu => by
    obtain ⟨h1, h2⟩ := sub_val v.2 u.2 hv.2 hu.2
    have h3 := hv.1
    have h4 := hu.1
    have hw : w (v.1 - u.1) = v.1 - u.1 := w_id (by omega) (by omega)
    show w (v.1 - u.1) + 65536 * valD (Vec.zip (fun a b => w (a - b)) v.2 u.2) = v.1 + 65536 * valD v.2 - (u.1 + 65536 * valD u.2) ∧ ((-70368744177664 ≤ w (v.1 - u.1) ∧ w (v.1 - u.1) ≤ 70368744177664) ∧ Bd 70368744177664 (Vec.zip (fun a b => w (a - b)) v.2 u.2))
    rw [hw, h1]
    exact ⟨by omega, by omega, h2⟩
theorem pass_ok {t : Fn} (h : Bd 70368744177664 t) (h0 : 0 ≤ valD t) (h1 : valD t < 57896044618658097711785492504343953926634992332820282019728792003956564819968) : OkD (pass9 t) ∧ valD (pass9 t) = valD t := by
  obtain ⟨e1, e2⟩ := pass_spec h
  have e3 := low_last (n := 15) (pass9 t)
  obtain ⟨e4, e5⟩ := low_range (n := 15) e2
  rw [p240] at e3 e5
  rw [e1] at e3
  exact ⟨okD_of_low (n := 15) e2 (by omega), e1⟩
noncomputable def normC : Fn → Fn := norm9 prime9 fun a b => belowAt a b 16
theorem foldV_lt {V : Int} (h0 : 0 ≤ V) (h1 : V < 31828687130226345097944463881396533766429193651030253916189694521162207808802136034115584) : 0 ≤ foldV V ∧ foldV V < 31828687130226345097944463881396533766429193651030253916189694521162207808802136034115584 ∧ foldV V % (pp : Int) = V % (pp : Int) := by
  unfold foldV
  simp only [pp] at *
  refine ⟨by omega, by omega, ?_⟩
  omega
theorem foldV_two {V : Int} (h0 : 0 ≤ V) (h1 : V < 31828687130226345097944463881396533766429193651030253916189694521162207808802136034115584) : foldV (foldV V) < 57896044618658097711785492504343953926634992332820282019728792003956564819968 := by
  unfold foldV
  omega
theorem foldV_id {V : Int} (h0 : 0 ≤ V) (h1 : V < 57896044618658097711785492504343953926634992332820282019728792003956564819968) : foldV V = V := by
  unfold foldV
  omega
theorem norm_spec {t : Fn} (h : Bd 70368744177664 t) (h0 : 0 ≤ valD t) (h1 : valD t < 31828687130226345097944463881396533766429193651030253916189694521162207808802136034115584) : Ok16 (normC t) ∧ valD (normC t) = valD t % (pp : Int) := by
  obtain ⟨a1, a2⟩ := step_spec h h0 h1
  obtain ⟨r1, r2, r3⟩ := foldV_lt h0 h1
  obtain ⟨b1, b2⟩ := step_spec a1 (by rw [a2]; exact r1) (by rw [a2]; exact r2)
  rw [a2] at b2
  have s4 := foldV_two h0 h1
  obtain ⟨s1, s2, s3⟩ := foldV_lt r1 r2
  obtain ⟨c1, c2⟩ := step_spec b1 (by rw [b2]; exact s1) (by rw [b2]; exact s2)
  rw [b2, foldV_id s1 s4] at c2
  obtain ⟨d1, d2⟩ := step_spec c1 (by rw [c2]; exact s1) (by rw [c2]; exact s2)
  rw [c2, foldV_id s1 s4] at d2
  obtain ⟨f1, f2⟩ := pass_ok d1 (by rw [d2]; exact s1) (by rw [d2]; exact s4)
  rw [d2] at f2
  have hmod : foldV (foldV (valD t)) % (pp : Int) = valD t % (pp : Int) := s3.trans r3
  generalize foldV (foldV (valD t)) = V at *
  have hn : normC t = selN (!(belowAt (pass9 (fold9 (pass9 (fold9 (pass9 (fold9 (pass9 (fold9 (pass9 t))))))))) prime9 16)) (pass9 (Vec.zip (fun a b => w (a - b)) (pass9 (fold9 (pass9 (fold9 (pass9 (fold9 (pass9 (fold9 (pass9 t))))))))) prime9))
    (pass9 (fold9 (pass9 (fold9 (pass9 (fold9 (pass9 (fold9 (pass9 t))))))))) := rfl
  rw [hn]
  generalize pass9 (fold9 (pass9 (fold9 (pass9 (fold9 (pass9 (fold9 (pass9 t)))))))) = r at *
  rw [selN_eq, below_val f1 prime_ok 16 (by omega), valK_all, valK_all, prime_val, f2]
  by_cases hlt : V < (pp : Int)
  · rw [decide_eq_true hlt]
    show Ok16 r ∧ valD r = _
    rw [← hmod, Int.emod_eq_of_lt s1 hlt]
    exact ⟨⟨f1, by rw [f2]; exact hlt⟩, f2⟩
  · rw [decide_eq_false hlt]
    show Ok16 (pass9 (Vec.zip (fun a b => w (a - b)) r prime9)) ∧ valD (pass9 (Vec.zip (fun a b => w (a - b)) r prime9)) = _
    obtain ⟨g1, g2⟩ := sub_val r prime9 f1 prime_ok
    rw [f2, prime_val] at g1
    obtain ⟨k1, k2⟩ := pass_ok g2 (by rw [g1]; omega) (by rw [g1]; simp only [pp]; omega)
    rw [g1] at k2
    have hv : V % (pp : Int) = V - (pp : Int) := by
      simp only [pp] at *
      omega
    exact ⟨⟨k1, by rw [k2]; simp only [pp] at *; omega⟩, by rw [k2, ← hmod, hv]⟩
theorem norm_fn {t : Fn} (h : Bd 70368744177664 t) (h0 : 0 ≤ valD t) (h1 : valD t < 31828687130226345097944463881396533766429193651030253916189694521162207808802136034115584) : Ok16 (normC t) ∧ fn9 (normC t) = toF (valD t) := by
  obtain ⟨e1, e2⟩ := norm_spec h h0 h1
  refine ⟨e1, ?_⟩
  unfold fn9
  rw [e2, toF_iff, Int.emod_emod]
end Go.Proofs.YthdfifcgobfgdaaGreat
namespace Go.Proofs.YthdfifcgobfgdaaGreat
open Go Go.Ev BJ
set_option maxRecDepth 100000
theorem p16 : (65536 ^ 16 : Nat) = 115792089237316195423570985008687907853269984665640564039457584007913129639936 := by decide
noncomputable def digF (a : F) : Fn := digD 16 (a.val : Int)
theorem digF_val (a : F) : OkD (digF a) ∧ valD (digF a) = (a.val : Int) := by
  obtain ⟨h1, h2⟩ := digD_spec 16 (a.val : Int) (by omega)
  have := a.isLt
  refine ⟨h1, h2.trans (Int.emod_eq_of_lt (by omega) ?_)⟩
  rw [p16]; simp only [pp] at this; omega
theorem digF_fn {x : Fn} (h : Ok16 x) : digF (fn9 x) = x := by
  obtain ⟨h1, h2⟩ := digF_val (fn9 x)
  refine valD_inj h1 h.1 (h2.trans ?_)
  unfold fn9
  rw [toF_val, Int.emod_eq_of_lt (valD_nonneg h.1) h.2]
theorem digF_inj {a b : F} (h : digF a = digF b) : a = b := F_ext (by rw [← (digF_val a).2, ← (digF_val b).2, h])
theorem eq_dig (a b : F) : eqV (digF a) (digF b) = decide (a = b) := by
  by_cases h : a = b
  · subst h; rw [decide_eq_true rfl]; exact (eqV_iff _ _).2 rfl
  · rw [decide_eq_false h]; exact Bool.eq_false_iff.2 fun e => h (digF_inj ((eqV_iff _ _).1 e))
theorem norm_dig {t : Fn} (h : Bd 70368744177664 t) (h0 : 0 ≤ valD t) (h1 : valD t < 31828687130226345097944463881396533766429193651030253916189694521162207808802136034115584) : normC t = digF (toF (valD t)) := by
  obtain ⟨e1, e2⟩ := norm_fn h h0 h1
  rw [← e2, digF_fn e1]
theorem zip_add : {n : Nat} → (v u : Vec Int n) → OkD v → OkD u → valD (Vec.zip (fun a b => w (a + b)) v u) = valD v + valD u ∧ Bd 131072 (Vec.zip (fun a b => w (a + b)) v u)
  | 0, _, _, _, _ => ⟨rfl, trivial⟩
  | n + 1, v, u, hv, hu => by
    obtain ⟨h1, h2⟩ := zip_add v.2 u.2 hv.2 hu.2
    have h3 := hv.1
    have h4 := hu.1
    have hw : w (v.1 + u.1) = v.1 + u.1 := w_id (by omega) (by omega)
    show w (v.1 + u.1) + 65536 * valD (Vec.zip (fun a b => w (a + b)) v.2 u.2) = v.1 + 65536 * valD v.2 + (u.1 + 65536 * valD u.2) ∧ ((-131072 ≤ w (v.1 + u.1) ∧ w (v.1 + u.1) ≤ 131072) ∧ Bd 131072 (Vec.zip (fun a b => w (a + b)) v.2 u.2))
    rw [hw, h1]
    exact ⟨by omega, by omega, h2⟩
theorem zip_sub : {n : Nat} → (v u : Vec Int n) → Bd 131072 v → OkD u → valD (Vec.zip (fun a b => w (a - b)) v u) = valD v - valD u ∧ Bd 262144 (Vec.zip (fun a b => w (a - b)) v u)
  | 0, _, _, _, _ => ⟨rfl, trivial⟩
  | n + 1, v, u, hv, hu => by
    obtain ⟨h1, h2⟩ := zip_sub v.2 u.2 hv.2 hu.2
    have h3 := hv.1
    have h4 := hu.1
    have hw : w (v.1 - u.1) = v.1 - u.1 := w_id (by omega) (by omega)
    show w (v.1 - u.1) + 65536 * valD (Vec.zip (fun a b => w (a - b)) v.2 u.2) = v.1 + 65536 * valD v.2 - (u.1 + 65536 * valD u.2) ∧ ((-262144 ≤ w (v.1 - u.1) ∧ w (v.1 - u.1) ≤ 262144) ∧ Bd 262144 (Vec.zip (fun a b => w (a - b)) v.2 u.2))
    rw [hw, h1]
    exact ⟨by omega, by omega, h2⟩
theorem bd_mono {B B' : Int} (hB : B ≤ B') : {n : Nat} → {v : Vec Int n} → Bd B v → Bd B' v
  | 0, _, _ => trivial
  | _ + 1, _, h => ⟨by have := h.1; omega, bd_mono hB h.2⟩
theorem pp_pos (a : F) : 0 ≤ (a.val : Int) ∧ (a.val : Int) < (pp : Int) := ⟨by omega, by have := a.isLt; omega⟩
theorem toF_of (a : F) : toF (a.val : Int) = a := F_ext (by rw [toF_val, Int.emod_eq_of_lt (pp_pos a).1 (pp_pos a).2])
noncomputable def add9C : Fn → Fn → Fn := add9 normC
noncomputable def sub9C : Fn → Fn → Fn := sub9 prime9 normC
noncomputable def neg9C (x : Fn) : Fn := sub9C zero9 x
noncomputable def mul9C : Fn → Fn → Fn := mul9 normC
theorem add9_dig (a b : F) : add9C (digF a) (digF b) = digF (a + b) := by
  obtain ⟨a1, a2⟩ := digF_val a
  obtain ⟨b1, b2⟩ := digF_val b
  obtain ⟨z1, z2⟩ := zip_add (digF a) (digF b) a1 b1
  have ha := pp_pos a
  have hb := pp_pos b
  rw [a2, b2] at z1
  show normC (Vec.zip (fun a b => w (a + b)) (digF a) (digF b)) = _
  rw [norm_dig (bd_mono (by decide) z2) (by rw [z1]; omega) (by rw [z1]; simp only [pp] at *; omega), z1, toF_add, toF_of, toF_of]
theorem toF_pp0 : toF (pp : Int) = 0 := by
  have := toF_pp 0 1
  rw [Int.one_mul, Int.zero_add] at this
  rw [this, toF_zero]
theorem sub9_dig (a b : F) : sub9C (digF a) (digF b) = digF (a - b) := by
  obtain ⟨a1, a2⟩ := digF_val a
  obtain ⟨b1, b2⟩ := digF_val b
  obtain ⟨z1, z2⟩ := zip_add (digF a) prime9 a1 prime_ok
  obtain ⟨y1, y2⟩ := zip_sub (Vec.zip (fun a b => w (a + b)) (digF a) prime9) (digF b) z2 b1
  have ha := pp_pos a
  have hb := pp_pos b
  rw [z1, a2, b2, prime_val] at y1
  show normC (Vec.zip (fun a b => w (a - b)) (Vec.zip (fun a b => w (a + b)) (digF a) prime9) (digF b)) = _
  rw [norm_dig (bd_mono (by decide) y2) (by rw [y1]; omega) (by rw [y1]; simp only [pp] at *; omega), y1, toF_sub, toF_add, toF_of, toF_of, toF_pp0, show a + 0 - b = a - b from by grobner]
theorem zero_dig : zero9 = digF 0 := by
  have h : OkD zero9 := by simp [zero9, OkD]
  obtain ⟨h1, h2⟩ := digF_val 0
  refine valD_inj h h1 (Eq.trans (?_ : valD zero9 = 0) h2.symm)
  decide
theorem neg9_dig (a : F) : neg9C (digF a) = digF (-a) := by
  unfold neg9C
  rw [zero_dig, sub9_dig, show (0 : F) - a = -a from by grobner]
def isum (f : Nat → Int) : Nat → Int
  | 0 => 0
  | n + 1 => isum f n + f n
theorem isum_congr {f g : Nat → Int} : ∀ {n : Nat}, (∀ i, i < n → f i = g i) → isum f n = isum g n
  | 0, _ => rfl
  | n + 1, h => by simp only [isum]; rw [isum_congr fun i hi => h i (by omega), h n (by omega)]
theorem isum_add (f g : Nat → Int) : ∀ n, isum (fun i => f i + g i) n = isum f n + isum g n
  | 0 => rfl
  | n + 1 => by simp only [isum]; rw [isum_add f g n]; omega
theorem isum_mul (c : Int) (f : Nat → Int) : ∀ n, isum (fun i => c * f i) n = c * isum f n
  | 0 => by simp [isum]
  | n + 1 => by simp only [isum]; rw [isum_mul c f n, Int.mul_add]
theorem isum_zero : ∀ n, isum (fun _ => 0) n = 0
  | 0 => rfl
  | n + 1 => by simp only [isum]; rw [isum_zero n]; rfl
theorem isum_bound {f : Nat → Int} {c : Int} : ∀ {n : Nat}, (∀ i, i < n → 0 ≤ f i ∧ f i ≤ c) → 0 ≤ isum f n ∧ isum f n ≤ n * c
  | 0, _ => by simp [isum]
  | n + 1, h => by
    obtain ⟨h1, h2⟩ := isum_bound (n := n) fun i hi => h i (by omega)
    have h3 := h n (by omega)
    simp only [isum]
    rw [Int.natCast_add, Int.add_mul]
    omega
theorem isum_shift (g : Nat → Int) (n m : Nat) : ∀ k, k ≤ m → isum (fun j => if n ≤ j ∧ j - n < m then g (j - n) else 0) (n + k) = isum g k
  | 0, _ => by
    show isum _ n = 0
    rw [isum_congr (g := fun _ => 0) fun j hj => by rw [if_neg (by omega)], isum_zero]
  | k + 1, hk => by
    show isum _ (n + k) + (if n ≤ n + k ∧ n + k - n < m then g (n + k - n) else 0) = isum g k + g k
    rw [isum_shift g n m k (by omega), if_pos (by omega), show n + k - n = k from by omega]
theorem isum_tail (f : Nat → Int) (n : Nat) : ∀ k, (∀ j, n ≤ j → j < n + k → f j = 0) → isum f (n + k) = isum f n
  | 0, _ => rfl
  | k + 1, h => by
    show isum f (n + k) + f (n + k) = _
    rw [isum_tail f n k fun j h1 h2 => h j h1 (by omega), h (n + k) (by omega) (by omega)]; omega
def conv (f g : Nat → Int) (n j : Nat) : Int := isum (fun i => if i ≤ j ∧ j - i < 16 then f i * g (j - i) else 0) n
theorem conv_val (f g : Nat → Int) (B : Int) : ∀ n, n ≤ 16 → isum (fun j => B ^ j * conv f g n j) 32 = isum (fun i => B ^ i * f i) n * isum (fun i => B ^ i * g i) 16
  | 0, _ => by
    rw [isum_congr (g := fun _ => 0) fun j _ => by simp [conv, isum], isum_zero]
    simp [isum]
  | n + 1, hn => by
    have e : ∀ j, B ^ j * conv f g (n + 1) j = B ^ j * conv f g n j + (if n ≤ j ∧ j - n < 16 then B ^ n * f n * (B ^ (j - n) * g (j - n)) else 0) := fun j => by
      show B ^ j * (conv f g n j + (if n ≤ j ∧ j - n < 16 then f n * g (j - n) else 0)) = _
      rw [Int.mul_add]
      congr 1
      by_cases h : n ≤ j ∧ j - n < 16
      · rw [if_pos h, if_pos h]
        have : B ^ j = B ^ n * B ^ (j - n) := by rw [← Int.pow_add]; congr 1; omega
        rw [this]
        generalize B ^ n = p
        generalize B ^ (j - n) = q
        rw [Int.mul_assoc, Int.mul_assoc, ← Int.mul_assoc q, Int.mul_comm q (f n), Int.mul_assoc (f n)]
      · rw [if_neg h, if_neg h, Int.mul_zero]
    rw [isum_congr fun j _ => e j, isum_add, conv_val f g B n (by omega)]
    have h2 : isum (fun j => if n ≤ j ∧ j - n < 16 then B ^ n * f n * (B ^ (j - n) * g (j - n)) else 0) 32 = isum (fun i => B ^ n * f n * (B ^ i * g i)) 16 := by
      have h3 := isum_shift (fun i => B ^ n * f n * (B ^ i * g i)) n 16 16 (by omega)
      have h4 := isum_tail (fun j => if n ≤ j ∧ j - n < 16 then B ^ n * f n * (B ^ (j - n) * g (j - n)) else 0) (n + 16) (16 - n) (fun j h1 _ => if_neg (by omega))
      rw [show n + 16 + (16 - n) = 32 from by omega] at h4
      rw [h4]; exact h3
    rw [h2, isum_mul]
    simp only [isum]
    rw [Int.add_mul]
theorem isum_succ (f : Nat → Int) : ∀ n, isum f (n + 1) = f 0 + isum (fun i => f (i + 1)) n
  | 0 => by simp [isum]
  | n + 1 => by
    show isum f (n + 1) + f (n + 1) = f 0 + (isum (fun i => f (i + 1)) n + f (n + 1))
    rw [isum_succ f n]; omega
theorem valD_isum : {n : Nat} → (v : Vec Int n) → valD v = isum (fun i => 65536 ^ i * v.get i) n
  | 0, _ => rfl
  | n + 1, v => by
    show v.1 + 65536 * valD v.2 = _
    rw [valD_isum v.2, isum_succ]
    show _ = 65536 ^ 0 * v.1 + isum (fun i => 65536 ^ (i + 1) * Vec.get v.2 i) n
    rw [← isum_mul, Int.pow_zero, Int.one_mul]
    congr 1
    apply isum_congr
    intro i _
    rw [Int.pow_succ, Int.mul_comm (65536 ^ i) 65536, Int.mul_assoc]
theorem mulAt_val {x y : Fn} (hx : OkD x) (hy : OkD y) (j : Nat) : mulAt x y j = conv x.get y.get 16 j ∧ 0 ≤ conv x.get y.get 16 j ∧ conv x.get y.get 16 j ≤ 68717379600 := by
  have hterm : ∀ i, i < 16 → 0 ≤ (if i ≤ j ∧ j - i < 16 then x.get i * y.get (j - i) else 0) ∧ (if i ≤ j ∧ j - i < 16 then x.get i * y.get (j - i) else 0) ≤ 4294836225 := fun i hi => by
    split
    · rename_i h
      obtain ⟨h1, h2⟩ := get_digit hx (i := i) hi
      obtain ⟨h3, h4⟩ := get_digit hy (i := j - i) h.2
      refine ⟨Int.mul_nonneg h1 h3, ?_⟩
      have := Int.mul_le_mul (a := x.get i) (b := y.get (j - i)) (c := 65535) (d := 65535) (by omega) (by omega) h3 (by omega)
      omega
    · omega
  have key : ∀ n, n ≤ 16 → (List.range n).foldl (fun acc i => if i ≤ j ∧ j - i < 16 then w (acc + w (x.get i * y.get (j - i))) else acc) 0 = conv x.get y.get n j := by
    intro n
    induction n with
    | zero => intro _; rfl
    | succ n ih =>
      intro hn
      rw [List.range_succ, List.foldl_append, ih (by omega)]
      simp only [List.foldl_cons, List.foldl_nil]
      have hb := isum_bound (c := 4294836225) (n := n) fun i hi => hterm i (by omega)
      have ht := hterm n (by omega)
      show _ = conv x.get y.get n j + (if n ≤ j ∧ j - n < 16 then x.get n * y.get (j - n) else 0)
      have hc : 0 ≤ conv x.get y.get n j ∧ conv x.get y.get n j ≤ n * 4294836225 := hb
      split
      · rename_i h
        rw [if_pos h] at ht
        rw [w_id (x := x.get n * y.get (j - n)) (by omega) (by omega), w_id (by omega) (by omega)]
      · omega
  have hb := isum_bound (c := 4294836225) (n := 16) hterm
  exact ⟨key 16 (by omega), hb⟩
theorem valD_ofFn (f : Nat → Int) : ∀ n, valD (Vec.ofFn n f) = isum (fun i => 65536 ^ i * f i) n := fun n => by
  rw [valD_isum]
  exact isum_congr fun i hi => by rw [get_ofFn hi]
theorem bd_ofFn {B : Int} {f : Nat → Int} : ∀ {n : Nat}, (∀ i, i < n → -B ≤ f i ∧ f i ≤ B) → Bd B (Vec.ofFn n f)
  | 0, _ => trivial
  | n + 1, h => ⟨h 0 (by omega), bd_ofFn (n := n) fun i hi => h (i + 1) (by omega)⟩
theorem isum_split (f : Nat → Int) (n : Nat) : ∀ k, isum f (n + k) = isum f n + isum (fun i => f (n + i)) k
  | 0 => by simp [isum]
  | k + 1 => by
    show isum f (n + k) + f (n + k) = isum f n + (isum (fun i => f (n + i)) k + f (n + k))
    rw [isum_split f n k]; omega
theorem toF_256 : toF (65536 ^ 16) = 38 := by decide +kernel
theorem t38 : toF 38 = 38 := by decide +kernel
theorem mul9_dig (a b : F) : mul9C (digF a) (digF b) = digF (a * b) := by
  obtain ⟨a1, a2⟩ := digF_val a
  obtain ⟨b1, b2⟩ := digF_val b
  generalize digF a = x at *
  generalize digF b = y at *
  have hc := fun j => mulAt_val a1 b1 j
  have hd : ∀ i, i < 16 → w (mulAt x y i + w (38 * mulAt x y (i + 16))) = conv x.get y.get 16 i + 38 * conv x.get y.get 16 (i + 16) := fun i _ => by
    obtain ⟨e1, e2, e3⟩ := hc i
    obtain ⟨f1, f2, f3⟩ := hc (i + 16)
    rw [e1, f1, w_id (x := 38 * _) (by omega) (by omega), w_id (by omega) (by omega)]
  have hz : Vec.ofFn 16 (fun i => w (mulAt x y i + w (38 * mulAt x y (i + 16)))) = Vec.ofFn 16 (fun i => conv x.get y.get 16 i + 38 * conv x.get y.get 16 (i + 16)) := ofFn_congr hd
  show normC (Vec.ofFn 16 fun i => w (mulAt x y i + w (38 * mulAt x y (i + 16)))) = _
  rw [hz]
  have hv := valD_ofFn (fun i => conv x.get y.get 16 i + 38 * conv x.get y.get 16 (i + 16)) 16
  have hb : Bd 70368744177664 (Vec.ofFn 16 (fun i => conv x.get y.get 16 i + 38 * conv x.get y.get 16 (i + 16))) := bd_ofFn fun i _ => by
    obtain ⟨_, e2, e3⟩ := hc i
    obtain ⟨_, f2, f3⟩ := hc (i + 16)
    omega
  have hcv := conv_val x.get y.get 65536 16 (by omega)
  rw [← valD_isum, ← valD_isum, a2, b2, isum_split _ 16 16] at hcv
  have hF : toF (valD (Vec.ofFn 16 (fun i => conv x.get y.get 16 i + 38 * conv x.get y.get 16 (i + 16)))) = a * b := by
    rw [hv, isum_congr (g := fun i => 65536 ^ i * conv x.get y.get 16 i + 38 * (65536 ^ i * conv x.get y.get 16 (i + 16))) fun i _ => by
      rw [Int.mul_add, ← Int.mul_assoc, ← Int.mul_assoc, Int.mul_comm (65536 ^ i) 38], isum_add, isum_mul, toF_add, toF_mul, t38]
    have h1 := congrArg toF hcv
    rw [toF_add, toF_mul, toF_of, toF_of] at h1
    have h2 : isum (fun i => 65536 ^ (16 + i) * conv x.get y.get 16 (16 + i)) 16 = 65536 ^ 16 * isum (fun i => 65536 ^ i * conv x.get y.get 16 (i + 16)) 16 := by
      rw [← isum_mul]
      apply isum_congr
      intro i _
      rw [Int.pow_add, Int.mul_assoc, Nat.add_comm 16 i]
    rw [h2, toF_mul, toF_256] at h1
    exact h1
  have hnn : 0 ≤ valD (Vec.ofFn 16 (fun i => conv x.get y.get 16 i + 38 * conv x.get y.get 16 (i + 16))) ∧ valD (Vec.ofFn 16 (fun i => conv x.get y.get 16 i + 38 * conv x.get y.get 16 (i + 16))) < 31828687130226345097944463881396533766429193651030253916189694521162207808802136034115584 := by
    rw [hv]
    have hterm : ∀ i, i < 16 → 0 ≤ (65536 : Int) ^ i * (conv x.get y.get 16 i + 38 * conv x.get y.get 16 (i + 16)) ∧ (65536 : Int) ^ i * (conv x.get y.get 16 i + 38 * conv x.get y.get 16 (i + 16)) ≤ 1766847064778384329583297500742918515827483896875618958121606201292619776 * 2679977804400 := fun i hi => by
      obtain ⟨_, e2, e3⟩ := hc i
      obtain ⟨_, f2, f3⟩ := hc (i + 16)
      have hp0 : (0 : Int) ≤ 65536 ^ i := Int.pow_nonneg (by omega)
      have hp1 : (65536 : Int) ^ i ≤ 1766847064778384329583297500742918515827483896875618958121606201292619776 := by
        have h1 : (65536 ^ i : Nat) ≤ 65536 ^ 15 := Nat.pow_le_pow_right (by omega) (by omega)
        rw [p240] at h1
        have h2 : ((65536 ^ i : Nat) : Int) = 65536 ^ i := by simp
        omega
      exact ⟨Int.mul_nonneg hp0 (by omega), Int.mul_le_mul hp1 (by omega) (by omega) (by omega)⟩
    have := isum_bound hterm
    omega
  rw [norm_dig hb hnn.1 hnn.2, hF]
end Go.Proofs.YthdfifcgobfgdaaGreat
end

section
namespace Go.Proofs.YthdfifcgobfgdaaGreat
open Go Go.Ev BJ
set_option maxRecDepth 1000000
section
variable (base zero : Pt) (encode : Pt → B32) (decode : B32 → Pt × Bool) (padd : Pt → Pt → Pt) (equal : Pt → Pt → Bool) (alive : Bool)
end
end Go.Proofs.YthdfifcgobfgdaaGreat
namespace BJ
def F.powK (a : F) (e : Nat) : F := ⟨pm pp 256 a.val e % pp, Nat.mod_lt _ (by decide)⟩
theorem F.pow_K (a : F) {e : Nat} (he : e < 2 ^ 256) : F.pow a e = F.powK a e := by
  apply Fin.ext
  show a.val ^ e % pp = pm pp 256 a.val e % pp
  rw [pm_eq pp 256 a.val e he, Nat.mod_mod]
def F.invK (a : F) : F := F.powK a (pp - 2)
theorem F.inv_K (a : F) : F.inv a = F.invK a := F.pow_K a (by decide)
def rootK (a : F) : F × Bool :=
  let r := F.powK a ((pp + 3) / 8)
  let r1 := if r * r = a then r else r * F.powK 2 ((pp - 1) / 4)
  if r1 * r1 = a then (if r1.val % 2 = 1 then -r1 else r1, true) else (0, false)
theorem root_K (a : F) : rootOf a = rootK a := by
  unfold rootOf rootK
  rw [F.pow_K a (by decide), F.pow_K 2 (by decide)]
def xOfK (y : F) : F × Bool := if dd * (y * y) + 1 = 0 then (0, decide (y * y - 1 = 0)) else rootK ((y * y - 1) * F.invK (dd * (y * y) + 1))
theorem xOf_K (y : F) : xOfE y = xOfK y := by
  unfold xOfE ratioOf xOfK
  rw [root_K, F.inv_K]
def baseY : F := 46316835694926478169428394003475163141307993866256225615783033603165251855960
def baseX : F := 15112221349535400772501151409588531511454012693041857206046113283949847762202
theorem baseY_eq : 4 * F.inv 5 = baseY := by rw [F.inv_K]; decide +kernel
theorem baseX_eq : xOfE baseY = (baseX, true) := by rw [xOf_K]; decide +kernel
theorem base_lit : baseE = affE baseX baseY := by
  unfold baseE
  rw [baseY_eq, baseX_eq]
end BJ
namespace Go.Proofs.YthdfifcgobfgdaaGreat
open Go Go.Ev BJ
theorem base_is : OkPt baseC ∧ ptE baseC = baseE := by
  obtain ⟨h1, h2, h3⟩ := base_pt
  obtain ⟨o1, o2⟩ := ok_of h1 h2
  exact ⟨o1, o2.trans h3⟩
theorem zero_is : OkPt zeroC ∧ ptE zeroC = zeroE := by
  obtain ⟨h1, h2, h3⟩ := zero_pt
  obtain ⟨o1, o2⟩ := ok_of h1 h2
  exact ⟨o1, o2.trans h3⟩
end Go.Proofs.YthdfifcgobfgdaaGreat
namespace BJ
theorem neg_sum (x : F) : (x.val + (-x).val) % pp = 0 := by
  have h : x + -x = 0 := by grobner
  have := congrArg Fin.val h
  rw [Fin.val_add] at this
  exact this
theorem par {a b p : Nat} (hs : (a + b) % p = 0) (ha : a < p) (hb : b < p) (h0 : a ≠ 0) (hp : p % 2 = 1) : b % 2 = 1 ↔ a % 2 = 0 := by
  have h1 : a + b = p := by
    rcases Nat.lt_or_ge (a + b) p with h | h
    · rw [Nat.mod_eq_of_lt h] at hs; omega
    · rw [Nat.mod_eq_sub_mod h, Nat.mod_eq_of_lt (by omega)] at hs; omega
  omega
theorem pp_odd : pp % 2 = 1 := by decide +kernel
theorem neg_odd {x : F} (h : x ≠ 0) : (-x).val % 2 = 1 ↔ x.val % 2 = 0 :=
  par (neg_sum x) x.isLt (-x).isLt (fun e => h (Fin.ext e)) pp_odd
theorem pp_int : (pp : Int) = 57896044618658097711785492504343953926634992332820282019728792003956564819949 := rfl
theorem p2255_int : Go.Proofs.YthdfifcgobfgdaaGreat.p2255 = 57896044618658097711785492504343953926634992332820282019728792003956564819968 := rfl
def pickRoot (r a : F) : F × Bool := if r * r = a then (if r.val % 2 = 1 then -r else r, true) else (0, false)
theorem root_pick (a : F) : rootOf a = pickRoot (if F.pow a ((pp + 3) / 8) * F.pow a ((pp + 3) / 8) = a then F.pow a ((pp + 3) / 8) else F.pow a ((pp + 3) / 8) * F.pow 2 ((pp - 1) / 4)) a := rfl
theorem F.zero_val : (0 : F).val = 0 := rfl
theorem pick_even (r a : F) : (pickRoot r a).1.val % 2 = 0 := by
  unfold pickRoot
  by_cases h : r * r = a
  · rw [if_pos h]
    show (if r.val % 2 = 1 then -r else r).val % 2 = 0
    by_cases h1 : r.val % 2 = 1
    · rw [if_pos h1]
      have hr : r ≠ 0 := fun e => by rw [e, F.zero_val] at h1; cases h1
      have := neg_odd hr
      omega
    · rw [if_neg h1]; omega
  · rw [if_neg h]
    show (0 : F).val % 2 = 0
    rw [F.zero_val]
theorem root_even (a : F) : (rootOf a).1.val % 2 = 0 := by rw [root_pick]; exact pick_even _ _
theorem ratio_even (u v : F) : (ratioOf u v).1.val % 2 = 0 := by
  unfold ratioOf
  by_cases h : v = 0
  · rw [if_pos h]
    show (0 : F).val % 2 = 0
    rw [F.zero_val]
  · rw [if_neg h]; exact root_even _
theorem xOf_even (y : F) : (xOfE y).1.val % 2 = 0 := ratio_even _ _
end BJ
namespace Go.Proofs.YthdfifcgobfgdaaGreat
open Go Go.Ev BJ
theorem topSet_val {b : B32} (h : OkB b) (h31 : b.get 31 < 128) : OkB (topSet b) ∧ valB (topSet b) = valB b + p2255 := by
  have e : topSet b = Vec.upd (fun x => if x < 128 then x + 128 else x) 31 b := upd_congr (by show _ = if b.get 31 < 128 then _ else _; rw [if_pos h31])
  rw [e]
  obtain ⟨h1, h2⟩ := upd_last (fun x => if x < 128 then x + 128 else x) (n := 31) h (fun x h1 h2 => by show 0 ≤ (if x < 128 then x + 128 else x) ∧ (if x < 128 then x + 128 else x) < 256; split <;> omega)
  refine ⟨h1, h2.trans ?_⟩
  show valB b - b.get 31 * _ + (if b.get 31 < 128 then b.get 31 + 128 else b.get 31) * _ = _
  have := p2255_int
  rw [if_pos h31, p255]; omega
end Go.Proofs.YthdfifcgobfgdaaGreat
namespace Go.Proofs.YthdfifcgobfgdaaGreat
open Go Go.Ev BJ
set_option maxRecDepth 100000
theorem small9_dig {n : Int} (h0 : 0 ≤ n) (h1 : n < 18446744073709551616) : small9 n = digF (toF n) := by
  have hv : ((toF n).val : Int) = n := by rw [toF_val, Int.emod_eq_of_lt h0 (by simp only [pp]; omega)]
  unfold digF digD small9
  rw [hv]
  apply ofFn_congr
  intro i hi
  have e : (65536 ^ i : Nat) = 2 ^ (16 * i) := by rw [show (65536 : Nat) = 2 ^ 16 from rfl, ← Nat.pow_mul]
  by_cases h4 : i < 4
  · rw [if_pos h4]
    have e1 : shr64 n ((16 * i : Nat) : Int) = n / (2 ^ (16 * i) : Nat) := shr_div .u64 n (16 * i) (by show 16 * i ≤ 64; omega)
    have e2 : and64 (shr64 n ((16 * i : Nat) : Int)) 65535 = shr64 n ((16 * i : Nat) : Int) % (2 ^ 16 : Nat) := and_u64 (m := 16) (by decide) _ 65535 (by decide)
    have e3 : ((2 ^ 16 : Nat) : Int) = 65536 := by decide
    rw [e2, e1, e, e3, w_id (by omega) (by omega)]
  · rw [if_neg h4]
    have h : (65536 ^ 4 : Nat) ≤ 65536 ^ i := Nat.pow_le_pow_right (by omega) (by omega)
    have h' : (65536 ^ 4 : Nat) = 18446744073709551616 := by decide
    rw [h'] at h
    rw [Int.ediv_eq_zero_of_lt h0 (by omega)]; rfl
theorem bytes9_dig (a : F) : bytes9 (digF a) = bytesF a := by
  have hV := pp_pos a
  unfold bytes9 bytesF digB
  apply ofFn_congr
  intro i hi
  obtain ⟨h1, h2⟩ := digF_val a
  have hg := get_valD h1 (i := i / 2) (by omega)
  rw [h2] at hg
  have hr := get_digit h1 (i := i / 2) (by omega)
  have e : (65536 ^ (i / 2) : Nat) = 256 ^ (2 * (i / 2)) := by rw [show (65536 : Nat) = 256 ^ 2 from rfl, ← Nat.pow_mul]
  rw [e] at hg
  by_cases he : i % 2 = 0
  · rw [if_pos he]
    have e1 : lowBits ((digF a).get (i / 2)) 255 = (digF a).get (i / 2) % (2 ^ 8 : Nat) := and_i64 (m := 8) (by decide) _ 255 (by decide)
    have e2 : ((2 ^ 8 : Nat) : Int) = 256 := by decide
    rw [e1, e2, wrap_u8, hg, show 2 * (i / 2) = i from by omega]
    omega
  · rw [if_neg he]
    have e1 : down ((digF a).get (i / 2)) 8 = (digF a).get (i / 2) / (2 ^ 8 : Nat) := shr_div .i64 _ 8 (by decide)
    have e2 : ((2 ^ 8 : Nat) : Int) = 256 := by decide
    have e3 : (256 ^ i : Nat) = 256 ^ (2 * (i / 2)) * 256 := by rw [← Nat.pow_succ]; congr 1; omega
    rw [e1, e2, wrap_u8, hg, e3, Int.natCast_mul, ← Int.ediv_ediv_of_nonneg (Int.natCast_nonneg _)]
    generalize (a.val : Int) / ((256 ^ (2 * (i / 2)) : Nat) : Int) = q
    have : (((256 : Nat)) : Int) = 256 := rfl
    rw [this]
    omega
theorem okLow_of : {n : Nat} → {v : Vec Int (n + 1)} → OkD v → OkLow v
  | 0, _, _ => trivial
  | _ + 1, _, h => ⟨h.1, okLow_of h.2⟩
noncomputable def from9C : B32 → Fn := from9 normC
theorem from9_dig {b : B32} (h : OkB b) : from9C b = digF (toF (valB b % 57896044618658097711785492504343953926634992332820282019728792003956564819968)) := by
  have hV := valB_nonneg h
  have hV2 := valB_lt h
  rw [p256] at hV2
  have hp : pairs9 b = digD 16 (valB b) := by
    unfold pairs9 digD
    apply ofFn_congr
    intro i hi
    have g1 := get_val h (i := 2 * i) (by omega)
    have g2 := get_val h (i := 2 * i + 1) (by omega)
    have b1 := get_byte h (i := 2 * i) (by omega)
    have b2 := get_byte h (i := 2 * i + 1) (by omega)
    rw [w_id (x := b.get (2 * i)) (by omega) (by omega), w_id (x := b.get (2 * i + 1)) (by omega) (by omega), w_id (x := 256 * b.get (2 * i + 1)) (by omega) (by omega), w_id (by omega) (by omega), g1, g2]
    have e : (65536 ^ i : Nat) = 256 ^ (2 * i) := by rw [show (65536 : Nat) = 256 ^ 2 from rfl, ← Nat.pow_mul]
    rw [e, Nat.pow_succ, Int.natCast_mul, ← Int.ediv_ediv_of_nonneg (Int.natCast_nonneg _)]
    generalize valB b / ((256 ^ (2 * i) : Nat) : Int) = q
    have : (((256 : Nat)) : Int) = 256 := rfl
    rw [this]
    omega
  obtain ⟨d1, d2⟩ := digD_spec 16 (valB b) hV
  rw [p16, Int.emod_eq_of_lt hV (by omega)] at d2
  have hg := get_valD d1 (i := 15) (by decide)
  rw [d2] at hg
  rw [p240] at hg
  have hu := upd_low (n := 15) (fun x => lowBits x 32767) (digD 16 (valB b))
  rw [p240, d2] at hu
  have hb := upd_bd (n := 15) (B := 70368744177664) (fun x => lowBits x 32767) (digD 16 (valB b)) (okLow_of d1) (by decide) (by
    show -70368744177664 ≤ lowBits (Vec.get (n := 16) (digD 16 (valB b)) 15) 32767 ∧ lowBits (Vec.get (n := 16) (digD 16 (valB b)) 15) 32767 ≤ 70368744177664
    rw [low_15]; omega)
  have hv : valD (Vec.upd (n := 16) (fun x => lowBits x 32767) 15 (digD 16 (valB b))) = valB b % 57896044618658097711785492504343953926634992332820282019728792003956564819968 := by
    refine hu.trans ?_
    show valB b + _ * (lowBits (Vec.get (n := 16) (digD 16 (valB b)) 15) 32767 - Vec.get (n := 16) (digD 16 (valB b)) 15) = _
    rw [low_15, hg]; omega
  show normC (Vec.upd (fun x => lowBits x 32767) 15 (pairs9 b)) = _
  rw [hp, norm_dig hb (by rw [hv]; omega) (by rw [hv]; omega), hv]
theorem clear9_eq {b : B32} (_h : OkB b) : clear9 b = clearTop b := by
  refine upd_congr ?_
  show bitAnd .u8 (b.get 31) 127 = bitAndNot .u8 (b.get 31) 128
  rw [andNot_top]
  exact and_u8 (m := 7) (by decide) _ 127 (by decide)
noncomputable def canonical9C (b : B32) : Bool := eqV (bytes9 (from9C (clear9 b))) (clear9 b)
theorem canonical9_dig {b : B32} (h : OkB b) : canonical9C b = decide (valB b % p2255 < (pp : Int)) := by
  obtain ⟨h1, h2⟩ := clear_val h
  have hlt : valB (clearTop b) < 57896044618658097711785492504343953926634992332820282019728792003956564819968 := by rw [h2]; omega
  unfold canonical9C
  rw [clear9_eq h, from9_dig h1, bytes9_dig, Int.emod_eq_of_lt (valB_nonneg h1) hlt, bytes_of_val h1 hlt, h2]
theorem odd9_dig (a : F) : odd9 (digF a) = decide (a.val % 2 = 1) := by
  obtain ⟨h1, h2⟩ := digF_val a
  have h3 : (digF a).1 + 65536 * valD (digF a).2 = (a.val : Int) := h2
  have h4 := h1.1
  unfold odd9
  generalize (digF a).1 = x at *
  generalize valD (digF a).2 = y at *
  rw [Int.tmod_eq_emod_of_nonneg h4.1]
  by_cases h : a.val % 2 = 1
  · rw [decide_eq_true h, beq_iff_eq]; omega
  · rw [decide_eq_false h]
    refine Bool.eq_false_iff.2 fun e => h ?_
    rw [beq_iff_eq] at e; omega
theorem bit9_eq {e : B32} (h : OkB e) {i : Nat} (hi : i < 256) : bitFn9 e i = bitFn e i := by
  obtain ⟨h1, h2⟩ := get_byte h (i := i / 8) (by omega)
  unfold bitFn9 bitFn
  have e1 : shr .u8 (e.get (i / 8)) ((i % 8 : Nat) : Int) = e.get (i / 8) / (2 ^ (i % 8) : Nat) := shr_div .u8 _ _ (by show i % 8 ≤ 8; omega)
  have hp : (0 : Int) < ((2 ^ (i % 8) : Nat) : Int) := by have := Nat.pow_pos (n := i % 8) (show 0 < 2 by decide); omega
  have h3 : 0 ≤ e.get (i / 8) / ((2 ^ (i % 8) : Nat) : Int) := Int.ediv_nonneg h1 (by omega)
  have h4 : e.get (i / 8) / ((2 ^ (i % 8) : Nat) : Int) ≤ e.get (i / 8) := Int.ediv_le_self _ h1
  rw [e1, wrap_i64 (by omega) (by omega), and_i64 (m := 1) (by decide) _ 1 (by decide), and_u8 (m := 1) (by decide) _ 1 (by decide), wrap_i64 (by omega) (by omega)]
noncomputable def pow9C (x : Fn) (e : B32) : Fn := powFn9 bitFn9 small9 mul9C x e
theorem pow9_dig (a : F) {e : B32} (he : OkB e) : pow9C (digF a) e = digF (F.pow a (valB e).toNat) := by
  have hV := valB_nonneg he
  have hV2 := valB_lt he
  obtain ⟨N, hN⟩ := Int.eq_ofNat_of_zero_le hV
  have key : ∀ k, k ≤ 256 → rnds (powStep9 bitFn9 mul9C (digF a) e) k (small9 1) = digF (F.pow a (N / 2 ^ (256 - k))) := by
    intro k
    induction k with
    | zero =>
      intro _
      have h256 : (256 ^ 32 : Nat) = 2 ^ 256 := by rw [show (256 : Nat) = 2 ^ 8 from rfl, ← Nat.pow_mul]
      have : N / 2 ^ (256 - 0) = 0 := Nat.div_eq_of_lt (by rw [hN] at hV2; rw [Nat.sub_zero, ← h256]; omega)
      rw [this, F.pow_zero]
      show small9 1 = _
      rw [small9_dig (by decide) (by decide), toF_one]
    | succ k ih =>
      intro hk
      show powStep9 bitFn9 mul9C (digF a) e k (rnds (powStep9 bitFn9 mul9C (digF a) e) k (small9 1)) = _
      rw [ih (by omega)]
      unfold powStep9
      rw [mul9_dig, mul9_dig, bit9_eq he (by omega), bitFn_val he (by omega), selN_eq, hN, Int.toNat_natCast]
      have hdiv : N / 2 ^ (256 - k) = N / 2 ^ (256 - (k + 1)) / 2 := by
        rw [Nat.div_div_eq_div_mul, ← Nat.pow_succ]; congr 2; omega
      rw [hdiv]
      have e255 : 255 - k = 256 - (k + 1) := by omega
      rw [e255]
      unfold bitE
      generalize N / 2 ^ (256 - (k + 1)) = M at *
      by_cases hb : M % 2 = 1
      · rw [decide_eq_true hb, cond_true]
        have : M = 2 * (M / 2) + 1 := by omega
        conv => rhs; rw [this]
        rw [F.pow_succ, F.pow_double]
      · rw [decide_eq_false hb, cond_false]
        have : M = 2 * (M / 2) := by omega
        conv => rhs; rw [this]
        rw [F.pow_double]
  have := key 256 (by omega)
  rw [hN, Int.toNat_natCast]
  have e1 : N / 2 ^ (256 - 256) = N := by simp
  rw [e1] at this
  exact this
noncomputable def inv9C (x : Fn) : Fn := pow9C x (feExp 235 127)
theorem inv9_dig (a : F) : inv9C (digF a) = digF (F.inv a) := by
  unfold inv9C
  rw [pow9_dig a (OkB_exp (by omega) (by omega)), exp_inv]; rfl
noncomputable def sqrt9C : Fn → Fn × Bool := rootFn9 small9 mul9C neg9C odd9 pow9C
theorem sel_dig (b : Bool) (a c : F) : selN b (digF a) (digF c) = digF (if b = true then a else c) := by
  rw [selN_eq]; cases b <;> rfl
theorem pick9 (R a : F) : (selN (!(decide (R * R = a))) (digF 0) (selN (decide (R.val % 2 = 1)) (digF (-R)) (digF R)), bif !(decide (R * R = a)) then false else true) = (digF (pickRoot R a).1, (pickRoot R a).2) := by
  unfold pickRoot
  by_cases h : R * R = a
  · rw [decide_eq_true h, if_pos h]
    by_cases h2 : R.val % 2 = 1
    · rw [decide_eq_true h2, selN_eq, selN_eq]
      show (digF (-R), true) = (digF (if R.val % 2 = 1 then -R else R), true)
      rw [if_pos h2]
    · rw [decide_eq_false h2, selN_eq, selN_eq]
      show (digF R, true) = (digF (if R.val % 2 = 1 then -R else R), true)
      rw [if_neg h2]
  · rw [decide_eq_false h, if_neg h, selN_eq]; rfl
theorem t2F : toF 2 = 2 := by decide +kernel
theorem sqrt9_dig (a : F) : sqrt9C (digF a) = (digF (rootOf a).1, (rootOf a).2) := by
  have h1 := pow9_dig a (OkB_exp (lo := 254) (hi := 15) (by omega) (by omega))
  have h2 := pow9_dig 2 (OkB_exp (lo := 251) (hi := 31) (by omega) (by omega))
  rw [exp_root] at h1
  rw [exp_ii] at h2
  have h3 : small9 2 = digF 2 := by rw [small9_dig (by decide) (by decide), t2F]
  have e1 : selN (!(eqV (mul9C (pow9C (digF a) (feExp 254 15)) (pow9C (digF a) (feExp 254 15))) (digF a))) (mul9C (pow9C (digF a) (feExp 254 15)) (pow9C (small9 2) (feExp 251 31))) (pow9C (digF a) (feExp 254 15)) =
      digF (if F.pow a ((pp + 3) / 8) * F.pow a ((pp + 3) / 8) = a then F.pow a ((pp + 3) / 8) else F.pow a ((pp + 3) / 8) * F.pow 2 ((pp - 1) / 4)) := by
    rw [h1, h3, h2, mul9_dig, mul9_dig, eq_dig, sel_dig]
    by_cases h : F.pow a ((pp + 3) / 8) * F.pow a ((pp + 3) / 8) = a
    · rw [decide_eq_true h, if_pos h]; rfl
    · rw [decide_eq_false h, if_neg h]; rfl
  unfold sqrt9C rootFn9
  simp only [e1, selN_self]
  rw [mul9_dig, eq_dig, odd9_dig, neg9_dig, zero_dig, pick9, ← root_pick]
noncomputable def ratio9C : Fn → Fn → Fn × Bool := ratioFn9 mul9C inv9C sqrt9C
theorem ratio9_s1 (u v : F) : ratio9C (digF u) (digF v) = (selN (eqV (digF v) zero9) zero9 (sqrt9C (mul9C (digF u) (inv9C (digF v)))).1, bif eqV (digF v) zero9 then eqV (digF u) zero9 else (sqrt9C (mul9C (digF u) (inv9C (digF v)))).2) := rfl
theorem ratio9_s2 (u v : F) : sqrt9C (mul9C (digF u) (inv9C (digF v))) = (digF (rootOf (u * F.inv v)).1, (rootOf (u * F.inv v)).2) := by
  rw [inv9_dig, mul9_dig, sqrt9_dig]
theorem ratio9_s3 (u v : F) (z : F × Bool) : (selN (eqV (digF v) zero9) zero9 (digF z.1, z.2).1, bif eqV (digF v) zero9 then eqV (digF u) zero9 else (digF z.1, z.2).2) = (selN (decide (v = 0)) (digF 0) (digF z.1), bif decide (v = 0) then decide (u = 0) else z.2) := by
  rw [zero_dig, eq_dig, eq_dig]
theorem ratio9_core (u v : F) (z : F × Bool) : (selN (decide (v = 0)) (digF 0) (digF z.1), bif decide (v = 0) then decide (u = 0) else z.2) = (digF (if v = 0 then ((0 : F), decide (u = 0)) else z).1, (if v = 0 then ((0 : F), decide (u = 0)) else z).2) := by
  by_cases h : v = 0
  · rw [decide_eq_true h, if_pos h, selN_eq, cond_true, cond_true]
  · rw [decide_eq_false h, if_neg h, selN_eq, cond_false, cond_false]
theorem ratio9_s4 (u v : F) : ratioOf u v = if v = 0 then ((0 : F), decide (u = 0)) else rootOf (u * F.inv v) := by unfold ratioOf; rfl
theorem ratio9_dig (u v : F) : ratio9C (digF u) (digF v) = (digF (ratioOf u v).1, (ratioOf u v).2) := by
  rw [ratio9_s1, ratio9_s2, ratio9_s4]
  generalize rootOf (u * F.inv v) = z
  rw [ratio9_s3, ratio9_core]
noncomputable def pn (p : E4) : Pn := (digF p.1, digF p.2.1, digF p.2.2.1, digF p.2.2.2)
theorem selPn_dig (b : Bool) (p q : E4) : selPn b (pn p) (pn q) = pn (if b = true then p else q) := by
  rw [selPn_eq]; cases b <;> rfl
noncomputable def edge9C : Fn := mul9C (neg9C (small9 121665)) (inv9C (small9 121666))
theorem edge_num : -(toF 121665) * F.inv (toF 121666) = dd := by rw [F.inv_K]; decide +kernel
theorem edge9_dig : edge9C = digF dd := by
  unfold edge9C
  rw [small9_dig (by decide) (by decide), small9_dig (by decide) (by decide), neg9_dig, inv9_dig, mul9_dig, edge_num]
noncomputable def zero9C : Pn := zeroPn small9
theorem one9 : small9 1 = digF 1 := by rw [small9_dig (by decide) (by decide), toF_one]
theorem zero9_pn : zero9C = pn zeroE := by
  unfold zero9C zeroPn pn zeroE affE
  rw [one9, zero_dig]
  have : (0 : F) * 1 = 0 := by decide +kernel
  simp only [this]
noncomputable def of9C : Fn → Fn → Pn := ofPn small9 mul9C
theorem of9_pn (x y : F) : of9C (digF x) (digF y) = pn (affE x y) := by
  unfold of9C ofPn pn affE
  rw [one9, mul9_dig]
noncomputable def xOf9C : Fn → Fn × Bool := xOfFn small9 mul9C add9C sub9C ratio9C edge9C
theorem xOf9_dig (y : F) : xOf9C (digF y) = (digF (xOfE y).1, (xOfE y).2) := by
  unfold xOf9C xOfFn
  rw [one9, edge9_dig, mul9_dig, mul9_dig, sub9_dig, add9_dig, ratio9_dig]; rfl
theorem t4F : toF 4 = 4 := by decide +kernel
theorem t5F : toF 5 = 5 := by decide +kernel
noncomputable def base9C : Pn := baseFn9 small9 mul9C inv9C of9C xOf9C
theorem base9_pn : base9C = pn baseE := by
  unfold base9C baseFn9
  rw [small9_dig (by decide) (by decide), small9_dig (by decide) (by decide), t4F, t5F, inv9_dig, mul9_dig, xOf9_dig]
  show of9C (digF (xOfE (4 * F.inv 5)).1) (digF (4 * F.inv 5)) = _
  rw [of9_pn]; rfl
noncomputable def decode9C : B32 → Pn × Bool := decodeFn9 neg9C from9C canonical9C zero9C of9C xOf9C
theorem decode9_core (c ok t : Bool) (b : B32) (X Y : F) (hc : canonical9C b = c) (hf : from9C b = digF Y) (hx : xOf9C (digF Y) = (digF X, ok)) (ht : decide (b.get 31 > 127) = t) :
    decode9C b = (if (ok && c && !(t && decide (X = 0))) = true then pn (affE (if t = true then -X else X) Y) else pn zeroE, ok && c && !(t && decide (X = 0))) := by
  unfold decode9C decodeFn9
  simp only [hc, hf, hx, ht, selN_self, Bool.cond_self]
  rw [zero_dig, eq_dig, neg9_dig, sel_dig, of9_pn, zero9_pn, selPn_dig, selPn_dig]
  generalize decide (X = 0) = z
  cases c <;> cases ok <;> cases t <;> cases z <;> rfl
theorem decode9_pn {b : B32} (h : OkB b) : decode9C b = (pn (decE b).1, (decE b).2) := by
  rw [decode9_core (canonical9C b) (xOfE (toF (valB b % p2255))).2 (decide (b.get 31 > 127)) b (xOfE (toF (valB b % p2255))).1 (toF (valB b % p2255)) rfl (from9_dig h) (xOf9_dig _) rfl, canonical9_dig h]
  have ht : decide (b.get 31 > 127) = decide (128 ≤ b.get 31) := by congr 1
  rw [ht]
  unfold decE
  simp only []
  generalize (xOfE (toF (valB b % p2255))).2 = ok at *
  generalize (xOfE (toF (valB b % p2255))).1 = X at *
  have hg : (ok && decide (valB b % p2255 < (pp : Int)) && !(decide (128 ≤ b.get 31) && decide (X = 0))) = decide (ok = true ∧ valB b % p2255 < (pp : Int) ∧ ¬(128 ≤ b.get 31 ∧ X = 0)) := by
    cases ok
    · simp
    · by_cases h1 : valB b % p2255 < (pp : Int) <;> by_cases h2 : 128 ≤ b.get 31 <;> by_cases h3 : X = 0 <;> simp [h2, h3]
  rw [hg]
  by_cases h : ok = true ∧ valB b % p2255 < (pp : Int) ∧ ¬(128 ≤ b.get 31 ∧ X = 0)
  · rw [decide_eq_true h, if_pos h, if_pos rfl]
    by_cases h2 : 128 ≤ b.get 31
    · rw [decide_eq_true h2, if_pos rfl, if_pos h2]
    · rw [decide_eq_false h2, if_neg (by decide), if_neg h2]
  · rw [decide_eq_false h, if_neg h, if_neg (by decide)]
noncomputable def encode9C : Pn → B32 := encodeFn9 mul9C inv9C odd9 bytes9
theorem encode9_pn (p : E4) : encode9C (pn p) = encE p := by
  unfold encode9C encodeFn9
  show selN (odd9 (mul9C (digF p.1) (inv9C (digF p.2.2.1)))) (Vec.upd (fun x => IntKind.u8.wrap (x + 128)) 31 (bytes9 (mul9C (digF p.2.1) (inv9C (digF p.2.2.1))))) (bytes9 (mul9C (digF p.2.1) (inv9C (digF p.2.2.1)))) = _
  rw [inv9_dig, mul9_dig, mul9_dig, bytes9_dig, odd9_dig, selN_dec]
  have hb := bytes_top (p.2.1 * F.inv p.2.2.1)
  have hu : Vec.upd (fun x => IntKind.u8.wrap (x + 128)) 31 (bytesF (p.2.1 * F.inv p.2.2.1)) = topSet (bytesF (p.2.1 * F.inv p.2.2.1)) := by
    refine upd_congr ?_
    generalize Vec.get (bytesF (p.2.1 * F.inv p.2.2.1)) 31 = z at *
    show IntKind.u8.wrap (z + 128) = z + 128
    rw [wrap_u8]; omega
  rw [hu]; rfl
noncomputable def plus39C : Pn → Pn → Fn → Pn := plusFn9 mul9C add9C sub9C
noncomputable def plus9C (p q : Pn) : Pn := plus39C p q (add9C edge9C edge9C)
theorem addE_dd (p q : E4) : addE p q = (((p.2.1 + p.1) * (q.2.1 + q.1) - (p.2.1 - p.1) * (q.2.1 - q.1)) * ((p.2.2.1 + p.2.2.1) * q.2.2.1 - p.2.2.2 * q.2.2.2 * (dd + dd)),
    ((p.2.2.1 + p.2.2.1) * q.2.2.1 + p.2.2.2 * q.2.2.2 * (dd + dd)) * ((p.2.1 + p.1) * (q.2.1 + q.1) + (p.2.1 - p.1) * (q.2.1 - q.1)),
    ((p.2.2.1 + p.2.2.1) * q.2.2.1 - p.2.2.2 * q.2.2.2 * (dd + dd)) * ((p.2.2.1 + p.2.2.1) * q.2.2.1 + p.2.2.2 * q.2.2.2 * (dd + dd)),
    ((p.2.1 + p.1) * (q.2.1 + q.1) - (p.2.1 - p.1) * (q.2.1 - q.1)) * ((p.2.1 + p.1) * (q.2.1 + q.1) + (p.2.1 - p.1) * (q.2.1 - q.1))) := by
  unfold addE
  simp only []
  have e1 : p.2.2.2 * q.2.2.2 * dd + p.2.2.2 * q.2.2.2 * dd = p.2.2.2 * q.2.2.2 * (dd + dd) := by generalize dd = d; grobner
  have e2 : p.2.2.1 * q.2.2.1 + p.2.2.1 * q.2.2.1 = (p.2.2.1 + p.2.2.1) * q.2.2.1 := by grobner
  rw [e1, e2]
theorem plus39_pn (p q : E4) : plus39C (pn p) (pn q) (digF (dd + dd)) = pn (addE p q) := by
  rw [addE_dd]
  unfold plus39C plusFn9 pn
  simp only [mul9_dig, add9_dig, sub9_dig]
theorem plus9_pn (p q : E4) : plus9C (pn p) (pn q) = pn (addE p q) := by
  unfold plus9C
  rw [edge9_dig, add9_dig, plus39_pn]
noncomputable def turn9C (p : Pn) : Pn := (neg9C p.1, p.2.1, p.2.2.1, neg9C p.2.2.2)
theorem turn9_pn (p : E4) : turn9C (pn p) = pn (negE p) := by
  unfold turn9C pn negE
  simp only [neg9_dig]
end Go.Proofs.YthdfifcgobfgdaaGreat
namespace BJ
theorem F.one_ne : (1 : F) ≠ 0 := by decide +kernel
theorem F.pow_sq (s : F) (m : Nat) : F.pow (s * s) m = F.pow s (m + m) := by
  induction m with
  | zero => rw [F.pow_zero, F.pow_zero]
  | succ m ih =>
    rw [F.pow_succ, ih, show m + 1 + (m + 1) = (m + m + 1) + 1 from by omega, F.pow_succ, F.pow_succ]
    grobner
theorem F.fermat {s : F} (h : s ≠ 0) : F.pow s (pp - 1) = 1 := by
  apply Fin.ext
  show s.val ^ (pp - 1) % pp = 1
  exact pp_root.fermat (F.val_ne h)
theorem F.sq_one {t : F} (h : t * t = 1) : t = 1 ∨ t = -1 := by
  have : (t - 1) * (t + 1) = 0 := by grobner
  rcases F.mul_eq_zero this with h1 | h1
  · left; grobner
  · right; grobner
theorem F.sq_eq {a b : F} (h : a * a = b * b) : a = b ∨ a = -b := by
  have : (a - b) * (a + b) = 0 := by grobner
  rcases F.mul_eq_zero this with h1 | h1
  · left; grobner
  · right; grobner
theorem pick_true {r a : F} (h : r * r = a) : (pickRoot r a).2 = true := by
  unfold pickRoot; rw [if_pos h]
theorem pick_sq {r a : F} (h : (pickRoot r a).2 = true) : (pickRoot r a).1 * (pickRoot r a).1 = a := by
  unfold pickRoot at h ⊢
  by_cases h1 : r * r = a
  · rw [if_pos h1]
    show (if r.val % 2 = 1 then -r else r) * (if r.val % 2 = 1 then -r else r) = a
    by_cases h2 : r.val % 2 = 1
    · rw [if_pos h2]; grobner
    · rw [if_neg h2]; exact h1
  · rw [if_neg h1] at h; cases h
theorem root_abs {s c : F} {m k : Nat} (hm : m + m = k + 1) (hk : s ≠ 0 → F.pow s (k + k) * F.pow s (k + k) = 1) (hc : c * c = -1) :
    (pickRoot (if F.pow (s * s) m * F.pow (s * s) m = s * s then F.pow (s * s) m else F.pow (s * s) m * c) (s * s)).2 = true := by
  apply pick_true
  by_cases h : F.pow (s * s) m * F.pow (s * s) m = s * s
  · rw [if_pos h]; exact h
  · rw [if_neg h]
    have h1 : F.pow (s * s) m * F.pow (s * s) m = F.pow s (k + k) * (s * s) := by
      rw [← F.pow_add, hm, F.pow_succ, F.pow_sq]
    by_cases hs : s = 0
    · exfalso; apply h; rw [h1, hs]; grobner
    · rcases F.sq_one (hk hs) with h2 | h2
      · exfalso; apply h; rw [h1, h2]; grobner
      · rw [h2] at h1
        generalize F.pow (s * s) m = r at *
        grobner
theorem exp_half : (pp + 3) / 8 + (pp + 3) / 8 = (pp - 1) / 4 + 1 := by decide +kernel
theorem exp_full : (pp - 1) / 4 + (pp - 1) / 4 + ((pp - 1) / 4 + (pp - 1) / 4) = pp - 1 := by decide +kernel
theorem root_minus : F.pow 2 ((pp - 1) / 4) * F.pow 2 ((pp - 1) / 4) = -1 := by
  rw [F.pow_K 2 (by decide +kernel)]; decide +kernel
theorem root_of_sq (s : F) : (rootOf (s * s)).2 = true := by
  rw [root_pick]
  exact root_abs exp_half (fun hs => by rw [← F.pow_add, exp_full]; exact F.fermat hs) root_minus
theorem root_sq {a : F} (h : (rootOf a).2 = true) : (rootOf a).1 * (rootOf a).1 = a := by
  rw [root_pick] at h ⊢; exact pick_sq h
theorem den_ne (y : F) : dd * (y * y) + 1 ≠ 0 := by
  intro h
  have hy : y ≠ 0 := by rintro rfl; exact F.one_ne (by grobner)
  have hi := F.inv_mul hy
  have h2 := ii_sq
  apply dd_nonsquare (ii * F.inv y)
  generalize F.inv y = v at *
  grobner
theorem xOf_on {y : F} (h : (xOfE y).2 = true) : OnC (xOfE y).1 y := by
  unfold xOfE ratioOf at h ⊢
  rw [if_neg (den_ne y)] at h ⊢
  have h1 := root_sq h
  have h2 := F.inv_mul (den_ne y)
  generalize (rootOf ((y * y - 1) * F.inv (dd * (y * y) + 1))).1 = x at *
  generalize F.inv (dd * (y * y) + 1) = v at *
  unfold OnC
  grobner
theorem xOf_of {x y : F} (h : OnC x y) : (xOfE y).2 = true ∧ ((xOfE y).1 = x ∨ (xOfE y).1 = -x) := by
  have h2 := F.inv_mul (den_ne y)
  have e : (y * y - 1) * F.inv (dd * (y * y) + 1) = x * x := by
    apply F.cancel (den_ne y)
    unfold OnC at h
    generalize F.inv (dd * (y * y) + 1) = v at *
    grobner
  unfold xOfE ratioOf
  rw [if_neg (den_ne y), e]
  exact ⟨root_of_sq x, F.sq_eq (root_sq (root_of_sq x))⟩
def IsP (p : E4) (P : Pt) : Prop := p.2.2.1 ≠ 0 ∧ p.1 = P.x * p.2.2.1 ∧ p.2.1 = P.y * p.2.2.1 ∧ p.2.2.2 = P.x * P.y * p.2.2.1
theorem isP_aff (P : Pt) : IsP (affE P.x P.y) P :=
  ⟨F.one_ne, (show P.x = P.x * 1 by grobner), (show P.y = P.y * 1 by grobner), (show P.x * P.y = P.x * P.y * 1 by grobner)⟩
theorem isP_zero : IsP zeroE Pt.zero := isP_aff Pt.zero
theorem add_aux {x1 y1 Z1 x2 y2 Z2 : F} {A B : F} (h1 : OnC x1 y1) (h2 : OnC x2 y2) (hz1 : Z1 ≠ 0) (hz2 : Z2 ≠ 0)
    (hA : A * (1 + dd * x1 * x2 * y1 * y2) = x1 * y2 + y1 * x2) (hB : B * (1 - dd * x1 * x2 * y1 * y2) = y1 * y2 + x1 * x2) {r : E4}
    (hr : addE (x1 * Z1, y1 * Z1, Z1, x1 * y1 * Z1) (x2 * Z2, y2 * Z2, Z2, x2 * y2 * Z2) = r) : r.2.2.1 ≠ 0 ∧ r.1 = A * r.2.2.1 ∧ r.2.1 = B * r.2.2.1 ∧ r.2.2.2 = A * B * r.2.2.1 := by
  have d1 := denom_plus h1 h2
  have d2 := denom_minus h1 h2
  subst hr
  unfold addE
  simp only []
  generalize hD : dd * x1 * x2 * y1 * y2 = D at *
  have e1 : y1 * Z1 * Z2 + y1 * Z1 * Z2 = y1 * Z1 * Z2 + y1 * Z1 * Z2 := rfl
  have eba : (y1 * Z1 + x1 * Z1) * (y2 * Z2 + x2 * Z2) - (y1 * Z1 - x1 * Z1) * (y2 * Z2 - x2 * Z2) = 2 * (Z1 * Z2) * (A * (1 + D)) := by rw [hA]; grobner
  have ebA : (y1 * Z1 + x1 * Z1) * (y2 * Z2 + x2 * Z2) + (y1 * Z1 - x1 * Z1) * (y2 * Z2 - x2 * Z2) = 2 * (Z1 * Z2) * (B * (1 - D)) := by rw [hB]; grobner
  have edc : Z1 * Z2 + Z1 * Z2 - (x1 * y1 * Z1 * (x2 * y2 * Z2) * dd + x1 * y1 * Z1 * (x2 * y2 * Z2) * dd) = 2 * (Z1 * Z2) * (1 - D) := by rw [← hD]; grobner
  have edC : Z1 * Z2 + Z1 * Z2 + (x1 * y1 * Z1 * (x2 * y2 * Z2) * dd + x1 * y1 * Z1 * (x2 * y2 * Z2) * dd) = 2 * (Z1 * Z2) * (1 + D) := by rw [← hD]; grobner
  rw [eba, ebA, edc, edC]
  have hne := F.mul_ne two_ne (F.mul_ne hz1 hz2)
  refine ⟨F.mul_ne (F.mul_ne hne d2) (F.mul_ne hne d1), ?_, ?_, ?_⟩ <;> grobner
theorem isP_form {p : E4} {P : Pt} (h : IsP p P) : p = (P.x * p.2.2.1, P.y * p.2.2.1, p.2.2.1, P.x * P.y * p.2.2.1) := by
  obtain ⟨X, Y, Z, T⟩ := p
  obtain ⟨_, h1, h2, h3⟩ := h
  simp only at h1 h2 h3
  rw [h1, h2, h3]
theorem isP_add {p q : E4} {P Q : Pt} (hp : IsP p P) (hq : IsP q Q) : IsP (addE p q) (P.add Q) := by
  have h := add_aux P.on Q.on hp.1 hq.1 (addX_mul P.on Q.on) (addY_mul P.on Q.on) (r := addE p q) (by rw [← isP_form hp, ← isP_form hq])
  exact h
theorem isP_neg {p : E4} {P : Pt} (hp : IsP p P) : IsP (negE p) P.neg := by
  obtain ⟨X, Y, Z, T⟩ := p
  obtain ⟨h0, h1, h2, h3⟩ := hp
  simp only at h0 h1 h2 h3
  refine ⟨h0, ?_, h2, ?_⟩
  · show -X = -P.x * Z
    grobner
  · show -T = -P.x * P.y * Z
    grobner
theorem isP_x {p : E4} {P : Pt} (hp : IsP p P) : p.1 * F.inv p.2.2.1 = P.x := by
  obtain ⟨h0, h1, _⟩ := hp
  have := F.inv_mul h0
  rw [h1]
  generalize F.inv p.2.2.1 = v at *
  grobner
theorem isP_y {p : E4} {P : Pt} (hp : IsP p P) : p.2.1 * F.inv p.2.2.1 = P.y := by
  obtain ⟨h0, _, h2, _⟩ := hp
  have := F.inv_mul h0
  rw [h2]
  generalize F.inv p.2.2.1 = v at *
  grobner
theorem Pt.zero_add (p : Pt) : Pt.zero.add p = p := by rw [Pt.add_comm, Pt.add_zero]
def nsm : Nat → Pt → Pt
  | 0, _ => Pt.zero
  | n + 1, p => (nsm n p).add p
theorem nsm_add (m n : Nat) (p : Pt) : nsm (m + n) p = (nsm m p).add (nsm n p) := by
  induction n with
  | zero =>
    show nsm m p = (nsm m p).add Pt.zero
    rw [Pt.add_zero]
  | succ n ih => rw [← Nat.add_assoc, nsm, nsm, ih, Pt.add_assoc]
theorem add4 (a b c d : Pt) : (a.add b).add (c.add d) = (a.add c).add (b.add d) := by
  rw [Pt.add_assoc, Pt.add_assoc, ← Pt.add_assoc b, Pt.add_comm b c, Pt.add_assoc c]
theorem nsm_over (n : Nat) (p q : Pt) : nsm n (p.add q) = (nsm n p).add (nsm n q) := by
  induction n with
  | zero =>
    show Pt.zero = Pt.zero.add Pt.zero
    rw [Pt.add_zero]
  | succ n ih => rw [nsm, nsm, nsm, ih, add4]
theorem nsm_zero (n : Nat) : nsm n Pt.zero = Pt.zero := by
  induction n with
  | zero => rfl
  | succ n ih => rw [nsm, ih, Pt.add_zero]
theorem nsm_mul (m n : Nat) (p : Pt) : nsm (m * n) p = nsm m (nsm n p) := by
  induction m with
  | zero => rw [Nat.zero_mul]; rfl
  | succ m ih => rw [Nat.succ_mul, nsm_add, ih, nsm]
theorem add_left {a b c : Pt} (h : a.add b = a.add c) : b = c := by
  have : a.neg.add (a.add b) = a.neg.add (a.add c) := by rw [h]
  rwa [← Pt.add_assoc, ← Pt.add_assoc, Pt.add_comm a.neg, Pt.add_neg, Pt.zero_add, Pt.zero_add] at this
theorem nsm_neg (n : Nat) (p : Pt) : nsm n p.neg = (nsm n p).neg := by
  apply add_left (a := nsm n p)
  rw [← nsm_over, Pt.add_neg, Pt.add_neg, nsm_zero]
theorem nsm_one (p : Pt) : nsm 1 p = p := Pt.zero_add p
end BJ
namespace Go.Proofs.YthdfifcgobfgdaaGreat
open Go Go.Ev
set_option maxRecDepth 1000000
section
variable (bit : B32 → Nat → Int) (zero : Pn) (edge : Fn) (add : Fn → Fn → Fn) (plus3 : Pn → Pn → Fn → Pn)
noncomputable def multStep9 (n : B32) (p : Pn) (d : Fn) (i : Int) (q : Pn) : Pn := selPn (bit n i.toNat == 1) (plus3 (plus3 q q d) p d) (plus3 q q d)
noncomputable def multFn9 (n : B32) (p : Pn) : Pn := rnds (fun k q => multStep9 bit plus3 n p (add edge edge) (255 - (k : Int)) q) 256 zero
end
section
variable (decode : B32 → Pt × Bool) (base : Pt) (double : Pt → Pt)
end
section
variable (decode : B32 → Pt × Bool) (base : Pt) (double : Pt → Pt) (decode9 : B32 → Pn × Bool) (base9 : Pn) (plus9 : Pn → Pn → Pn)
end
end Go.Proofs.YthdfifcgobfgdaaGreat
namespace Go.Proofs.YthdfifcgobfgdaaGreat
open Go Go.Ev BJ
set_option maxRecDepth 1000000
noncomputable def below9C (a b : Fn) : Bool := belowAt a b 16
noncomputable def mult9C : B32 → Pn → Pn := multFn9 bitFn9 zero9C edge9C add9C plus39C
end Go.Proofs.YthdfifcgobfgdaaGreat
namespace Go.Ev
open Go
end Go.Ev
namespace Go.Proofs.YthdfifcgobfgdaaGreat
open Go Go.Ev BJ
set_option maxRecDepth 1000000
def both (a b : Bool) : Bool := bif a == true then b else false
section
variable (at2 : B32 → Pt × Pn) (zero : Pt) (add : Pt → Pt → Pt) (neg double : Pt → Pt) (equal : Pt → Pt → Bool) (encode : Pt → B32)
end
section
variable (at2 : B32 → Pt × Pn) (decode : B32 → Pt × Bool) (add : Pt → Pt → Pt) (neg double : Pt → Pt) (equal : Pt → Pt → Bool) (encode : Pt → B32) (decode9 : B32 → Pn × Bool) (plus9 : Pn → Pn → Pn) (turn9 : Pn → Pn) (alike9 : Pn → Pn → Bool) (encode9 : Pn → B32)
end
section
variable (zero : Pt) (decode : B32 → Pt × Bool) (neg double : Pt → Pt) (equal : Pt → Pt → Bool)
end
end Go.Proofs.YthdfifcgobfgdaaGreat
namespace Go.Proofs.YthdfifcgobfgdaaGreat
open Go Go.Ev BJ
theorem dec_is (b : B32) : ∃ P : BJ.Pt, IsP (decE b).1 P := by
  unfold decE
  simp only []
  by_cases h : (xOfE (toF (valB b % p2255))).2 = true ∧ valB b % p2255 < (pp : Int) ∧ ¬(128 ≤ b.get 31 ∧ (xOfE (toF (valB b % p2255))).1 = 0)
  · rw [if_pos h]
    have ho := xOf_on h.1
    generalize (xOfE (toF (valB b % p2255))).1 = X at *
    generalize toF (valB b % p2255) = Y at *
    by_cases h2 : 128 ≤ b.get 31
    · rw [if_pos h2]
      have ho' : OnC (-X) Y := by unfold OnC at *; grobner
      exact ⟨⟨-X, Y, ho'⟩, isP_aff ⟨-X, Y, ho'⟩⟩
    · rw [if_neg h2]
      exact ⟨⟨X, Y, ho⟩, isP_aff ⟨X, Y, ho⟩⟩
  · rw [if_neg h]
    exact ⟨_, isP_zero⟩
theorem base_on : OnC baseX baseY := by unfold OnC; decide +kernel
def baseP : BJ.Pt := ⟨baseX, baseY, base_on⟩
theorem base_isP : IsP baseE baseP := by
  rw [base_lit]; exact isP_aff baseP
structure Rep (p : Pt) (P : BJ.Pt) : Prop where
  ok : OkPt p
  is : IsP (ptE p) P
theorem rep_zero : Rep zeroC BJ.Pt.zero := ⟨zero_is.1, by rw [zero_is.2]; exact isP_zero⟩
theorem rep_base : Rep baseC baseP := ⟨base_is.1, by rw [base_is.2]; exact base_isP⟩
theorem rep_add {p q : Pt} {P Q : BJ.Pt} (hp : Rep p P) (hq : Rep q Q) : Rep (addPC p q) (P.add Q) := by
  obtain ⟨h1, _, h3⟩ := add_pt hp.ok hq.ok
  exact ⟨h1, by rw [h3]; exact isP_add hp.is hq.is⟩
theorem rep_double {p : Pt} {P : BJ.Pt} (hp : Rep p P) : Rep (doubleC p) (P.add P) := rep_add hp hp
theorem rep_neg {p : Pt} {P : BJ.Pt} (hp : Rep p P) : Rep (negPC p) P.neg := by
  obtain ⟨h1, _, h3⟩ := neg_pt hp.ok
  exact ⟨h1, by rw [h3]; exact isP_neg hp.is⟩
noncomputable def encP (P : BJ.Pt) : B32 := if P.x.val % 2 = 1 then topSet (bytesF P.y) else bytesF P.y
theorem rep_enc {p : Pt} {P : BJ.Pt} (hp : Rep p P) : encodeC p = encP P := by
  rw [encode_pt hp.ok]
  unfold encE encP
  rw [isP_x hp.is, isP_y hp.is]
theorem encP_val (P : BJ.Pt) : valB (encP P) = (P.y.val : Int) + (if P.x.val % 2 = 1 then p2255 else 0) := by
  unfold encP
  obtain ⟨h1, h2⟩ := bytesF_val P.y
  by_cases h : P.x.val % 2 = 1
  · rw [if_pos h, if_pos h, (topSet_val h1 (bytes_top _).2).2, h2]
  · rw [if_neg h, if_neg h, h2, Int.add_zero]
theorem encP_inj {P Q : BJ.Pt} (h : encP P = encP Q) : P = Q := by
  have hv := congrArg valB h
  rw [encP_val, encP_val] at hv
  have hp := pp_pos P.y
  have hq := pp_pos Q.y
  have c1 := p2255_int
  have c2 := pp_int
  have hy : P.y = Q.y := F_ext (by split at hv <;> split at hv <;> omega)
  have hpar : P.x.val % 2 = 1 ↔ Q.x.val % 2 = 1 := by
    split at hv <;> split at hv <;> omega
  refine BJ.Pt.ext' ?_ hy
  have e1 := xOf_of P.on
  have e2 := xOf_of Q.on
  rw [← hy] at e2
  have hc : P.x = Q.x ∨ P.x = -Q.x := by
    rcases e1.2 with a | a <;> rcases e2.2 with b | b <;> rw [a] at b
    · exact .inl b
    · exact .inr b
    · right; grobner
    · left; grobner
  rcases hc with h1 | h1
  · exact h1
  · by_cases h0 : Q.x = 0
    · rw [h1, h0]; grobner
    · have := neg_odd h0
      rw [← h1] at this
      omega
end Go.Proofs.YthdfifcgobfgdaaGreat
namespace Go.Proofs.YthdfifcgobfgdaaGreat
open Go Go.Ev BJ
theorem mult_isP {V : Nat} (hV : V < 2 ^ 256) {p : E4} {P : BJ.Pt} (hp : IsP p P) : IsP (multE V p) (nsm V P) := by
  have key : ∀ k, k ≤ 256 → IsP (rnds (stepE4 V p) k zeroE) (nsm (V / 2 ^ (256 - k)) P) := by
    intro k
    induction k with
    | zero =>
      intro _
      rw [Nat.sub_zero, Nat.div_eq_of_lt hV]
      exact isP_zero
    | succ k ih =>
      intro hk
      have h := ih (by omega)
      show IsP (stepE4 V p k (rnds (stepE4 V p) k zeroE)) _
      have hdiv : V / 2 ^ (256 - k) = V / 2 ^ (256 - (k + 1)) / 2 := by
        rw [Nat.div_div_eq_div_mul, ← Nat.pow_succ]; congr 2; omega
      rw [hdiv] at h
      unfold stepE4 bitE
      rw [show 255 - k = 256 - (k + 1) from by omega]
      generalize V / 2 ^ (256 - (k + 1)) = M at *
      have h2 := isP_add h h
      rw [← nsm_add] at h2
      by_cases hb : M % 2 = 1
      · rw [decide_eq_true hb, if_pos rfl]
        have h3 := isP_add h2 hp
        have e : (nsm (M / 2 + M / 2) P).add P = nsm M P := by
          have : M = (M / 2 + M / 2) + 1 := by omega
          conv => rhs; rw [this]
          rfl
        rw [e] at h3; exact h3
      · rw [decide_eq_false hb, if_neg (by simp)]
        rw [show M / 2 + M / 2 = M from by omega] at h2; exact h2
  have := key 256 (by omega)
  rw [Nat.sub_self, Nat.pow_zero, Nat.div_one] at this
  exact this
theorem val_lt {n : B32} (h : OkB n) : (valB n).toNat < 2 ^ 256 := by
  have h1 := valB_lt h
  have h0 := valB_nonneg h
  have h256 : (256 ^ 32 : Nat) = 2 ^ 256 := by rw [show (256 : Nat) = 2 ^ 8 from rfl, ← Nat.pow_mul]
  rw [h256] at h1
  omega
theorem rep_mult {n : B32} {p : Pt} {P : BJ.Pt} (hn : OkB n) (hp : Rep p P) : Rep (multC n p) (nsm (valB n).toNat P) := by
  obtain ⟨h1, h2⟩ := mult_pt hn hp.ok
  exact ⟨h1, by rw [h2]; exact mult_isP (val_lt hn) hp.is⟩
theorem mult9_pn {n : B32} (hn : OkB n) (p : E4) : mult9C n (pn p) = pn (multE (valB n).toNat p) := by
  have hd : add9C edge9C edge9C = digF (dd + dd) := by rw [edge9_dig, add9_dig]
  have key : ∀ k, k ≤ 256 → rnds (fun k q => multStep9 bitFn9 plus39C n (pn p) (add9C edge9C edge9C) (255 - (k : Int)) q) k zero9C = pn (rnds (stepE4 (valB n).toNat p) k zeroE) := by
    intro k
    induction k with
    | zero => intro _; exact zero9_pn
    | succ k ih =>
      intro hk
      simp only [rnds]
      rw [ih (by omega)]
      unfold multStep9 stepE4
      rw [hd, plus39_pn, plus39_pn, show (255 - (k : Int)).toNat = 255 - k from by omega, bit9_eq hn (by omega), bitFn_val hn (by omega), selPn_dig]
  exact key 256 (by omega)
theorem dec_encP (P : BJ.Pt) : OkB (encP P) ∧ decE (encP P) = (affE P.x P.y, true) := by
  obtain ⟨b1, b2⟩ := bytesF_val P.y
  have hv := encP_val P
  have hok : OkB (encP P) := by
    unfold encP
    split
    · exact (topSet_val b1 (bytes_top _).2).1
    · exact b1
  have hp := pp_pos P.y
  have c1 := p2255_int
  have c2 := pp_int
  have hm : valB (encP P) % p2255 = (P.y.val : Int) := by
    have c3 : ∀ x : Int, x % p2255 = x % 57896044618658097711785492504343953926634992332820282019728792003956564819968 := fun _ => rfl
    rw [hv, c3]
    split <;> omega
  have hF : toF (valB (encP P) % p2255) = P.y := by rw [hm, toF_of]
  have h31 := get_val hok (i := 31) (by decide)
  rw [p255] at h31
  have htop : 128 ≤ (encP P).get 31 ↔ P.x.val % 2 = 1 := by
    rw [h31, hv]
    split <;> omega
  obtain ⟨x1, x2⟩ := xOf_of P.on
  have hev := xOf_even P.y
  refine ⟨hok, ?_⟩
  unfold decE
  simp only [hF]
  have hcond : (xOfE P.y).2 = true ∧ valB (encP P) % p2255 < (pp : Int) ∧ ¬(128 ≤ (encP P).get 31 ∧ (xOfE P.y).1 = 0) := by
    refine ⟨x1, by rw [hm]; exact hp.2, fun ⟨h1, h2⟩ => ?_⟩
    have hodd := htop.1 h1
    have hx0 : P.x = 0 := by
      rcases x2 with h | h
      · rw [← h, h2]
      · have : P.x = -(xOfE P.y).1 := by rw [h]; grobner
        rw [this, h2]; grobner
    rw [hx0, BJ.F.zero_val] at hodd; cases hodd
  rw [if_pos hcond]
  have hsel : (if 128 ≤ (encP P).get 31 then -(xOfE P.y).1 else (xOfE P.y).1) = P.x := by
    generalize (xOfE P.y).1 = X at *
    by_cases h : P.x.val % 2 = 1
    · rw [if_pos (htop.2 h)]
      rcases x2 with e | e
      · rw [e] at hev; omega
      · rw [e]; grobner
    · rw [if_neg fun h' => h (htop.1 h')]
      rcases x2 with e | e
      · exact e
      · by_cases h0 : P.x = 0
        · rw [e, h0]; grobner
        · have := neg_odd h0
          rw [← e] at this
          omega
  rw [hsel]
end Go.Proofs.YthdfifcgobfgdaaGreat
namespace Go.Proofs.YthdfifcgobfgdaaGreat
open Go Go.Ev BJ
set_option maxRecDepth 1000000
section
variable (alive : Unit) (mult : B32 → Pt → Pt) (mbase : B32 → Pt) (base zero : Pt) (double neg : Pt → Pt) (equal : Pt → Pt → Bool) (at13 : B32 → Pt) (add : Pt → Pt → Pt) (half : B32 → B32) (plus : B32 → B32 → B32) (two3 : B32 → Pt → B32 → Pt)
end
end Go.Proofs.YthdfifcgobfgdaaGreat
namespace Go.Proofs.YthdfifcgobfgdaaGreat
open Go Go.Ev
set_option maxRecDepth 1000000
section
variable (bit : B32 → Nat → Int) (zero base : Pt) (double : Pt → Pt) (padd : Pt → Pt → Pt)
def pickN (z : Int) : {n : Nat} → List (Vec Int n) → Vec Int n
  | 0, _ => ()
  | _ + 1, l => ((l.map (·.1)).getD z.toNat 0, pickN z (l.map (·.2)))
noncomputable def pickPt (z : Int) (l : List Pt) : Pt := ((l.map (·.1)).getD z.toNat false, pickN z (l.map (·.2.1)), pickN z (l.map (·.2.2.1)), pickN z (l.map (·.2.2.2.1)), pickN z (l.map (·.2.2.2.2)))
def vec4 (a b c d : Pt) : Vec Pt 4 := (a, b, c, d, ())
noncomputable def twoK (a b : B32) (i : Int) : Int := w (bit a i.toNat + w (2 * bit b i.toNat))
noncomputable def twoStep (a b : B32) (l : Vec Pt 4) (i : Int) (r : Pt) : Pt := selPt (decide (twoK bit a b i > 0)) (padd (double r) (pickPt (twoK bit a b i) l.toList)) (double r)
noncomputable def twoFn (a : B32) (p : Pt) (b : B32) : Pt := rnds (fun k r => twoStep bit double padd a b (vec4 zero p base (padd p base)) (255 - (k : Int)) r) 256 zero
end
end Go.Proofs.YthdfifcgobfgdaaGreat
namespace Go.Proofs.YthdfifcgobfgdaaGreat
open Go Go.Ev BJ
theorem bit_01 {e : B32} (_k : Nat) : bitFn e _k = 0 ∨ bitFn e _k = 1 := by
  unfold bitFn
  rw [and_u8 (m := 1) (by decide) _ 1 (by decide)]
  have h := Int.emod_nonneg (shr .u8 (e.get (_k / 8)) ((_k % 8 : Nat) : Int)) (b := ((2 ^ 1 : Nat) : Int)) (by decide)
  have h2 := Int.emod_lt_of_pos (shr .u8 (e.get (_k / 8)) ((_k % 8 : Nat) : Int)) (b := ((2 ^ 1 : Nat) : Int)) (by decide)
  generalize (shr .u8 (e.get (_k / 8)) ((_k % 8 : Nat) : Int)) % ((2 ^ 1 : Nat) : Int) = x at *
  have h3 : ((2 ^ 1 : Nat) : Int) = 2 := by decide
  rw [h3] at h2
  rw [wrap_i64 (by omega) (by omega)]
  omega
noncomputable def twoC : B32 → Pt → B32 → Pt := twoFn bitFn zeroC baseC doubleC addPC
theorem pickN_get (z : Nat) : ∀ {n : Nat} (l : List (Vec Int n)) (v : Vec Int n), l[z]? = some v → pickN (z : Int) l = v
  | 0, _, _, _ => rfl
  | n + 1, l, v, h => by
    have h1 : (l.map (·.1))[z]? = some v.1 := by rw [List.getElem?_map, h]; rfl
    have h2 : (l.map (·.2))[z]? = some v.2 := by rw [List.getElem?_map, h]; rfl
    show ((l.map (·.1)).getD ((z : Int)).toNat 0, pickN (z : Int) (l.map (·.2))) = v
    rw [pickN_get z _ _ h2, Int.toNat_natCast, List.getD_eq_getElem?_getD, h1]; rfl
theorem pickPt_get (z : Nat) (l : List Pt) (v : Pt) (h : l[z]? = some v) : pickPt (z : Int) l = v := by
  have hm : ∀ {α : Type} (f : Pt → α), (l.map f)[z]? = some (f v) := fun f => by rw [List.getElem?_map, h]; rfl
  unfold pickPt
  rw [Int.toNat_natCast, List.getD_eq_getElem?_getD, hm, pickN_get z _ _ (hm _), pickN_get z _ _ (hm _), pickN_get z _ _ (hm _), pickN_get z _ _ (hm _)]; rfl
theorem bit_half (V : Nat) (k : Nat) (hk : k < 256) (e : B32) (he : OkB e) (hV : V = (valB e).toNat) : bitFn e (255 - (k : Int)).toNat = ((V / 2 ^ (256 - (k + 1)) % 2 : Nat) : Int) := by
  have h1 := bitFn_val he (i := (255 - (k : Int)).toNat) (by omega)
  have e1 : (255 - (k : Int)).toNat = 256 - (k + 1) := by omega
  rw [e1] at h1 ⊢
  unfold bitE at h1
  rw [← hV] at h1
  generalize V / 2 ^ (256 - (k + 1)) = M at *
  rcases bit_01 (e := e) (256 - (k + 1)) with h | h
  · rw [h] at h1 ⊢
    have : ¬ M % 2 = 1 := fun h' => by rw [decide_eq_true h'] at h1; cases h1
    omega
  · rw [h] at h1 ⊢
    have : M % 2 = 1 := by
      refine Classical.byContradiction fun h' => ?_
      rw [decide_eq_false h'] at h1; cases h1
    omega
theorem nsm_succ (n : Nat) (P : BJ.Pt) : (nsm (n + 1) P) = (nsm n P).add P := rfl
theorem add_four (a b c d : BJ.Pt) : ((a.add b).add (c.add d)) = (a.add c).add (b.add d) := add4 a b c d
theorem two_rep {a b : B32} {p : Pt} {P : BJ.Pt} (ha : OkB a) (hb : OkB b) (hp : Rep p P) : Rep (twoC a p b) ((nsm (valB a).toNat P).add (nsm (valB b).toNat baseP)) := by
  have key : ∀ k, k ≤ 256 → Rep (rnds (fun k r => twoStep bitFn doubleC addPC a b (vec4 zeroC p baseC (addPC p baseC)) (255 - (k : Int)) r) k zeroC) ((nsm ((valB a).toNat / 2 ^ (256 - k)) P).add (nsm ((valB b).toNat / 2 ^ (256 - k)) baseP)) := by
    intro k
    induction k with
    | zero =>
      intro _
      rw [Nat.sub_zero, Nat.div_eq_of_lt (val_lt ha), Nat.div_eq_of_lt (val_lt hb)]
      have e : (nsm 0 P).add (nsm 0 baseP) = BJ.Pt.zero := by
        show BJ.Pt.zero.add BJ.Pt.zero = _
        rw [BJ.Pt.add_zero]
      rw [e]; exact rep_zero
    | succ k ih =>
      intro hk
      have h := ih (by omega)
      simp only [rnds]
      generalize rnds (fun k r => twoStep bitFn doubleC addPC a b (vec4 zeroC p baseC (addPC p baseC)) (255 - (k : Int)) r) k zeroC = r at *
      have hdiv : ∀ V : Nat, V / 2 ^ (256 - k) = V / 2 ^ (256 - (k + 1)) / 2 := fun V => by
        rw [Nat.div_div_eq_div_mul, ← Nat.pow_succ]; congr 2; omega
      rw [hdiv, hdiv] at h
      have b1 := bit_half _ k (by omega) a ha rfl
      have b2 := bit_half _ k (by omega) b hb rfl
      unfold twoStep twoK
      rw [b1, b2]
      generalize (valB a).toNat / 2 ^ (256 - (k + 1)) = A at *
      generalize (valB b).toNat / 2 ^ (256 - (k + 1)) = B at *
      have hd := rep_double h
      rw [add_four, ← nsm_add, ← nsm_add] at hd
      have hA : A % 2 = 0 ∨ A % 2 = 1 := by omega
      have hB : B % 2 = 0 ∨ B % 2 = 1 := by omega
      rcases hA with hA | hA <;> rcases hB with hB | hB <;> rw [hA, hB]
      · have e1 : A / 2 + A / 2 = A := by omega
        have e2 : B / 2 + B / 2 = B := by omega
        have e3 : w (((0 : Nat) : Int) + w (2 * ((0 : Nat) : Int))) = 0 := by decide
        rw [e1, e2] at hd
        rw [e3, selPt_eq]; exact hd
      · have e1 : A / 2 + A / 2 = A := by omega
        have e2 : B = B / 2 + B / 2 + 1 := by omega
        have e3 : w (((0 : Nat) : Int) + w (2 * ((1 : Nat) : Int))) = ((2 : Nat) : Int) := by decide
        have hs := rep_add hd rep_base
        rw [e1, BJ.Pt.add_assoc] at hs
        rw [e3, selPt_eq, pickPt_get 2 _ baseC rfl]
        have e4 : nsm B baseP = (nsm (B / 2 + B / 2) baseP).add baseP := by rw [← nsm_succ, ← e2]
        rw [e4]; exact hs
      · have e1 : A = A / 2 + A / 2 + 1 := by omega
        have e2 : B / 2 + B / 2 = B := by omega
        have e3 : w (((1 : Nat) : Int) + w (2 * ((0 : Nat) : Int))) = ((1 : Nat) : Int) := by decide
        have hs := rep_add hd hp
        have e5 : ∀ x y z : BJ.Pt, (x.add y).add z = (x.add z).add y := fun x y z => by rw [BJ.Pt.add_assoc, BJ.Pt.add_comm y z, ← BJ.Pt.add_assoc]
        rw [e2, e5] at hs
        rw [e3, selPt_eq, pickPt_get 1 _ p rfl]
        have e4 : nsm A P = (nsm (A / 2 + A / 2) P).add P := by rw [← nsm_succ, ← e1]
        rw [e4]; exact hs
      · have e1 : A = A / 2 + A / 2 + 1 := by omega
        have e2 : B = B / 2 + B / 2 + 1 := by omega
        have e3 : w (((1 : Nat) : Int) + w (2 * ((1 : Nat) : Int))) = ((3 : Nat) : Int) := by decide
        have hs := rep_add hd (rep_add hp rep_base)
        rw [add_four] at hs
        rw [e3, selPt_eq, pickPt_get 3 _ (addPC p baseC) rfl]
        have e4 : nsm A P = (nsm (A / 2 + A / 2) P).add P := by rw [← nsm_succ, ← e1]
        have e5 : nsm B baseP = (nsm (B / 2 + B / 2) baseP).add baseP := by rw [← nsm_succ, ← e2]
        rw [e4, e5]; exact hs
  have := key 256 (by omega)
  rw [Nat.sub_self, Nat.pow_zero, Nat.div_one, Nat.div_one] at this
  exact this
end Go.Proofs.YthdfifcgobfgdaaGreat
end

section
set_option linter.unusedVariables false
set_option linter.unusedSimpArgs false
namespace Go.Proofs.YthdfifcgobfgdaaGreat
open Go Go.Ev BJ
set_option maxRecDepth 1000000
abbrev cFe : Cod LV Fe := vAgg (vecL .u64 5)
abbrev cB : Cod LV (List Int) := vRow .u8 32
abbrev nB32 (b : B32) : LV := nRow .u8 32 b.toList
abbrev u64A : Cod (List LV) (Int × Unit) := lCons (vOne (sInt .u64)) lNil
abbrev feA : Cod (List LV) (Fe × Unit) := lCons cFe lNil
abbrev fe2A : Cod (List LV) (Fe × Fe × Unit) := lCons cFe (lCons cFe lNil)
abbrev bA32 : Cod (List LV) (List Int × Unit) := lCons cB lNil
abbrev kK : List Wk := [.fr [.sym], .auto]
abbrev kR : List Wk := [.fr [.sym], .rowF 0 0 32 .u8, .auto]
noncomputable def fcarryE : Ent := Ent.ofS [] (feA) (lNil) fun x_ y_ => (fun (x : Fe) => .leaf none (cFe.wr (feCarry x)) []) x_.1
theorem fcarry_tree (x : Fe) : fnT Tryz.prog [] [] Tryz.f146 ((feA).wr (x, ())) ((lNil).wr ()) [.fr [.sym], .auto] = .leaf (cFe.wr (feCarry x)) ([]) := by kernel_rfl
theorem fcarry_ok : fcarryE.Ok Tryz.prog 146 := by
  refine (Ent.ofOk Tryz.call146 fun x_ y_ Q H_ => ?_).sym
  obtain ⟨x, _⟩ := x_
  have hq := H_.2
  refine (fnT_ok mixed tab0 Tryz.func146 rfl (LT := []) (ks := [.fr [.sym], .auto]) (LOk.nil _)).use (D := []) ?_ hq
  show (fnT _ _ _ _ ((feA).wr (x, ())) ((lNil).wr ()) _).sat _
  rw [fcarry_tree]
  exact ⟨rfl, rfl⟩
noncomputable def fsmallE : Ent := Ent.ofS [] (u64A) (lNil) fun x_ y_ => (fun (n : Int) => .leaf none (cFe.wr (feSmall n)) []) x_.1
theorem fsmall_tree (n : Int) : fnT Tryz.prog [] [] Tryz.f119 ((u64A).wr (n, ())) ((lNil).wr ()) [.fr [.sym], .auto] = .leaf (cFe.wr (feSmall n)) ([]) := by kernel_rfl
theorem fsmall_ok : fsmallE.Ok Tryz.prog 119 := by
  refine (Ent.ofOk Tryz.call119 fun x_ y_ Q H_ => ?_).sym
  obtain ⟨n, _⟩ := x_
  have hq := H_.2
  refine (fnT_ok mixed tab0 Tryz.func119 rfl (LT := []) (ks := [.fr [.sym], .auto]) (LOk.nil _)).use (D := []) ?_ hq
  show (fnT _ _ _ _ ((u64A).wr (n, ())) ((lNil).wr ()) _).sat _
  rw [fsmall_tree]
  exact ⟨rfl, rfl⟩
noncomputable def faddE : Ent := Ent.ofS [] (fe2A) (lNil) fun x_ y_ => (fun (x y : Fe) => .leaf none (cFe.wr (addC x y)) []) x_.1 x_.2.1
theorem fadd_tree (x y : Fe) : fnT Tryz.prog [(146, fcarryE)] [] Tryz.f136 ((fe2A).wr (x, y, ())) ((lNil).wr ()) [.fr [.sym], .auto] = .leaf (cFe.wr (addC x y)) ([]) := by kernel_rfl
theorem fadd_ok : faddE.Ok Tryz.prog 136 := by
  refine (Ent.ofOk Tryz.call136 fun x_ y_ Q H_ => ?_).sym
  obtain ⟨x, y, _⟩ := x_
  have hq := H_.2
  refine (fnT_ok mixed ((tabC fcarry_ok tab0)) Tryz.func136 rfl (LT := []) (ks := [.fr [.sym], .auto]) (LOk.nil _)).use (D := []) ?_ hq
  show (fnT _ _ _ _ ((fe2A).wr (x, y, ())) ((lNil).wr ()) _).sat _
  rw [fadd_tree]
  exact ⟨rfl, rfl⟩
noncomputable def fsubE : Ent := Ent.ofS [] (fe2A) (lNil) fun x_ y_ => (fun (x y : Fe) => .leaf none (cFe.wr (subC x y)) []) x_.1 x_.2.1
theorem fsub_tree (x y : Fe) : fnT Tryz.prog [(146, fcarryE)] [] Tryz.f135 ((fe2A).wr (x, y, ())) ((lNil).wr ()) [.fr [.sym], .auto] = .leaf (cFe.wr (subC x y)) ([]) := by kernel_rfl
theorem fsub_ok : fsubE.Ok Tryz.prog 135 := by
  refine (Ent.ofOk Tryz.call135 fun x_ y_ Q H_ => ?_).sym
  obtain ⟨x, y, _⟩ := x_
  have hq := H_.2
  refine (fnT_ok mixed ((tabC fcarry_ok tab0)) Tryz.func135 rfl (LT := []) (ks := [.fr [.sym], .auto]) (LOk.nil _)).use (D := []) ?_ hq
  show (fnT _ _ _ _ ((fe2A).wr (x, y, ())) ((lNil).wr ()) _).sat _
  rw [fsub_tree]
  exact ⟨rfl, rfl⟩
noncomputable def fnegE : Ent := Ent.ofS [] (feA) (lNil) fun x_ y_ => (fun (x : Fe) => .leaf none (cFe.wr (negC x)) []) x_.1
theorem fneg_tree (x : Fe) : fnT Tryz.prog [(135, fsubE)] [] Tryz.f94 ((feA).wr (x, ())) ((lNil).wr ()) [.fr [.sym], .auto] = .leaf (cFe.wr (negC x)) ([]) := by kernel_rfl
theorem fneg_ok : fnegE.Ok Tryz.prog 94 := by
  refine (Ent.ofOk Tryz.call94 fun x_ y_ Q H_ => ?_).sym
  obtain ⟨x, _⟩ := x_
  have hq := H_.2
  refine (fnT_ok mixed ((tabC fsub_ok tab0)) Tryz.func94 rfl (LT := []) (ks := [.fr [.sym], .auto]) (LOk.nil _)).use (D := []) ?_ hq
  show (fnT _ _ _ _ ((feA).wr (x, ())) ((lNil).wr ()) _).sat _
  rw [fneg_tree]
  exact ⟨rfl, rfl⟩
noncomputable def mul64E : Ent := Ent.ofS [] ((lCons (vOne (sInt .u64)) (lCons (vOne (sInt .u64)) lNil))) (lNil) fun x_ y_ => (fun (x y : Int) => .leaf none (.tup [.sc (.int .u64 (.sym (mulFn x y).1)), .sc (.int .u64 (.sym (mulFn x y).2))]) []) x_.1 x_.2.1
theorem mul64_tree (x y : Int) : fnT Tryz.prog [] [] Tryz.f122 (((lCons (vOne (sInt .u64)) (lCons (vOne (sInt .u64)) lNil))).wr (x, y, ())) ((lNil).wr ()) [.fr [.sym], .auto] = .leaf (.tup [.sc (.int .u64 (.sym (mulFn x y).1)), .sc (.int .u64 (.sym (mulFn x y).2))]) ([]) := by kernel_rfl
theorem mul64_ok : mul64E.Ok Tryz.prog 122 := by
  refine (Ent.ofOk Tryz.call122 fun x_ y_ Q H_ => ?_).sym
  obtain ⟨x, y, _⟩ := x_
  have hq := H_.2
  refine (fnT_ok mixed tab0 Tryz.func122 rfl (LT := []) (ks := [.fr [.sym], .auto]) (LOk.nil _)).use (D := []) ?_ hq
  show (fnT _ _ _ _ (((lCons (vOne (sInt .u64)) (lCons (vOne (sInt .u64)) lNil))).wr (x, y, ())) ((lNil).wr ()) _).sat _
  rw [mul64_tree]
  exact ⟨rfl, rfl⟩
noncomputable def ffromE : Ent := Ent.ofS [] (bA32) (lNil) fun x_ y_ => (fun (b : List Int) => .leaf none (cFe.wr (feFrom (v32 b))) []) x_.1
theorem ffrom_tree (b : List Int) : fnT Tryz.prog [] [] Tryz.f90 ((bA32).wr (b, ())) ((lNil).wr ()) [.fr [.sym], .auto] = .leaf (cFe.wr (feFrom (v32 b))) ([]) := by kernel_rfl
theorem ffrom_ok : ffromE.Ok Tryz.prog 90 := by
  refine (Ent.ofOk Tryz.call90 fun x_ y_ Q H_ => ?_).sym
  obtain ⟨b, _⟩ := x_
  have hq := H_.2
  refine (fnT_ok mixed tab0 Tryz.func90 rfl (LT := []) (ks := [.fr [.sym], .auto]) (LOk.nil _)).use (D := []) ?_ hq
  show (fnT _ _ _ _ ((bA32).wr (b, ())) ((lNil).wr ()) _).sat _
  rw [ffrom_tree]
  exact ⟨rfl, rfl⟩
noncomputable def fleastE : Ent := Ent.ofS [] (feA) (lNil) fun x_ y_ => (fun (x : Fe) => .leaf none (cFe.wr (leastC x)) []) x_.1
theorem fleast_tree (x : Fe) : fnT Tryz.prog [(146, fcarryE)] [] Tryz.f121 ((feA).wr (x, ())) ((lNil).wr ()) [.fr [.sym], .auto] = .leaf (cFe.wr (leastC x)) ([]) := by kernel_rfl
theorem fleast_ok : fleastE.Ok Tryz.prog 121 := by
  refine (Ent.ofOk Tryz.call121 fun x_ y_ Q H_ => ?_).sym
  obtain ⟨x, _⟩ := x_
  have hq := H_.2
  refine (fnT_ok mixed ((tabC fcarry_ok tab0)) Tryz.func121 rfl (LT := []) (ks := [.fr [.sym], .auto]) (LOk.nil _)).use (D := []) ?_ hq
  show (fnT _ _ _ _ ((feA).wr (x, ())) ((lNil).wr ()) _).sat _
  rw [fleast_tree]
  exact ⟨rfl, rfl⟩
noncomputable def fbytesE : Ent := Ent.ofS [] (feA) (lNil) fun x_ y_ => (fun (x : Fe) => .leaf none (nB32 (feBytes x)) []) x_.1
theorem fbytes_tree (x : Fe) : fnT Tryz.prog [(121, fleastE)] [] Tryz.f66 ((feA).wr (x, ())) ((lNil).wr ()) kR = .leaf (nB32 (feBytes x)) ([]) := by kernel_rfl
theorem fbytes_ok : fbytesE.Ok Tryz.prog 66 := by
  refine (Ent.ofOk Tryz.call66 fun x_ y_ Q H_ => ?_).sym
  obtain ⟨x, _⟩ := x_
  have hq := H_.2
  refine (fnT_ok mixed ((tabC fleast_ok tab0)) Tryz.func66 rfl (LT := []) (ks := kR) (LOk.nil _)).use (D := []) ?_ hq
  show (fnT _ _ _ _ ((feA).wr (x, ())) ((lNil).wr ()) _).sat _
  rw [fbytes_tree]
  exact ⟨rfl, rfl⟩
abbrev add64E : Ent := (onceE add64).sym
theorem add64_ok : add64E.Ok Tryz.prog 123 := (add64_once Tryz.func123 (by kernel_rfl) (by kernel_rfl) (by kernel_rfl) (by kernel_rfl) rfl).sym
end Go.Proofs.YthdfifcgobfgdaaGreat
end

section
set_option linter.unusedVariables false
set_option linter.unusedSimpArgs false
namespace Go.Proofs.YthdfifcgobfgdaaGreat
open Go Go.Ev BJ
set_option maxRecDepth 1000000
def mulE' (m : Int → Int → Int × Int) : Ent := Ent.ofS [] (lCons (vOne (sInt .u64)) (lCons (vOne (sInt .u64)) lNil)) lNil fun x _ => .leaf none (.tup [.sc (.int .u64 (.sym (m x.1 x.2.1).1)), .sc (.int .u64 (.sym (m x.1 x.2.1).2))]) []
abbrev longA (o : Nat) : Cod (List LV) (Int × Int × Unit) := lSkip (vOne (sPtr 0 o)) (lCons (vOne (sInt .u64)) (lCons (vOne (sInt .u64)) lNil))
abbrev longH : Cod Hp (Vec Int 10 × Unit) := lCons (iBlk 167 (vecL .u64 10)) lNil
section
variable (m : Int → Int → Int × Int) (a : Int → Int → Int → Int × Int)
def longS (k : Nat) (x y : Int) (v : Vec Int 10) : Int × Int := a (v.get (2 * k + 1)) (m x y).2 0
def longU (k : Nat) (x y : Int) (v : Vec Int 10) : Vec Int 10 := Vec.upd (fun _ => (longS m a k x y v).1) (2 * k + 1) (Vec.upd (fun _ => (a (v.get (2 * k)) (m x y).1 (longS m a k x y v).2).1) (2 * k) v)
noncomputable def longE (k : Nat) : Ent := Ent.ofS [] (longA (2 * k)) longH fun x h => .leaf (some (0 ≤ (longS m a k x.1 x.2.1 h.1).2 ∧ (longS m a k x.1 x.2.1 h.1).2 ≤ 1)) (.tup []) [(0, .blk ((vecL .u64 10).wr (longU m a k x.1 x.2.1 h.1)) 167)]
abbrev longTab : List (FuncId × Ent) := [(122, mulE' m), (123, (onceE a).sym)]
abbrev longK : List Wk := [.blk 0 (List.replicate 10 .sym), .auto]
theorem long_tree0 (x y : Int) (v : Vec Int 10) : fnT Tryz.prog (longTab m a) [] Tryz.f145 ((longA 0).wr (x, y, ())) (longH.wr (v, ())) longK =
    .need (0 ≤ (0 : Int) ∧ (0 : Int) ≤ 1) (.need (0 ≤ (longS m a 0 x y v).2 ∧ (longS m a 0 x y v).2 ≤ 1) (.leaf (.tup []) [some (.blk ((vecL .u64 10).wr (longU m a 0 x y v)) 167)])) := by kernel_rfl
theorem long_tree1 (x y : Int) (v : Vec Int 10) : fnT Tryz.prog (longTab m a) [] Tryz.f145 ((longA 2).wr (x, y, ())) (longH.wr (v, ())) longK =
    .need (0 ≤ (0 : Int) ∧ (0 : Int) ≤ 1) (.need (0 ≤ (longS m a 1 x y v).2 ∧ (longS m a 1 x y v).2 ≤ 1) (.leaf (.tup []) [some (.blk ((vecL .u64 10).wr (longU m a 1 x y v)) 167)])) := by kernel_rfl
theorem long_tree2 (x y : Int) (v : Vec Int 10) : fnT Tryz.prog (longTab m a) [] Tryz.f145 ((longA 4).wr (x, y, ())) (longH.wr (v, ())) longK =
    .need (0 ≤ (0 : Int) ∧ (0 : Int) ≤ 1) (.need (0 ≤ (longS m a 2 x y v).2 ∧ (longS m a 2 x y v).2 ≤ 1) (.leaf (.tup []) [some (.blk ((vecL .u64 10).wr (longU m a 2 x y v)) 167)])) := by kernel_rfl
theorem long_tree3 (x y : Int) (v : Vec Int 10) : fnT Tryz.prog (longTab m a) [] Tryz.f145 ((longA 6).wr (x, y, ())) (longH.wr (v, ())) longK =
    .need (0 ≤ (0 : Int) ∧ (0 : Int) ≤ 1) (.need (0 ≤ (longS m a 3 x y v).2 ∧ (longS m a 3 x y v).2 ≤ 1) (.leaf (.tup []) [some (.blk ((vecL .u64 10).wr (longU m a 3 x y v)) 167)])) := by kernel_rfl
theorem long_tree4 (x y : Int) (v : Vec Int 10) : fnT Tryz.prog (longTab m a) [] Tryz.f145 ((longA 8).wr (x, y, ())) (longH.wr (v, ())) longK =
    .need (0 ≤ (0 : Int) ∧ (0 : Int) ≤ 1) (.need (0 ≤ (longS m a 4 x y v).2 ∧ (longS m a 4 x y v).2 ≤ 1) (.leaf (.tup []) [some (.blk ((vecL .u64 10).wr (longU m a 4 x y v)) 167)])) := by kernel_rfl
variable (hm : ∀ p ∈ longTab m a, p.2.Ok Tryz.prog p.1)
include hm
theorem long_ok0 : (longE m a 0).Ok Tryz.prog 145 := by
  refine (Ent.ofOk Tryz.call145 fun x_ y_ Q H_ => ?_).sym
  obtain ⟨x, y, _⟩ := x_
  obtain ⟨v, _⟩ := y_
  obtain ⟨hn, hq⟩ := H_
  refine (fnT_ok mixed hm Tryz.func145 rfl (LT := []) (ks := longK) (LOk.nil _)).use (D := [(0, .blk ((vecL .u64 10).wr (longU m a 0 x y v)) 167)]) ?_ hq
  show (fnT _ _ _ _ ((longA 0).wr (x, y, ())) (longH.wr (v, ())) _).sat _
  rw [long_tree0]
  exact ⟨by decide, hn, rfl, rfl⟩
theorem long_ok1 : (longE m a 1).Ok Tryz.prog 145 := by
  refine (Ent.ofOk Tryz.call145 fun x_ y_ Q H_ => ?_).sym
  obtain ⟨x, y, _⟩ := x_
  obtain ⟨v, _⟩ := y_
  obtain ⟨hn, hq⟩ := H_
  refine (fnT_ok mixed hm Tryz.func145 rfl (LT := []) (ks := longK) (LOk.nil _)).use (D := [(0, .blk ((vecL .u64 10).wr (longU m a 1 x y v)) 167)]) ?_ hq
  show (fnT _ _ _ _ ((longA 2).wr (x, y, ())) (longH.wr (v, ())) _).sat _
  rw [long_tree1]
  exact ⟨by decide, hn, rfl, rfl⟩
theorem long_ok2 : (longE m a 2).Ok Tryz.prog 145 := by
  refine (Ent.ofOk Tryz.call145 fun x_ y_ Q H_ => ?_).sym
  obtain ⟨x, y, _⟩ := x_
  obtain ⟨v, _⟩ := y_
  obtain ⟨hn, hq⟩ := H_
  refine (fnT_ok mixed hm Tryz.func145 rfl (LT := []) (ks := longK) (LOk.nil _)).use (D := [(0, .blk ((vecL .u64 10).wr (longU m a 2 x y v)) 167)]) ?_ hq
  show (fnT _ _ _ _ ((longA 4).wr (x, y, ())) (longH.wr (v, ())) _).sat _
  rw [long_tree2]
  exact ⟨by decide, hn, rfl, rfl⟩
theorem long_ok3 : (longE m a 3).Ok Tryz.prog 145 := by
  refine (Ent.ofOk Tryz.call145 fun x_ y_ Q H_ => ?_).sym
  obtain ⟨x, y, _⟩ := x_
  obtain ⟨v, _⟩ := y_
  obtain ⟨hn, hq⟩ := H_
  refine (fnT_ok mixed hm Tryz.func145 rfl (LT := []) (ks := longK) (LOk.nil _)).use (D := [(0, .blk ((vecL .u64 10).wr (longU m a 3 x y v)) 167)]) ?_ hq
  show (fnT _ _ _ _ ((longA 6).wr (x, y, ())) (longH.wr (v, ())) _).sat _
  rw [long_tree3]
  exact ⟨by decide, hn, rfl, rfl⟩
theorem long_ok4 : (longE m a 4).Ok Tryz.prog 145 := by
  refine (Ent.ofOk Tryz.call145 fun x_ y_ Q H_ => ?_).sym
  obtain ⟨x, y, _⟩ := x_
  obtain ⟨v, _⟩ := y_
  obtain ⟨hn, hq⟩ := H_
  refine (fnT_ok mixed hm Tryz.func145 rfl (LT := []) (ks := longK) (LOk.nil _)).use (D := [(0, .blk ((vecL .u64 10).wr (longU m a 4 x y v)) 167)]) ?_ hq
  show (fnT _ _ _ _ ((longA 8).wr (x, y, ())) (longH.wr (v, ())) _).sat _
  rw [long_tree4]
  exact ⟨by decide, hn, rfl, rfl⟩
omit hm
noncomputable def longAll : Ent := (longE m a 0).or ((longE m a 1).or ((longE m a 2).or ((longE m a 3).or (longE m a 4))))
/-- all that is asked, one after the other -/
def needsE (l : List Prop) (e : Ev.End) : Ev.End := l.foldr Ev.End.need e
theorem needsE_sat {R : LV → Hp → Prop} : ∀ {l : List Prop} {e : Ev.End}, (∀ p ∈ l, p) → e.sat R → (needsE l e).sat R
  | [], _, _, h => h
  | p :: l, e, hl, h => ⟨hl p (by simp), needsE_sat (fun q hq => hl q (by simp [hq])) h⟩
theorem fmul_tree (x y : Fe) : fnT Tryz.prog [(145, longAll m a), (146, fcarryE)] [] Tryz.f118 (fe2A.wr (x, y, ())) [] kK =
    needsE (mulNeeds m a x y) (Ev.End.leaf (cFe.wr (mulOut m a feCarry x y)) []) := by kernel_rfl
end
theorem mulFn_ok : (mulE' mulFn).Ok Tryz.prog 122 := mul64_ok
theorem longTab_ok : ∀ p ∈ longTab mulFn add64, p.2.Ok Tryz.prog p.1 := tabC mulFn_ok (tabC add64_ok tab0)
theorem longAll_ok : (longAll mulFn add64).Ok Tryz.prog 145 := (long_ok0 mulFn add64 longTab_ok).or ((long_ok1 mulFn add64 longTab_ok).or ((long_ok2 mulFn add64 longTab_ok).or ((long_ok3 mulFn add64 longTab_ok).or (long_ok4 mulFn add64 longTab_ok))))
theorem mulAll_ok (x y : Fe) : ∀ p ∈ mulNeeds mulFn add64 x y, p := mulRun_needs x y mulSteps _ fun k => by
  have : ([(0, 0), (0, 0), (0, 0), (0, 0), (0, 0)] : List (Int × Int)).getD k (0, 0) = (0, 0) := by
    match k with
    | 0 => rfl
    | 1 => rfl
    | 2 => rfl
    | 3 => rfl
    | 4 => rfl
    | k + 5 => rfl
  rw [this]; exact ⟨by decide, by decide⟩
noncomputable def fmulE : Ent := Ent.ofS [] fe2A lNil fun x _ => .leaf none (cFe.wr (mulC x.1 x.2.1)) []
theorem fmul_ok : fmulE.Ok Tryz.prog 118 := by
  refine (Ent.ofOk Tryz.call118 fun x_ y_ Q H_ => ?_).sym
  obtain ⟨x, y, _⟩ := x_
  have hq := H_.2
  refine (fnT_ok mixed (tabC longAll_ok (tabC fcarry_ok tab0)) Tryz.func118 rfl (LT := []) (ks := kK) (LOk.nil _)).use (D := []) ?_ hq
  show (fnT _ _ _ _ (fe2A.wr (x, y, ())) [] _).sat _
  rw [fmul_tree]
  exact needsE_sat (mulAll_ok x y) ⟨rfl, rfl⟩
noncomputable def fsqE : Ent := Ent.ofS [] (feA) (lNil) fun x_ y_ => (fun (x : Fe) => .leaf none (cFe.wr (mulC x x)) []) x_.1
theorem fsq_tree (x : Fe) : fnT Tryz.prog [(118, fmulE)] [] Tryz.f133 ((feA).wr (x, ())) ((lNil).wr ()) [.fr [.sym], .auto] = .leaf (cFe.wr (mulC x x)) ([]) := by kernel_rfl
theorem fsq_ok : fsqE.Ok Tryz.prog 133 := by
  refine (Ent.ofOk Tryz.call133 fun x_ y_ Q H_ => ?_).sym
  obtain ⟨x, _⟩ := x_
  have hq := H_.2
  refine (fnT_ok mixed ((tabC fmul_ok tab0)) Tryz.func133 rfl (LT := []) (ks := [.fr [.sym], .auto]) (LOk.nil _)).use (D := []) ?_ hq
  show (fnT _ _ _ _ ((feA).wr (x, ())) ((lNil).wr ()) _).sat _
  rw [fsq_tree]
  exact ⟨rfl, rfl⟩
theorem eqV_dec (u v : B32) : decide (u.toList = v.toList) = eqV u v := by
  cases h : eqV u v with
  | true => rw [(eqV_iff u v).1 h]; simp
  | false => exact decide_eq_false fun e => by rw [(eqV_iff u v).2 (Vec.toList_inj e)] at h; cases h
noncomputable def feqE : Ent := Ent.ofS [] (fe2A) (lNil) fun x_ y_ => (fun (x y : Fe) => .leaf none (nB (eqC x y)) []) x_.1 x_.2.1
theorem feq_tree (x y : Fe) : fnT Tryz.prog [(66, fbytesE)] [] Tryz.f138 ((fe2A).wr (x, y, ())) ((lNil).wr ()) [.fr [.sym], .auto] = .leaf (nB (decide ((feBytes x).toList = (feBytes y).toList))) [] := by kernel_rfl
theorem feq_ok : feqE.Ok Tryz.prog 138 := by
  refine (Ent.ofOk Tryz.call138 fun x_ y_ Q H_ => ?_).sym
  obtain ⟨x, y, _⟩ := x_
  have hq := H_.2
  refine (fnT_ok mixed ((tabC fbytes_ok tab0)) Tryz.func138 rfl (LT := []) (ks := [.fr [.sym], .auto]) (LOk.nil _)).use (D := []) ?_ hq
  show (fnT _ _ _ _ ((fe2A).wr (x, y, ())) ((lNil).wr ()) _).sat _
  rw [feq_tree]
  rw [eqV_dec]; exact ⟨rfl, rfl⟩
noncomputable def fzeroE : Ent := Ent.ofS [] (feA) (lNil) fun x_ y_ => (fun (x : Fe) => .leaf none (nB (isZeroC x)) []) x_.1
theorem fzero_tree (x : Fe) : fnT Tryz.prog [(138, feqE)] [] Tryz.f93 ((feA).wr (x, ())) ((lNil).wr ()) [.fr [.sym], .auto] = .leaf (nB (isZeroC x)) ([]) := by kernel_rfl
theorem fzero_ok : fzeroE.Ok Tryz.prog 93 := by
  refine (Ent.ofOk Tryz.call93 fun x_ y_ Q H_ => ?_).sym
  obtain ⟨x, _⟩ := x_
  have hq := H_.2
  refine (fnT_ok mixed ((tabC feq_ok tab0)) Tryz.func93 rfl (LT := []) (ks := [.fr [.sym], .auto]) (LOk.nil _)).use (D := []) ?_ hq
  show (fnT _ _ _ _ ((feA).wr (x, ())) ((lNil).wr ()) _).sat _
  rw [fzero_tree]
  exact ⟨rfl, rfl⟩
noncomputable def foddE : Ent := Ent.ofS [] (feA) (lNil) fun x_ y_ => (fun (x : Fe) => .leaf none (nB (oddC x)) []) x_.1
theorem fodd_tree (x : Fe) : fnT Tryz.prog [(66, fbytesE)] [] Tryz.f67 ((feA).wr (x, ())) ((lNil).wr ()) [.fr [.sym], .auto] = .leaf (nB (oddC x)) ([]) := by kernel_rfl
theorem fodd_ok : foddE.Ok Tryz.prog 67 := by
  refine (Ent.ofOk Tryz.call67 fun x_ y_ Q H_ => ?_).sym
  obtain ⟨x, _⟩ := x_
  have hq := H_.2
  refine (fnT_ok mixed ((tabC fbytes_ok tab0)) Tryz.func67 rfl (LT := []) (ks := [.fr [.sym], .auto]) (LOk.nil _)).use (D := []) ?_ hq
  show (fnT _ _ _ _ ((feA).wr (x, ())) ((lNil).wr ()) _).sat _
  rw [fodd_tree]
  exact ⟨rfl, rfl⟩
theorem v32_toList {l : List Int} (h : l.length = 32) : (v32 l).toList = l := by
  have e : (v32 l).toList = (List.range 32).map fun i => l.getD i 0 := rfl
  rw [e, map_getD h]
theorem v32_of (u : B32) : v32 u.toList = u := Vec.toList_inj (v32_toList (Vec.toList_length u))
theorem upd_toList {f : Int → Int} : {n : Nat} → (k : Nat) → (v : Vec Int n) → (Vec.upd f k v).toList = v.toList.modify k f
  | 0, k, _ => by simp [Vec.upd, Vec.toList]
  | n + 1, 0, v => by simp [Vec.upd, Vec.toList]
  | n + 1, k + 1, v => by simp [Vec.upd, Vec.toList, upd_toList k v.2]
theorem v32_set {l : List Int} (h : l.length = 32) {k : Nat} (hk : k < 32) (f : Int → Int) : v32 (l.set k (f (l.getD k 0))) = Vec.upd f k (v32 l) := by
  apply Vec.toList_inj
  rw [upd_toList, v32_toList h, v32_toList (by simpa using h), List.getD_eq_getElem?_getD, List.getElem?_eq_getElem (by omega : k < l.length), Option.getD_some]
  apply List.ext_getElem?
  intro i
  simp only [List.getElem?_modify, List.getElem?_set]
  by_cases e : k = i
  · subst e; simp [h, hk]
  · simp [e]
theorem v32_get (l : List Int) : ∀ {k : Nat}, k < 32 → (v32 l).get k = l.getD k 0 := by
  have key : ∀ (n : Nat) (g : Nat → Int) (k : Nat), k < n → (Vec.ofFn n g).get k = g k := by
    intro n
    induction n with
    | zero => intro g k hk; omega
    | succ n ih =>
      intro g k hk
      cases k with
      | zero => rfl
      | succ k => exact ih (fun i => g (i + 1)) k (by omega)
  intro k hk
  exact key 32 (fun i => l.getD i 0) k hk
theorem tmod_nat (k m : Nat) : (k : Int).tmod (m : Int) = ((k % m : Nat) : Int) := by rw [Int.tmod_eq_emod_of_nonneg (by omega), ← Int.natCast_emod]
noncomputable def fcanonE : Ent := Ent.ofS [] (bA32) (lNil) fun x_ y_ => (fun (b : List Int) => .leaf (some (b.length = 32)) (nB (canonicalC (v32 b))) []) x_.1
theorem fcanon_tree (b : List Int) : fnT Tryz.prog [(66, fbytesE), (90, ffromE)] [] Tryz.f92 ((bA32).wr (b, ())) ((lNil).wr ()) [.fr [.sym], .auto] = .leaf (nB (decide ((feBytes (feFrom (v32 (b.set 31 (bitAndNot .u8 (b.getD 31 0) 128))))).toList = b.set 31 (bitAndNot .u8 (b.getD 31 0) 128)))) [] := by kernel_rfl
theorem fcanon_ok : fcanonE.Ok Tryz.prog 92 := by
  refine (Ent.ofOk Tryz.call92 fun x_ y_ Q H_ => ?_).sym
  obtain ⟨b, _⟩ := x_
  obtain ⟨hn, hq⟩ := H_
  have hn : b.length = 32 := hn
  refine (fnT_ok mixed ((tabC fbytes_ok (tabC ffrom_ok tab0))) Tryz.func92 rfl (LT := []) (ks := [.fr [.sym], .auto]) (LOk.nil _)).use (D := []) ?_ hq
  show (fnT _ _ _ _ ((bA32).wr (b, ())) ((lNil).wr ()) _).sat _
  rw [fcanon_tree]
  have e := v32_set hn (k := 31) (by omega) (fun x => bitAndNot .u8 x 128)
  rw [show b.set 31 (bitAndNot .u8 (b.getD 31 0) 128) = (v32 (b.set 31 (bitAndNot .u8 (b.getD 31 0) 128))).toList from (v32_toList (by simpa using hn)).symm, eqV_dec, v32_of, e]
  exact ⟨rfl, rfl⟩
noncomputable def pexpE : Ent := Ent.ofS [] ((lCons (vOne (sInt .u8)) (lCons (vOne (sInt .u8)) lNil))) (lNil) fun x_ y_ => (fun (lo hi : Int) => .leaf none (nB32 (feExp lo hi)) []) x_.1 x_.2.1
theorem pexp_tree (lo hi : Int) : fnT Tryz.prog [] [] Tryz.f148 (((lCons (vOne (sInt .u8)) (lCons (vOne (sInt .u8)) lNil))).wr (lo, hi, ())) ((lNil).wr ()) kR = .leaf (nB32 (feExp lo hi)) ([]) := by kernel_rfl
theorem pexp_ok : pexpE.Ok Tryz.prog 148 := by
  refine (Ent.ofOk Tryz.call148 fun x_ y_ Q H_ => ?_).sym
  obtain ⟨lo, hi, _⟩ := x_
  have hq := H_.2
  refine (fnT_ok mixed tab0 Tryz.func148 rfl (LT := []) (ks := kR) (LOk.nil _)).use (D := []) ?_ hq
  show (fnT _ _ _ _ (((lCons (vOne (sInt .u8)) (lCons (vOne (sInt .u8)) lNil))).wr (lo, hi, ())) ((lNil).wr ()) _).sat _
  rw [pexp_tree]
  exact ⟨rfl, rfl⟩
noncomputable abbrev poFn : Func := Tryz.f147
abbrev poC : Cod (List LV) (Int × Unit) := (jk 2 (lSkip (vOne (sPtr 0 0)) (lSkip (vOne (sPtr 1 0)) (lSkip (vOne (sPtr 2 0)) (lSkip (vOne (sPtr 3 0)) (lCons (vOne (sInt .i64)) (jk 20 lNil)))))))
abbrev poCf : Wk := .fr (fmS 27 [(2, .keep), (3, .keep), (4, .keep), (5, .keep), (6, .sym)])
abbrev poX : Cod (List LV) (Unit) := (jk 4 (lSkip (vOne (sPtr 0 0)) (lSkip (vOne (sPtr 1 0)) (jk 21 lNil))))
abbrev iFe : Cod (Option Ev.Item) Fe := iBlk 61 (vecL .u64 5)
abbrev poH : Cod Hp (Fe × List Int × Fe × Fe × Unit) := lCons iFe (lCons (iRow 22 .u8 32) (lCons iFe (lCons iFe lNil)))
abbrev poHX : Cod Hp (Fe × Fe × Unit) := lCons iFe (lCons iFe lNil)
noncomputable abbrev poTab : List (FuncId × Ent) := [(119, fsmallE), (133, fsqE), (118, fmulE)]
theorem poTab_ok : ∀ p ∈ poTab, p.2.Ok Tryz.prog p.1 := tabC fsmall_ok (tabC fsq_ok (tabC fmul_ok tab0))
abbrev symF (i : Nat) : Wk := .blk i (List.replicate 5 .sym)
def poW : Exit → List Wk
  | .normal => [poCf, symF 2, symF 3, .auto]
  | .exit 0 => [.fr (fmS 27 [(4, .keep), (5, .keep)]), .auto]
  | _ => []
theorem po_rnd (x r o : Fe) (e : List Int) (i : Int) : rndT Tryz.prog poTab [] poFn 0 [] poW ((stC poC poH).wr ((i, ()), (x, e, r, o, ()))) =
  Res.ite (decide ((0 : Int) ≤ i)) (Res.need ((0 : Int) ≤ IntKind.i64.wrap (i.tdiv (8 : Int)) ∧ IntKind.i64.wrap (i.tdiv (8 : Int)) < (32 : Int))
  (Res.need ((0 : Int) ≤ i.tmod (8 : Int)) (Res.ite (bitAnd IntKind.u8 (shr IntKind.u8 ((List.take (32 : Nat) (List.drop (0 : Nat) e)).getD
  (IntKind.i64.wrap (i.tdiv (8 : Int))).toNat (0 : Int)) (i.tmod (8 : Int))) (1 : Int) == (1 : Int)) (Res.leaf Exit.normal ((stC poC poH).wr
  ((IntKind.i64.wrap (i - (1 : Int)), PUnit.unit), x, e, r, mulC (mulC o o) x, PUnit.unit))) (Res.leaf Exit.normal ((stC poC poH).wr ((IntKind.i64.wrap
  (i - (1 : Int)), PUnit.unit), x, e, r, mulC o o, PUnit.unit)))))) (Res.leaf (Exit.exit (0 : Nat)) ((stC poX poHX).wr (PUnit.unit, r, o, PUnit.unit))) := by kernel_rfl
theorem pow_bit {e : List Int} (he : e.length = 32) {j : Nat} (hj : j < 256) :
    (bitAnd .u8 (shr .u8 ((List.take 32 (List.drop 0 e)).getD (IntKind.i64.wrap ((j : Int).tdiv 8)).toNat 0) ((j : Int).tmod 8)) 1 == 1) = bitU8 (v32 e) j := by
  have e1 : IntKind.i64.wrap ((j : Int).tdiv 8) = ((j / 8 : Nat) : Int) := tdiv_nat j 8 (by omega)
  have e2 : (j : Int).tmod 8 = ((j % 8 : Nat) : Int) := tmod_nat j 8
  rw [e1, e2, take_all he, Int.toNat_natCast]
  unfold bitU8
  rw [v32_get e (show j / 8 < 32 by omega)]
noncomputable def poF (x : (Int × Unit) × Fe × List Int × Fe × Fe × Unit) : Res :=
  .need (x.1.1 = 255 ∧ x.2.2.1.length = 32) (.leaf (.exit 0) ((stC poX poHX).wr ((), (x.2.2.2.1, rnds (powStep (fun x => mulC x x) mulC x.2.1 (v32 x.2.2.1)) 256 x.2.2.2.2.1, ()))))
theorem po_loop (x) : Ex Tryz.prog [] (.loop (loopAt poFn 0)) ((stC poC poH).wr x) (poF x) := by
  obtain ⟨⟨i, _⟩, x, e, r, o, _⟩ := x
  refine Ex.need fun ⟨h1, h2⟩ => ?_
  simp only at h1 h2
  subst h1
  have key := loopUp (fn := poFn) (id := 0) (j := 0) (ws := poW) (hp := []) mixed poTab_ok (LOk.nil _) 256 (fun k o => (stC poC poH).wr ((255 - (k : Int), ()), (x, e, r, o, ()))) (fun o => (stC poX poHX).wr ((), (r, o, ()))) (powStep (fun x => mulC x x) mulC x (v32 e)) (fun _ _ => True)
    (fun k o R hk _ hn hx => ?_) (fun _ _ _ _ => trivial) 0 o (by omega) trivial
  · rw [Nat.sub_zero, rnds_upto] at key; exact key
  rw [po_rnd]
  refine ⟨fun hb => ?_, fun hb => ?_⟩
  · have hk' : k < 256 := by have := of_decide_eq_true hb; omega
    have e0 : (255 - (k : Int)) = ((255 - k : Nat) : Int) := by omega
    have hn' := hn hk'
    have e3 : IntKind.i64.wrap ((255 - (k : Int)) - 1) = 255 - ((k + 1 : Nat) : Int) := by rw [wrap_ok (by omega) (by omega)]; omega
    have hw : IntKind.i64.wrap ((255 - (k : Int)).tdiv 8) = (((255 - k) / 8 : Nat) : Int) := by rw [e0]; exact tdiv_nat _ 8 (by omega)
    have ht : (255 - (k : Int)).tmod 8 = (((255 - k) % 8 : Nat) : Int) := by rw [e0]; exact tmod_nat _ 8
    have hbit := pow_bit h2 (j := 255 - k) (by omega)
    rw [← e0] at hbit
    rw [hbit, e3]
    refine ⟨by rw [hw]; omega, by rw [ht]; omega, fun hc => ?_, fun hc => ?_⟩
    · have : powStep (fun x => mulC x x) mulC x (v32 e) k o = mulC (mulC o o) x := by unfold powStep; rw [hc, selN_eq]; rfl
      rw [this] at hn'; exact hn'
    · have : powStep (fun x => mulC x x) mulC x (v32 e) k o = mulC o o := by unfold powStep; rw [hc, selN_eq]; rfl
      rw [this] at hn'; exact hn'
  · have : k = 256 := by have := of_decide_eq_false hb; omega
    exact hx this
noncomputable def pow256 (x : Fe) (e : List Int) (o : Fe) : Fe := rnds (powStep (fun x => mulC x x) mulC x (v32 e)) 256 o
noncomputable def poF' (x : (Int × Unit) × Fe × List Int × Fe × Fe × Unit) : Res :=
  .need (x.1.1 = 255 ∧ x.2.2.1.length = 32) (.leaf (.exit 0) ((stC poX poHX).wr ((), (x.2.2.2.1, pow256 x.2.1 x.2.2.1 x.2.2.2.2.1, ()))))
noncomputable abbrev poLT : LTab := [(0, loopF (stC poC poH) 0 [poCf, .auto, symF 2, symF 3] poF')]
abbrev poA : Cod (List LV) (Fe × List Int × Unit) := lCons cFe (lCons cB lNil)
end Go.Proofs.YthdfifcgobfgdaaGreat
end

section
set_option linter.unusedVariables false
set_option linter.unusedSimpArgs false
namespace Go.Proofs.YthdfifcgobfgdaaGreat
open Go Go.Ev BJ
set_option maxRecDepth 1000000
abbrev nPair (r : Fe × Bool) : LV := .tup [.agg ((vecL .u64 5).wr r.1), .sc (.bool (.sym r.2))]
def e1F (g : Fe → Fe) : Ent := Ent.ofS [] feA lNil fun x _ => .leaf none (cFe.wr (g x.1)) []
def e2F (g : Fe → Fe → Fe) : Ent := Ent.ofS [] fe2A lNil fun x _ => .leaf none (cFe.wr (g x.1 x.2.1)) []
def e1B (g : Fe → Bool) : Ent := Ent.ofS [] feA lNil fun x _ => .leaf none (nB (g x.1)) []
def e2B (g : Fe → Fe → Bool) : Ent := Ent.ofS [] fe2A lNil fun x _ => .leaf none (nB (g x.1 x.2.1)) []
def e1P (g : Fe → Fe × Bool) : Ent := Ent.ofS [] feA lNil fun x _ => .leaf none (nPair (g x.1)) []
def e2P (g : Fe → Fe → Fe × Bool) : Ent := Ent.ofS [] fe2A lNil fun x _ => .leaf none (nPair (g x.1 x.2.1)) []
def eSm (g : Int → Fe) : Ent := Ent.ofS [] u64A lNil fun x _ => .leaf none (cFe.wr (g x.1)) []
def ePw (g : Fe → List Int → Fe) : Ent := Ent.ofS [] poA lNil fun x _ => .leaf (some (x.2.1.length = 32)) (cFe.wr (g x.1 x.2.1)) []
def eEx (g : Int → Int → List Int) : Ent := Ent.ofS [] (lCons (vOne (sInt .u8)) (lCons (vOne (sInt .u8)) lNil)) lNil fun x _ => .leaf none (nRow .u8 32 (g x.1 x.2.1)) []
noncomputable def powL (x : Fe) (e : List Int) : Fe := powC x (v32 e)
noncomputable def expL (lo hi : Int) : List Int := (feExp lo hi).toList
theorem powL_exp (x : Fe) (lo hi : Int) : powL x (expL lo hi) = powC x (feExp lo hi) := by unfold powL expL; rw [v32_of]
theorem expL_len (lo hi : Int) : (expL lo hi).length = 32 := Vec.toList_length _
noncomputable abbrev ppowE : Ent := ePw powL
theorem ppow_tree (p : Fe → List Int → Fe → Fe) (sm : Int → Fe) (x : Fe) (e : List Int) : fnT Tryz.prog [(119, eSm sm), (133, fsqE), (118, fmulE)] [(0, loopF (stC poC poH) 0 [poCf, .auto, symF 2, symF 3] fun x => .need (x.1.1 = 255 ∧ x.2.2.1.length = 32) (.leaf (.exit 0) ((stC poX poHX).wr ((), (x.2.2.2.1, p x.2.1 x.2.2.1 x.2.2.2.2.1, ())))))] Tryz.f147 (poA.wr (x, e, ())) [] kK =
    .need ((255 : Int) = 255 ∧ e.length = 32) (.leaf (cFe.wr (p x e (sm 1))) []) := by kernel_rfl
theorem ppow_same (x : Fe) (e : List Int) : fnT Tryz.prog poTab poLT Tryz.f147 (poA.wr (x, e, ())) [] kK = fnT Tryz.prog [(119, eSm feSmall), (133, fsqE), (118, fmulE)] [(0, loopF (stC poC poH) 0 [poCf, .auto, symF 2, symF 3] fun x => .need (x.1.1 = 255 ∧ x.2.2.1.length = 32) (.leaf (.exit 0) ((stC poX poHX).wr ((), (x.2.2.2.1, pow256 x.2.1 x.2.2.1 x.2.2.2.2.1, ())))))] Tryz.f147 (poA.wr (x, e, ())) [] kK := by kernel_rfl
theorem ppow_ok : ppowE.Ok Tryz.prog 147 := by
  refine (Ent.ofOk Tryz.call147 fun x_ y_ Q H_ => ?_).sym
  obtain ⟨x, e, _⟩ := x_
  obtain ⟨hn, hq⟩ := H_
  have hn : e.length = 32 := hn
  refine (fnT_ok mixed poTab_ok Tryz.func147 rfl (LT := poLT) (ks := kK) (LOk.ofTab (LTC rfl (loopF_ok (hp := []) po_loop) LT0))).use (D := []) ?_ hq
  show (fnT _ _ _ _ (poA.wr (x, e, ())) [] _).sat _
  rw [ppow_same x e, ppow_tree pow256 feSmall x e]
  exact ⟨⟨rfl, hn⟩, rfl, rfl⟩
theorem fsmall_as : fsmallE = eSm feSmall := by kernel_rfl
theorem fsmall'_ok : (eSm feSmall).Ok Tryz.prog 119 := fsmall_as ▸ fsmall_ok
theorem fmul_as : fmulE = e2F mulC := by kernel_rfl
theorem fmul'_ok : (e2F mulC).Ok Tryz.prog 118 := fmul_as ▸ fmul_ok
theorem fadd_as : faddE = e2F addC := by kernel_rfl
theorem fadd'_ok : (e2F addC).Ok Tryz.prog 136 := fadd_as ▸ fadd_ok
theorem fsub_as : fsubE = e2F subC := by kernel_rfl
theorem fsub'_ok : (e2F subC).Ok Tryz.prog 135 := fsub_as ▸ fsub_ok
theorem fsq_as : fsqE = e1F (fun x => mulC x x) := by kernel_rfl
theorem fsq'_ok : (e1F (fun x => mulC x x)).Ok Tryz.prog 133 := fsq_as ▸ fsq_ok
theorem fneg_as : fnegE = e1F negC := by kernel_rfl
theorem fneg'_ok : (e1F negC).Ok Tryz.prog 94 := fneg_as ▸ fneg_ok
theorem feq_as : feqE = e2B eqC := by kernel_rfl
theorem feq'_ok : (e2B eqC).Ok Tryz.prog 138 := feq_as ▸ feq_ok
theorem fodd_as : foddE = e1B oddC := by kernel_rfl
theorem fodd'_ok : (e1B oddC).Ok Tryz.prog 67 := fodd_as ▸ fodd_ok
theorem fzero_as : fzeroE = e1B isZeroC := by kernel_rfl
theorem fzero'_ok : (e1B isZeroC).Ok Tryz.prog 93 := fzero_as ▸ fzero_ok
theorem pexp_as : pexpE = eEx expL := by kernel_rfl
theorem pexp'_ok : (eEx expL).Ok Tryz.prog 148 := pexp_as ▸ pexp_ok
noncomputable abbrev pinvE : Ent := e1F invC
theorem pinv_tree (pow : Fe → List Int → Fe) (exp : Int → Int → List Int) (x : Fe) : fnT Tryz.prog [(147, ePw pow), (148, eEx exp)] [] Tryz.f120 ((feA).wr (x, ())) [] kK = .need ((exp 235 127).length = 32) (.leaf (cFe.wr (pow x (exp 235 127))) []) := by kernel_rfl
theorem pinv_tab_ : ∀ p_ ∈ ([(147, ePw powL), (148, eEx expL)] : List (FuncId × Ent)), p_.2.Ok Tryz.prog p_.1 := (tabC ppow_ok (tabC pexp'_ok tab0))
theorem pinv_ok : pinvE.Ok Tryz.prog 120 := by
  refine (Ent.ofOk Tryz.call120 fun x_ y_ Q H_ => ?_).sym
  obtain ⟨x, _⟩ := x_
  have hq := H_.2
  refine (fnT_ok (tab := [(147, ePw powL), (148, eEx expL)]) mixed pinv_tab_ Tryz.func120 rfl (LT := []) (ks := kK) (LOk.nil _)).use (D := []) ?_ hq
  show (fnT _ _ _ _ ((feA).wr (x, ())) [] _).sat _
  rw [pinv_tree powL expL]
  rw [powL_exp]; exact ⟨expL_len _ _, rfl, rfl⟩
theorem root_eq (pw : Fe → B32 → Fe) (ex : Int → Int → B32) (ml : Fe → Fe → Fe) (sq ng : Fe → Fe) (sm : Int → Fe) (eq : Fe → Fe → Bool) (od : Fe → Bool) (x : Fe) :
    rootFn pw ex ml sq ng sm eq od x = bif eq (sq (pw x (ex 254 15))) x then (bif od (pw x (ex 254 15)) then ng (pw x (ex 254 15)) else pw x (ex 254 15), true)
      else bif eq (sq (ml (pw x (ex 254 15)) (pw (sm 2) (ex 251 31)))) x then (bif od (ml (pw x (ex 254 15)) (pw (sm 2) (ex 251 31))) then ng (ml (pw x (ex 254 15)) (pw (sm 2) (ex 251 31))) else ml (pw x (ex 254 15)) (pw (sm 2) (ex 251 31)), true) else (feZero, false) := by
  have hsel : ∀ (b : Bool) (u v : Fe), selN b u v = bif b then u else v := fun b u v => selN_eq b u v
  unfold rootFn
  simp only [hsel]
  cases h : eq (sq (pw x (ex 254 15))) x
  · simp only [Bool.not_false, cond_true, cond_false]
    cases eq (sq (ml (pw x (ex 254 15)) (pw (sm 2) (ex 251 31)))) x <;> rfl
  · simp only [Bool.not_true, cond_true, cond_false, h]
theorem root_sat {t1 t2 o1 o2 : Bool} {r r2 n1 n2 : Fe} {p1 p2 : Prop} (h1 : p1) (h2 : p2) {q : Fe × Bool} (hq : q = bif t1 then (bif o1 then n1 else r, true) else bif t2 then (bif o2 then n2 else r2, true) else (feZero, false)) :
    (Ev.End.need p1 (.ite (!t1) (.need p2 (.ite (!t2) (.leaf (nPair (feZero, false)) []) (.ite o2 (.leaf (nPair (n2, true)) []) (.leaf (nPair (r2, true)) [])))) (.ite (!t1) (.leaf (nPair (feZero, false)) []) (.ite o1 (.leaf (nPair (n1, true)) []) (.leaf (nPair (r, true)) []))))).sat fun v hp' => v = nPair q ∧ hp' = [] := by
  subst hq
  refine ⟨h1, ?_⟩
  cases t1
  · refine ⟨fun _ => ⟨h2, ?_⟩, fun h => (by cases h)⟩
    cases t2
    · exact ⟨fun _ => ⟨rfl, rfl⟩, fun h => (by cases h)⟩
    · refine ⟨fun h => (by cases h), fun _ => ?_⟩
      cases o2
      · exact ⟨fun h => (by cases h), fun _ => ⟨rfl, rfl⟩⟩
      · exact ⟨fun _ => ⟨rfl, rfl⟩, fun h => (by cases h)⟩
  · refine ⟨fun h => (by cases h), fun _ => ⟨fun h => (by cases h), fun _ => ?_⟩⟩
    cases o1
    · exact ⟨fun h => (by cases h), fun _ => ⟨rfl, rfl⟩⟩
    · exact ⟨fun _ => ⟨rfl, rfl⟩, fun h => (by cases h)⟩
theorem sqrt_eq (x : Fe) : sqrtC x = rootFn powC feExp mulC (fun x => mulC x x) negC feSmall eqC oddC x := rfl
noncomputable abbrev psqrtE : Ent := e1P sqrtC
theorem psqrt_tree (pow : Fe → List Int → Fe) (exp : Int → Int → List Int) (mul : Fe → Fe → Fe) (sq neg : Fe → Fe) (eq : Fe → Fe → Bool) (odd : Fe → Bool) (sm : Int → Fe) (x : Fe) : fnT Tryz.prog [(147, ePw pow), (148, eEx exp), (118, e2F mul), (133, e1F sq), (94, e1F neg), (138, e2B eq), (67, e1B odd), (119, eSm sm)] [] Tryz.f155 ((feA).wr (x, ())) [] kK = .need ((exp 254 15).length = 32) (.ite (!(eq (sq (pow x (exp 254 15))) x)) (.need ((exp 251 31).length = 32) (.ite (!(eq (sq (mul (pow x (exp 254 15)) (pow (sm 2) (exp 251 31)))) x)) (.leaf (nPair (feZero, false)) []) (.ite (odd (mul (pow x (exp 254 15)) (pow (sm 2) (exp 251 31)))) (.leaf (nPair (neg (mul (pow x (exp 254 15)) (pow (sm 2) (exp 251 31))), true)) []) (.leaf (nPair (mul (pow x (exp 254 15)) (pow (sm 2) (exp 251 31)), true)) [])))) (.ite (!(eq (sq (pow x (exp 254 15))) x)) (.leaf (nPair (feZero, false)) []) (.ite (odd (pow x (exp 254 15))) (.leaf (nPair (neg (pow x (exp 254 15)), true)) []) (.leaf (nPair (pow x (exp 254 15), true)) [])))) := by kernel_rfl
theorem psqrt_tab_ : ∀ p_ ∈ ([(147, ePw powL), (148, eEx expL), (118, e2F mulC), (133, e1F (fun x => mulC x x)), (94, e1F negC), (138, e2B eqC), (67, e1B oddC), (119, eSm feSmall)] : List (FuncId × Ent)), p_.2.Ok Tryz.prog p_.1 := (tabC ppow_ok (tabC pexp'_ok (tabC fmul'_ok (tabC fsq'_ok (tabC fneg'_ok (tabC feq'_ok (tabC fodd'_ok (tabC fsmall'_ok tab0))))))))
theorem psqrt_ok : psqrtE.Ok Tryz.prog 155 := by
  refine (Ent.ofOk Tryz.call155 fun x_ y_ Q H_ => ?_).sym
  obtain ⟨x, _⟩ := x_
  have hq := H_.2
  refine (fnT_ok (tab := [(147, ePw powL), (148, eEx expL), (118, e2F mulC), (133, e1F (fun x => mulC x x)), (94, e1F negC), (138, e2B eqC), (67, e1B oddC), (119, eSm feSmall)]) mixed psqrt_tab_ Tryz.func155 rfl (LT := []) (ks := kK) (LOk.nil _)).use (D := []) ?_ hq
  show (fnT _ _ _ _ ((feA).wr (x, ())) [] _).sat _
  rw [psqrt_tree powL expL mulC (fun x => mulC x x) negC eqC oddC feSmall]
  simp only [powL_exp]
  exact root_sat (expL_len _ _) (expL_len _ _) ((sqrt_eq x).trans (root_eq _ _ _ _ _ _ _ _ x))
theorem ratio_eq (u v : Fe) : ratioC u v = (selN (isZeroC v) feZero (sqrtC (mulC u (invC v))).1, bif isZeroC v then isZeroC u else (sqrtC (mulC u (invC v))).2) := by unfold ratioC; rfl
theorem ratio_sat {z zu : Bool} {s r : Fe × Bool} (hr : r = (selN z feZero s.1, bif z then zu else s.2)) : (Ev.End.ite z (.leaf (nPair (feZero, zu)) []) (.leaf (nPair s) [])).sat fun v hp' => v = nPair r ∧ hp' = [] := by
  subst hr
  rw [selN_eq]
  cases z
  · exact ⟨fun h => (by cases h), fun _ => ⟨rfl, rfl⟩⟩
  · exact ⟨fun _ => ⟨rfl, rfl⟩, fun h => (by cases h)⟩
noncomputable abbrev pratioE : Ent := e2P ratioC
theorem pratio_tree (mul : Fe → Fe → Fe) (inv : Fe → Fe) (isz : Fe → Bool) (sqrt : Fe → Fe × Bool) (u v : Fe) : fnT Tryz.prog [(118, e2F mul), (120, e1F inv), (93, e1B isz), (155, e1P sqrt)] [] Tryz.f134 ((fe2A).wr (u, v, ())) [] kK = .ite (isz v) (.leaf (nPair (feZero, isz u)) []) (.leaf (nPair (sqrt (mul u (inv v)))) []) := by kernel_rfl
theorem pratio_tab_ : ∀ p_ ∈ ([(118, e2F mulC), (120, e1F invC), (93, e1B isZeroC), (155, e1P sqrtC)] : List (FuncId × Ent)), p_.2.Ok Tryz.prog p_.1 := (tabC fmul'_ok (tabC pinv_ok (tabC fzero'_ok (tabC psqrt_ok tab0))))
theorem pratio_ok : pratioE.Ok Tryz.prog 134 := by
  refine (Ent.ofOk Tryz.call134 fun x_ y_ Q H_ => ?_).sym
  obtain ⟨u, v, _⟩ := x_
  have hq := H_.2
  refine (fnT_ok (tab := [(118, e2F mulC), (120, e1F invC), (93, e1B isZeroC), (155, e1P sqrtC)]) mixed pratio_tab_ Tryz.func134 rfl (LT := []) (ks := kK) (LOk.nil _)).use (D := []) ?_ hq
  show (fnT _ _ _ _ ((fe2A).wr (u, v, ())) [] _).sat _
  rw [pratio_tree mulC invC isZeroC sqrtC]
  exact ratio_sat (ratio_eq u v)
end Go.Proofs.YthdfifcgobfgdaaGreat
end

section
set_option linter.unusedVariables false
set_option linter.unusedSimpArgs false
namespace Go.Proofs.YthdfifcgobfgdaaGreat
open Go Go.Ev BJ
set_option maxRecDepth 1000000
abbrev cPt : Cod LV Pt := vAgg (lCons sBool (vecA .u64 (vecA .u64 (vecA .u64 (vecL .u64 5) 5) 5) 5))
abbrev ptA : Cod (List LV) (Pt × Unit) := lCons cPt lNil
abbrev pt2A : Cod (List LV) (Pt × Pt × Unit) := lCons cPt (lCons cPt lNil)
def eFr (g : List Int → Fe) : Ent := Ent.ofS [] bA32 lNil fun x _ => .leaf none (cFe.wr (g x.1)) []
def e0F (c : Fe) : Ent := Ent.ofS [] lNil lNil fun _ _ => .leaf none (cFe.wr c) []
def e0Q (c : Pt) : Ent := Ent.ofS [] lNil lNil fun _ _ => .leaf none (cPt.wr c) []
def eAf (g : Fe → Fe → Pt) : Ent := Ent.ofS [] fe2A lNil fun x _ => .leaf none (cPt.wr (g x.1 x.2.1)) []
def e1Q (g : Pt → Pt) : Ent := Ent.ofS [] ptA lNil fun x _ => .leaf none (cPt.wr (g x.1)) []
def e2Q (g : Pt → Pt → Pt) : Ent := Ent.ofS [] pt2A lNil fun x _ => .leaf none (cPt.wr (g x.1 x.2.1)) []
noncomputable def fromL (b : List Int) : Fe := feFrom (v32 b)
theorem ffrom_as : ffromE = eFr fromL := by kernel_rfl
theorem ffrom'_ok : (eFr fromL).Ok Tryz.prog 90 := ffrom_as ▸ ffrom_ok
theorem edge_from : edgeC = fromL edgeBytes.toList := by unfold fromL; rw [v32_of]; rfl
noncomputable abbrev qedgeE : Ent := e0F edgeC
theorem qedge_tree (frm : List Int → Fe)  : fnT Tryz.prog [(90, eFr frm)] [] Tryz.f137 ((lNil).wr ()) [] kK = .leaf (cFe.wr (frm edgeBytes.toList)) [] := by kernel_rfl
theorem qedge_tab_ : ∀ p_ ∈ ([(90, eFr fromL)] : List (FuncId × Ent)), p_.2.Ok Tryz.prog p_.1 := (tabC ffrom'_ok tab0)
theorem qedge_ok : qedgeE.Ok Tryz.prog 137 := by
  refine (Ent.ofOk Tryz.call137 fun x_ y_ Q H_ => ?_).sym
  have hq := H_.2
  refine (fnT_ok (tab := [(90, eFr fromL)]) mixed qedge_tab_ Tryz.func137 rfl (LT := []) (ks := kK) (LOk.nil _)).use (D := []) ?_ hq
  show (fnT _ _ _ _ ((lNil).wr ()) [] _).sat _
  rw [qedge_tree fromL]
  rw [edge_from]; exact ⟨rfl, rfl⟩
noncomputable abbrev qaffineE : Ent := eAf affineC
theorem qaffine_tree (mul : Fe → Fe → Fe) (sm : Int → Fe) (x y : Fe) : fnT Tryz.prog [(118, e2F mul), (119, eSm sm)] [] Tryz.f95 ((fe2A).wr (x, y, ())) [] kK = .leaf (cPt.wr (true, x, y, sm 1, mul x y)) [] := by kernel_rfl
theorem qaffine_tab_ : ∀ p_ ∈ ([(118, e2F mulC), (119, eSm feSmall)] : List (FuncId × Ent)), p_.2.Ok Tryz.prog p_.1 := (tabC fmul'_ok (tabC fsmall'_ok tab0))
theorem qaffine_ok : qaffineE.Ok Tryz.prog 95 := by
  refine (Ent.ofOk Tryz.call95 fun x_ y_ Q H_ => ?_).sym
  obtain ⟨x, y, _⟩ := x_
  have hq := H_.2
  refine (fnT_ok (tab := [(118, e2F mulC), (119, eSm feSmall)]) mixed qaffine_tab_ Tryz.func95 rfl (LT := []) (ks := kK) (LOk.nil _)).use (D := []) ?_ hq
  show (fnT _ _ _ _ ((fe2A).wr (x, y, ())) [] _).sat _
  rw [qaffine_tree mulC feSmall]
  exact ⟨rfl, rfl⟩
noncomputable abbrev qzeroE : Ent := e0Q zeroC
theorem qzero_tree (af : Fe → Fe → Pt) (sm : Int → Fe)  : fnT Tryz.prog [(95, eAf af), (119, eSm sm)] [] Tryz.f98 ((lNil).wr ()) [] kK = .leaf (cPt.wr (af feZero (sm 1))) [] := by kernel_rfl
theorem qzero_tab_ : ∀ p_ ∈ ([(95, eAf affineC), (119, eSm feSmall)] : List (FuncId × Ent)), p_.2.Ok Tryz.prog p_.1 := (tabC qaffine_ok (tabC fsmall'_ok tab0))
theorem qzero_ok : qzeroE.Ok Tryz.prog 98 := by
  refine (Ent.ofOk Tryz.call98 fun x_ y_ Q H_ => ?_).sym
  have hq := H_.2
  refine (fnT_ok (tab := [(95, eAf affineC), (119, eSm feSmall)]) mixed qzero_tab_ Tryz.func98 rfl (LT := []) (ks := kK) (LOk.nil _)).use (D := []) ?_ hq
  show (fnT _ _ _ _ ((lNil).wr ()) [] _).sat _
  rw [qzero_tree affineC feSmall]
  exact ⟨rfl, rfl⟩
theorem ownC_eq (p : Pt) : ownC p = bif !p.1 then zeroC else p := by unfold ownC ownFn; rw [selPt_eq]
theorem two_sat {t : Bool} {V W X : LV} (h1 : t = true → V = X) (h2 : t = false → W = X) : (Ev.End.ite t (.leaf V []) (.leaf W [])).sat fun v hp' => v = X ∧ hp' = [] := ⟨fun h => ⟨h1 h, rfl⟩, fun h => ⟨h2 h, rfl⟩⟩
noncomputable abbrev qownE : Ent := e1Q ownC
theorem qown_tree (z : Pt) (p : Pt) : fnT Tryz.prog [(98, e0Q z)] [] Tryz.f102 ((ptA).wr (p, ())) [] kK = .ite (!p.1) (.leaf (cPt.wr z) []) (.leaf (cPt.wr p) []) := by kernel_rfl
theorem qown_tab_ : ∀ p_ ∈ ([(98, e0Q zeroC)] : List (FuncId × Ent)), p_.2.Ok Tryz.prog p_.1 := (tabC qzero_ok tab0)
theorem qown_ok : qownE.Ok Tryz.prog 102 := by
  refine (Ent.ofOk Tryz.call102 fun x_ y_ Q H_ => ?_).sym
  obtain ⟨p, _⟩ := x_
  have hq := H_.2
  refine (fnT_ok (tab := [(98, e0Q zeroC)]) mixed qown_tab_ Tryz.func102 rfl (LT := []) (ks := kK) (LOk.nil _)).use (D := []) ?_ hq
  show (fnT _ _ _ _ ((ptA).wr (p, ())) [] _).sat _
  rw [qown_tree zeroC]
  exact two_sat (fun h => by rw [ownC_eq, h]; rfl) (fun h => by rw [ownC_eq, h]; rfl)
noncomputable abbrev qrootE : Ent := e1P rootC
theorem qroot_tree (mul add sub : Fe → Fe → Fe) (sq : Fe → Fe) (sm : Int → Fe) (ed : Fe) (ratio : Fe → Fe → Fe × Bool) (y : Fe) : fnT Tryz.prog [(118, e2F mul), (136, e2F add), (135, e2F sub), (133, e1F sq), (119, eSm sm), (137, e0F ed), (134, e2P ratio)] [] Tryz.f91 ((feA).wr (y, ())) [] kK = .leaf (nPair (ratio (sub (sq y) (sm 1)) (add (mul ed (sq y)) (sm 1)))) [] := by kernel_rfl
theorem qroot_tab_ : ∀ p_ ∈ ([(118, e2F mulC), (136, e2F addC), (135, e2F subC), (133, e1F (fun x => mulC x x)), (119, eSm feSmall), (137, e0F edgeC), (134, e2P ratioC)] : List (FuncId × Ent)), p_.2.Ok Tryz.prog p_.1 := (tabC fmul'_ok (tabC fadd'_ok (tabC fsub'_ok (tabC fsq'_ok (tabC fsmall'_ok (tabC qedge_ok (tabC pratio_ok tab0)))))))
theorem qroot_ok : qrootE.Ok Tryz.prog 91 := by
  refine (Ent.ofOk Tryz.call91 fun x_ y_ Q H_ => ?_).sym
  obtain ⟨y, _⟩ := x_
  have hq := H_.2
  refine (fnT_ok (tab := [(118, e2F mulC), (136, e2F addC), (135, e2F subC), (133, e1F (fun x => mulC x x)), (119, eSm feSmall), (137, e0F edgeC), (134, e2P ratioC)]) mixed qroot_tab_ Tryz.func91 rfl (LT := []) (ks := kK) (LOk.nil _)).use (D := []) ?_ hq
  show (fnT _ _ _ _ ((feA).wr (y, ())) [] _).sat _
  rw [qroot_tree mulC addC subC (fun x => mulC x x) feSmall edgeC ratioC]
  exact ⟨rfl, rfl⟩
noncomputable abbrev qbaseE : Ent := e0Q baseC
theorem qbase_tree (mul : Fe → Fe → Fe) (sm : Int → Fe) (inv : Fe → Fe) (root : Fe → Fe × Bool) (af : Fe → Fe → Pt)  : fnT Tryz.prog [(118, e2F mul), (119, eSm sm), (120, e1F inv), (91, e1P root), (95, eAf af)] [] Tryz.f64 ((lNil).wr ()) [] kK = .leaf (cPt.wr (af (root (mul (sm 4) (inv (sm 5)))).1 (mul (sm 4) (inv (sm 5))))) [] := by kernel_rfl
theorem qbase_tab_ : ∀ p_ ∈ ([(118, e2F mulC), (119, eSm feSmall), (120, e1F invC), (91, e1P rootC), (95, eAf affineC)] : List (FuncId × Ent)), p_.2.Ok Tryz.prog p_.1 := (tabC fmul'_ok (tabC fsmall'_ok (tabC pinv_ok (tabC qroot_ok (tabC qaffine_ok tab0)))))
theorem qbase_ok : qbaseE.Ok Tryz.prog 64 := by
  refine (Ent.ofOk Tryz.call64 fun x_ y_ Q H_ => ?_).sym
  have hq := H_.2
  refine (fnT_ok (tab := [(118, e2F mulC), (119, eSm feSmall), (120, e1F invC), (91, e1P rootC), (95, eAf affineC)]) mixed qbase_tab_ Tryz.func64 rfl (LT := []) (ks := kK) (LOk.nil _)).use (D := []) ?_ hq
  show (fnT _ _ _ _ ((lNil).wr ()) [] _).sat _
  rw [qbase_tree mulC feSmall invC rootC affineC]
  exact ⟨rfl, rfl⟩
def e4Q (g : Fe → Fe → Fe → Fe → Pt) : Ent := Ent.ofS [] (lCons cFe (lCons cFe (lCons cFe (lCons cFe lNil)))) lNil fun x _ => .leaf none (cPt.wr (g x.1 x.2.1 x.2.2.1 x.2.2.2.1)) []
noncomputable abbrev qcrossE : Ent := e4Q crossC
theorem qcross_tree (mul : Fe → Fe → Fe) (e f g h : Fe) : fnT Tryz.prog [(118, e2F mul)] [] Tryz.f140 (((lCons cFe (lCons cFe (lCons cFe (lCons cFe lNil))))).wr (e, f, g, h, ())) [] kK = .leaf (cPt.wr (true, mul e f, mul g h, mul f g, mul e h)) [] := by kernel_rfl
theorem qcross_tab_ : ∀ p_ ∈ ([(118, e2F mulC)] : List (FuncId × Ent)), p_.2.Ok Tryz.prog p_.1 := (tabC fmul'_ok tab0)
theorem qcross_ok : qcrossE.Ok Tryz.prog 140 := by
  refine (Ent.ofOk Tryz.call140 fun x_ y_ Q H_ => ?_).sym
  obtain ⟨e, f, g, h, _⟩ := x_
  have hq := H_.2
  refine (fnT_ok (tab := [(118, e2F mulC)]) mixed qcross_tab_ Tryz.func140 rfl (LT := []) (ks := kK) (LOk.nil _)).use (D := []) ?_ hq
  show (fnT _ _ _ _ (((lCons cFe (lCons cFe (lCons cFe (lCons cFe lNil))))).wr (e, f, g, h, ())) [] _).sat _
  rw [qcross_tree mulC]
  exact ⟨rfl, rfl⟩
noncomputable abbrev qaddE : Ent := e2Q addPC
theorem qadd_tree (mul add sub : Fe → Fe → Fe) (ed : Fe) (own : Pt → Pt) (cross : Fe → Fe → Fe → Fe → Pt) (p q : Pt) : fnT Tryz.prog [(118, e2F mul), (136, e2F add), (135, e2F sub), (137, e0F ed), (102, e1Q own), (140, e4Q cross)] [] Tryz.f99 ((pt2A).wr (p, q, ())) [] kK = .leaf (cPt.wr (addFn mul add sub ed own cross p q)) [] := by kernel_rfl
theorem qadd_tab_ : ∀ p_ ∈ ([(118, e2F mulC), (136, e2F addC), (135, e2F subC), (137, e0F edgeC), (102, e1Q ownC), (140, e4Q crossC)] : List (FuncId × Ent)), p_.2.Ok Tryz.prog p_.1 := (tabC fmul'_ok (tabC fadd'_ok (tabC fsub'_ok (tabC qedge_ok (tabC qown_ok (tabC qcross_ok tab0))))))
theorem qadd_ok : qaddE.Ok Tryz.prog 99 := by
  refine (Ent.ofOk Tryz.call99 fun x_ y_ Q H_ => ?_).sym
  obtain ⟨p, q, _⟩ := x_
  have hq := H_.2
  refine (fnT_ok (tab := [(118, e2F mulC), (136, e2F addC), (135, e2F subC), (137, e0F edgeC), (102, e1Q ownC), (140, e4Q crossC)]) mixed qadd_tab_ Tryz.func99 rfl (LT := []) (ks := kK) (LOk.nil _)).use (D := []) ?_ hq
  show (fnT _ _ _ _ ((pt2A).wr (p, q, ())) [] _).sat _
  rw [qadd_tree mulC addC subC edgeC ownC crossC]
  exact ⟨rfl, rfl⟩
noncomputable abbrev qdoubleE : Ent := e1Q doubleC
theorem qdouble_tree (add : Pt → Pt → Pt) (p : Pt) : fnT Tryz.prog [(99, e2Q add)] [] Tryz.f100 ((ptA).wr (p, ())) [] kK = .leaf (cPt.wr (add p p)) [] := by kernel_rfl
theorem qdouble_tab_ : ∀ p_ ∈ ([(99, e2Q addPC)] : List (FuncId × Ent)), p_.2.Ok Tryz.prog p_.1 := (tabC qadd_ok tab0)
theorem qdouble_ok : qdoubleE.Ok Tryz.prog 100 := by
  refine (Ent.ofOk Tryz.call100 fun x_ y_ Q H_ => ?_).sym
  obtain ⟨p, _⟩ := x_
  have hq := H_.2
  refine (fnT_ok (tab := [(99, e2Q addPC)]) mixed qdouble_tab_ Tryz.func100 rfl (LT := []) (ks := kK) (LOk.nil _)).use (D := []) ?_ hq
  show (fnT _ _ _ _ ((ptA).wr (p, ())) [] _).sat _
  rw [qdouble_tree addPC]
  exact ⟨rfl, rfl⟩
noncomputable abbrev qnegE : Ent := e1Q negPC
theorem qneg_tree (neg : Fe → Fe) (own : Pt → Pt) (p : Pt) : fnT Tryz.prog [(94, e1F neg), (102, e1Q own)] [] Tryz.f45 ((ptA).wr (p, ())) [] kK = .leaf (cPt.wr (negFn neg own p)) [] := by kernel_rfl
theorem qneg_tab_ : ∀ p_ ∈ ([(94, e1F negC), (102, e1Q ownC)] : List (FuncId × Ent)), p_.2.Ok Tryz.prog p_.1 := (tabC fneg'_ok (tabC qown_ok tab0))
theorem qneg_ok : qnegE.Ok Tryz.prog 45 := by
  refine (Ent.ofOk Tryz.call45 fun x_ y_ Q H_ => ?_).sym
  obtain ⟨p, _⟩ := x_
  have hq := H_.2
  refine (fnT_ok (tab := [(94, e1F negC), (102, e1Q ownC)]) mixed qneg_tab_ Tryz.func45 rfl (LT := []) (ks := kK) (LOk.nil _)).use (D := []) ?_ hq
  show (fnT _ _ _ _ ((ptA).wr (p, ())) [] _).sat _
  rw [qneg_tree negC ownC]
  exact ⟨rfl, rfl⟩
def ePl (g : Pt → Fe × Fe) : Ent := Ent.ofS [] ptA lNil fun x _ => .leaf none (.tup [.agg ((vecL .u64 5).wr (g x.1).1), .agg ((vecL .u64 5).wr (g x.1).2)]) []
noncomputable abbrev qplaceE : Ent := ePl placeC
theorem qplace_tree (mul : Fe → Fe → Fe) (inv : Fe → Fe) (own : Pt → Pt) (p : Pt) : fnT Tryz.prog [(118, e2F mul), (120, e1F inv), (102, e1Q own)] [] Tryz.f65 ((ptA).wr (p, ())) [] kK = .leaf (.tup [.agg ((vecL .u64 5).wr (mul (own p).2.1 (inv (own p).2.2.2.1))), .agg ((vecL .u64 5).wr (mul (own p).2.2.1 (inv (own p).2.2.2.1)))]) [] := by kernel_rfl
theorem qplace_tab_ : ∀ p_ ∈ ([(118, e2F mulC), (120, e1F invC), (102, e1Q ownC)] : List (FuncId × Ent)), p_.2.Ok Tryz.prog p_.1 := (tabC fmul'_ok (tabC pinv_ok (tabC qown_ok tab0)))
theorem qplace_ok : qplaceE.Ok Tryz.prog 65 := by
  refine (Ent.ofOk Tryz.call65 fun x_ y_ Q H_ => ?_).sym
  obtain ⟨p, _⟩ := x_
  have hq := H_.2
  refine (fnT_ok (tab := [(118, e2F mulC), (120, e1F invC), (102, e1Q ownC)]) mixed qplace_tab_ Tryz.func65 rfl (LT := []) (ks := kK) (LOk.nil _)).use (D := []) ?_ hq
  show (fnT _ _ _ _ ((ptA).wr (p, ())) [] _).sat _
  rw [qplace_tree mulC invC ownC]
  exact ⟨rfl, rfl⟩
def eBy (g : Fe → List Int) : Ent := Ent.ofS [] feA lNil fun x _ => .leaf none (nRow .u8 32 (g x.1)) []
def eLB (g : List Int → Bool) : Ent := Ent.ofS [] bA32 lNil fun x _ => .leaf (some (x.1.length = 32)) (nB (g x.1)) []
def eEn (g : Pt → List Int) : Ent := Ent.ofS [] ptA lNil fun x _ => .leaf none (nRow .u8 32 (g x.1)) []
abbrev nPt (r : Pt × Bool) : LV := .tup [.agg ((lCons sBool (vecA .u64 (vecA .u64 (vecA .u64 (vecL .u64 5) 5) 5) 5)).wr r.1), .sc (.bool (.sym r.2))]
def eDe (g : List Int → Pt × Bool) : Ent := Ent.ofS [] bA32 lNil fun x _ => .leaf (some (x.1.length = 32)) (nPt (g x.1)) []
noncomputable def bytesL (x : Fe) : List Int := (feBytes x).toList
noncomputable def canonL (b : List Int) : Bool := canonicalC (v32 b)
noncomputable def encodeL (p : Pt) : List Int := (encodeC p).toList
noncomputable def decodeL (b : List Int) : Pt × Bool := decodeC (v32 b)
theorem fbytes_as : fbytesE = eBy bytesL := by kernel_rfl
theorem fbytes'_ok : (eBy bytesL).Ok Tryz.prog 66 := fbytes_as ▸ fbytes_ok
theorem fcanon_as : fcanonE = eLB canonL := by kernel_rfl
theorem fcanon'_ok : (eLB canonL).Ok Tryz.prog 92 := fcanon_as ▸ fcanon_ok
theorem upd_set {f : Int → Int} (v : B32) : (Vec.upd f 31 v).toList = v.toList.set 31 (f (v.toList.getD 31 0)) := by
  have h := v32_set (Vec.toList_length v) (k := 31) (by omega) f
  rw [v32_of] at h
  rw [← h, v32_toList (by rw [List.length_set]; exact Vec.toList_length v)]
theorem encode_eq (p : Pt) : encodeL p = bif oddC (placeC p).1 then (bytesL (placeC p).2).set 31 (bitOr .u8 ((bytesL (placeC p).2).getD 31 0) 128) else bytesL (placeC p).2 := by
  unfold encodeL encodeC encodeFn bytesL
  simp only [selN_eq]
  generalize feBytes (placeC p).2 = v
  cases oddC (placeC p).1
  · rfl
  · exact upd_set v
noncomputable abbrev qencodeE : Ent := eEn encodeL
theorem qencode_tree (pl : Pt → Fe × Fe) (byt : Fe → List Int) (odd : Fe → Bool) (p : Pt) : fnT Tryz.prog [(65, ePl pl), (66, eBy byt), (67, e1B odd)] [] Tryz.f30 ((ptA).wr (p, ())) [] kK = .ite (odd (pl p).1) (.leaf (nRow .u8 32 ((byt (pl p).2).set 31 (bitOr .u8 ((byt (pl p).2).getD 31 0) 128))) []) (.leaf (nRow .u8 32 (byt (pl p).2)) []) := by kernel_rfl
theorem qencode_tab_ : ∀ p_ ∈ ([(65, ePl placeC), (66, eBy bytesL), (67, e1B oddC)] : List (FuncId × Ent)), p_.2.Ok Tryz.prog p_.1 := (tabC qplace_ok (tabC fbytes'_ok (tabC fodd'_ok tab0)))
theorem qencode_ok : qencodeE.Ok Tryz.prog 30 := by
  refine (Ent.ofOk Tryz.call30 fun x_ y_ Q H_ => ?_).sym
  obtain ⟨p, _⟩ := x_
  have hq := H_.2
  refine (fnT_ok (tab := [(65, ePl placeC), (66, eBy bytesL), (67, e1B oddC)]) mixed qencode_tab_ Tryz.func30 rfl (LT := []) (ks := kK) (LOk.nil _)).use (D := []) ?_ hq
  show (fnT _ _ _ _ ((ptA).wr (p, ())) [] _).sat _
  rw [qencode_tree placeC bytesL oddC]
  exact two_sat (fun h => by rw [encode_eq, h]; rfl) (fun h => by rw [encode_eq, h]; rfl)
theorem decFn_eq (neg : Fe → Fe) (isz : Fe → Bool) (frm : B32 → Fe) (canon : B32 → Bool) (af : Fe → Fe → Pt) (root : Fe → Fe × Bool) (b : B32) :
    decodeFn neg isz frm canon af root b = bif (root (frm b)).2 then (bif canon b then (bif topBit b then (bif isz (root (frm b)).1 then (ptNone, false) else (af (neg (root (frm b)).1) (frm b), true)) else (af (root (frm b)).1 (frm b), true)) else (ptNone, false)) else (ptNone, false) := by
  unfold decodeFn
  simp only [selN_eq, selPt_eq]
  generalize root (frm b) = r
  generalize frm b = y
  obtain ⟨x, ok⟩ := r
  simp only
  cases ok <;> cases canon b <;> cases topBit b <;> cases isz x <;> rfl
theorem decode_eq (b : List Int) : decodeL b = bif (rootC (fromL b)).2 then (bif canonL b then (bif bitAnd .u8 (b.getD 31 0) 128 != 0 then (bif isZeroC (rootC (fromL b)).1 then (ptNone, false) else (affineC (negC (rootC (fromL b)).1) (fromL b), true)) else (affineC (rootC (fromL b)).1 (fromL b), true)) else (ptNone, false)) else (ptNone, false) := decFn_eq negC isZeroC feFrom canonicalC affineC rootC (v32 b)
theorem dec_sat {p : Prop} {ok canon odd isz : Bool} {P Q : Pt} (hp : p) {r : Pt × Bool} (hr : r = bif ok then (bif canon then (bif odd then (bif isz then (ptNone, false) else (P, true)) else (Q, true)) else (ptNone, false)) else (ptNone, false)) :
    (Ev.End.ite ((!ok) == false) (.need p (.ite ((!canon) == false) (.ite (odd == true) (.ite isz (.leaf (nPt (ptNone, false)) []) (.ite odd (.leaf (nPt (P, true)) []) (.leaf (nPt (Q, true)) []))) (.ite odd (.leaf (nPt (P, true)) []) (.leaf (nPt (Q, true)) []))) (.leaf (nPt (ptNone, false)) []))) (.leaf (nPt (ptNone, false)) [])).sat fun v hp' => v = nPt r ∧ hp' = [] := by
  subst hr
  cases ok
  · exact ⟨fun h => (by cases h), fun _ => ⟨rfl, rfl⟩⟩
  · refine ⟨fun _ => ⟨hp, ?_⟩, fun h => (by cases h)⟩
    cases canon
    · exact ⟨fun h => (by cases h), fun _ => ⟨rfl, rfl⟩⟩
    · refine ⟨fun _ => ?_, fun h => (by cases h)⟩
      cases odd
      · exact ⟨fun h => (by cases h), fun _ => ⟨fun h => (by cases h), fun _ => ⟨rfl, rfl⟩⟩⟩
      · refine ⟨fun _ => ?_, fun h => (by cases h)⟩
        cases isz
        · exact ⟨fun h => (by cases h), fun _ => ⟨fun _ => ⟨rfl, rfl⟩, fun h => (by cases h)⟩⟩
        · exact ⟨fun _ => ⟨rfl, rfl⟩, fun h => (by cases h)⟩
noncomputable abbrev qdecodeE : Ent := eDe decodeL
theorem qdecode_tree (frm : List Int → Fe) (root : Fe → Fe × Bool) (canon : List Int → Bool) (isz : Fe → Bool) (neg : Fe → Fe) (af : Fe → Fe → Pt) (b : List Int) : fnT Tryz.prog [(90, eFr frm), (91, e1P root), (92, eLB canon), (93, e1B isz), (94, e1F neg), (95, eAf af)] [] Tryz.f42 ((bA32).wr (b, ())) [] kK = .ite ((!(root (frm b)).2) == false) (.need (b.length = 32) (.ite ((!canon b) == false) (.ite ((bitAnd .u8 (b.getD 31 0) 128 != 0) == true) (.ite (isz (root (frm b)).1) (.leaf (nPt (ptNone, false)) []) (.ite (bitAnd .u8 (b.getD 31 0) 128 != 0) (.leaf (nPt (af (neg (root (frm b)).1) (frm b), true)) []) (.leaf (nPt (af (root (frm b)).1 (frm b), true)) []))) (.ite (bitAnd .u8 (b.getD 31 0) 128 != 0) (.leaf (nPt (af (neg (root (frm b)).1) (frm b), true)) []) (.leaf (nPt (af (root (frm b)).1 (frm b), true)) []))) (.leaf (nPt (ptNone, false)) []))) (.leaf (nPt (ptNone, false)) []) := by kernel_rfl
theorem qdecode_tab_ : ∀ p_ ∈ ([(90, eFr fromL), (91, e1P rootC), (92, eLB canonL), (93, e1B isZeroC), (94, e1F negC), (95, eAf affineC)] : List (FuncId × Ent)), p_.2.Ok Tryz.prog p_.1 := (tabC ffrom'_ok (tabC qroot_ok (tabC fcanon'_ok (tabC fzero'_ok (tabC fneg'_ok (tabC qaffine_ok tab0))))))
theorem qdecode_ok : qdecodeE.Ok Tryz.prog 42 := by
  refine (Ent.ofOk Tryz.call42 fun x_ y_ Q H_ => ?_).sym
  obtain ⟨b, _⟩ := x_
  obtain ⟨hn, hq⟩ := H_
  have hn : b.length = 32 := hn
  refine (fnT_ok (tab := [(90, eFr fromL), (91, e1P rootC), (92, eLB canonL), (93, e1B isZeroC), (94, e1F negC), (95, eAf affineC)]) mixed qdecode_tab_ Tryz.func42 rfl (LT := []) (ks := kK) (LOk.nil _)).use (D := []) ?_ hq
  show (fnT _ _ _ _ ((bA32).wr (b, ())) [] _).sat _
  rw [qdecode_tree fromL rootC canonL isZeroC negC affineC]
  exact dec_sat hn (decode_eq b)
end Go.Proofs.YthdfifcgobfgdaaGreat
end

section
set_option linter.unusedVariables false
set_option linter.unusedSimpArgs false
namespace Go.Proofs.YthdfifcgobfgdaaGreat
open Go Go.Ev BJ
set_option maxRecDepth 1000000
abbrev biA : Cod (List LV) (List Int × Int × Unit) := lCons cB (lCons (vOne (sInt .i64)) lNil)
def eBi (g : List Int → Int → Int) : Ent := Ent.ofS [] biA lNil fun x _ => .leaf (some (x.1.length = 32 ∧ 0 ≤ x.2.1 ∧ x.2.1 < 256)) (nI (g x.1 x.2.1)) []
noncomputable def bitL (a : List Int) (i : Int) : Int := bitFn (v32 a) i.toNat
noncomputable def sbitE : Ent := Ent.ofS [] (biA) (lNil) fun x_ y_ => (fun (a : List Int) (i : Int) => .leaf (some (a.length = 32 ∧ 0 ≤ i ∧ i < 256)) (nI (bitL a i)) []) x_.1 x_.2.1
theorem sbit_tree (a : List Int) (i : Int) : fnT Tryz.prog [] [] Tryz.f101 ((biA).wr (a, i, ())) ((lNil).wr ()) [.fr [.sym], .auto] =
  End.ite (decide (i < (0 : Int)) == false) (End.ite (decide ((256 : Int) ≤ i)) (End.leaf (LV.one (VV.sc (SV.int IntKind.i64 (SI.sym (0 : Int))))) [])
  (End.need ((0 : Int) ≤ IntKind.i64.wrap (i.tdiv (8 : Int)) ∧ IntKind.i64.wrap (i.tdiv (8 : Int)) < (32 : Int)) (End.need ((0 : Int) ≤ i.tmod (8 : Int))
  (End.leaf (LV.one (VV.sc (SV.int IntKind.i64 (SI.sym (IntKind.i64.wrap (bitAnd IntKind.u8 (shr IntKind.u8 ((List.take (32 : Nat) (List.drop (0 : Nat)
  a)).getD (IntKind.i64.wrap (i.tdiv (8 : Int))).toNat (0 : Int)) (i.tmod (8 : Int))) (1 : Int))))))) [])))) (End.leaf (LV.one (VV.sc (SV.int IntKind.i64
  (SI.sym (0 : Int))))) []) := by kernel_rfl
theorem sbit_ok : sbitE.Ok Tryz.prog 101 := by
  refine (Ent.ofOk Tryz.call101 fun x_ y_ Q H_ => ?_).sym
  obtain ⟨a, i, _⟩ := x_
  obtain ⟨hn, hq⟩ := H_
  have hn : a.length = 32 ∧ 0 ≤ i ∧ i < 256 := hn
  refine (fnT_ok mixed tab0 Tryz.func101 rfl (LT := []) (ks := [.fr [.sym], .auto]) (LOk.nil _)).use (D := []) ?_ hq
  show (fnT _ _ _ _ ((biA).wr (a, i, ())) ((lNil).wr ()) _).sat _
  rw [sbit_tree]
  obtain ⟨ha, h0, h1⟩ := hn
  obtain ⟨k, rfl⟩ := Int.eq_ofNat_of_zero_le h0
  have hk : k < 256 := by omega
  have e1 : IntKind.i64.wrap ((k : Int).tdiv 8) = ((k / 8 : Nat) : Int) := tdiv_nat k 8 (by omega)
  have e2 : (k : Int).tmod 8 = ((k % 8 : Nat) : Int) := tmod_nat k 8
  have e : bitL a (k : Int) = IntKind.i64.wrap (bitAnd .u8 (shr .u8 (a.getD (k / 8) 0) ((k % 8 : Nat) : Int)) 1) := by
    unfold bitL bitFn
    rw [Int.toNat_natCast, v32_get a (show k / 8 < 32 by omega)]
  rw [e1, e2, take_all ha, Int.toNat_natCast, e]
  refine ⟨fun _ => ⟨fun h => ?_, fun _ => ⟨by omega, by omega, rfl, rfl⟩⟩, fun h => ?_⟩
  · have := of_decide_eq_true h; omega
  · exfalso; revert h; simp
noncomputable abbrev muFn : Func := Tryz.f63
abbrev muC : Cod (List LV) (Int × Unit) := (jk 2 (lSkip (vOne (sPtr 0 0)) (lSkip (vOne (sPtr 1 0)) (lSkip (vOne (sPtr 2 0)) (lSkip (vOne (sPtr 3 0)) (lCons (vOne (sInt .i64)) (jk 15 lNil)))))))
abbrev muCf : Wk := .fr (fmS 22 [(2, .keep), (3, .keep), (4, .keep), (5, .keep), (6, .sym)])
abbrev muX : Cod (List LV) (Unit) := (jk 4 (lSkip (vOne (sPtr 0 0)) (lSkip (vOne (sPtr 1 0)) (jk 16 lNil))))
abbrev iPt : Cod (Option Ev.Item) Pt := iBlk 63 (lCons sBool (vecA .u64 (vecA .u64 (vecA .u64 (vecL .u64 5) 5) 5) 5))
abbrev muH : Cod Hp (List Int × Pt × Pt × Pt × Unit) := lCons (iRow 22 .u8 32) (lCons iPt (lCons iPt (lCons iPt lNil)))
abbrev muHX : Cod Hp (Pt × Pt × Unit) := lCons iPt (lCons iPt lNil)
abbrev symQ (i : Nat) : Wk := .blk i (List.replicate 21 .sym)
def muW : Exit → List Wk
  | .normal => [muCf, symQ 2, symQ 3, .auto]
  | .exit 0 => [.fr (fmS 22 [(4, .keep), (5, .keep)]), .auto]
  | _ => []
theorem mu_rnd (bit : List Int → Int → Int) (dbl : Pt → Pt) (add : Pt → Pt → Pt) (n : List Int) (p r o : Pt) (i : Int) : rndT Tryz.prog [(101, eBi bit), (100, e1Q dbl), (99, e2Q add)] [] muFn 0 [] muW ((stC muC muH).wr ((i, ()), (n, p, r, o, ()))) =
  Res.ite (decide ((0 : Int) ≤ i)) (Res.need (n.length = (32 : Nat) ∧ (0 : Int) ≤ i ∧ i < (256 : Int)) (Res.ite (bit n i == (1 : Int)) (Res.leaf
  Exit.normal ((stC muC muH).wr ((IntKind.i64.wrap (i - (1 : Int)), PUnit.unit), n, p, r, add (dbl o) p, PUnit.unit))) (Res.leaf Exit.normal ((stC muC
  muH).wr ((IntKind.i64.wrap (i - (1 : Int)), PUnit.unit), n, p, r, dbl o, PUnit.unit))))) (Res.leaf (Exit.exit (0 : Nat)) ((stC muX muHX).wr
  (PUnit.unit, r, o, PUnit.unit))) := by kernel_rfl
noncomputable abbrev muTab : List (FuncId × Ent) := [(101, eBi bitL), (100, e1Q doubleC), (99, e2Q addPC)]
theorem sbit_as : sbitE = eBi bitL := by kernel_rfl
theorem sbit'_ok : (eBi bitL).Ok Tryz.prog 101 := sbit_as ▸ sbit_ok
theorem muTab_ok : ∀ p ∈ muTab, p.2.Ok Tryz.prog p.1 := tabC sbit'_ok (tabC qdouble_ok (tabC qadd_ok tab0))
def mulG (bit : List Int → Int → Int) (dbl : Pt → Pt) (add : Pt → Pt → Pt) (n : List Int) (p : Pt) (k : Nat) (r : Pt) : Pt := bif bit n (255 - (k : Int)) == 1 then add (dbl r) p else dbl r
theorem mu_loop (x : (Int × Unit) × List Int × Pt × Pt × Pt × Unit) : Ex Tryz.prog [] (.loop (loopAt muFn 0)) ((stC muC muH).wr x) (.need (x.1.1 = 255 ∧ x.2.1.length = 32) (.leaf (.exit 0) ((stC muX muHX).wr ((), (x.2.2.2.1, rnds (mulG bitL doubleC addPC x.2.1 x.2.2.1) 256 x.2.2.2.2.1, ()))))) := by
  obtain ⟨⟨i, _⟩, n, p, r, o, _⟩ := x
  refine Ex.need fun ⟨h1, h2⟩ => ?_
  simp only at h1 h2
  subst h1
  have key := loopUp (fn := muFn) (id := 0) (j := 0) (ws := muW) (hp := []) mixed muTab_ok (LOk.nil _) 256 (fun k o => (stC muC muH).wr ((255 - (k : Int), ()), (n, p, r, o, ()))) (fun o => (stC muX muHX).wr ((), (r, o, ()))) (mulG bitL doubleC addPC n p) (fun _ _ => True)
    (fun k o R hk _ hn hx => ?_) (fun _ _ _ _ => trivial) 0 o (by omega) trivial
  · rw [Nat.sub_zero, rnds_upto] at key; exact key
  rw [mu_rnd]
  refine ⟨fun hb => ?_, fun hb => ?_⟩
  · have hk' : k < 256 := by have := of_decide_eq_true hb; omega
    have hn' := hn hk'
    have e3 : IntKind.i64.wrap ((255 - (k : Int)) - 1) = 255 - ((k + 1 : Nat) : Int) := by rw [wrap_ok (by omega) (by omega)]; omega
    rw [e3]
    refine ⟨⟨h2, by omega, by omega⟩, fun hc => ?_, fun hc => ?_⟩
    · have : mulG bitL doubleC addPC n p k o = addPC (doubleC o) p := by unfold mulG; rw [hc]; rfl
      rw [this] at hn'; exact hn'
    · have : mulG bitL doubleC addPC n p k o = doubleC o := by unfold mulG; rw [hc]; rfl
      rw [this] at hn'; exact hn'
  · have : k = 256 := by have := of_decide_eq_false hb; omega
    exact hx this
abbrev mpA : Cod (List LV) (List Int × Pt × Unit) := lCons cB (lCons cPt lNil)
def eMu (g : List Int → Pt → Pt) : Ent := Ent.ofS [] mpA lNil fun x _ => .leaf (some (x.1.length = 32)) (cPt.wr (g x.1 x.2.1)) []
def muLF (w : List Int → Pt → Pt → Pt) (x : (Int × Unit) × List Int × Pt × Pt × Pt × Unit) : Res := .need (x.1.1 = 255 ∧ x.2.1.length = 32) (.leaf (.exit 0) ((stC muX muHX).wr ((), (x.2.2.2.1, w x.2.1 x.2.2.1 x.2.2.2.2.1, ()))))
abbrev muLT (w : List Int → Pt → Pt → Pt) : LTab := [(0, loopF (stC muC muH) 0 [muCf, .auto, symQ 2, symQ 3] (muLF w))]
theorem mmult_tree (z : Pt) (w : List Int → Pt → Pt → Pt) (bit : List Int → Int → Int) (dbl : Pt → Pt) (add : Pt → Pt → Pt) (n : List Int) (p : Pt) : fnT Tryz.prog [(101, eBi bit), (100, e1Q dbl), (99, e2Q add), (98, e0Q z)] (muLT w) muFn (mpA.wr (n, p, ())) [] kK =
    .need ((255 : Int) = 255 ∧ n.length = 32) (.leaf (cPt.wr (w n p z)) []) := by kernel_rfl
theorem multL_ex : ∃ f : List Int → Pt → Pt, ∀ n p, f n p = multC (v32 n) p := ⟨fun n p => multC (v32 n) p, fun _ _ => rfl⟩
/-- never opened: its rounds are many -/
noncomputable def multL : List Int → Pt → Pt := Classical.choose multL_ex
theorem multL_eq (n : List Int) (p : Pt) : multL n p = multC (v32 n) p := Classical.choose_spec multL_ex n p
noncomputable def multW (n : List Int) (p z : Pt) : Pt := rnds (mulG bitL doubleC addPC n p) 256 z
noncomputable abbrev mmultE : Ent := eMu multL
theorem mulG_eq (n : List Int) (p : Pt) (k : Nat) (hk : k < 256) (r : Pt) : mulG bitL doubleC addPC n p k r = multStep bitFn doubleC addPC (v32 n) p k r := by
  unfold mulG multStep bitL
  rw [selPt_eq, show (255 - (k : Int)).toNat = 255 - k from by omega]
theorem rnds_congr {α : Type} {f g : Nat → α → α} {n : Nat} (h : ∀ k, k < n → ∀ r, f k r = g k r) (a : α) : ∀ m, m ≤ n → rnds f m a = rnds g m a
  | 0, _ => rfl
  | m + 1, hm => by
    show f m (rnds f m a) = g m (rnds g m a)
    rw [rnds_congr h a m (by omega), h m (by omega)]
theorem mult_eq (n : List Int) (p : Pt) : multW n p zeroC = multL n p := by
  rw [multL_eq]
  unfold multW multC multFn
  exact rnds_congr (fun k hk r => mulG_eq n p k hk r) zeroC 256 (Nat.le_refl _)
theorem muT4_ok : ∀ p ∈ ([(101, eBi bitL), (100, e1Q doubleC), (99, e2Q addPC), (98, e0Q zeroC)] : List (FuncId × Ent)), p.2.Ok Tryz.prog p.1 := tabC sbit'_ok (tabC qdouble_ok (tabC qadd_ok (tabC qzero_ok tab0)))
theorem mult_sat {n : List Int} {V W : Pt} (hn : n.length = 32) (h : V = W) : (Ev.End.need ((255 : Int) = 255 ∧ n.length = 32) (.leaf (cPt.wr V) [])).sat fun v hp' => v = cPt.wr W ∧ hp' = [] := by
  subst h; exact ⟨⟨rfl, hn⟩, rfl, rfl⟩
theorem multW_def (n : List Int) (p z : Pt) : multW n p z = rnds (mulG bitL doubleC addPC n p) 256 z := rfl
theorem mu_loop' (x : (Int × Unit) × List Int × Pt × Pt × Pt × Unit) : Ex Tryz.prog [] (.loop (loopAt muFn 0)) ((stC muC muH).wr x) (muLF multW x) := by
  unfold muLF
  rw [multW_def]
  exact mu_loop x
theorem muL_ok : LOk Tryz.prog [] (muLT multW) (bodyOf muFn) := LOk.ofTab (LTC rfl (loopF_ok (hp := []) mu_loop') LT0)
theorem mmult_ok : mmultE.Ok Tryz.prog 63 := by
  refine (Ent.ofOk Tryz.call63 fun x_ y_ Q H_ => ?_).sym
  obtain ⟨n, p, _⟩ := x_
  obtain ⟨hn, hq⟩ := H_
  have hn : n.length = 32 := hn
  have hc : CallsT Tryz.prog 63 (mpA.wr (n, p, ())) [] (fnT Tryz.prog [(101, eBi bitL), (100, e1Q doubleC), (99, e2Q addPC), (98, e0Q zeroC)] (muLT multW) muFn (mpA.wr (n, p, ())) [] kK) :=
    fnT_ok mixed muT4_ok Tryz.func63 rfl muL_ok
  rw [mmult_tree zeroC multW bitL doubleC addPC] at hc
  exact hc.use (D := []) (mult_sat hn (mult_eq n p)) hq
def eMb (g : List Int → Pt) : Ent := Ent.ofS [] bA32 lNil fun x _ => .leaf (some (x.1.length = 32)) (cPt.wr (g x.1)) []
noncomputable def mbaseL (n : List Int) : Pt := multL n baseC
noncomputable abbrev mbaseE : Ent := eMb mbaseL
theorem mbase_tree (mu : List Int → Pt → Pt) (b : Pt) (n : List Int) : fnT Tryz.prog [(63, eMu mu), (64, e0Q b)] [] Tryz.f29 ((bA32).wr (n, ())) [] kK = .need (n.length = 32) (.leaf (cPt.wr (mu n b)) []) := by kernel_rfl
theorem mbase_tab_ : ∀ p_ ∈ ([(63, eMu multL), (64, e0Q baseC)] : List (FuncId × Ent)), p_.2.Ok Tryz.prog p_.1 := (tabC mmult_ok (tabC qbase_ok tab0))
theorem mbase_ok : mbaseE.Ok Tryz.prog 29 := by
  refine (Ent.ofOk Tryz.call29 fun x_ y_ Q H_ => ?_).sym
  obtain ⟨n, _⟩ := x_
  obtain ⟨hn, hq⟩ := H_
  have hn : n.length = 32 := hn
  refine (fnT_ok (tab := [(63, eMu multL), (64, e0Q baseC)]) mixed mbase_tab_ Tryz.func29 rfl (LT := []) (ks := kK) (LOk.nil _)).use (D := []) ?_ hq
  show (fnT _ _ _ _ ((bA32).wr (n, ())) [] _).sat _
  rw [mbase_tree multL baseC]
  exact ⟨hn, rfl, rfl⟩
end Go.Proofs.YthdfifcgobfgdaaGreat
end

section
set_option linter.unusedVariables false
set_option linter.unusedSimpArgs false
namespace Go.Proofs.YthdfifcgobfgdaaGreat
open Go Go.Ev BJ
set_option maxRecDepth 1000000
noncomputable abbrev twFn : Func := Tryz.f44
abbrev twC : Cod (List LV) (Int × Unit) := (jk 3 (lSkip (vOne (sPtr 0 0)) (jk 1 (lSkip (vOne (sPtr 1 0)) (lSkip (vOne (sPtr 2 0)) (jk 1 (lSkip (vOne (sPtr 3 0)) (lSkip (vOne (sPtr 4 0)) (lCons (vOne (sInt .i64)) (jk 32 lNil))))))))))
abbrev twCf : Wk := .fr (fmS 43 [(3, .keep), (5, .keep), (6, .keep), (8, .keep), (9, .keep), (10, .sym)])
abbrev twX : Cod (List LV) (Unit) := (jk 6 (lSkip (vOne (sPtr 0 0)) (jk 2 (lSkip (vOne (sPtr 1 0)) (jk 33 lNil)))))
abbrev twXf : Wk := .fr (fmS 43 [(6, .keep), (9, .keep)])
abbrev ptC {Y : Type} (r : Cod (List SV) Y) : Cod (List SV) (Pt × Y) := (lCons sBool (vecA .u64 (vecA .u64 (vecA .u64 (vecA .u64 r 5) 5) 5) 5)).iso (fun x => ((x.1, x.2.1, x.2.2.1, x.2.2.2.1, x.2.2.2.2.1), x.2.2.2.2.2)) (fun y => (y.1.1, y.1.2.1, y.1.2.2.1, y.1.2.2.2.1, y.1.2.2.2.2, y.2)) (fun _ => rfl)
abbrev pt4C : Cod (List SV) (Pt × Pt × Pt × Pt × Unit) := ptC (ptC (ptC (ptC lNil)))
abbrev twH : Cod Hp (List Int × List Int × Pt × (Pt × Pt × Pt × Pt × Unit) × Pt × Unit) := lCons (iRow 22 .u8 32) (lCons (iRow 22 .u8 32) (lCons iPt (lCons (iBlk 134 pt4C) (lCons iPt lNil))))
def twW : Exit → List Wk
  | .normal => [twCf, symQ 2, .blk 3 (List.replicate 84 .sym), symQ 4, .auto]
  | .exit 0 => [twXf, .auto]
  | _ => []
abbrev twI (bit : List Int → Int → Int) (a b : List Int) (i : Int) : Int := IntKind.i64.wrap (bit a i + IntKind.i64.wrap (2 * bit b i))
theorem tw_rnd (bit : List Int → Int → Int) (dbl : Pt → Pt) (add : Pt → Pt → Pt) (a b : List Int) (r p0 p1 p2 p3 o : Pt) (i : Int) : rndT Tryz.prog [(101, eBi bit), (100, e1Q dbl), (99, e2Q add)] [] twFn 0 [] twW ((stC twC twH).wr ((i, ()), (a, b, r, (p0, p1, p2, p3, ()), o, ()))) =
    .ite (decide (0 ≤ i)) (.need (a.length = 32 ∧ 0 ≤ i ∧ i < 256) (.need (b.length = 32 ∧ 0 ≤ i ∧ i < 256) (.ite (decide (0 < twI bit a b i))
      (.need (0 ≤ twI bit a b i ∧ twI bit a b i < 4) (.leaf .normal ((stC twC twH).wr ((IntKind.i64.wrap (i - 1), ()), (a, b, r, (p0, p1, p2, p3, ()), add (dbl o) (pickPt (twI bit a b i) [p0, p1, p2, p3]), ())))))
      (.leaf .normal ((stC twC twH).wr ((IntKind.i64.wrap (i - 1), ()), (a, b, r, (p0, p1, p2, p3, ()), dbl o, ())))))))
      (.leaf (.exit 0) ((stC twX muHX).wr ((), (r, o, ())))) := by kernel_rfl
noncomputable def twG (bit : List Int → Int → Int) (dbl : Pt → Pt) (add : Pt → Pt → Pt) (a b : List Int) (l : List Pt) (k : Nat) (r : Pt) : Pt := bif decide (0 < twI bit a b (255 - (k : Int))) then add (dbl r) (pickPt (twI bit a b (255 - (k : Int))) l) else dbl r
abbrev twT : Type := (Int × Unit) × List Int × List Int × Pt × (Pt × Pt × Pt × Pt × Unit) × Pt × Unit
def twLF (w : List Int → List Int → Pt → Pt → Pt → Pt → Pt → Pt) (x : twT) : Res := .need (x.1.1 = 255 ∧ x.2.1.length = 32 ∧ x.2.2.1.length = 32) (.leaf (.exit 0) ((stC twX muHX).wr ((), (x.2.2.2.1, w x.2.1 x.2.2.1 x.2.2.2.2.1.1 x.2.2.2.2.1.2.1 x.2.2.2.2.1.2.2.1 x.2.2.2.2.1.2.2.2.1 x.2.2.2.2.2.1, ()))))
theorem bitL_01 {a : List Int} {i : Int} : bitL a i = 0 ∨ bitL a i = 1 := bit_01 _
theorem twI_range (a b : List Int) (i : Int) : 0 ≤ twI bitL a b i ∧ twI bitL a b i < 4 := by
  rcases bitL_01 (a := a) (i := i) with h | h <;> rcases bitL_01 (a := b) (i := i) with h' | h' <;> unfold twI <;> rw [h, h'] <;> decide
theorem tw_loop (x : twT) : Ex Tryz.prog [] (.loop (loopAt twFn 0)) ((stC twC twH).wr x) (.need (x.1.1 = 255 ∧ x.2.1.length = 32 ∧ x.2.2.1.length = 32) (.leaf (.exit 0) ((stC twX muHX).wr ((), (x.2.2.2.1, rnds (twG bitL doubleC addPC x.2.1 x.2.2.1 [x.2.2.2.2.1.1, x.2.2.2.2.1.2.1, x.2.2.2.2.1.2.2.1, x.2.2.2.2.1.2.2.2.1]) 256 x.2.2.2.2.2.1, ()))))) := by
  obtain ⟨⟨i, _⟩, a, b, r, ⟨p0, p1, p2, p3, _⟩, o, _⟩ := x
  refine Ex.need fun ⟨h1, h2, h3⟩ => ?_
  simp only at h1 h2 h3
  subst h1
  have key := loopUp (fn := twFn) (id := 0) (j := 0) (ws := twW) (hp := []) mixed muTab_ok (LOk.nil _) 256 (fun k o => (stC twC twH).wr ((255 - (k : Int), ()), (a, b, r, (p0, p1, p2, p3, ()), o, ()))) (fun o => (stC twX muHX).wr ((), (r, o, ()))) (twG bitL doubleC addPC a b [p0, p1, p2, p3]) (fun _ _ => True)
    (fun k o R hk _ hn hx => ?_) (fun _ _ _ _ => trivial) 0 o (by omega) trivial
  · rw [Nat.sub_zero, rnds_upto] at key; exact key
  rw [tw_rnd]
  refine ⟨fun hb => ?_, fun hb => ?_⟩
  · have hk' : k < 256 := by have := of_decide_eq_true hb; omega
    have hn' := hn hk'
    have e3 : IntKind.i64.wrap ((255 - (k : Int)) - 1) = 255 - ((k + 1 : Nat) : Int) := by rw [wrap_ok (by omega) (by omega)]; omega
    rw [e3]
    refine ⟨⟨h2, by omega, by omega⟩, ⟨h3, by omega, by omega⟩, fun hc => ⟨twI_range _ _ _, ?_⟩, fun hc => ?_⟩
    · have : twG bitL doubleC addPC a b [p0, p1, p2, p3] k o = addPC (doubleC o) (pickPt (twI bitL a b (255 - (k : Int))) [p0, p1, p2, p3]) := by unfold twG; rw [hc]; rfl
      rw [this] at hn'; exact hn'
    · have : twG bitL doubleC addPC a b [p0, p1, p2, p3] k o = doubleC o := by unfold twG; rw [hc]; rfl
      rw [this] at hn'; exact hn'
  · have : k = 256 := by have := of_decide_eq_false hb; omega
    exact hx this
noncomputable abbrev twLT (w : List Int → List Int → Pt → Pt → Pt → Pt → Pt → Pt) : LTab := [(0, loopF (stC twC twH) 0 [twCf, .auto, symQ 2, .blk 3 (List.replicate 84 .sym), symQ 4] (twLF w))]
abbrev twA : Cod (List LV) (List Int × Pt × List Int × Unit) := lCons cB (lCons cPt (lCons cB lNil))
def eTw (g : List Int → Pt → List Int → Pt) : Ent := Ent.ofS [] twA lNil fun x _ => .leaf (some (x.1.length = 32 ∧ x.2.2.1.length = 32)) (cPt.wr (g x.1 x.2.1 x.2.2.1)) []
noncomputable abbrev twTab (z b : Pt) (bit : List Int → Int → Int) (dbl : Pt → Pt) (add : Pt → Pt → Pt) : List (FuncId × Ent) := [(101, eBi bit), (100, e1Q dbl), (99, e2Q add), (98, e0Q z), (64, e0Q b)]
theorem mtwo_tree (z b : Pt) (w : List Int → List Int → Pt → Pt → Pt → Pt → Pt → Pt) (bit : List Int → Int → Int) (dbl : Pt → Pt) (add : Pt → Pt → Pt) (n m : List Int) (p : Pt) : fnT Tryz.prog (twTab z b bit dbl add) (twLT w) twFn (twA.wr (n, p, m, ())) [] kK =
    .need ((255 : Int) = 255 ∧ n.length = 32 ∧ m.length = 32) (.leaf (cPt.wr (w n m z p b (add p b) z)) []) := by kernel_rfl
theorem twoL_ex : ∃ f : List Int → Pt → List Int → Pt, ∀ n p m, f n p m = twoC (v32 n) p (v32 m) := ⟨fun n p m => twoC (v32 n) p (v32 m), fun _ _ _ => rfl⟩
/-- never opened: its rounds are many -/
noncomputable def twoL : List Int → Pt → List Int → Pt := Classical.choose twoL_ex
theorem twoL_eq (n : List Int) (p : Pt) (m : List Int) : twoL n p m = twoC (v32 n) p (v32 m) := Classical.choose_spec twoL_ex n p m
noncomputable def twW' (a b : List Int) (p0 p1 p2 p3 o : Pt) : Pt := rnds (twG bitL doubleC addPC a b [p0, p1, p2, p3]) 256 o
theorem twG_eq (a b : List Int) (l : Vec Pt 4) (k : Nat) (hk : k < 256) (r : Pt) : twG bitL doubleC addPC a b l.toList k r = twoStep bitFn doubleC addPC (v32 a) (v32 b) l (255 - (k : Int)) r := by
  unfold twG twoStep twoK twI bitL
  rw [selPt_eq]
  rfl
theorem twoW_eq (n m : List Int) (p : Pt) : twW' n m zeroC p baseC (addPC p baseC) zeroC = twoL n p m := by
  rw [twoL_eq]
  unfold twW' twoC twoFn
  exact rnds_congr (fun k hk r => twG_eq n m (vec4 zeroC p baseC (addPC p baseC)) k hk r) zeroC 256 (Nat.le_refl _)
theorem two_sat' {n m : List Int} {V W : Pt} (hn : n.length = 32) (hm : m.length = 32) (h : V = W) : (Ev.End.need ((255 : Int) = 255 ∧ n.length = 32 ∧ m.length = 32) (.leaf (cPt.wr V) [])).sat fun v hp' => v = cPt.wr W ∧ hp' = [] := by
  subst h; exact ⟨⟨rfl, hn, hm⟩, rfl, rfl⟩
theorem twW'_def (a b : List Int) (p0 p1 p2 p3 o : Pt) : twW' a b p0 p1 p2 p3 o = rnds (twG bitL doubleC addPC a b [p0, p1, p2, p3]) 256 o := rfl
theorem tw_loop' (x : twT) : Ex Tryz.prog [] (.loop (loopAt twFn 0)) ((stC twC twH).wr x) (twLF twW' x) := by
  unfold twLF
  rw [twW'_def]
  exact tw_loop x
theorem twL_ok : LOk Tryz.prog [] (twLT twW') (bodyOf twFn) := LOk.ofTab (LTC rfl (loopF_ok (hp := []) tw_loop') LT0)
theorem twT_ok : ∀ p ∈ twTab zeroC baseC bitL doubleC addPC, p.2.Ok Tryz.prog p.1 := tabC sbit'_ok (tabC qdouble_ok (tabC qadd_ok (tabC qzero_ok (tabC qbase_ok tab0))))
noncomputable abbrev mtwoE : Ent := eTw twoL
theorem mtwo_ok : mtwoE.Ok Tryz.prog 44 := by
  refine (Ent.ofOk Tryz.call44 fun x_ y_ Q H_ => ?_).sym
  obtain ⟨n, p, m, _⟩ := x_
  obtain ⟨hn, hq⟩ := H_
  have hn : n.length = 32 ∧ m.length = 32 := hn
  have hc : CallsT Tryz.prog 44 (twA.wr (n, p, m, ())) [] (fnT Tryz.prog (twTab zeroC baseC bitL doubleC addPC) (twLT twW') twFn (twA.wr (n, p, m, ())) [] kK) :=
    fnT_ok mixed twT_ok Tryz.func44 rfl twL_ok
  rw [mtwo_tree zeroC baseC twW' bitL doubleC addPC] at hc
  exact hc.use (D := []) (two_sat' hn.1 hn.2 (twoW_eq n m p)) hq
end Go.Proofs.YthdfifcgobfgdaaGreat
end

section
set_option linter.unusedVariables false
set_option linter.unusedSimpArgs false
namespace Go.Ev
open Go
/-- the number that digits are, the lowest first -/
def vd (B : Int) : List Int → Int
  | [] => 0
  | x :: l => x + B * vd B l
/-- a number's lowest digits -/
def dg (B : Int) : Nat → Int → List Int
  | 0, _ => []
  | n + 1, x => x % B :: dg B n (x / B)
def InB (B : Int) (l : List Int) : Prop := ∀ z ∈ l, 0 ≤ z ∧ z < B
section
variable {B : Int}
theorem InB.tail {x : Int} {l : List Int} (h : InB B (x :: l)) : InB B l := fun z hz => h z (List.mem_cons_of_mem _ hz)
theorem InB.head {x : Int} {l : List Int} (h : InB B (x :: l)) : 0 ≤ x ∧ x < B := h x (by simp)
theorem InB.take {l : List Int} (h : InB B l) (n : Nat) : InB B (l.take n) := fun z hz => h z (List.mem_of_mem_take hz)
theorem InB.drop {l : List Int} (h : InB B l) (n : Nat) : InB B (l.drop n) := fun z hz => h z (List.mem_of_mem_drop hz)
theorem InB.append {l m : List Int} (h : InB B l) (h' : InB B m) : InB B (l ++ m) := fun z hz => by
  rcases List.mem_append.1 hz with k | k
  · exact h z k
  · exact h' z k
theorem InB.set {l : List Int} (h : InB B l) {i : Nat} {x : Int} (hx : 0 ≤ x ∧ x < B) : InB B (l.set i x) := fun z hz => by
  rcases List.mem_or_eq_of_mem_set hz with k | k
  · exact h z k
  · subst k; exact hx
theorem InB.zeros (hB : 0 < B) (n : Nat) : InB B (List.replicate n 0) := fun z hz => by
  rw [List.eq_of_mem_replicate hz]; omega
theorem InB.getD {l : List Int} (hB : 0 < B) (h : InB B l) (i : Nat) : 0 ≤ l.getD i 0 ∧ l.getD i 0 < B := by
  rw [List.getD_eq_getElem?_getD]
  rcases Nat.lt_or_ge i l.length with h1 | h1
  · rw [List.getElem?_eq_getElem h1]; exact h _ (List.getElem_mem h1)
  · rw [List.getElem?_eq_none h1]; exact ⟨by simp, by simpa using hB⟩
theorem dg_length : ∀ (n : Nat) (x : Int), (dg B n x).length = n
  | 0, _ => rfl
  | n + 1, x => by simp [dg, dg_length n]
theorem dg_in (hB : 0 < B) : ∀ (n : Nat) (x : Int), InB B (dg B n x)
  | 0, _ => fun z hz => by cases hz
  | n + 1, x => fun z hz => by
    rcases List.mem_cons.1 hz with rfl | hz
    · exact ⟨Int.emod_nonneg _ (by omega), Int.emod_lt_of_pos _ hB⟩
    · exact dg_in hB n _ z hz
theorem pow_pos' (hB : 0 < B) (n : Nat) : 0 < B ^ n := Int.pow_pos hB
theorem vd_nonneg (hB : 0 < B) : ∀ {l : List Int}, InB B l → 0 ≤ vd B l
  | [], _ => by simp [vd]
  | x :: l, h => by
    have h1 := vd_nonneg hB h.tail
    have h2 := h.head
    have := Int.mul_nonneg (Int.le_of_lt hB) h1
    simp only [vd]; omega
theorem vd_lt (hB : 0 < B) : ∀ {l : List Int}, InB B l → vd B l < B ^ l.length
  | [], _ => by simp [vd]
  | x :: l, h => by
    have h1 := vd_lt hB h.tail
    have h2 := h.head
    simp only [vd, List.length_cons]
    have h3 : B * (vd B l + 1) ≤ B * B ^ l.length := Int.mul_le_mul_of_nonneg_left (by omega) (by omega)
    rw [Int.mul_add, Int.mul_one] at h3
    rw [Int.pow_succ, Int.mul_comm (B ^ l.length)]
    omega
theorem ediv_unit (hB : 0 < B) {x y : Int} (h : 0 ≤ x ∧ x < B) : (x + B * y) / B = y ∧ (x + B * y) % B = x := by
  rw [Int.add_mul_ediv_left _ _ (by omega), Int.add_mul_emod_self_left, Int.ediv_eq_zero_of_lt h.1 h.2, Int.emod_eq_of_lt h.1 h.2]
  exact ⟨by omega, rfl⟩
theorem dg_vd (hB : 0 < B) : ∀ {l : List Int}, InB B l → dg B l.length (vd B l) = l
  | [], _ => rfl
  | x :: l, h => by
    obtain ⟨h1, h2⟩ := ediv_unit hB (y := vd B l) h.head
    show (x + B * vd B l) % B :: dg B l.length ((x + B * vd B l) / B) = x :: l
    rw [h1, h2, dg_vd hB h.tail]
theorem emod_split (hB : 0 < B) {P : Int} (hP : 0 < P) (x : Int) : x % B + B * (x / B % P) = x % (B * P) := by
  have h1 := Int.emod_nonneg x (show B ≠ 0 by omega)
  have h2 := Int.emod_lt_of_pos x hB
  have h3 := Int.emod_nonneg (x / B) (show P ≠ 0 by omega)
  have h4 := Int.emod_lt_of_pos (x / B) hP
  have e1 := Int.emod_add_mul_ediv x B
  have e2 := Int.emod_add_mul_ediv (x / B) P
  have e : x = x % B + B * (x / B % P) + (B * P) * (x / B / P) := by
    rw [Int.mul_assoc, Int.add_assoc, ← Int.mul_add, e2, e1]
  have hlt : x % B + B * (x / B % P) < B * P := by
    have := Int.mul_le_mul_of_nonneg_left (show x / B % P + 1 ≤ P by omega) (show 0 ≤ B by omega)
    rw [Int.mul_add, Int.mul_one] at this
    omega
  have hnn : 0 ≤ x % B + B * (x / B % P) := by
    have := Int.mul_nonneg (show 0 ≤ B by omega) h3
    omega
  have key : x % (B * P) = (x % B + B * (x / B % P)) % (B * P) := by
    conv => lhs; rw [e]
    rw [Int.add_mul_emod_self_left]
  rw [key, Int.emod_eq_of_lt hnn hlt]
theorem vd_dg (hB : 0 < B) : ∀ (n : Nat) (x : Int), vd B (dg B n x) = x % B ^ n
  | 0, x => by simp [dg, vd, Int.emod_one]
  | n + 1, x => by
    show x % B + B * vd B (dg B n (x / B)) = _
    rw [vd_dg hB n, emod_split hB (pow_pos' hB n), Int.pow_succ, Int.mul_comm (B ^ n)]
theorem vd_inj (hB : 0 < B) {l m : List Int} (hl : InB B l) (hm : InB B m) (hn : l.length = m.length) (h : vd B l = vd B m) : l = m := by
  rw [← dg_vd hB hl, ← dg_vd hB hm, hn, h]
theorem eq_dg (hB : 0 < B) {l : List Int} {n : Nat} {x : Int} (hl : InB B l) (hn : l.length = n) (h : vd B l = x % B ^ n) : l = dg B n x :=
  vd_inj hB hl (dg_in hB n x) (by rw [dg_length, hn]) (by rw [vd_dg hB, h])
theorem eq_dg' (hB : 0 < B) {l : List Int} {n : Nat} {x : Int} (hl : InB B l) (hn : l.length = n) (h : vd B l = x) : l = dg B n x := by
  subst h hn; exact (dg_vd hB hl).symm
theorem dg_getD (hB : 0 < B) : ∀ {n : Nat} {x : Int} {k : Nat}, k < n → (dg B n x).getD k 0 = x / B ^ k % B
  | 0, _, k, h => absurd h (by omega)
  | n + 1, x, 0, _ => by simp [dg]
  | n + 1, x, k + 1, h => by
    show (x % B :: dg B n (x / B)).getD (k + 1) 0 = _
    rw [List.getD_cons_succ, dg_getD hB (by omega : k < n), Int.ediv_ediv_of_nonneg (by omega), Int.pow_succ, Int.mul_comm (B ^ k)]
theorem vd_getD (hB : 0 < B) {l : List Int} (h : InB B l) {k : Nat} (hk : k < l.length) : l.getD k 0 = vd B l / B ^ k % B := by
  conv => lhs; rw [← dg_vd hB h]
  exact dg_getD hB hk
theorem vd_append : ∀ (l m : List Int), vd B (l ++ m) = vd B l + B ^ l.length * vd B m
  | [], m => by simp [vd]
  | x :: l, m => by
    show x + B * vd B (l ++ m) = x + B * vd B l + B ^ (l.length + 1) * vd B m
    rw [vd_append l m, Int.mul_add, Int.pow_succ, Int.mul_assoc, Int.mul_left_comm B, Int.add_assoc]
theorem vd_set : ∀ {l : List Int} {k : Nat} {x : Int}, k < l.length → vd B (l.set k x) = vd B l + (x - l.getD k 0) * B ^ k
  | [], k, _, h => absurd h (by simp)
  | y :: l, 0, x, _ => by
    simp only [List.set_cons_zero, vd, List.getD_cons_zero, Int.pow_zero]; omega
  | y :: l, k + 1, x, h => by
    simp only [List.set_cons_succ, vd, List.getD_cons_succ]
    rw [vd_set (by simpa using h), Int.mul_add, Int.pow_succ, Int.mul_comm B ((x - l.getD k 0) * B ^ k), Int.mul_assoc, Int.add_assoc]
theorem vd_zeros (n : Nat) : vd B (List.replicate n 0) = 0 := by
  induction n with
  | zero => rfl
  | succ n ih => rw [List.replicate_succ]; simp [vd, ih]
theorem vd_take_succ {l : List Int} {k : Nat} (hk : k < l.length) : vd B (l.take (k + 1)) = vd B (l.take k) + l.getD k 0 * B ^ k := by
  rw [List.take_add_one, List.getElem?_eq_getElem hk, vd_append, List.length_take, Nat.min_eq_left (by omega), List.getD_eq_getElem?_getD, List.getElem?_eq_getElem hk]
  simp [vd, Int.mul_comm]
theorem dg_add (hB : 0 < B) (m : Nat) : ∀ (n : Nat) (x : Int), dg B (n + m) x = dg B n x ++ dg B m (x / B ^ n)
  | 0, x => by simp [dg]
  | n + 1, x => by
    rw [show n + 1 + m = (n + m) + 1 from by omega]
    show x % B :: dg B (n + m) (x / B) = x % B :: dg B n (x / B) ++ dg B m (x / B ^ (n + 1))
    rw [dg_add hB m n, Int.ediv_ediv_of_nonneg (by omega), Int.pow_succ, Int.mul_comm (B ^ n)]; rfl
theorem dg_take (hB : 0 < B) {n k : Nat} (h : k ≤ n) (x : Int) : (dg B n x).take k = dg B k x := by
  obtain ⟨m, rfl⟩ : ∃ m, n = k + m := ⟨n - k, by omega⟩
  rw [dg_add hB]
  simp [dg_length]
theorem dg_zero (hB : 0 < B) (n : Nat) : dg B n 0 = List.replicate n 0 :=
  (eq_dg hB (InB.zeros hB n) (by simp) (by rw [vd_zeros]; simp)).symm
end
/-- a digit of a number by greater digits -/
theorem ediv_emod_sub {x : Int} (A C : Int) (hA : 0 < A) (hC : 0 < C) (D : Int) (hDp : 0 < D) (hdiv : A * D ∣ C) : x % C / A % D = x / A % D := by
  obtain ⟨q, rfl⟩ := hdiv
  have hq : 0 < q := by
    rcases Int.lt_or_le 0 q with h | h
    · exact h
    · have := Int.mul_nonneg (Int.le_of_lt (Int.mul_pos hA hDp)) (show 0 ≤ -q by omega)
      rw [Int.mul_neg] at this; omega
  have e := emod_split (B := A) (P := D * q) hA (Int.mul_pos hDp hq) x
  rw [← Int.mul_assoc] at e
  rw [← e]
  have h1 := Int.emod_nonneg x (show A ≠ 0 by omega)
  have h2 := Int.emod_lt_of_pos x hA
  rw [(ediv_unit hA ⟨h1, h2⟩).1, Int.emod_emod_of_dvd _ (Int.dvd_mul_right D q)]
theorem half_step (V : Int) (k : Nat) : V / 2 ^ k = 2 * (V / 2 ^ (k + 1)) + V / 2 ^ k % 2 := by
  have e : V / 2 ^ (k + 1) = V / 2 ^ k / 2 := by rw [Int.pow_succ, Int.ediv_ediv_of_nonneg (by exact Int.le_of_lt (Int.pow_pos (by decide)))]
  rw [e]; omega
theorem mod_step {L r b : Int} (hL : 0 < L) (hr : 0 ≤ r ∧ r < L) (hb : 0 ≤ b ∧ b < 2) : (2 * r + b) % L = if 2 * r + b < L then 2 * r + b else 2 * r + b - L := by
  split
  · exact Int.emod_eq_of_lt (by omega) (by assumption)
  · have e : 2 * r + b = (2 * r + b - L) + L * 1 := by omega
    conv => lhs; rw [e]
    rw [Int.add_mul_emod_self_left, Int.emod_eq_of_lt (by omega) (by omega)]
theorem mod_two (L V b : Int) : (2 * V + b) % L = (2 * (V % L) + b) % L := by
  have e := Int.emod_add_mul_ediv V L
  have : 2 * V + b = 2 * (V % L) + b + L * (2 * (V / L)) := by
    conv => lhs; rw [← e]
    rw [Int.mul_add, Int.mul_left_comm]; omega
  rw [this, Int.add_mul_emod_self_left]
end Go.Ev
end

section
set_option linter.unusedVariables false
set_option linter.unusedSimpArgs false
namespace Go.Proofs.YthdfifcgobfgdaaGreat
open Go Go.Ev BJ
theorem sub64_val {x y c : Int} (hx : U64 x) (hy : U64 y) (hc : c = 0 ∨ c = 1) : sub64 x y c = ((x - y - c) % 18446744073709551616, if x < y + c then 1 else 0) := by
  unfold U64 at hx hy
  obtain ⟨a, rfl⟩ := Int.eq_ofNat_of_zero_le hx.1
  obtain ⟨b, rfl⟩ := Int.eq_ofNat_of_zero_le hy.1
  obtain ⟨d, rfl⟩ : ∃ d : Nat, c = (d : Int) := by rcases hc with rfl | rfl; exact ⟨0, rfl⟩; exact ⟨1, rfl⟩
  simp only [sub64, Int.toNat_natCast]
  have e : (2 : Nat) ^ 64 = 18446744073709551616 := by decide
  rw [e]
  refine Prod.ext ?_ ?_
  · show (((a + 18446744073709551616 - b - d) % 18446744073709551616 : Nat) : Int) = _
    omega
  · show (if a < b + d then (1 : Int) else 0) = _
    by_cases h : a < b + d
    · rw [if_pos h, if_pos (by omega)]
    · rw [if_neg h, if_neg (by omega)]
theorem ipow_le {B : Int} (hB : 1 ≤ B) {a b : Nat} (h : a ≤ b) : B ^ a ≤ B ^ b := by
  obtain ⟨d, rfl⟩ : ∃ d, b = a + d := ⟨b - a, by omega⟩
  rw [Int.pow_add]
  have h1 : 0 < B ^ a := Int.pow_pos (by omega)
  have h2 : 0 < B ^ d := Int.pow_pos (by omega)
  have := Int.mul_le_mul_of_nonneg_left (show 1 ≤ B ^ d by omega) (Int.le_of_lt h1)
  rwa [Int.mul_one] at this
theorem tmodN (k m : Nat) : (k : Int).tmod (m : Int) = ((k % m : Nat) : Int) := by rw [Int.tmod_eq_emod_of_nonneg (by omega), ← Int.natCast_emod]
abbrev qq : Int := 18446744073709551616
theorem qq_pos : 0 < qq := by decide
theorem qq_256 : qq = 256 ^ 8 := by decide
theorem qq_2 : qq = 2 ^ 64 := by decide
theorem two_pow8 (s : Nat) : ((2 ^ (s * 8) : Nat) : Int) = 256 ^ s := by
  rw [Nat.mul_comm, Nat.pow_mul, Int.natCast_pow]; rfl
/-- a part of a digit is a digit by smaller ones -/
theorem sub_digit {b : Int} (hb : 0 < b) {m : Nat} (hm : 0 < m) {l : List Int} (h : InB (b ^ m) l) {k : Nat} (hk : k / m < l.length) : l.getD (k / m) 0 / b ^ (k % m) % b = vd (b ^ m) l / b ^ k % b := by
  have hB : 0 < b ^ m := Int.pow_pos hb
  rw [vd_getD hB h hk]
  have hlt := Nat.mod_lt k hm
  have e1 : (b ^ m) = b ^ (k % m) * b * b ^ (m - (k % m + 1)) := by rw [← Int.pow_succ, ← Int.pow_add]; congr 1; omega
  rw [ediv_emod_sub (b ^ (k % m)) (b ^ m) (Int.pow_pos hb) hB b hb ⟨_, e1⟩]
  rw [Int.ediv_ediv_of_nonneg (Int.le_of_lt (Int.pow_pos hB)), ← Int.pow_mul, ← Int.pow_add]
  congr 3
  have := Nat.div_add_mod k m; exact this
theorem dg_map {B : Int} (hB : 0 < B) (n : Nat) (x : Int) : (List.range n).map (fun i => x / B ^ i % B) = dg B n x := by
  apply List.ext_getElem?
  intro i
  rcases Nat.lt_or_ge i n with h | h
  · have e := dg_getD hB (x := x) h
    rw [List.getD_eq_getElem?_getD, List.getElem?_eq_getElem (by rw [dg_length]; exact h)] at e
    rw [List.getElem?_eq_getElem (l := dg B n x) (by rw [dg_length]; exact h), List.getElem?_map, List.getElem?_range h]
    simpa using e.symm
  · rw [List.getElem?_eq_none (by simpa using h), List.getElem?_eq_none (by rw [dg_length]; exact h)]
noncomputable def ofL (b : List Int) : List Int := dg qq 8 (vd 256 b)
noncomputable def bytesW (w : List Int) : List Int := dg 256 32 (vd qq w)
theorem of_step {b : List Int} (hb : AllBy b) (hl : b.length ≤ 64) {k : Nat} (hk : k < b.length) :
    (ofL (b.take k)).set (k / 8) (bitOr .u64 ((ofL (b.take k)).getD (k / 8) 0) (shl .u64 (IntKind.u64.wrap (b.getD k 0)) ((k % 8 * 8 : Nat) : Int))) = ofL (b.take (k + 1)) := by
  have hb' : InB 256 b := hb
  have hc := InB.getD (by decide) hb' k
  have hV0 := vd_nonneg (by decide) (hb'.take k)
  have hV1 := vd_lt (by decide) (hb'.take k)
  rw [List.length_take, Nat.min_eq_left (by omega)] at hV1
  unfold ofL
  rw [vd_take_succ hk]
  generalize vd 256 (b.take k) = V at *
  generalize b.getD k 0 = c at *
  have hi : k / 8 < 8 := by omega
  have hs : k % 8 < 8 := by omega
  have hk' : k = 8 * (k / 8) + k % 8 := (Nat.div_add_mod k 8).symm
  have hp : (256 : Int) ^ k = qq ^ (k / 8) * 256 ^ (k % 8) := by rw [qq_256, ← Int.pow_mul, ← Int.pow_add, ← hk']
  have hQ : 0 < qq ^ (k / 8) := Int.pow_pos qq_pos
  have hle : (256 : Int) ^ (k % 8) * 256 ≤ qq := by
    rw [← Int.pow_succ, qq_256]; exact ipow_le (by decide) (by omega)
  have hP : (0 : Int) < 256 ^ (k % 8) := Int.pow_pos (by decide)
  have hdl : V / qq ^ (k / 8) < 256 ^ (k % 8) := Int.ediv_lt_of_lt_mul hQ (by rw [Int.mul_comm, ← hp]; exact hV1)
  have hd0 : 0 ≤ V / qq ^ (k / 8) := Int.ediv_nonneg hV0 (Int.le_of_lt hQ)
  have eg : (dg qq 8 V).getD (k / 8) 0 = V / qq ^ (k / 8) := by
    rw [dg_getD qq_pos hi, Int.emod_eq_of_lt hd0 (by omega)]
  rw [eg]
  have ew : IntKind.u64.wrap c = c := wrap_u64 hc.1 (by omega)
  have hcP : c * 256 ^ (k % 8) ≤ 255 * 256 ^ (k % 8) := Int.mul_le_mul_of_nonneg_right (by omega) (by omega)
  have hcP0 : 0 ≤ c * 256 ^ (k % 8) := Int.mul_nonneg hc.1 (by omega)
  have es : shl .u64 c ((k % 8 * 8 : Nat) : Int) = c * 256 ^ (k % 8) := by
    rw [shl_mul .u64 c _ (by simp [IntKind.bits]; omega), two_pow8, wrap_u64 hcP0 (by unfold qq at hle; omega)]
  have hdiv : c * 256 ^ (k % 8) % ((2 ^ (k % 8 * 8) : Nat) : Int) = 0 := by rw [two_pow8]; exact Int.mul_emod_left _ _
  have eo : bitOr .u64 (V / qq ^ (k / 8)) (c * 256 ^ (k % 8)) = V / qq ^ (k / 8) + c * 256 ^ (k % 8) := by
    rw [or_comm', or_u64 (m := k % 8 * 8) hcP0 hdiv hd0 (by rw [two_pow8]; exact hdl) (by unfold qq at hle; omega), Int.add_comm]
  rw [ew, es, eo]
  refine eq_dg qq_pos ((dg_in qq_pos 8 V).set ⟨by omega, by omega⟩) (by rw [List.length_set, dg_length]) ?_
  rw [vd_set (by rw [dg_length]; exact hi), eg, vd_dg qq_pos]
  have e2 : (256 : Int) ^ 64 = qq ^ 8 := by decide
  have hV2 : V < qq ^ 8 := Int.lt_of_lt_of_le hV1 (by rw [← e2]; exact ipow_le (by decide) (by omega))
  rw [Int.emod_eq_of_lt hV0 hV2]
  have e3 : (V / qq ^ (k / 8) + c * 256 ^ (k % 8) - V / qq ^ (k / 8)) * qq ^ (k / 8) = c * 256 ^ k := by
    rw [hp, Int.mul_comm (qq ^ (k / 8)), ← Int.mul_assoc]; congr 1; omega
  rw [e3]
  have hlt : V + c * 256 ^ k < qq ^ 8 := by
    have h1 : c * 256 ^ k ≤ 255 * 256 ^ k := Int.mul_le_mul_of_nonneg_right (by omega) (Int.le_of_lt (Int.pow_pos (by decide)))
    have h2 : (256 : Int) ^ (k + 1) ≤ 256 ^ 64 := ipow_le (by decide) (by omega)
    rw [Int.pow_succ] at h2
    rw [← e2]; omega
  exact (Int.emod_eq_of_lt (Int.add_nonneg hV0 (Int.mul_nonneg hc.1 (Int.le_of_lt (Int.pow_pos (by decide))))) hlt).symm
theorem by_digit {w : List Int} (h : InB qq w) (hl : w.length = 8) {k : Nat} (hk : k < 64) : IntKind.u8.wrap (shr .u64 (w.getD (k / 8) 0) ((k % 8 * 8 : Nat) : Int)) = vd qq w / 256 ^ k % 256 := by
  rw [shr_div .u64 _ _ (by simp [IntKind.bits]; omega), two_pow8, wrap_u8]
  have h' : InB (256 ^ 8) w := by rw [← qq_256]; exact h
  have := sub_digit (b := 256) (by decide) (by decide : 0 < 8) h' (k := k) (by omega)
  rw [this, ← qq_256]
noncomputable def bitW (w : List Int) (i : Int) : Int := vd qq w / 2 ^ i.toNat % 2
theorem bit_digit {w : List Int} (h : InB qq w) (hl : w.length = 8) {k : Nat} (hk : k < 512) : bitAnd .u64 (shr .u64 (w.getD (k / 64) 0) ((k % 64 : Nat) : Int)) 1 = bitW w (k : Int) := by
  rw [shr_div .u64 _ _ (by simp [IntKind.bits]; omega), and_u64 (m := 1) (by decide) _ 1 (by decide)]
  have h' : InB (2 ^ 64) w := by rw [← qq_2]; exact h
  have := sub_digit (b := 2) (by decide) (by decide : 0 < 64) h' (k := k) (by omega)
  unfold bitW
  rw [Int.toNat_natCast, qq_2, ← this]
  simp
structure Part (k : Nat) (w o : List Int) : Prop where
  len : o.length = 8
  inb : InB qq o
  rest : ∀ j, k ≤ j → o.getD j 0 = w.getD j 0
theorem Part.step {k : Nat} {w o : List Int} (h : Part k w o) {z : Int} (hk : k < 8) (hz : 0 ≤ z ∧ z < qq) : Part (k + 1) w (o.set k z) ∧ vd qq ((o.set k z).take (k + 1)) = vd qq (o.take k) + z * qq ^ k := by
  obtain ⟨h1, h2, h3⟩ := h
  have hg : (o.set k z).getD k 0 = z := by rw [List.getD_eq_getElem?_getD]; simp [show k < o.length by omega]
  refine ⟨⟨by rw [List.length_set, h1], h2.set hz, fun j hj => ?_⟩, ?_⟩
  · rw [← h3 j (by omega), List.getD_eq_getElem?_getD, List.getD_eq_getElem?_getD, List.getElem?_set_ne (by omega)]
  · rw [vd_take_succ (by rw [List.length_set]; omega), hg, List.take_set_of_le (Nat.le_refl _)]
noncomputable def lessW (w x : List Int) : List Int × Int := (dg qq 8 (vd qq w - vd qq x), if vd qq w < vd qq x then 1 else 0)
noncomputable def sumW (w x : List Int) : List Int := dg qq 8 (vd qq w + vd qq x)
def lessF (sb : Int → Int → Int → Int × Int) (x : List Int) (k : Nat) (o : List Int × Int) : List Int × Int := (o.1.set k (sb (o.1.getD k 0) (x.getD k 0) o.2).1, (sb (o.1.getD k 0) (x.getD k 0) o.2).2)
def LessI (w x : List Int) (k : Nat) (o : List Int × Int) : Prop := Part k w o.1 ∧ (o.2 = 0 ∨ o.2 = 1) ∧ vd qq (o.1.take k) = vd qq (w.take k) - vd qq (x.take k) + o.2 * qq ^ k
theorem less_step {w x : List Int} (hw : InB qq w) (hx : InB qq x) (lw : w.length = 8) (lx : x.length = 8) {k : Nat} {o : List Int × Int} (hk : k < 8) (h : LessI w x k o) : LessI w x (k + 1) (lessF sub64 x k o) := by
  obtain ⟨hp, hc, hv⟩ := h
  obtain ⟨o, c⟩ := o
  simp only at hp hc hv
  have h1 := InB.getD qq_pos hp.inb k
  have h2 := InB.getD qq_pos hx k
  have e := sub64_val (x := o.getD k 0) (y := x.getD k 0) (c := c) h1 h2 hc
  have hrest := hp.rest k (Nat.le_refl _)
  unfold lessF
  rw [e]
  have hz : 0 ≤ (o.getD k 0 - x.getD k 0 - c) % 18446744073709551616 ∧ (o.getD k 0 - x.getD k 0 - c) % 18446744073709551616 < qq := ⟨Int.emod_nonneg _ (by decide), Int.emod_lt_of_pos _ (by decide)⟩
  obtain ⟨p1, p2⟩ := hp.step hk hz
  refine ⟨p1, by simp only; split <;> simp, ?_⟩
  simp only
  rw [p2, hv, vd_take_succ (by omega), vd_take_succ (by omega), hrest, Int.pow_succ, Int.mul_comm (qq ^ k) qq, ← Int.mul_assoc]
  rw [hrest] at h1
  generalize w.getD k 0 = a at *
  generalize x.getD k 0 = b at *
  have key : c + (a - b - c) % 18446744073709551616 = a - b + (if a < b + c then (1 : Int) else 0) * qq := by
    unfold qq at *
    split <;> omega
  have e2 : c * qq ^ k + (a - b - c) % 18446744073709551616 * qq ^ k = (a - b + (if a < b + c then (1 : Int) else 0) * qq) * qq ^ k := by rw [← key, Int.add_mul]
  rw [Int.add_mul, Int.sub_mul] at e2
  omega
theorem less_all {w x : List Int} (hw : InB qq w) (hx : InB qq x) (lw : w.length = 8) (lx : x.length = 8) : upto (lessF sub64 x) 0 8 (w, 0) = lessW w x := by
  have h := upto_inv (f := lessF sub64 x) (LessI w x) (n := 8) (fun k o hk h => less_step hw hx lw lx hk h) 8 0 (w, 0) (by omega) ⟨⟨lw, hw, fun _ _ => rfl⟩, .inl rfl, by simp [vd]⟩
  generalize upto (lessF sub64 x) 0 8 (w, 0) = o at *
  obtain ⟨o, c⟩ := o
  obtain ⟨hp, hc, hv⟩ := h
  simp only at hp hc hv
  simp only [Nat.zero_add] at hp hv
  rw [List.take_of_length_le (by rw [hp.len]; decide), List.take_of_length_le (by omega), List.take_of_length_le (by omega)] at hv
  have b1 := vd_nonneg qq_pos hp.inb
  have b2 := vd_lt qq_pos hp.inb
  have b3 := vd_nonneg qq_pos hw
  have b4 := vd_lt qq_pos hw
  have b5 := vd_nonneg qq_pos hx
  have b6 := vd_lt qq_pos hx
  rw [hp.len] at b2
  rw [lw] at b4
  rw [lx] at b6
  unfold lessW
  refine Prod.ext (eq_dg qq_pos hp.inb hp.len ?_) ?_
  · rw [hv]
    have : vd qq w - vd qq x + c * qq ^ 8 = vd qq w - vd qq x + qq ^ 8 * c := by rw [Int.mul_comm]
    have e : vd qq o = vd qq o % qq ^ 8 := (Int.emod_eq_of_lt b1 b2).symm
    rw [hv, this, Int.add_mul_emod_self_left] at e
    rw [this]; exact e
  · simp only
    rcases hc with rfl | rfl
    · rw [if_neg (by omega)]
    · rw [if_pos (by omega)]
def addcF (ad : Int → Int → Int → Int × Int) (x : List Int) (k : Nat) (o : List Int × Int) : List Int × Int := (o.1.set k (ad (o.1.getD k 0) (x.getD k 0) o.2).1, (ad (o.1.getD k 0) (x.getD k 0) o.2).2)
def SumI (w x : List Int) (k : Nat) (o : List Int × Int) : Prop := Part k w o.1 ∧ (o.2 = 0 ∨ o.2 = 1) ∧ vd qq (o.1.take k) + o.2 * qq ^ k = vd qq (w.take k) + vd qq (x.take k)
theorem sum_step {w x : List Int} (hw : InB qq w) (hx : InB qq x) (lw : w.length = 8) (lx : x.length = 8) {k : Nat} {o : List Int × Int} (hk : k < 8) (h : SumI w x k o) : SumI w x (k + 1) (addcF add64 x k o) := by
  obtain ⟨hp, hc, hv⟩ := h
  obtain ⟨o, c⟩ := o
  simp only at hp hc hv
  have h1 := InB.getD qq_pos hp.inb k
  have h2 := InB.getD qq_pos hx k
  have e := add64_val (x := o.getD k 0) (y := x.getD k 0) (c := c) h1.1 h2.1 (by omega)
  have hrest := hp.rest k (Nat.le_refl _)
  unfold addcF
  rw [e]
  have hz : 0 ≤ (o.getD k 0 + x.getD k 0 + c) % 18446744073709551616 ∧ (o.getD k 0 + x.getD k 0 + c) % 18446744073709551616 < qq := ⟨Int.emod_nonneg _ (by decide), Int.emod_lt_of_pos _ (by decide)⟩
  obtain ⟨p1, p2⟩ := hp.step hk hz
  refine ⟨p1, by simp only; unfold qq at h1 h2; omega, ?_⟩
  simp only
  rw [p2, vd_take_succ (by omega), vd_take_succ (by omega), hrest, Int.pow_succ, Int.mul_comm (qq ^ k) qq, ← Int.mul_assoc]
  rw [hrest] at h1
  generalize w.getD k 0 = a at *
  generalize x.getD k 0 = b at *
  have key : (a + b + c) % 18446744073709551616 + (a + b + c) / 18446744073709551616 * qq = a + b + c := by
    unfold qq at *
    omega
  have e2 : (a + b + c) % 18446744073709551616 * qq ^ k + (a + b + c) / 18446744073709551616 * qq * qq ^ k = (a + b + c) * qq ^ k := by rw [← Int.add_mul, key]
  rw [Int.add_mul (a + b), Int.add_mul a] at e2
  omega
theorem sum_all {w x : List Int} (hw : InB qq w) (hx : InB qq x) (lw : w.length = 8) (lx : x.length = 8) : (upto (addcF add64 x) 0 8 (w, 0)).1 = sumW w x := by
  have h := upto_inv (f := addcF add64 x) (SumI w x) (n := 8) (fun k o hk h => sum_step hw hx lw lx hk h) 8 0 (w, 0) (by omega) ⟨⟨lw, hw, fun _ _ => rfl⟩, .inl rfl, by simp [vd]⟩
  generalize upto (addcF add64 x) 0 8 (w, 0) = o at *
  obtain ⟨o, c⟩ := o
  obtain ⟨hp, hc, hv⟩ := h
  simp only at hp hc hv
  simp only [Nat.zero_add] at hp hv
  rw [List.take_of_length_le (by rw [hp.len]; decide), List.take_of_length_le (by omega), List.take_of_length_le (by omega)] at hv
  have b1 := vd_nonneg qq_pos hp.inb
  have b2 := vd_lt qq_pos hp.inb
  rw [hp.len] at b2
  unfold sumW
  refine eq_dg qq_pos hp.inb hp.len ?_
  rw [← hv, Int.mul_comm, Int.add_mul_emod_self_left, Int.emod_eq_of_lt b1 b2]
end Go.Proofs.YthdfifcgobfgdaaGreat
end
