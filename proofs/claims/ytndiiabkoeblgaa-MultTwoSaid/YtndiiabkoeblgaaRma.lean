/- The document's numbers modulo p: what the digits come to. Plain numbers, no program. -/
import Derived.Test.YtndiiabkoeblgaaRfa
import Derived.Test.YtndiiabkoeblgaaFme
namespace Go.Proofs.Ytndiiabkoeblgaa
open Go Go.Ev BJ

/-! ### Rows of digits of 16 bits -/
def valD : {n : Nat} → Vec Int n → Int
  | 0, _ => 0
  | _ + 1, v => v.1 + 65536 * valD v.2
def OkD : {n : Nat} → Vec Int n → Prop
  | 0, _ => True
  | _ + 1, v => (0 ≤ v.1 ∧ v.1 < 65536) ∧ OkD v.2
theorem valD_nonneg : {n : Nat} → {v : Vec Int n} → OkD v → 0 ≤ valD v
  | 0, _, _ => Int.le_refl _
  | n + 1, v, h => by have := valD_nonneg h.2; have := h.1; simp only [valD]; omega
theorem valD_lt : {n : Nat} → {v : Vec Int n} → OkD v → valD v < (65536 ^ n : Nat)
  | 0, _, _ => by simp [valD]
  | n + 1, v, h => by
    have h1 := valD_lt h.2
    have h2 := h.1
    simp only [valD]
    have e : (65536 ^ (n + 1) : Nat) = 65536 * 65536 ^ n := by rw [Nat.pow_succ, Nat.mul_comm]
    rw [e]
    generalize (65536 ^ n : Nat) = m at *
    omega
theorem valD_inj : {n : Nat} → {v u : Vec Int n} → OkD v → OkD u → valD v = valD u → v = u
  | 0, _, _, _, _, _ => rfl
  | n + 1, v, u, hv, hu, h => by
    simp only [valD] at h
    have h1 := hv.1
    have h2 := hu.1
    have e1 : v.1 = u.1 := by omega
    have e2 : valD v.2 = valD u.2 := by omega
    exact Prod.ext e1 (valD_inj hv.2 hu.2 e2)
/-- the digits of a number -/
def digD (n : Nat) (V : Int) : Vec Int n := Vec.ofFn n fun j => V / (65536 ^ j : Nat) % 65536
theorem digD_spec : (n : Nat) → (V : Int) → 0 ≤ V → OkD (digD n V) ∧ valD (digD n V) = V % (65536 ^ n : Nat)
  | 0, V, h => ⟨trivial, by simp [valD]⟩
  | n + 1, V, h => by
    have e : digD (n + 1) V = (V / (65536 ^ 0 : Nat) % 65536, digD n (V / 65536)) := by
      unfold digD
      show (_, Vec.ofFn n fun i => V / (65536 ^ (i + 1) : Nat) % 65536) = _
      have : (fun i : Nat => V / (65536 ^ (i + 1) : Nat) % 65536) = fun j : Nat => V / 65536 / (65536 ^ j : Nat) % 65536 := by
        funext j
        rw [Int.ediv_ediv_of_nonneg (by omega)]
        congr 2
        rw [Nat.pow_succ]; simp [Int.mul_comm]
      rw [this]
    rw [e]
    obtain ⟨h1, h2⟩ := digD_spec n (V / 65536) (by omega)
    refine ⟨⟨by simp only [Nat.pow_zero]; omega, h1⟩, ?_⟩
    show V / (65536 ^ 0 : Nat) % 65536 + 65536 * valD (digD n (V / 65536)) = _
    rw [h2]
    have e2 : (65536 ^ (n + 1) : Nat) = 65536 * 65536 ^ n := by rw [Nat.pow_succ, Nat.mul_comm]
    rw [e2]
    generalize hm : (65536 ^ n : Nat) = m
    have hm0 : 0 < (m : Int) := by have := Nat.pow_pos (n := n) (show 0 < 65536 by decide); omega
    have h3 := Int.emod_nonneg (V / 65536) (b := (m : Int)) (by omega)
    have h4 := Int.emod_lt_of_pos (V / 65536) hm0
    have h5 := Int.emod_add_mul_ediv (V / 65536) (m : Int)
    have h6 : V = (V % 65536 + 65536 * (V / 65536 % m)) + ((65536 * m : Nat) : Int) * (V / 65536 / m) := by
      rw [Int.natCast_mul, Int.mul_assoc]
      generalize (m : Int) * (V / 65536 / m) = z at *
      omega
    rw [Nat.pow_zero]
    have h7 : V % ((65536 * m : Nat) : Int) = V % 65536 + 65536 * (V / 65536 % m) := by
      conv => lhs; rw [h6]
      rw [Int.add_mul_emod_self_left]
      exact Int.emod_eq_of_lt (by omega) (by rw [Int.natCast_mul]; omega)
    rw [h7]; omega
theorem digD_valD {n : Nat} {v : Vec Int n} (h : OkD v) : digD n (valD v) = v := by
  obtain ⟨h1, h2⟩ := digD_spec n (valD v) (valD_nonneg h)
  exact valD_inj h1 h (by rw [h2, Int.emod_eq_of_lt (valD_nonneg h) (valD_lt h)])

theorem get_valD {n : Nat} {v : Vec Int n} (h : OkD v) {i : Nat} (hi : i < n) : v.get i = valD v / (65536 ^ i : Nat) % 65536 := by
  conv => lhs; rw [← digD_valD h]
  unfold digD
  rw [get_ofFn hi]
theorem get_digit {n : Nat} {v : Vec Int n} (h : OkD v) {i : Nat} (hi : i < n) : 0 ≤ v.get i ∧ v.get i < 65536 := by
  rw [get_valD h hi]; omega


/-! ### A pass of carries -/
/-- all digits are small, of either sign -/
def Bd (B : Int) : {n : Nat} → Vec Int n → Prop
  | 0, _ => True
  | _ + 1, v => (-B ≤ v.1 ∧ v.1 ≤ B) ∧ Bd B v.2
def lowD : {n : Nat} → Vec Int (n + 1) → Int
  | 0, _ => 0
  | _ + 1, v => v.1 + 65536 * lowD v.2
def OkLow : {n : Nat} → Vec Int (n + 1) → Prop
  | 0, _ => True
  | _ + 1, v => (0 ≤ v.1 ∧ v.1 < 65536) ∧ OkLow v.2
theorem low_last : {n : Nat} → (v : Vec Int (n + 1)) → valD v = lowD v + (65536 ^ n : Nat) * v.get n
  | 0, v => by simp [valD, lowD, Vec.get]
  | n + 1, v => by
    have h := low_last v.2
    show v.1 + 65536 * valD v.2 = v.1 + 65536 * lowD v.2 + (65536 ^ (n + 1) : Nat) * Vec.get v.2 n
    rw [h]
    have e : (65536 ^ (n + 1) : Nat) = 65536 * 65536 ^ n := by rw [Nat.pow_succ, Nat.mul_comm]
    rw [e, Int.natCast_mul, Int.mul_add, Int.mul_assoc]
    generalize ((65536 ^ n : Nat) : Int) * Vec.get v.2 n = z
    omega
theorem low_range : {n : Nat} → {v : Vec Int (n + 1)} → OkLow v → 0 ≤ lowD v ∧ lowD v < (65536 ^ n : Nat)
  | 0, _, _ => by simp [lowD]
  | n + 1, v, h => by
    obtain ⟨h1, h2⟩ := low_range h.2
    have h3 := h.1
    have e : (65536 ^ (n + 1) : Nat) = 65536 * 65536 ^ n := by rw [Nat.pow_succ, Nat.mul_comm]
    rw [e]
    generalize (65536 ^ n : Nat) = m at *
    simp only [lowD]
    omega
theorem okD_of_low : {n : Nat} → {v : Vec Int (n + 1)} → OkLow v → (0 ≤ v.get n ∧ v.get n < 65536) → OkD v
  | 0, _, _, h => ⟨h, trivial⟩
  | _ + 1, _, h, h' => ⟨h.1, okD_of_low h.2 h'⟩
theorem low_16 (x : Int) : lowBits x 65535 = x % 65536 := and_i64 (m := 16) (by decide) x 65535 (by decide)
theorem down_16 (x : Int) : down x 16 = x / 65536 := shr_div .i64 x 16 (by decide)
theorem low_15 (x : Int) : lowBits x 32767 = x % 32768 := and_i64 (m := 15) (by decide) x 32767 (by decide)
theorem down_15 (x : Int) : down x 15 = x / 32768 := shr_div .i64 x 15 (by decide)
theorem w_id {x : Int} (h0 : -9223372036854775808 ≤ x) (h1 : x < 9223372036854775808) : w x = x := wrap_i64 h0 h1
theorem carried_spec : {n : Nat} → (x : Int) → (v : Vec Int n) → (-(70368744177664 + 2147483648) ≤ x ∧ x ≤ 70368744177664 + 2147483648) → Bd 70368744177664 v → valD (carried9 x v) = x + 65536 * valD v ∧ OkLow (carried9 x v)
  | 0, x, v, _, _ => ⟨by simp [carried9, valD], trivial⟩
  | n + 1, x, v, hx, hv => by
    have h1 := hv.1
    have hw : w (v.1 + down x 16) = v.1 + x / 65536 := by rw [down_16]; exact w_id (by omega) (by omega)
    obtain ⟨e1, e2⟩ := carried_spec (n := n) (v.1 + x / 65536) v.2 (by omega) hv.2
    show lowBits x 65535 + 65536 * valD (carried9 (w (v.1 + down x 16)) v.2) = x + 65536 * (v.1 + 65536 * valD v.2) ∧ ((0 ≤ lowBits x 65535 ∧ lowBits x 65535 < 65536) ∧ OkLow (carried9 (w (v.1 + down x 16)) v.2))
    rw [hw, e1, low_16]
    exact ⟨by omega, by omega, e2⟩
theorem p240 : (65536 ^ 15 : Nat) = 1766847064778384329583297500742918515827483896875618958121606201292619776 := by decide
theorem pass_spec {t : Fn} (h : Bd 70368744177664 t) : valD (pass9 t) = valD t ∧ OkLow (n := 15) (pass9 t) := by
  have h1 := h.1
  exact carried_spec (n := 15) t.1 t.2 (by omega) h.2

/-- the top of a number folded down -/
def foldV (V : Int) : Int := V % 57896044618658097711785492504343953926634992332820282019728792003956564819968 + 19 * (V / 57896044618658097711785492504343953926634992332820282019728792003956564819968)
theorem upd_low : {n : Nat} → (f : Int → Int) → (v : Vec Int (n + 1)) → valD (Vec.upd f n v) = valD v + (65536 ^ n : Nat) * (f (v.get n) - v.get n)
  | 0, f, v => by
    show f v.1 + 65536 * 0 = v.1 + 65536 * 0 + (65536 ^ 0 : Nat) * (f v.1 - v.1)
    rw [Nat.pow_zero]; omega
  | n + 1, f, v => by
    have h := upd_low f v.2
    show v.1 + 65536 * valD (Vec.upd f n v.2) = v.1 + 65536 * valD v.2 + (65536 ^ (n + 1) : Nat) * (f (Vec.get v.2 n) - Vec.get v.2 n)
    rw [h]
    have e : (65536 ^ (n + 1) : Nat) = 65536 * 65536 ^ n := by rw [Nat.pow_succ, Nat.mul_comm]
    rw [e, Int.natCast_mul, Int.mul_add, Int.mul_assoc]
    generalize ((65536 ^ n : Nat) : Int) * (f (Vec.get v.2 n) - Vec.get v.2 n) = z
    omega
theorem upd_bd {B : Int} : {n : Nat} → (f : Int → Int) → (v : Vec Int (n + 1)) → OkLow v → 65536 ≤ B → (-B ≤ f (v.get n) ∧ f (v.get n) ≤ B) → Bd B (Vec.upd f n v)
  | 0, _, _, _, _, h => ⟨h, trivial⟩
  | n + 1, f, v, hl, hB, h => ⟨by have := hl.1; show -B ≤ v.1 ∧ v.1 ≤ B; omega, upd_bd f v.2 hl.2 hB h⟩
theorem fold_num {V low L : Int} (e3 : V = low + (1766847064778384329583297500742918515827483896875618958121606201292619776 : Nat) * L) (e4 : 0 ≤ low) (e5 : low < (1766847064778384329583297500742918515827483896875618958121606201292619776 : Nat)) (h0 : 0 ≤ V) (h1 : V < 31828687130226345097944463881396533766429193651030253916189694521162207808802136034115584) :
    (0 ≤ L ∧ L < 18014398509481984) ∧ V + (1766847064778384329583297500742918515827483896875618958121606201292619776 : Nat) * (L % 32768 - L) + 19 * (L / 32768) = foldV V := by
  unfold foldV
  omega
theorem fold_val (r : Fn) (L : Int) (hL : Vec.get (n := 16) r 15 = L) (h0 : 0 ≤ L) (h1 : L < 18014398509481984) (hd : 0 ≤ r.1 ∧ r.1 < 65536) (hl : OkLow (n := 15) r) :
    Bd 70368744177664 (fold9 r) ∧ valD (fold9 r) = valD r + (1766847064778384329583297500742918515827483896875618958121606201292619776 : Nat) * (L % 32768 - L) + 19 * (L / 32768) := by
  have hu := upd_low (n := 15) (fun x => lowBits x 32767) r
  have hb := upd_bd (n := 15) (B := 70368744177664) (fun x => lowBits x 32767) r hl (by decide) (by
    show -70368744177664 ≤ lowBits (Vec.get (n := 16) r 15) 32767 ∧ lowBits (Vec.get (n := 16) r 15) 32767 ≤ 70368744177664
    rw [low_15]; omega)
  rw [hL, p240] at hu
  have hu' : valD (Vec.upd (n := 16) (fun x => lowBits x 32767) 15 r) = valD r + (1766847064778384329583297500742918515827483896875618958121606201292619776 : Nat) * (L % 32768 - L) := by rw [← low_15 L]; exact hu
  have hw1 : w (19 * down L 15) = 19 * (L / 32768) := by rw [down_15]; exact w_id (by omega) (by omega)
  have hw2 : w (r.1 + w (19 * down L 15)) = r.1 + 19 * (L / 32768) := by rw [hw1]; exact w_id (by omega) (by omega)
  have hf : fold9 r = (w (r.1 + w (19 * down (r.get 15) 15)), (Vec.upd (fun x => lowBits x 32767) 15 r).2) := rfl
  have hs : (Vec.upd (fun x => lowBits x 32767) 15 r) = (r.1, (Vec.upd (fun x => lowBits x 32767) 15 r).2) := rfl
  rw [hf, hL, hw2]
  rw [hs] at hb hu'
  generalize (Vec.upd (fun x => lowBits x 32767) 15 r).2 = z at *
  have e1 : valD (n := 16) (r.1, z) = r.1 + 65536 * valD z := rfl
  have e2 : valD (n := 16) (r.1 + 19 * (L / 32768), z) = r.1 + 19 * (L / 32768) + 65536 * valD z := rfl
  rw [e1] at hu'
  rw [e2]
  exact ⟨⟨by show -70368744177664 ≤ r.1 + 19 * (L / 32768) ∧ r.1 + 19 * (L / 32768) ≤ 70368744177664; omega, hb.2⟩, by omega⟩
theorem step_spec {t : Fn} (h : Bd 70368744177664 t) (h0 : 0 ≤ valD t) (h1 : valD t < 31828687130226345097944463881396533766429193651030253916189694521162207808802136034115584) : Bd 70368744177664 (fold9 (pass9 t)) ∧ valD (fold9 (pass9 t)) = foldV (valD t) := by
  obtain ⟨e1, e2⟩ := pass_spec h
  have e3 := low_last (n := 15) (pass9 t)
  obtain ⟨e4, e5⟩ := low_range (n := 15) e2
  rw [p240] at e3 e5
  rw [e1] at e3
  obtain ⟨⟨n1, n2⟩, n3⟩ := fold_num e3 e4 e5 h0 h1
  obtain ⟨f1, f2⟩ := fold_val (pass9 t) _ rfl n1 n2 e2.1 e2
  exact ⟨f1, f2.trans (by rw [e1]; exact n3)⟩

/-! ### Digits held against digits -/
def valK : Nat → {n : Nat} → Vec Int n → Int
  | 0, _, _ => 0
  | k + 1, _, v => valK k v + (65536 ^ k : Nat) * v.get k
theorem valK_range {n : Nat} {v : Vec Int n} (h : OkD v) : ∀ k, k ≤ n → 0 ≤ valK k v ∧ valK k v < (65536 ^ k : Nat)
  | 0, _ => by simp [valK]
  | k + 1, hk => by
    obtain ⟨h1, h2⟩ := valK_range h k (by omega)
    obtain ⟨h3, h4⟩ := get_digit h (i := k) (by omega)
    have e : (65536 ^ (k + 1) : Nat) = 65536 * 65536 ^ k := by rw [Nat.pow_succ, Nat.mul_comm]
    have e0 : valK (k + 1) v = valK k v + (65536 ^ k : Nat) * v.get k := rfl
    rw [e, e0]
    obtain ⟨m, hm⟩ : ∃ m : Nat, m = 65536 ^ k := ⟨_, rfl⟩
    rw [← hm] at h2 ⊢
    clear hm e e0
    generalize v.get k = d at *
    have h5 : (m : Int) * d ≤ m * 65535 := Int.mul_le_mul_of_nonneg_left (by omega) (by omega)
    have h6 : 0 ≤ (m : Int) * d := Int.mul_nonneg (by omega) h3
    omega
theorem below_val {a b : Fn} (ha : OkD a) (hb : OkD b) : ∀ k, k ≤ 16 → belowAt a b k = decide (valK k a < valK k b)
  | 0, _ => by simp [belowAt, valK]
  | k + 1, hk => by
    have ih := below_val ha hb k (by omega)
    obtain ⟨a1, a2⟩ := valK_range ha k (by omega)
    obtain ⟨b1, b2⟩ := valK_range hb k (by omega)
    have e0 : valK (k + 1) a = valK k a + (65536 ^ k : Nat) * a.get k := rfl
    have e1 : valK (k + 1) b = valK k b + (65536 ^ k : Nat) * b.get k := rfl
    have e2 : belowAt a b (k + 1) = bif a.get k != b.get k then decide (a.get k < b.get k) else belowAt a b k := rfl
    rw [e0, e1, e2, ih]
    obtain ⟨m, hm⟩ : ∃ m : Nat, m = 65536 ^ k := ⟨_, rfl⟩
    rw [← hm] at a2 b2 ⊢
    clear hm e0 e1 e2 ih
    generalize a.get k = x at *
    generalize b.get k = y at *
    by_cases hxy : x = y
    · subst hxy; simp
    · have : (x != y) = true := by simpa using hxy
      rw [this, cond_true]
      by_cases hlt : x < y
      · have h1 : (m : Int) * (x + 1) ≤ m * y := Int.mul_le_mul_of_nonneg_left (by omega) (by omega)
        rw [Int.mul_add] at h1
        rw [decide_eq_true hlt, decide_eq_true]; omega
      · have h1 : (m : Int) * (y + 1) ≤ m * x := Int.mul_le_mul_of_nonneg_left (by omega) (by omega)
        rw [Int.mul_add] at h1
        rw [decide_eq_false hlt, decide_eq_false]; omega
theorem valK_get : {n : Nat} → (v : Vec Int (n + 1)) → (k : Nat) → valK (k + 1) v = v.1 + 65536 * valK k v.2
  | _, v, 0 => by simp [valK, Vec.get]
  | n, v, k + 1 => by
    have h := valK_get v k
    have e : (65536 ^ (k + 1) : Nat) = 65536 * 65536 ^ k := by rw [Nat.pow_succ, Nat.mul_comm]
    show valK (k + 1) v + (65536 ^ (k + 1) : Nat) * Vec.get v.2 k = v.1 + 65536 * (valK k v.2 + (65536 ^ k : Nat) * Vec.get v.2 k)
    rw [h, e, Int.natCast_mul, Int.mul_add, Int.mul_assoc]
    generalize ((65536 ^ k : Nat) : Int) * Vec.get v.2 k = z
    omega
theorem valK_all : {n : Nat} → (v : Vec Int n) → valK n v = valD v
  | 0, _ => rfl
  | n + 1, v => by rw [valK_get, valK_all v.2]; rfl

/-! ### The number that the digits stand for -/
def Ok16 (x : Fn) : Prop := OkD x ∧ valD x < (pp : Int)
def fn9 (x : Fn) : F := toF (valD x)
theorem prime_ok : OkD prime9 := by simp [prime9, OkD]
theorem prime_val : valD prime9 = (pp : Int) := by decide +kernel
theorem sub_val : {n : Nat} → (v u : Vec Int n) → OkD v → OkD u → valD (Vec.zip (fun a b => w (a - b)) v u) = valD v - valD u ∧ Bd 70368744177664 (Vec.zip (fun a b => w (a - b)) v u)
  | 0, _, _, _, _ => ⟨rfl, trivial⟩
  | n + 1, v, u, hv, hu => by
    obtain ⟨h1, h2⟩ := sub_val v.2 u.2 hv.2 hu.2
    have h3 := hv.1
    have h4 := hu.1
    have hw : w (v.1 - u.1) = v.1 - u.1 := w_id (by omega) (by omega)
    show w (v.1 - u.1) + 65536 * valD (Vec.zip (fun a b => w (a - b)) v.2 u.2) = v.1 + 65536 * valD v.2 - (u.1 + 65536 * valD u.2) ∧ ((-70368744177664 ≤ w (v.1 - u.1) ∧ w (v.1 - u.1) ≤ 70368744177664) ∧ Bd 70368744177664 (Vec.zip (fun a b => w (a - b)) v.2 u.2))
    rw [hw, h1]
    exact ⟨by omega, by omega, h2⟩
theorem pass_ok {t : Fn} (h : Bd 70368744177664 t) (h0 : 0 ≤ valD t) (h1 : valD t < 57896044618658097711785492504343953926634992332820282019728792003956564819968) : OkD (pass9 t) ∧ valD (pass9 t) = valD t := by
  obtain ⟨e1, e2⟩ := pass_spec h
  have e3 := low_last (n := 15) (pass9 t)
  obtain ⟨e4, e5⟩ := low_range (n := 15) e2
  rw [p240] at e3 e5
  rw [e1] at e3
  exact ⟨okD_of_low (n := 15) e2 (by omega), e1⟩
noncomputable def normC : Fn → Fn := norm9 prime9 fun a b => belowAt a b 16
theorem foldV_lt {V : Int} (h0 : 0 ≤ V) (h1 : V < 31828687130226345097944463881396533766429193651030253916189694521162207808802136034115584) : 0 ≤ foldV V ∧ foldV V < 31828687130226345097944463881396533766429193651030253916189694521162207808802136034115584 ∧ foldV V % (pp : Int) = V % (pp : Int) := by
  unfold foldV
  simp only [pp] at *
  refine ⟨by omega, by omega, ?_⟩
  omega
theorem foldV_two {V : Int} (h0 : 0 ≤ V) (h1 : V < 31828687130226345097944463881396533766429193651030253916189694521162207808802136034115584) : foldV (foldV V) < 57896044618658097711785492504343953926634992332820282019728792003956564819968 := by
  unfold foldV
  omega
theorem foldV_id {V : Int} (h0 : 0 ≤ V) (h1 : V < 57896044618658097711785492504343953926634992332820282019728792003956564819968) : foldV V = V := by
  unfold foldV
  omega
theorem norm_spec {t : Fn} (h : Bd 70368744177664 t) (h0 : 0 ≤ valD t) (h1 : valD t < 31828687130226345097944463881396533766429193651030253916189694521162207808802136034115584) : Ok16 (normC t) ∧ valD (normC t) = valD t % (pp : Int) := by
  obtain ⟨a1, a2⟩ := step_spec h h0 h1
  obtain ⟨r1, r2, r3⟩ := foldV_lt h0 h1
  obtain ⟨b1, b2⟩ := step_spec a1 (by rw [a2]; exact r1) (by rw [a2]; exact r2)
  rw [a2] at b2
  have s4 := foldV_two h0 h1
  obtain ⟨s1, s2, s3⟩ := foldV_lt r1 r2
  obtain ⟨c1, c2⟩ := step_spec b1 (by rw [b2]; exact s1) (by rw [b2]; exact s2)
  rw [b2, foldV_id s1 s4] at c2
  obtain ⟨d1, d2⟩ := step_spec c1 (by rw [c2]; exact s1) (by rw [c2]; exact s2)
  rw [c2, foldV_id s1 s4] at d2
  obtain ⟨f1, f2⟩ := pass_ok d1 (by rw [d2]; exact s1) (by rw [d2]; exact s4)
  rw [d2] at f2
  have hmod : foldV (foldV (valD t)) % (pp : Int) = valD t % (pp : Int) := s3.trans r3
  generalize foldV (foldV (valD t)) = V at *
  have hn : normC t = selN (!(belowAt (pass9 (fold9 (pass9 (fold9 (pass9 (fold9 (pass9 (fold9 (pass9 t))))))))) prime9 16)) (pass9 (Vec.zip (fun a b => w (a - b)) (pass9 (fold9 (pass9 (fold9 (pass9 (fold9 (pass9 (fold9 (pass9 t))))))))) prime9))
    (pass9 (fold9 (pass9 (fold9 (pass9 (fold9 (pass9 (fold9 (pass9 t))))))))) := rfl
  rw [hn]
  generalize pass9 (fold9 (pass9 (fold9 (pass9 (fold9 (pass9 (fold9 (pass9 t)))))))) = r at *
  rw [selN_eq, below_val f1 prime_ok 16 (by omega), valK_all, valK_all, prime_val, f2]
  by_cases hlt : V < (pp : Int)
  · rw [decide_eq_true hlt]
    show Ok16 r ∧ valD r = _
    rw [← hmod, Int.emod_eq_of_lt s1 hlt]
    exact ⟨⟨f1, by rw [f2]; exact hlt⟩, f2⟩
  · rw [decide_eq_false hlt]
    show Ok16 (pass9 (Vec.zip (fun a b => w (a - b)) r prime9)) ∧ valD (pass9 (Vec.zip (fun a b => w (a - b)) r prime9)) = _
    obtain ⟨g1, g2⟩ := sub_val r prime9 f1 prime_ok
    rw [f2, prime_val] at g1
    obtain ⟨k1, k2⟩ := pass_ok g2 (by rw [g1]; omega) (by rw [g1]; simp only [pp]; omega)
    rw [g1] at k2
    have hv : V % (pp : Int) = V - (pp : Int) := by
      simp only [pp] at *
      omega
    exact ⟨⟨k1, by rw [k2]; simp only [pp] at *; omega⟩, by rw [k2, ← hmod, hv]⟩
theorem norm_fn {t : Fn} (h : Bd 70368744177664 t) (h0 : 0 ≤ valD t) (h1 : valD t < 31828687130226345097944463881396533766429193651030253916189694521162207808802136034115584) : Ok16 (normC t) ∧ fn9 (normC t) = toF (valD t) := by
  obtain ⟨e1, e2⟩ := norm_spec h h0 h1
  refine ⟨e1, ?_⟩
  unfold fn9
  rw [e2, toF_iff, Int.emod_emod]
end Go.Proofs.Ytndiiabkoeblgaa
