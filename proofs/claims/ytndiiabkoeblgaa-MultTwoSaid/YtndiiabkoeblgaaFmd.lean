/- The program's numbers modulo p: bytes. -/
import Derived.Test.YtndiiabkoeblgaaFmc
namespace Go.Proofs.Ytndiiabkoeblgaa
open Go Go.Ev BJ

/-! ### Rows of bytes as numbers -/
def valB : {n : Nat} → Vec Int n → Int
  | 0, _ => 0
  | _ + 1, v => v.1 + 256 * valB v.2
def OkB : {n : Nat} → Vec Int n → Prop
  | 0, _ => True
  | _ + 1, v => (0 ≤ v.1 ∧ v.1 < 256) ∧ OkB v.2
theorem valB_nonneg : {n : Nat} → {v : Vec Int n} → OkB v → 0 ≤ valB v
  | 0, _, _ => Int.le_refl _
  | n + 1, v, h => by have := valB_nonneg h.2; have := h.1; simp only [valB]; omega
theorem valB_lt : {n : Nat} → {v : Vec Int n} → OkB v → valB v < (256 ^ n : Nat)
  | 0, _, _ => by simp [valB]
  | n + 1, v, h => by
    have h1 := valB_lt h.2
    have h2 := h.1
    simp only [valB]
    have e : (256 ^ (n + 1) : Nat) = 256 * 256 ^ n := by rw [Nat.pow_succ, Nat.mul_comm]
    rw [e]
    generalize (256 ^ n : Nat) = m at *
    omega
theorem valB_inj : {n : Nat} → {v u : Vec Int n} → OkB v → OkB u → valB v = valB u → v = u
  | 0, _, _, _, _, _ => rfl
  | n + 1, v, u, hv, hu, h => by
    simp only [valB] at h
    have h1 := hv.1
    have h2 := hu.1
    have e1 : v.1 = u.1 := by omega
    have e2 : valB v.2 = valB u.2 := by omega
    exact Prod.ext e1 (valB_inj hv.2 hu.2 e2)
/-- the bytes of a number -/
def digB (n : Nat) (V : Int) : Vec Int n := Vec.ofFn n fun j => V / (256 ^ j : Nat) % 256
theorem digB_spec : (n : Nat) → (V : Int) → 0 ≤ V → OkB (digB n V) ∧ valB (digB n V) = V % (256 ^ n : Nat)
  | 0, V, h => ⟨trivial, by simp [valB]⟩
  | n + 1, V, h => by
    have e : digB (n + 1) V = (V / (256 ^ 0 : Nat) % 256, digB n (V / 256)) := by
      unfold digB
      show (_, Vec.ofFn n fun i => V / (256 ^ (i + 1) : Nat) % 256) = _
      have : (fun i : Nat => V / (256 ^ (i + 1) : Nat) % 256) = fun j : Nat => V / 256 / (256 ^ j : Nat) % 256 := by
        funext j
        rw [Int.ediv_ediv_of_nonneg (by omega)]
        congr 2
        rw [Nat.pow_succ]; simp [Int.mul_comm]
      rw [this]
    rw [e]
    obtain ⟨h1, h2⟩ := digB_spec n (V / 256) (by omega)
    refine ⟨⟨by simp only [Nat.pow_zero]; omega, h1⟩, ?_⟩
    show V / (256 ^ 0 : Nat) % 256 + 256 * valB (digB n (V / 256)) = _
    rw [h2]
    have e2 : (256 ^ (n + 1) : Nat) = 256 * 256 ^ n := by rw [Nat.pow_succ, Nat.mul_comm]
    rw [e2]
    generalize hm : (256 ^ n : Nat) = m
    have hm0 : 0 < (m : Int) := by have := Nat.pow_pos (n := n) (show 0 < 256 by decide); omega
    have h3 := Int.emod_nonneg (V / 256) (b := (m : Int)) (by omega)
    have h4 := Int.emod_lt_of_pos (V / 256) hm0
    have h5 := Int.emod_add_mul_ediv (V / 256) (m : Int)
    have h6 : V = (V % 256 + 256 * (V / 256 % m)) + ((256 * m : Nat) : Int) * (V / 256 / m) := by
      rw [Int.natCast_mul, Int.mul_assoc]
      generalize (m : Int) * (V / 256 / m) = z at *
      omega
    rw [Nat.pow_zero]
    have h7 : V % ((256 * m : Nat) : Int) = V % 256 + 256 * (V / 256 % m) := by
      conv => lhs; rw [h6]
      rw [Int.add_mul_emod_self_left]
      exact Int.emod_eq_of_lt (by omega) (by rw [Int.natCast_mul]; omega)
    rw [h7]; omega
theorem digB_valB {n : Nat} {v : Vec Int n} (h : OkB v) : digB n (valB v) = v := by
  obtain ⟨h1, h2⟩ := digB_spec n (valB v) (valB_nonneg h)
  exact valB_inj h1 h (by rw [h2, Int.emod_eq_of_lt (valB_nonneg h) (valB_lt h)])

/-- the bytes of a number modulo p -/
def bytesF (a : F) : B32 := digB 32 (a.val : Int)
theorem p256 : (256 ^ 32 : Nat) = 115792089237316195423570985008687907853269984665640564039457584007913129639936 := by decide
theorem bytesF_val (a : F) : OkB (bytesF a) ∧ valB (bytesF a) = (a.val : Int) := by
  obtain ⟨h1, h2⟩ := digB_spec 32 (a.val : Int) (by omega)
  have := a.isLt
  refine ⟨h1, h2.trans (Int.emod_eq_of_lt (by omega) ?_)⟩
  rw [p256]; simp only [pp] at this; omega
theorem bytesF_inj {a b : F} (h : bytesF a = bytesF b) : a = b := F_ext (by rw [← (bytesF_val a).2, ← (bytesF_val b).2, h])

/-! ### A number's bytes, bit by bit -/
def bsum (f : Nat → Int) : Nat → Int
  | 0 => 0
  | n + 1 => bsum f n + f n * (2 ^ n : Nat)
theorem or_bits (f : Nat → Int) : ∀ n, n ≤ 8 → (∀ i, i < n → 0 ≤ f i ∧ f i ≤ 1) →
    (List.range n).foldl (fun acc i => bitOr .u8 acc (shl .u8 (f i) (i : Int))) 0 = bsum f n ∧ 0 ≤ bsum f n ∧ bsum f n < (2 ^ n : Nat)
  | 0, _, _ => ⟨rfl, by simp [bsum], by simp [bsum]⟩
  | n + 1, hn, hf => by
    obtain ⟨h1, h2, h3⟩ := or_bits f n (by omega) fun i hi => hf i (by omega)
    have h4 := hf n (by omega)
    rw [List.range_succ, List.foldl_append, h1]
    simp only [List.foldl_cons, List.foldl_nil, bsum]
    have hp : 0 < 2 ^ n := Nat.two_pow_pos n
    have hle : 2 ^ n ≤ 2 ^ 7 := Nat.pow_le_pow_right (by omega) (by omega)
    have hs : f n * (2 ^ n : Nat) = 0 ∨ f n * (2 ^ n : Nat) = (2 ^ n : Nat) := by
      have : f n = 0 ∨ f n = 1 := by omega
      rcases this with e | e <;> rw [e] <;> simp
    have e : shl .u8 (f n) (n : Int) = f n * (2 ^ n : Nat) := by
      rw [shl_mul .u8 _ _ (by show n ≤ 8; omega), wrap_u8]
      have : (2 : Nat) ^ 7 = 128 := by decide
      omega
    have hm : f n * (2 ^ n : Nat) % (2 ^ n : Nat) = 0 := Int.mul_emod_left _ _
    have h7 : (2 : Nat) ^ 7 = 128 := by decide
    rw [e, or_comm', or_u8 (m := n) (by omega) hm h2 h3 (by omega)]
    have e2 : (2 ^ (n + 1) : Nat) = 2 * 2 ^ n := by rw [Nat.pow_succ, Nat.mul_comm]
    rw [e2]
    refine ⟨by omega, by omega, by omega⟩

theorem bit_low (u H : Int) {b : Nat} (hb : b < 51) : (u + 2251799813685248 * H) / (2 ^ b : Nat) % 2 = u / (2 ^ b : Nat) % 2 := by
  have e : (2251799813685248 : Int) = (2 ^ b : Nat) * (2 * (2 ^ (50 - b) : Nat)) := by
    have : (2251799813685248 : Nat) = 2 ^ b * (2 * 2 ^ (50 - b)) := by
      rw [← Nat.mul_assoc, Nat.mul_comm (2 ^ b) 2, Nat.mul_assoc, ← Nat.pow_add, show b + (50 - b) = 50 by omega]
    have h2 : ((2251799813685248 : Nat) : Int) = ((2 ^ b * (2 * 2 ^ (50 - b)) : Nat) : Int) := by rw [← this]
    rw [Int.natCast_mul, Int.natCast_mul] at h2
    exact h2
  rw [e, Int.mul_assoc, Int.add_mul_ediv_left _ _ (by have := Nat.two_pow_pos b; omega), Int.mul_assoc, Int.add_mul_emod_self_left]

theorem limb_bit {y : Fe} (h : Lim51 y.1 ∧ Lim51 y.2.1 ∧ Lim51 y.2.2.1 ∧ Lim51 y.2.2.2.1 ∧ Lim51 y.2.2.2.2.1) (q : Nat) (hq : q < 255) :
    y.get (q / 51) / (2 ^ (q % 51) : Nat) % 2 = val5 y / (2 ^ q : Nat) % 2 := by
  obtain ⟨y0, y1, y2, y3, y4, u⟩ := y
  simp only [Lim51] at h
  have hb : q % 51 < 51 := Nat.mod_lt _ (by decide)
  have hq2 : (2 ^ q : Nat) = 2 ^ (51 * (q / 51)) * 2 ^ (q % 51) := by rw [← Nat.pow_add]; congr 1; omega
  rw [hq2, Int.natCast_mul, ← Int.ediv_ediv_of_nonneg (Int.natCast_nonneg _)]
  have h5 : q / 51 < 5 := by omega
  generalize q % 51 = b at *
  generalize q / 51 = a at *
  have key : ∀ (V H : Int), val5 (y0, y1, y2, y3, y4, u) / (2 ^ (51 * a) : Nat) = V + 2251799813685248 * H → V / (2 ^ b : Nat) % 2 = val5 (y0, y1, y2, y3, y4, u) / (2 ^ (51 * a) : Nat) / (2 ^ b : Nat) % 2 := by
    intro V H e; rw [e, bit_low V H hb]
  match a, h5 with
  | 0, _ => exact key y0 (y1 + y2 * 2251799813685248 + y3 * 5070602400912917605986812821504 + y4 * 11417981541647679048466287755595961091061972992) (by simp only [val5, Nat.mul_zero, Nat.pow_zero]; omega)
  | 1, _ => exact key y1 (y2 + y3 * 2251799813685248 + y4 * 5070602400912917605986812821504) (by
      have : (2 : Nat) ^ (51 * 1) = 2251799813685248 := by decide
      rw [this]; simp only [val5]; omega)
  | 2, _ => exact key y2 (y3 + y4 * 2251799813685248) (by
      have : (2 : Nat) ^ (51 * 2) = 5070602400912917605986812821504 := by decide
      rw [this]; simp only [val5]; omega)
  | 3, _ => exact key y3 y4 (by
      have : (2 : Nat) ^ (51 * 3) = 11417981541647679048466287755595961091061972992 := by decide
      rw [this]; simp only [val5]; omega)
  | 4, _ => exact key y4 0 (by
      have : (2 : Nat) ^ (51 * 4) = 25711008708143844408671393477458601640355247900524685364822016 := by decide
      rw [this]; simp only [val5]; omega)

theorem bsum8 (W : Int) : bsum (fun i => W / (2 ^ i : Nat) % 2) 8 = W % 256 := by
  simp [bsum]; omega
theorem bsum7 (W : Int) (h0 : 0 ≤ W) (h : W < 128) : bsum (fun i => W / (2 ^ i : Nat) % 2) 7 = W % 256 := by
  simp [bsum]; omega
theorem bsum_congr {f g : Nat → Int} : ∀ {n : Nat}, (∀ i, i < n → f i = g i) → bsum f n = bsum g n
  | 0, _ => rfl
  | n + 1, h => by simp only [bsum]; rw [bsum_congr (n := n) fun i hi => h i (by omega), h n (by omega)]

theorem ofFn_congr {α : Type} : ∀ {n : Nat} {f g : Nat → α}, (∀ i, i < n → f i = g i) → Vec.ofFn n f = Vec.ofFn n g
  | 0, _, _, _ => rfl
  | n + 1, f, g, h => by
    show (f 0, Vec.ofFn n _) = (g 0, Vec.ofFn n _)
    rw [h 0 (by omega), ofFn_congr (n := n) fun i hi => h (i + 1) (by omega)]

theorem bits_dig {y : Fe} (h : Lst5 y) : feBits y = digB 32 (val5 y) := by
  have hv0 : 0 ≤ val5 y := by
    obtain ⟨y0, y1, y2, y3, y4, u⟩ := y
    have := h.1
    simp only [Lim51] at this
    simp only [val5]; omega
  have hv1 := h.2
  unfold feBits digB
  refine ofFn_congr fun j hj => ?_
  have hfold : ∀ n, n ≤ 8 → (∀ i, i < n → 8 * j + i < 255) →
      (List.range n).foldl (fun acc i => bitOr .u8 acc (shl .u8 (IntKind.u8.wrap (and64 (shr64 (y.get ((8 * j + i) / 51)) (((8 * j + i) % 51 : Nat) : Int)) 1)) (i : Int))) 0 =
        bsum (fun i => val5 y / (2 ^ (8 * j) : Nat) / (2 ^ i : Nat) % 2) n := by
    intro n hn hlt
    have hbit : ∀ i, i < n → IntKind.u8.wrap (and64 (shr64 (y.get ((8 * j + i) / 51)) (((8 * j + i) % 51 : Nat) : Int)) 1) = val5 y / (2 ^ (8 * j) : Nat) / (2 ^ i : Nat) % 2 := by
      intro i hi
      have e1 : shr64 (y.get ((8 * j + i) / 51)) (((8 * j + i) % 51 : Nat) : Int) = y.get ((8 * j + i) / 51) / (2 ^ ((8 * j + i) % 51) : Nat) := shr_div .u64 _ _ (by show (8 * j + i) % 51 ≤ 64; omega)
      have e2 : ∀ x, and64 x 1 = x % 2 := fun x => by
        have := and_u64 (m := 1) (by decide) x 1 (by decide)
        simpa [and64] using this
      rw [e1, e2, limb_bit h.1 _ (hlt i hi), wrap_u8, Int.ediv_ediv_of_nonneg (Int.natCast_nonneg _), ← Int.natCast_mul, ← Nat.pow_add]
      omega
    have hcongr : ∀ (l : List Nat) (a : Int), (∀ i ∈ l, i < n) → l.foldl (fun (acc : Int) (i : Nat) => bitOr .u8 acc (shl .u8 (IntKind.u8.wrap (and64 (shr64 (y.get ((8 * j + i) / 51)) (((8 * j + i) % 51 : Nat) : Int)) 1)) (i : Int))) a =
        l.foldl (fun (acc : Int) (i : Nat) => bitOr .u8 acc (shl .u8 (val5 y / (2 ^ (8 * j) : Nat) / (2 ^ i : Nat) % 2) (i : Int))) a := by
      intro l
      induction l with
      | nil => intro a _; rfl
      | cons i l ih => intro a hl; simp only [List.foldl_cons]; rw [hbit i (hl i (by simp)), ih _ fun k hk => hl k (by simp [hk])]
    rw [hcongr _ _ fun i hi => List.mem_range.1 hi]
    exact (or_bits (fun i => val5 y / (2 ^ (8 * j) : Nat) / (2 ^ i : Nat) % 2) n hn fun i _ => by
      have := Int.emod_nonneg (val5 y / (2 ^ (8 * j) : Nat) / (2 ^ i : Nat)) (b := 2) (by omega)
      have := Int.emod_lt_of_pos (val5 y / (2 ^ (8 * j) : Nat) / (2 ^ i : Nat)) (b := 2) (by omega)
      omega).1
  have e8 : (2 ^ (8 * j) : Nat) = 256 ^ j := by rw [Nat.pow_mul]
  by_cases h31 : j = 31
  · rw [if_pos h31, hfold 7 (by omega) (fun i hi => by omega), e8]
    refine bsum7 _ (Int.ediv_nonneg hv0 (Int.natCast_nonneg _)) ?_
    subst h31
    have : (256 ^ 31 : Nat) = 452312848583266388373324160190187140051835877600158453279131187530910662656 := by decide
    rw [this]
    simp only [pp] at hv1
    omega
  · rw [if_neg h31, hfold 8 (by omega) (fun i hi => by omega), e8]
    exact bsum8 _

theorem val_of_least {y : Fe} (h : Lst5 y) : ((fe y).val : Int) = val5 y := by
  have hv0 : 0 ≤ val5 y := by
    obtain ⟨y0, y1, y2, y3, y4, u⟩ := y
    have := h.1
    simp only [Lim51] at this
    simp only [val5]; omega
  unfold fe
  rw [toF_val, Int.emod_eq_of_lt hv0 h.2]

noncomputable def feBytes (x : Fe) : B32 := feBits (feLeast feCarry x)
theorem bytes_fe {x : Fe} (h : Ok5 x) : feBytes x = bytesF (fe x) := by
  obtain ⟨h1, h2⟩ := least_fe h
  unfold feBytes bytesF
  rw [bits_dig h1, ← val_of_least h1, h2]
theorem eq_bytes {a b : F} : eqV (bytesF a) (bytesF b) = decide (a = b) := by
  by_cases h : a = b
  · subst h; rw [decide_eq_true rfl]; exact (eqV_iff _ _).2 rfl
  · rw [decide_eq_false h]
    refine Bool.eq_false_iff.2 fun e => h (bytesF_inj ((eqV_iff _ _).1 e))
theorem equal_fe {x y : Fe} (hx : Ok5 x) (hy : Ok5 y) : eqV (feBytes x) (feBytes y) = decide (fe x = fe y) := by
  rw [bytes_fe hx, bytes_fe hy, eq_bytes]
theorem odd_fe {x : Fe} (h : Ok5 x) : feOdd feBytes x = decide ((fe x).val % 2 = 1) := by
  unfold feOdd
  rw [bytes_fe h]
  have e : (bytesF (fe x)).1 = ((fe x).val : Int) / (256 ^ 0 : Nat) % 256 := rfl
  rw [e, and_u8 (m := 1) (by decide) _ 1 (by decide)]
  have : ((((fe x).val : Int) / (256 ^ 0 : Nat) % 256 % (2 ^ 1 : Nat) == 1) = true) ↔ (fe x).val % 2 = 1 := by
    rw [beq_iff_eq]; simp only [Nat.pow_zero, Nat.pow_one]; omega
  by_cases h1 : (fe x).val % 2 = 1
  · rw [decide_eq_true h1]; exact this.2 h1
  · rw [decide_eq_false h1]; exact Bool.eq_false_iff.2 fun e => h1 (this.1 e)
theorem small_fe {n : Int} (h : U64 n) : Ok5 (feSmall n) ∧ fe (feSmall n) = toF n := by
  simp only [U64] at h
  have e : feSmall n = mk5 (n % 2251799813685248) (n / 2251799813685248) 0 0 0 := by
    simp only [feSmall, and_msk, shr_51]; rfl
  rw [e]
  refine ⟨by simp only [Ok5, Lim, mk5]; omega, ?_⟩
  unfold fe; congr 1; simp only [val5, mk5]; omega
end Go.Proofs.Ytndiiabkoeblgaa
