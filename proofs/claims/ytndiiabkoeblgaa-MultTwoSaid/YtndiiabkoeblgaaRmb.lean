/- The document's numbers modulo p: each function of numbers gives the digits of the number that it should. -/
import Derived.Test.YtndiiabkoeblgaaRma
import Derived.Test.YtndiiabkoeblgaaFmi
import Derived.Test.YtndiiabkoeblgaaRfb
namespace Go.Proofs.Ytndiiabkoeblgaa
open Go Go.Ev BJ

set_option maxRecDepth 100000
theorem p16 : (65536 ^ 16 : Nat) = 115792089237316195423570985008687907853269984665640564039457584007913129639936 := by decide
/-- the digits of a number modulo p -/
noncomputable def digF (a : F) : Fn := digD 16 (a.val : Int)
theorem digF_val (a : F) : OkD (digF a) ∧ valD (digF a) = (a.val : Int) := by
  obtain ⟨h1, h2⟩ := digD_spec 16 (a.val : Int) (by omega)
  have := a.isLt
  refine ⟨h1, h2.trans (Int.emod_eq_of_lt (by omega) ?_)⟩
  rw [p16]; simp only [pp] at this; omega
theorem digF_fn {x : Fn} (h : Ok16 x) : digF (fn9 x) = x := by
  obtain ⟨h1, h2⟩ := digF_val (fn9 x)
  refine valD_inj h1 h.1 (h2.trans ?_)
  unfold fn9
  rw [toF_val, Int.emod_eq_of_lt (valD_nonneg h.1) h.2]
theorem digF_inj {a b : F} (h : digF a = digF b) : a = b := F_ext (by rw [← (digF_val a).2, ← (digF_val b).2, h])
theorem eq_dig (a b : F) : eqV (digF a) (digF b) = decide (a = b) := by
  by_cases h : a = b
  · subst h; rw [decide_eq_true rfl]; exact (eqV_iff _ _).2 rfl
  · rw [decide_eq_false h]; exact Bool.eq_false_iff.2 fun e => h (digF_inj ((eqV_iff _ _).1 e))
theorem norm_dig {t : Fn} (h : Bd 70368744177664 t) (h0 : 0 ≤ valD t) (h1 : valD t < 31828687130226345097944463881396533766429193651030253916189694521162207808802136034115584) : normC t = digF (toF (valD t)) := by
  obtain ⟨e1, e2⟩ := norm_fn h h0 h1
  rw [← e2, digF_fn e1]

theorem zip_add : {n : Nat} → (v u : Vec Int n) → OkD v → OkD u → valD (Vec.zip (fun a b => w (a + b)) v u) = valD v + valD u ∧ Bd 131072 (Vec.zip (fun a b => w (a + b)) v u)
  | 0, _, _, _, _ => ⟨rfl, trivial⟩
  | n + 1, v, u, hv, hu => by
    obtain ⟨h1, h2⟩ := zip_add v.2 u.2 hv.2 hu.2
    have h3 := hv.1
    have h4 := hu.1
    have hw : w (v.1 + u.1) = v.1 + u.1 := w_id (by omega) (by omega)
    show w (v.1 + u.1) + 65536 * valD (Vec.zip (fun a b => w (a + b)) v.2 u.2) = v.1 + 65536 * valD v.2 + (u.1 + 65536 * valD u.2) ∧ ((-131072 ≤ w (v.1 + u.1) ∧ w (v.1 + u.1) ≤ 131072) ∧ Bd 131072 (Vec.zip (fun a b => w (a + b)) v.2 u.2))
    rw [hw, h1]
    exact ⟨by omega, by omega, h2⟩
theorem zip_sub : {n : Nat} → (v u : Vec Int n) → Bd 131072 v → OkD u → valD (Vec.zip (fun a b => w (a - b)) v u) = valD v - valD u ∧ Bd 262144 (Vec.zip (fun a b => w (a - b)) v u)
  | 0, _, _, _, _ => ⟨rfl, trivial⟩
  | n + 1, v, u, hv, hu => by
    obtain ⟨h1, h2⟩ := zip_sub v.2 u.2 hv.2 hu.2
    have h3 := hv.1
    have h4 := hu.1
    have hw : w (v.1 - u.1) = v.1 - u.1 := w_id (by omega) (by omega)
    show w (v.1 - u.1) + 65536 * valD (Vec.zip (fun a b => w (a - b)) v.2 u.2) = v.1 + 65536 * valD v.2 - (u.1 + 65536 * valD u.2) ∧ ((-262144 ≤ w (v.1 - u.1) ∧ w (v.1 - u.1) ≤ 262144) ∧ Bd 262144 (Vec.zip (fun a b => w (a - b)) v.2 u.2))
    rw [hw, h1]
    exact ⟨by omega, by omega, h2⟩
theorem bd_mono {B B' : Int} (hB : B ≤ B') : {n : Nat} → {v : Vec Int n} → Bd B v → Bd B' v
  | 0, _, _ => trivial
  | _ + 1, _, h => ⟨by have := h.1; omega, bd_mono hB h.2⟩
theorem pp_pos (a : F) : 0 ≤ (a.val : Int) ∧ (a.val : Int) < (pp : Int) := ⟨by omega, by have := a.isLt; omega⟩
theorem toF_of (a : F) : toF (a.val : Int) = a := F_ext (by rw [toF_val, Int.emod_eq_of_lt (pp_pos a).1 (pp_pos a).2])

noncomputable def add9C : Fn → Fn → Fn := add9 normC
noncomputable def sub9C : Fn → Fn → Fn := sub9 prime9 normC
noncomputable def neg9C (x : Fn) : Fn := sub9C zero9 x
noncomputable def mul9C : Fn → Fn → Fn := mul9 normC
theorem add9_dig (a b : F) : add9C (digF a) (digF b) = digF (a + b) := by
  obtain ⟨a1, a2⟩ := digF_val a
  obtain ⟨b1, b2⟩ := digF_val b
  obtain ⟨z1, z2⟩ := zip_add (digF a) (digF b) a1 b1
  have ha := pp_pos a
  have hb := pp_pos b
  rw [a2, b2] at z1
  show normC (Vec.zip (fun a b => w (a + b)) (digF a) (digF b)) = _
  rw [norm_dig (bd_mono (by decide) z2) (by rw [z1]; omega) (by rw [z1]; simp only [pp] at *; omega), z1, toF_add, toF_of, toF_of]
theorem toF_pp0 : toF (pp : Int) = 0 := by
  have := toF_pp 0 1
  rw [Int.one_mul, Int.zero_add] at this
  rw [this, toF_zero]
theorem sub9_dig (a b : F) : sub9C (digF a) (digF b) = digF (a - b) := by
  obtain ⟨a1, a2⟩ := digF_val a
  obtain ⟨b1, b2⟩ := digF_val b
  obtain ⟨z1, z2⟩ := zip_add (digF a) prime9 a1 prime_ok
  obtain ⟨y1, y2⟩ := zip_sub (Vec.zip (fun a b => w (a + b)) (digF a) prime9) (digF b) z2 b1
  have ha := pp_pos a
  have hb := pp_pos b
  rw [z1, a2, b2, prime_val] at y1
  show normC (Vec.zip (fun a b => w (a - b)) (Vec.zip (fun a b => w (a + b)) (digF a) prime9) (digF b)) = _
  rw [norm_dig (bd_mono (by decide) y2) (by rw [y1]; omega) (by rw [y1]; simp only [pp] at *; omega), y1, toF_sub, toF_add, toF_of, toF_of, toF_pp0, show a + 0 - b = a - b from by grobner]
theorem zero_dig : zero9 = digF 0 := by
  have h : OkD zero9 := by simp [zero9, OkD]
  obtain ⟨h1, h2⟩ := digF_val 0
  refine valD_inj h h1 (Eq.trans (?_ : valD zero9 = 0) h2.symm)
  decide
theorem neg9_dig (a : F) : neg9C (digF a) = digF (-a) := by
  unfold neg9C
  rw [zero_dig, sub9_dig, show (0 : F) - a = -a from by grobner]

/-! ### Products -/
def isum (f : Nat → Int) : Nat → Int
  | 0 => 0
  | n + 1 => isum f n + f n
theorem isum_congr {f g : Nat → Int} : ∀ {n : Nat}, (∀ i, i < n → f i = g i) → isum f n = isum g n
  | 0, _ => rfl
  | n + 1, h => by simp only [isum]; rw [isum_congr fun i hi => h i (by omega), h n (by omega)]
theorem isum_add (f g : Nat → Int) : ∀ n, isum (fun i => f i + g i) n = isum f n + isum g n
  | 0 => rfl
  | n + 1 => by simp only [isum]; rw [isum_add f g n]; omega
theorem isum_mul (c : Int) (f : Nat → Int) : ∀ n, isum (fun i => c * f i) n = c * isum f n
  | 0 => by simp [isum]
  | n + 1 => by simp only [isum]; rw [isum_mul c f n, Int.mul_add]
theorem isum_zero : ∀ n, isum (fun _ => 0) n = 0
  | 0 => rfl
  | n + 1 => by simp only [isum]; rw [isum_zero n]; rfl
theorem isum_bound {f : Nat → Int} {c : Int} : ∀ {n : Nat}, (∀ i, i < n → 0 ≤ f i ∧ f i ≤ c) → 0 ≤ isum f n ∧ isum f n ≤ n * c
  | 0, _ => by simp [isum]
  | n + 1, h => by
    obtain ⟨h1, h2⟩ := isum_bound (n := n) fun i hi => h i (by omega)
    have h3 := h n (by omega)
    simp only [isum]
    rw [Int.natCast_add, Int.add_mul]
    omega
/-- what is shifted, over so many places -/
theorem isum_shift (g : Nat → Int) (n m : Nat) : ∀ k, k ≤ m → isum (fun j => if n ≤ j ∧ j - n < m then g (j - n) else 0) (n + k) = isum g k
  | 0, _ => by
    show isum _ n = 0
    rw [isum_congr (g := fun _ => 0) fun j hj => by rw [if_neg (by omega)], isum_zero]
  | k + 1, hk => by
    show isum _ (n + k) + (if n ≤ n + k ∧ n + k - n < m then g (n + k - n) else 0) = isum g k + g k
    rw [isum_shift g n m k (by omega), if_pos (by omega), show n + k - n = k from by omega]
theorem isum_tail (f : Nat → Int) (n : Nat) : ∀ k, (∀ j, n ≤ j → j < n + k → f j = 0) → isum f (n + k) = isum f n
  | 0, _ => rfl
  | k + 1, h => by
    show isum f (n + k) + f (n + k) = _
    rw [isum_tail f n k fun j h1 h2 => h j h1 (by omega), h (n + k) (by omega) (by omega)]; omega
/-- the numbers of a product by digits -/
def conv (f g : Nat → Int) (n j : Nat) : Int := isum (fun i => if i ≤ j ∧ j - i < 16 then f i * g (j - i) else 0) n
theorem conv_val (f g : Nat → Int) (B : Int) : ∀ n, n ≤ 16 → isum (fun j => B ^ j * conv f g n j) 32 = isum (fun i => B ^ i * f i) n * isum (fun i => B ^ i * g i) 16
  | 0, _ => by
    rw [isum_congr (g := fun _ => 0) fun j _ => by simp [conv, isum], isum_zero]
    simp [isum]
  | n + 1, hn => by
    have e : ∀ j, B ^ j * conv f g (n + 1) j = B ^ j * conv f g n j + (if n ≤ j ∧ j - n < 16 then B ^ n * f n * (B ^ (j - n) * g (j - n)) else 0) := fun j => by
      show B ^ j * (conv f g n j + (if n ≤ j ∧ j - n < 16 then f n * g (j - n) else 0)) = _
      rw [Int.mul_add]
      congr 1
      by_cases h : n ≤ j ∧ j - n < 16
      · rw [if_pos h, if_pos h]
        have : B ^ j = B ^ n * B ^ (j - n) := by rw [← Int.pow_add]; congr 1; omega
        rw [this]
        generalize B ^ n = p
        generalize B ^ (j - n) = q
        rw [Int.mul_assoc, Int.mul_assoc, ← Int.mul_assoc q, Int.mul_comm q (f n), Int.mul_assoc (f n)]
      · rw [if_neg h, if_neg h, Int.mul_zero]
    rw [isum_congr fun j _ => e j, isum_add, conv_val f g B n (by omega)]
    have h2 : isum (fun j => if n ≤ j ∧ j - n < 16 then B ^ n * f n * (B ^ (j - n) * g (j - n)) else 0) 32 = isum (fun i => B ^ n * f n * (B ^ i * g i)) 16 := by
      have h3 := isum_shift (fun i => B ^ n * f n * (B ^ i * g i)) n 16 16 (by omega)
      have h4 := isum_tail (fun j => if n ≤ j ∧ j - n < 16 then B ^ n * f n * (B ^ (j - n) * g (j - n)) else 0) (n + 16) (16 - n) (fun j h1 _ => if_neg (by omega))
      rw [show n + 16 + (16 - n) = 32 from by omega] at h4
      rw [h4]; exact h3
    rw [h2, isum_mul]
    simp only [isum]
    rw [Int.add_mul]
theorem isum_succ (f : Nat → Int) : ∀ n, isum f (n + 1) = f 0 + isum (fun i => f (i + 1)) n
  | 0 => by simp [isum]
  | n + 1 => by
    show isum f (n + 1) + f (n + 1) = f 0 + (isum (fun i => f (i + 1)) n + f (n + 1))
    rw [isum_succ f n]; omega
theorem valD_isum : {n : Nat} → (v : Vec Int n) → valD v = isum (fun i => 65536 ^ i * v.get i) n
  | 0, _ => rfl
  | n + 1, v => by
    show v.1 + 65536 * valD v.2 = _
    rw [valD_isum v.2, isum_succ]
    show _ = 65536 ^ 0 * v.1 + isum (fun i => 65536 ^ (i + 1) * Vec.get v.2 i) n
    rw [← isum_mul, Int.pow_zero, Int.one_mul]
    congr 1
    apply isum_congr
    intro i _
    rw [Int.pow_succ, Int.mul_comm (65536 ^ i) 65536, Int.mul_assoc]
theorem mulAt_val {x y : Fn} (hx : OkD x) (hy : OkD y) (j : Nat) : mulAt x y j = conv x.get y.get 16 j ∧ 0 ≤ conv x.get y.get 16 j ∧ conv x.get y.get 16 j ≤ 68717379600 := by
  have hterm : ∀ i, i < 16 → 0 ≤ (if i ≤ j ∧ j - i < 16 then x.get i * y.get (j - i) else 0) ∧ (if i ≤ j ∧ j - i < 16 then x.get i * y.get (j - i) else 0) ≤ 4294836225 := fun i hi => by
    split
    · rename_i h
      obtain ⟨h1, h2⟩ := get_digit hx (i := i) hi
      obtain ⟨h3, h4⟩ := get_digit hy (i := j - i) h.2
      refine ⟨Int.mul_nonneg h1 h3, ?_⟩
      have := Int.mul_le_mul (a := x.get i) (b := y.get (j - i)) (c := 65535) (d := 65535) (by omega) (by omega) h3 (by omega)
      omega
    · omega
  have key : ∀ n, n ≤ 16 → (List.range n).foldl (fun acc i => if i ≤ j ∧ j - i < 16 then w (acc + w (x.get i * y.get (j - i))) else acc) 0 = conv x.get y.get n j := by
    intro n
    induction n with
    | zero => intro _; rfl
    | succ n ih =>
      intro hn
      rw [List.range_succ, List.foldl_append, ih (by omega)]
      simp only [List.foldl_cons, List.foldl_nil]
      have hb := isum_bound (c := 4294836225) (n := n) fun i hi => hterm i (by omega)
      have ht := hterm n (by omega)
      show _ = conv x.get y.get n j + (if n ≤ j ∧ j - n < 16 then x.get n * y.get (j - n) else 0)
      have hc : 0 ≤ conv x.get y.get n j ∧ conv x.get y.get n j ≤ n * 4294836225 := hb
      split
      · rename_i h
        rw [if_pos h] at ht
        rw [w_id (x := x.get n * y.get (j - n)) (by omega) (by omega), w_id (by omega) (by omega)]
      · omega
  have hb := isum_bound (c := 4294836225) (n := 16) hterm
  exact ⟨key 16 (by omega), hb⟩
theorem valD_ofFn (f : Nat → Int) : ∀ n, valD (Vec.ofFn n f) = isum (fun i => 65536 ^ i * f i) n := fun n => by
  rw [valD_isum]
  exact isum_congr fun i hi => by rw [get_ofFn hi]
theorem bd_ofFn {B : Int} {f : Nat → Int} : ∀ {n : Nat}, (∀ i, i < n → -B ≤ f i ∧ f i ≤ B) → Bd B (Vec.ofFn n f)
  | 0, _ => trivial
  | n + 1, h => ⟨h 0 (by omega), bd_ofFn (n := n) fun i hi => h (i + 1) (by omega)⟩
theorem isum_split (f : Nat → Int) (n : Nat) : ∀ k, isum f (n + k) = isum f n + isum (fun i => f (n + i)) k
  | 0 => by simp [isum]
  | k + 1 => by
    show isum f (n + k) + f (n + k) = isum f n + (isum (fun i => f (n + i)) k + f (n + k))
    rw [isum_split f n k]; omega
theorem toF_256 : toF (65536 ^ 16) = 38 := by decide +kernel
theorem t38 : toF 38 = 38 := by decide +kernel
theorem mul9_dig (a b : F) : mul9C (digF a) (digF b) = digF (a * b) := by
  obtain ⟨a1, a2⟩ := digF_val a
  obtain ⟨b1, b2⟩ := digF_val b
  generalize digF a = x at *
  generalize digF b = y at *
  have hc := fun j => mulAt_val a1 b1 j
  have hd : ∀ i, i < 16 → w (mulAt x y i + w (38 * mulAt x y (i + 16))) = conv x.get y.get 16 i + 38 * conv x.get y.get 16 (i + 16) := fun i _ => by
    obtain ⟨e1, e2, e3⟩ := hc i
    obtain ⟨f1, f2, f3⟩ := hc (i + 16)
    rw [e1, f1, w_id (x := 38 * _) (by omega) (by omega), w_id (by omega) (by omega)]
  have hz : Vec.ofFn 16 (fun i => w (mulAt x y i + w (38 * mulAt x y (i + 16)))) = Vec.ofFn 16 (fun i => conv x.get y.get 16 i + 38 * conv x.get y.get 16 (i + 16)) := ofFn_congr hd
  show normC (Vec.ofFn 16 fun i => w (mulAt x y i + w (38 * mulAt x y (i + 16)))) = _
  rw [hz]
  have hv := valD_ofFn (fun i => conv x.get y.get 16 i + 38 * conv x.get y.get 16 (i + 16)) 16
  have hb : Bd 70368744177664 (Vec.ofFn 16 (fun i => conv x.get y.get 16 i + 38 * conv x.get y.get 16 (i + 16))) := bd_ofFn fun i _ => by
    obtain ⟨_, e2, e3⟩ := hc i
    obtain ⟨_, f2, f3⟩ := hc (i + 16)
    omega
  have hcv := conv_val x.get y.get 65536 16 (by omega)
  rw [← valD_isum, ← valD_isum, a2, b2, isum_split _ 16 16] at hcv
  have hF : toF (valD (Vec.ofFn 16 (fun i => conv x.get y.get 16 i + 38 * conv x.get y.get 16 (i + 16)))) = a * b := by
    rw [hv, isum_congr (g := fun i => 65536 ^ i * conv x.get y.get 16 i + 38 * (65536 ^ i * conv x.get y.get 16 (i + 16))) fun i _ => by
      rw [Int.mul_add, ← Int.mul_assoc, ← Int.mul_assoc, Int.mul_comm (65536 ^ i) 38], isum_add, isum_mul, toF_add, toF_mul, t38]
    have h1 := congrArg toF hcv
    rw [toF_add, toF_mul, toF_of, toF_of] at h1
    have h2 : isum (fun i => 65536 ^ (16 + i) * conv x.get y.get 16 (16 + i)) 16 = 65536 ^ 16 * isum (fun i => 65536 ^ i * conv x.get y.get 16 (i + 16)) 16 := by
      rw [← isum_mul]
      apply isum_congr
      intro i _
      rw [Int.pow_add, Int.mul_assoc, Nat.add_comm 16 i]
    rw [h2, toF_mul, toF_256] at h1
    exact h1
  have hnn : 0 ≤ valD (Vec.ofFn 16 (fun i => conv x.get y.get 16 i + 38 * conv x.get y.get 16 (i + 16))) ∧ valD (Vec.ofFn 16 (fun i => conv x.get y.get 16 i + 38 * conv x.get y.get 16 (i + 16))) < 31828687130226345097944463881396533766429193651030253916189694521162207808802136034115584 := by
    rw [hv]
    have hterm : ∀ i, i < 16 → 0 ≤ (65536 : Int) ^ i * (conv x.get y.get 16 i + 38 * conv x.get y.get 16 (i + 16)) ∧ (65536 : Int) ^ i * (conv x.get y.get 16 i + 38 * conv x.get y.get 16 (i + 16)) ≤ 1766847064778384329583297500742918515827483896875618958121606201292619776 * 2679977804400 := fun i hi => by
      obtain ⟨_, e2, e3⟩ := hc i
      obtain ⟨_, f2, f3⟩ := hc (i + 16)
      have hp0 : (0 : Int) ≤ 65536 ^ i := Int.pow_nonneg (by omega)
      have hp1 : (65536 : Int) ^ i ≤ 1766847064778384329583297500742918515827483896875618958121606201292619776 := by
        have h1 : (65536 ^ i : Nat) ≤ 65536 ^ 15 := Nat.pow_le_pow_right (by omega) (by omega)
        rw [p240] at h1
        have h2 : ((65536 ^ i : Nat) : Int) = 65536 ^ i := by simp
        omega
      exact ⟨Int.mul_nonneg hp0 (by omega), Int.mul_le_mul hp1 (by omega) (by omega) (by omega)⟩
    have := isum_bound hterm
    omega
  rw [norm_dig hb hnn.1 hnn.2, hF]
end Go.Proofs.Ytndiiabkoeblgaa
