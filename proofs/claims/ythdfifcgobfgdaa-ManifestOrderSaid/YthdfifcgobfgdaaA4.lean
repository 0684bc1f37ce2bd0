/- What the laws lean on, part 4: a reader of code, plain facts, and what each function gives; no conditions. -/
import Derived.Test.YthdfifcgobfgdaaA3
section
namespace BJ
/-- a number that has no divisors but 1 and itself -/
def IsPrime (n : Nat) : Prop := 2 ≤ n ∧ ∀ m, m ∣ n → m = 1 ∨ m = n
theorem exists_prime_dvd : ∀ n : Nat, 2 ≤ n → ∃ q, IsPrime q ∧ q ∣ n := by
  intro n
  induction n using Nat.strongRecOn with
  | _ n ih =>
    intro h
    by_cases hp : ∀ m, m ∣ n → m = 1 ∨ m = n
    · exact ⟨n, ⟨h, hp⟩, Nat.dvd_refl n⟩
    · have ⟨m, hm⟩ := Classical.not_forall.1 hp
      have ⟨hd, hn⟩ := Classical.not_imp.1 hm
      have h1 : m ≠ 1 := fun e => hn (.inl e)
      have h2 : m ≠ n := fun e => hn (.inr e)
      have hle : m ≤ n := Nat.le_of_dvd (by omega) hd
      have h0 : m ≠ 0 := by
        rintro rfl
        have := Nat.eq_zero_of_zero_dvd hd
        omega
      obtain ⟨q, hq, hqm⟩ := ih m (by omega) (by omega)
      exact ⟨q, hq, Nat.dvd_trans hqm hd⟩
theorem IsPrime.coprime {q a : Nat} (hq : IsPrime q) (h : ¬ q ∣ a) : Nat.Coprime q a := by
  rcases hq.2 (Nat.gcd q a) (Nat.gcd_dvd_left q a) with h1 | h1
  · exact h1
  · exact absurd (h1 ▸ Nat.gcd_dvd_right q a) h
theorem IsPrime.dvd_mul {q a b : Nat} (hq : IsPrime q) (h : q ∣ a * b) : q ∣ a ∨ q ∣ b := by
  by_cases ha : q ∣ a
  · exact .inl ha
  · exact .inr ((hq.coprime ha).dvd_of_dvd_mul_left h)
theorem IsPrime.dvd_prod {q : Nat} (hq : IsPrime q) : ∀ l : List Nat, (∀ x ∈ l, IsPrime x) → q ∣ l.foldr (· * ·) 1 → q ∈ l
  | [], _, h => by
    have : q = 1 := Nat.eq_one_of_dvd_one h
    have := hq.1
    omega
  | x :: l, hl, h => by
    rcases hq.dvd_mul h with h | h
    · rcases (hl x (by simp)).2 q h with h1 | h1
      · have := hq.1; omega
      · simp [h1]
    · exact List.mem_cons_of_mem _ (hq.dvd_prod l (fun y hy => hl y (by simp [hy])) h)
/-- powers modulo n, by halving the exponent -/
def pm (n : Nat) : Nat → Nat → Nat → Nat
  | 0, _, _ => 1 % n
  | f + 1, a, e => if e % 2 = 1 then a * pm n f (a * a % n) (e / 2) % n else pm n f (a * a % n) (e / 2)
theorem pm_eq (n : Nat) : ∀ f a e, e < 2 ^ f → pm n f a e = a ^ e % n := by
  intro f
  induction f with
  | zero => intro a e h; have : e = 0 := by simpa using h
            subst this; simp [pm]
  | succ f ih =>
    intro a e h
    have h2 : e / 2 < 2 ^ f := by rw [Nat.pow_succ] at h; omega
    have hk : (a * a % n) ^ (e / 2) % n = a ^ (2 * (e / 2)) % n := by
      rw [← Nat.pow_mod, Nat.pow_mul, Nat.pow_two]
    simp only [pm, ih _ _ h2, hk]
    split
    · rename_i ho
      rw [Nat.mul_mod, Nat.mod_mod, ← Nat.mul_mod, Nat.mul_comm, ← Nat.pow_succ]
      congr 2; omega
    · rename_i ho
      congr 2; omega
theorem pow_one_mod {n a k : Nat} (hn : 2 ≤ n) (h : a ^ k % n = 1) (j : Nat) : a ^ (k * j) % n = 1 := by
  rw [Nat.pow_mul, Nat.pow_mod, h, Nat.one_pow, Nat.mod_eq_of_lt hn]
/-- the least exponent that gives 1 -/
theorem exists_order {n a m : Nat} (hm : 0 < m) (h : a ^ m % n = 1) :
    ∃ k, 0 < k ∧ a ^ k % n = 1 ∧ ∀ j, 0 < j → j < k → a ^ j % n ≠ 1 := by
  induction m using Nat.strongRecOn with
  | _ m ih =>
    by_cases hs : ∃ j, 0 < j ∧ j < m ∧ a ^ j % n = 1
    · obtain ⟨j, h0, h1, h2⟩ := hs
      exact ih j h1 h0 h2
    · exact ⟨m, hm, h, fun j h0 h1 h2 => hs ⟨j, h0, h1, h2⟩⟩
theorem order_dvd {n a k m : Nat} (hn : 2 ≤ n) (hk : 0 < k) (h1 : a ^ k % n = 1) (hmin : ∀ j, 0 < j → j < k → a ^ j % n ≠ 1)
    (hm : a ^ m % n = 1) : k ∣ m := by
  have e : a ^ m = a ^ (k * (m / k)) * a ^ (m % k) := by
    rw [← Nat.pow_add, Nat.div_add_mod]
  rw [e, Nat.mul_mod, pow_one_mod hn h1, Nat.one_mul, Nat.mod_mod] at hm
  by_cases hr : m % k = 0
  · exact Nat.dvd_of_mod_eq_zero hr
  · exact absurd hm (hmin _ (by omega) (Nat.mod_lt _ hk))
/-- all of 1 .. n-1 lie in a list of n-1 different numbers of 1 .. n-1 -/
theorem mem_of_nodup : ∀ (m : Nat) (l : List Nat), l.Nodup → (∀ x ∈ l, 1 ≤ x ∧ x ≤ m) → m ≤ l.length → ∀ x, 1 ≤ x → x ≤ m → x ∈ l
  | 0, _, _, _, _, x, h1, h2 => by omega
  | m + 1, l, hd, hl, hlen, x, h1, h2 => by
    have hmem : m + 1 ∈ l := by
      refine Classical.byContradiction fun hno => ?_
      have hl' : ∀ y ∈ l, 1 ≤ y ∧ y ≤ m := fun y hy => by
        have := hl y hy
        have : y ≠ m + 1 := fun e => hno (e ▸ hy)
        omega
      -- too many numbers for m places
      have := length_le m l hd hl'
      omega
    have hd' : (l.erase (m + 1)).Nodup := hd.erase _
    have hlen' : (l.erase (m + 1)).length = l.length - 1 := List.length_erase_of_mem hmem
    have hl' : ∀ y ∈ l.erase (m + 1), 1 ≤ y ∧ y ≤ m := fun y hy => by
      have hy' := (List.Nodup.mem_erase_iff hd).1 hy
      have := hl y hy'.2
      have := hy'.1
      omega
    by_cases hx : x = m + 1
    · exact hx ▸ hmem
    · exact List.mem_of_mem_erase (mem_of_nodup m (l.erase (m + 1)) hd' hl' (by omega) x h1 (by omega))
where
  length_le : ∀ (m : Nat) (l : List Nat), l.Nodup → (∀ x ∈ l, 1 ≤ x ∧ x ≤ m) → l.length ≤ m
    | 0, l, _, hl => by
      cases l with
      | nil => simp
      | cons a l => have := hl a (by simp); omega
    | m + 1, l, hd, hl => by
      have hd' : (l.erase (m + 1)).Nodup := hd.erase _
      have hl' : ∀ y ∈ l.erase (m + 1), 1 ≤ y ∧ y ≤ m := fun y hy => by
        have hy' := (List.Nodup.mem_erase_iff hd).1 hy
        have := hl y hy'.2
        have := hy'.1
        omega
      have := length_le m _ hd' hl'
      have h3 := @List.length_erase Nat _ _ (m + 1) l
      split at h3 <;> omega
/-- what Lucas' test gives: every number that n does not divide is a power of a, modulo n -/
def Root (n a : Nat) : Prop := 2 ≤ n ∧ a ^ (n - 1) % n = 1 ∧ ∀ x, x % n ≠ 0 → ∃ i, a ^ i % n = x % n
theorem lucas {n a : Nat} {l : List Nat} (hn : 2 ≤ n) (hl : ∀ q ∈ l, IsPrime q) (hp : l.foldr (· * ·) 1 = n - 1)
    (h1 : a ^ (n - 1) % n = 1) (hq : ∀ q ∈ l, a ^ ((n - 1) / q) % n ≠ 1) : Root n a := by
  refine ⟨hn, h1, ?_⟩
  by_cases hn2 : n = 2
  · subst hn2
    intro x hx
    exact ⟨0, by simp; omega⟩
  obtain ⟨k, hk, hk1, hmin⟩ := exists_order (m := n - 1) (by omega) h1
  have hdvd := order_dvd hn hk hk1 hmin h1
  have hkn : k = n - 1 := by
    refine Classical.byContradiction fun hne => ?_
    obtain ⟨c, hc⟩ := hdvd
    have hc2 : 2 ≤ c := by
      rcases Nat.lt_or_ge c 2 with h | h
      · have : c = 0 ∨ c = 1 := by omega
        rcases this with rfl | rfl
        · simp at hc; omega
        · simp at hc; omega
      · exact h
    obtain ⟨q, hqp, c', rfl⟩ := exists_prime_dvd c hc2
    have hmem : q ∈ l := hqp.dvd_prod l hl (by rw [hp, hc]; exact ⟨k * c', by rw [Nat.mul_left_comm]⟩)
    refine hq q hmem ?_
    have : (n - 1) / q = k * c' := by
      rw [hc, Nat.mul_left_comm]
      exact Nat.mul_div_cancel_left _ (by have := hqp.1; omega)
    rw [this]
    exact pow_one_mod hn hk1 c'
  subst hkn
  -- a and n have no common divisor: a power of a times a is 1
  have hinv : ∀ i, a ^ i % n ≠ 0 := by
    intro i h0
    have : a ^ ((n - 1) * (i + 1)) % n = 1 := pow_one_mod hn h1 _
    have e : (n - 1) * (i + 1) = i + ((n - 1) * (i + 1) - i) := by
      have : i ≤ (n - 1) * (i + 1) := Nat.le_trans (by omega) (Nat.le_mul_of_pos_left (i + 1) (by omega))
      omega
    rw [e, Nat.pow_add, Nat.mul_mod, h0, Nat.zero_mul, Nat.zero_mod] at this
    omega
  -- powers with exponents below n - 1 are different
  have hinj : ∀ i j, i < j → j < n - 1 → a ^ i % n ≠ a ^ j % n := by
    intro i j hij hj he
    have e1 : a ^ (j + (n - 1 - i)) % n = 1 := by
      rw [Nat.pow_add, Nat.mul_mod, ← he, ← Nat.mul_mod, ← Nat.pow_add]
      have : i + (n - 1 - i) = n - 1 := by omega
      rw [this]; exact h1
    have e2 : j + (n - 1 - i) = (n - 1) + (j - i) := by omega
    rw [e2, Nat.pow_add, Nat.mul_mod, h1, Nat.one_mul, Nat.mod_mod] at e1
    exact hmin (j - i) (by omega) (by omega) e1
  intro x hx
  have hnd : ((List.range (n - 1)).map fun i => a ^ i % n).Nodup := by
    rw [List.nodup_iff_pairwise_ne, List.pairwise_map]
    refine List.Pairwise.imp_of_mem ?_ (List.pairwise_lt_range (n := n - 1))
    intro i j hi hj hij
    exact hinj i j hij (by simpa using hj)
  have := mem_of_nodup (n - 1) _ hnd (fun y hy => by
    obtain ⟨i, _, rfl⟩ := List.mem_map.1 hy
    have := hinv i
    have := Nat.mod_lt (a ^ i) (show 0 < n by omega)
    omega) (by simp) (x % n) (by omega) (by have := Nat.mod_lt x (show 0 < n by omega); omega)
  obtain ⟨i, _, hi⟩ := List.mem_map.1 this
  exact ⟨i, hi⟩
theorem Root.fermat {n a : Nat} (h : Root n a) {x : Nat} (hx : x % n ≠ 0) : x ^ (n - 1) % n = 1 := by
  obtain ⟨hn, h1, hs⟩ := h
  obtain ⟨i, hi⟩ := hs x hx
  rw [Nat.pow_mod, ← hi, ← Nat.pow_mod, ← Nat.pow_mul, Nat.mul_comm]
  exact pow_one_mod hn h1 i
theorem Root.prime {n a : Nat} (h : Root n a) : IsPrime n := by
  refine ⟨h.1, fun m hm => ?_⟩
  refine Classical.byContradiction fun hne => ?_
  have hn := h.1
  have hle : m ≤ n := Nat.le_of_dvd (by omega) hm
  have h1 : m ≠ 1 := fun e => hne (.inl e)
  have h2 : m ≠ n := fun e => hne (.inr e)
  have h0 : m ≠ 0 := by
    rintro rfl
    have := Nat.eq_zero_of_zero_dvd hm
    omega
  have hf := h.fermat (x := m) (by rw [Nat.mod_eq_of_lt (by omega)]; exact h0)
  have hd : m ∣ m ^ (n - 1) := by
    rw [show n - 1 = (n - 2) + 1 from by omega, Nat.pow_succ]
    exact Nat.dvd_mul_left m _
  have : m ∣ m ^ (n - 1) % n := (Nat.dvd_mod_iff hm).2 hd
  rw [hf] at this
  exact h1 (Nat.eq_one_of_dvd_one this)
/-- Lucas' test, to be reckoned: the factors of n - 1 are known to be prime -/
def check (n a f : Nat) (l : List Nat) : Bool :=
  decide (2 ≤ n) && decide (n - 1 < 2 ^ f) && l.foldr (· * ·) 1 == n - 1 && pm n f a (n - 1) == 1 && l.all fun q => pm n f a ((n - 1) / q) != 1
theorem root_of_check {n a f : Nat} {l : List Nat} (hl : ∀ q ∈ l, IsPrime q) (h : check n a f l = true) : Root n a := by
  simp only [check, Bool.and_eq_true, decide_eq_true_eq, beq_iff_eq, List.all_eq_true, bne_iff_ne] at h
  obtain ⟨⟨⟨⟨hn, hf⟩, hp⟩, h1⟩, hq⟩ := h
  refine lucas hn hl hp ?_ ?_
  · rw [← pm_eq n f a _ hf]; exact h1
  · intro q hm
    rw [← pm_eq n f a _ (Nat.lt_of_le_of_lt (Nat.div_le_self _ _) hf)]
    exact hq q hm
/-- small primes by trying all divisors -/
def noDiv (n : Nat) : Nat → Nat → Bool
  | 0, _ => true
  | k + 1, d => if d * d > n then true else n % d != 0 && noDiv n k (d + 1)
theorem noDiv_spec (n : Nat) : ∀ k d, noDiv n k d = true → (d + k) * (d + k) > n → ∀ m, d ≤ m → m * m ≤ n → ¬ m ∣ n := by
  intro k
  induction k with
  | zero => intro d _ hgt m h1 h2; exfalso; have := Nat.mul_le_mul h1 h1; simp at hgt; omega
  | succ k ih =>
    intro d h hgt m h1 h2 hd
    unfold noDiv at h
    split at h
    · have := Nat.mul_le_mul h1 h1; omega
    · simp only [Bool.and_eq_true, bne_iff_ne] at h
      by_cases he : m = d
      · subst he; exact h.1 (Nat.mod_eq_zero_of_dvd hd)
      · exact ih (d + 1) h.2 (by rw [show d + 1 + k = d + (k + 1) by omega]; exact hgt) m (by omega) h2 hd
theorem prime_small {n : Nat} (k : Nat) (hn : 2 ≤ n) (hk : (2 + k) * (2 + k) > n) (h : noDiv n k 2 = true) : IsPrime n := by
  have hs := noDiv_spec n k 2 h hk
  refine ⟨hn, fun m hm => ?_⟩
  refine Classical.byContradiction fun hne => ?_
  have h1 : m ≠ 1 := fun e => hne (.inl e)
  have h2 : m ≠ n := fun e => hne (.inr e)
  obtain ⟨c, hc⟩ := hm
  have h0 : m ≠ 0 := by rintro rfl; simp at hc; omega
  have hc0 : c ≠ 0 := by rintro rfl; simp at hc; omega
  have hc1 : c ≠ 1 := by rintro rfl; simp at hc; omega
  by_cases hmc : m ≤ c
  · exact hs m (by omega) (by rw [hc]; exact Nat.mul_le_mul_left m hmc) ⟨c, hc⟩
  · exact hs c (by omega) (by rw [hc]; exact Nat.mul_le_mul_right c (by omega)) ⟨m, by rw [hc, Nat.mul_comm]⟩
end BJ
end

section
namespace BJ
theorem p2 : IsPrime 2 := prime_small 1 (by decide) (by decide) (by decide +kernel)
theorem p3 : IsPrime 3 := prime_small 1 (by decide) (by decide) (by decide +kernel)
theorem p65147 : IsPrime 65147 := prime_small 254 (by decide) (by decide) (by decide +kernel)
theorem p353 : IsPrime 353 := prime_small 17 (by decide) (by decide) (by decide +kernel)
theorem p57467 : IsPrime 57467 := prime_small 238 (by decide) (by decide) (by decide +kernel)
theorem p7 : IsPrime 7 := prime_small 1 (by decide) (by decide) (by decide +kernel)
theorem p131 : IsPrime 131 := prime_small 10 (by decide) (by decide) (by decide +kernel)
theorem r132049 : Root 132049 26 := root_of_check (f := 18) (l := [2, 2, 2, 2, 3, 3, 7, 131]) (by simp only [List.mem_cons, List.not_mem_nil, or_false]; rintro q (rfl | rfl | rfl | rfl | rfl | rfl | rfl | rfl) <;> first | exact p2 | exact p3 | exact p7 | exact p131) (by decide +kernel)
theorem p132049 : IsPrime 132049 := r132049.prime
theorem p43 : IsPrime 43 := prime_small 5 (by decide) (by decide) (by decide +kernel)
theorem p3727 : IsPrime 3727 := prime_small 60 (by decide) (by decide) (by decide +kernel)
theorem r1923133 : Root 1923133 2 := root_of_check (f := 21) (l := [2, 2, 3, 43, 3727]) (by simp only [List.mem_cons, List.not_mem_nil, or_false]; rintro q (rfl | rfl | rfl | rfl | rfl) <;> first | exact p2 | exact p3 | exact p43 | exact p3727) (by decide +kernel)
theorem p1923133 : IsPrime 1923133 := r1923133.prime
theorem p31 : IsPrime 31 := prime_small 4 (by decide) (by decide) (by decide +kernel)
theorem p107 : IsPrime 107 := prime_small 9 (by decide) (by decide) (by decide +kernel)
theorem p223 : IsPrime 223 := prime_small 13 (by decide) (by decide) (by decide +kernel)
theorem p4153 : IsPrime 4153 := prime_small 63 (by decide) (by decide) (by decide +kernel)
theorem p5 : IsPrime 5 := prime_small 1 (by decide) (by decide) (by decide +kernel)
theorem p1723 : IsPrime 1723 := prime_small 40 (by decide) (by decide) (by decide +kernel)
theorem r430751 : Root 430751 17 := root_of_check (f := 19) (l := [2, 5, 5, 5, 1723]) (by simp only [List.mem_cons, List.not_mem_nil, or_false]; rintro q (rfl | rfl | rfl | rfl | rfl) <;> first | exact p2 | exact p5 | exact p1723) (by decide +kernel)
theorem p430751 : IsPrime 430751 := r430751.prime
theorem r31757755568855353 : Root 31757755568855353 10 := root_of_check (f := 55) (l := [2, 2, 2, 3, 31, 107, 223, 4153, 430751]) (by simp only [List.mem_cons, List.not_mem_nil, or_false]; rintro q (rfl | rfl | rfl | rfl | rfl | rfl | rfl | rfl | rfl) <;> first | exact p2 | exact p3 | exact p31 | exact p107 | exact p223 | exact p4153 | exact p430751) (by decide +kernel)
theorem p31757755568855353 : IsPrime 31757755568855353 := r31757755568855353.prime
theorem p75707 : IsPrime 75707 := prime_small 274 (by decide) (by decide) (by decide +kernel)
theorem p13 : IsPrime 13 := prime_small 2 (by decide) (by decide) (by decide +kernel)
theorem p2437 : IsPrime 2437 := prime_small 48 (by decide) (by decide) (by decide +kernel)
theorem p97 : IsPrime 97 := prime_small 8 (by decide) (by decide) (by decide +kernel)
theorem p419 : IsPrime 419 := prime_small 19 (by decide) (by decide) (by decide +kernel)
theorem r569003 : Root 569003 2 := root_of_check (f := 20) (l := [2, 7, 97, 419]) (by simp only [List.mem_cons, List.not_mem_nil, or_false]; rintro q (rfl | rfl | rfl | rfl) <;> first | exact p2 | exact p7 | exact p97 | exact p419) (by decide +kernel)
theorem p569003 : IsPrime 569003 := r569003.prime
theorem r2773320623 : Root 2773320623 5 := root_of_check (f := 32) (l := [2, 2437, 569003]) (by simp only [List.mem_cons, List.not_mem_nil, or_false]; rintro q (rfl | rfl | rfl) <;> first | exact p2 | exact p2437 | exact p569003) (by decide +kernel)
theorem p2773320623 : IsPrime 2773320623 := r2773320623.prime
theorem r72106336199 : Root 72106336199 7 := root_of_check (f := 37) (l := [2, 13, 2773320623]) (by simp only [List.mem_cons, List.not_mem_nil, or_false]; rintro q (rfl | rfl | rfl) <;> first | exact p2 | exact p13 | exact p2773320623) (by decide +kernel)
theorem p72106336199 : IsPrime 72106336199 := r72106336199.prime
theorem p19 : IsPrime 19 := prime_small 3 (by decide) (by decide) (by decide +kernel)
theorem p47 : IsPrime 47 := prime_small 5 (by decide) (by decide) (by decide +kernel)
theorem p127 : IsPrime 127 := prime_small 10 (by decide) (by decide) (by decide +kernel)
theorem p103 : IsPrime 103 := prime_small 9 (by decide) (by decide) (by decide +kernel)
theorem p991 : IsPrime 991 := prime_small 30 (by decide) (by decide) (by decide +kernel)
theorem r8574133 : Root 8574133 2 := root_of_check (f := 24) (l := [2, 2, 3, 7, 103, 991]) (by simp only [List.mem_cons, List.not_mem_nil, or_false]; rintro q (rfl | rfl | rfl | rfl | rfl | rfl) <;> first | exact p2 | exact p3 | exact p7 | exact p103 | exact p991) (by decide +kernel)
theorem p8574133 : IsPrime 8574133 := r8574133.prime
theorem r1919519569386763 : Root 1919519569386763 2 := root_of_check (f := 51) (l := [2, 3, 7, 19, 47, 47, 127, 8574133]) (by simp only [List.mem_cons, List.not_mem_nil, or_false]; rintro q (rfl | rfl | rfl | rfl | rfl | rfl | rfl | rfl) <;> first | exact p2 | exact p3 | exact p7 | exact p19 | exact p47 | exact p127 | exact p8574133) (by decide +kernel)
theorem p1919519569386763 : IsPrime 1919519569386763 := r1919519569386763.prime
theorem r75445702479781427272750846543864801 : Root 75445702479781427272750846543864801 7 := root_of_check (f := 116) (l := [2, 2, 2, 2, 2, 3, 3, 5, 5, 75707, 72106336199, 1919519569386763]) (by simp only [List.mem_cons, List.not_mem_nil, or_false]; rintro q (rfl | rfl | rfl | rfl | rfl | rfl | rfl | rfl | rfl | rfl | rfl | rfl) <;> first | exact p2 | exact p3 | exact p5 | exact p75707 | exact p72106336199 | exact p1919519569386763) (by decide +kernel)
theorem p75445702479781427272750846543864801 : IsPrime 75445702479781427272750846543864801 := r75445702479781427272750846543864801.prime
theorem r74058212732561358302231226437062788676166966415465897661863160754340907 : Root 74058212732561358302231226437062788676166966415465897661863160754340907 2 := root_of_check (f := 236) (l := [2, 3, 353, 57467, 132049, 1923133, 31757755568855353, 75445702479781427272750846543864801]) (by simp only [List.mem_cons, List.not_mem_nil, or_false]; rintro q (rfl | rfl | rfl | rfl | rfl | rfl | rfl | rfl) <;> first | exact p2 | exact p3 | exact p353 | exact p57467 | exact p132049 | exact p1923133 | exact p31757755568855353 | exact p75445702479781427272750846543864801) (by decide +kernel)
theorem p74058212732561358302231226437062788676166966415465897661863160754340907 : IsPrime 74058212732561358302231226437062788676166966415465897661863160754340907 := r74058212732561358302231226437062788676166966415465897661863160754340907.prime
theorem r57896044618658097711785492504343953926634992332820282019728792003956564819949 : Root 57896044618658097711785492504343953926634992332820282019728792003956564819949 2 := root_of_check (f := 255) (l := [2, 2, 3, 65147, 74058212732561358302231226437062788676166966415465897661863160754340907]) (by simp only [List.mem_cons, List.not_mem_nil, or_false]; rintro q (rfl | rfl | rfl | rfl | rfl) <;> first | exact p2 | exact p3 | exact p65147 | exact p74058212732561358302231226437062788676166966415465897661863160754340907) (by decide +kernel)
theorem p57896044618658097711785492504343953926634992332820282019728792003956564819949 : IsPrime 57896044618658097711785492504343953926634992332820282019728792003956564819949 := r57896044618658097711785492504343953926634992332820282019728792003956564819949.prime
theorem p11 : IsPrime 11 := prime_small 2 (by decide) (by decide) (by decide +kernel)
theorem p23 : IsPrime 23 := prime_small 3 (by decide) (by decide) (by decide +kernel)
theorem p34123 : IsPrime 34123 := prime_small 183 (by decide) (by decide) (by decide +kernel)
theorem r409477 : Root 409477 2 := root_of_check (f := 19) (l := [2, 2, 3, 34123]) (by simp only [List.mem_cons, List.not_mem_nil, or_false]; rintro q (rfl | rfl | rfl | rfl) <;> first | exact p2 | exact p3 | exact p34123) (by decide +kernel)
theorem p409477 : IsPrime 409477 := r409477.prime
theorem r14741173 : Root 14741173 2 := root_of_check (f := 24) (l := [2, 2, 3, 3, 409477]) (by simp only [List.mem_cons, List.not_mem_nil, or_false]; rintro q (rfl | rfl | rfl | rfl | rfl) <;> first | exact p2 | exact p3 | exact p409477) (by decide +kernel)
theorem p14741173 : IsPrime 14741173 := r14741173.prime
theorem r58964693 : Root 58964693 2 := root_of_check (f := 26) (l := [2, 2, 14741173]) (by simp only [List.mem_cons, List.not_mem_nil, or_false]; rintro q (rfl | rfl | rfl) <;> first | exact p2 | exact p14741173) (by decide +kernel)
theorem p58964693 : IsPrime 58964693 := r58964693.prime
theorem p30703 : IsPrime 30703 := prime_small 174 (by decide) (by decide) (by decide +kernel)
theorem p82163 : IsPrime 82163 := prime_small 285 (by decide) (by decide) (by decide +kernel)
theorem p22111 : IsPrime 22111 := prime_small 147 (by decide) (by decide) (by decide +kernel)
theorem r132667 : Root 132667 5 := root_of_check (f := 18) (l := [2, 3, 22111]) (by simp only [List.mem_cons, List.not_mem_nil, or_false]; rintro q (rfl | rfl | rfl) <;> first | exact p2 | exact p3 | exact p22111) (by decide +kernel)
theorem p132667 : IsPrime 132667 := r132667.prime
theorem p17231 : IsPrime 17231 := prime_small 130 (by decide) (by decide) (by decide +kernel)
theorem r137849 : Root 137849 3 := root_of_check (f := 18) (l := [2, 2, 2, 17231]) (by simp only [List.mem_cons, List.not_mem_nil, or_false]; rintro q (rfl | rfl | rfl | rfl) <;> first | exact p2 | exact p17231) (by decide +kernel)
theorem p137849 : IsPrime 137849 := r137849.prime
theorem r3044861653679985063343 : Root 3044861653679985063343 5 := root_of_check (f := 72) (l := [2, 3, 11, 30703, 82163, 132667, 137849]) (by simp only [List.mem_cons, List.not_mem_nil, or_false]; rintro q (rfl | rfl | rfl | rfl | rfl | rfl | rfl) <;> first | exact p2 | exact p3 | exact p11 | exact p30703 | exact p82163 | exact p132667 | exact p137849) (by decide +kernel)
theorem p3044861653679985063343 : IsPrime 3044861653679985063343 := r3044861653679985063343.prime
theorem r198211423230930754013084525763697 : Root 198211423230930754013084525763697 5 := root_of_check (f := 108) (l := [2, 2, 2, 2, 3, 23, 58964693, 3044861653679985063343]) (by simp only [List.mem_cons, List.not_mem_nil, or_false]; rintro q (rfl | rfl | rfl | rfl | rfl | rfl | rfl | rfl) <;> first | exact p2 | exact p3 | exact p23 | exact p58964693 | exact p3044861653679985063343) (by decide +kernel)
theorem p198211423230930754013084525763697 : IsPrime 198211423230930754013084525763697 := r198211423230930754013084525763697.prime
theorem p269 : IsPrime 269 := prime_small 15 (by decide) (by decide) (by decide +kernel)
theorem p73 : IsPrime 73 := prime_small 7 (by decide) (by decide) (by decide +kernel)
theorem p307 : IsPrime 307 := prime_small 16 (by decide) (by decide) (by decide +kernel)
theorem p5879 : IsPrime 5879 := prime_small 75 (by decide) (by decide) (by decide +kernel)
theorem r292386187 : Root 292386187 2 := root_of_check (f := 29) (l := [2, 3, 3, 3, 3, 307, 5879]) (by simp only [List.mem_cons, List.not_mem_nil, or_false]; rintro q (rfl | rfl | rfl | rfl | rfl | rfl | rfl) <;> first | exact p2 | exact p3 | exact p307 | exact p5879) (by decide +kernel)
theorem p292386187 : IsPrime 292386187 := r292386187.prime
theorem r213441916511 : Root 213441916511 13 := root_of_check (f := 38) (l := [2, 5, 73, 292386187]) (by simp only [List.mem_cons, List.not_mem_nil, or_false]; rintro q (rfl | rfl | rfl | rfl) <;> first | exact p2 | exact p5 | exact p73 | exact p292386187) (by decide +kernel)
theorem p213441916511 : IsPrime 213441916511 := r213441916511.prime
theorem p1361 : IsPrime 1361 := prime_small 35 (by decide) (by decide) (by decide +kernel)
theorem p2851 : IsPrime 2851 := prime_small 52 (by decide) (by decide) (by decide +kernel)
theorem p41 : IsPrime 41 := prime_small 5 (by decide) (by decide) (by decide +kernel)
theorem p3797 : IsPrime 3797 := prime_small 60 (by decide) (by decide) (by decide +kernel)
theorem r531581 : Root 531581 2 := root_of_check (f := 20) (l := [2, 2, 5, 7, 3797]) (by simp only [List.mem_cons, List.not_mem_nil, or_false]; rintro q (rfl | rfl | rfl | rfl | rfl) <;> first | exact p2 | exact p5 | exact p7 | exact p3797) (by decide +kernel)
theorem p531581 : IsPrime 531581 := r531581.prime
theorem p2551 : IsPrime 2551 := prime_small 49 (by decide) (by decide) (by decide +kernel)
theorem r1224481 : Root 1224481 13 := root_of_check (f := 21) (l := [2, 2, 2, 2, 2, 3, 5, 2551]) (by simp only [List.mem_cons, List.not_mem_nil, or_false]; rintro q (rfl | rfl | rfl | rfl | rfl | rfl | rfl | rfl) <;> first | exact p2 | exact p3 | exact p5 | exact p2551) (by decide +kernel)
theorem p1224481 : IsPrime 1224481 := r1224481.prime
theorem r1257559732178653 : Root 1257559732178653 2 := root_of_check (f := 51) (l := [2, 2, 3, 7, 23, 531581, 1224481]) (by simp only [List.mem_cons, List.not_mem_nil, or_false]; rintro q (rfl | rfl | rfl | rfl | rfl | rfl | rfl) <;> first | exact p2 | exact p3 | exact p7 | exact p23 | exact p531581 | exact p1224481) (by decide +kernel)
theorem p1257559732178653 : IsPrime 1257559732178653 := r1257559732178653.prime
theorem r4434155615661930479 : Root 4434155615661930479 17 := root_of_check (f := 62) (l := [2, 41, 43, 1257559732178653]) (by simp only [List.mem_cons, List.not_mem_nil, or_false]; rintro q (rfl | rfl | rfl | rfl) <;> first | exact p2 | exact p41 | exact p43 | exact p1257559732178653) (by decide +kernel)
theorem p4434155615661930479 : IsPrime 4434155615661930479 := r4434155615661930479.prime
theorem r172054593956031949258510691 : Root 172054593956031949258510691 2 := root_of_check (f := 88) (l := [2, 5, 1361, 2851, 4434155615661930479]) (by simp only [List.mem_cons, List.not_mem_nil, or_false]; rintro q (rfl | rfl | rfl | rfl | rfl) <;> first | exact p2 | exact p5 | exact p1361 | exact p2851 | exact p4434155615661930479) (by decide +kernel)
theorem p172054593956031949258510691 : IsPrime 172054593956031949258510691 := r172054593956031949258510691.prime
theorem r19757330305831588566944191468367130476339 : Root 19757330305831588566944191468367130476339 2 := root_of_check (f := 134) (l := [2, 269, 213441916511, 172054593956031949258510691]) (by simp only [List.mem_cons, List.not_mem_nil, or_false]; rintro q (rfl | rfl | rfl | rfl) <;> first | exact p2 | exact p269 | exact p213441916511 | exact p172054593956031949258510691) (by decide +kernel)
theorem p19757330305831588566944191468367130476339 : IsPrime 19757330305831588566944191468367130476339 := r19757330305831588566944191468367130476339.prime
theorem r276602624281642239937218680557139826668747 : Root 276602624281642239937218680557139826668747 2 := root_of_check (f := 138) (l := [2, 7, 19757330305831588566944191468367130476339]) (by simp only [List.mem_cons, List.not_mem_nil, or_false]; rintro q (rfl | rfl | rfl) <;> first | exact p2 | exact p7 | exact p19757330305831588566944191468367130476339) (by decide +kernel)
theorem p276602624281642239937218680557139826668747 : IsPrime 276602624281642239937218680557139826668747 := r276602624281642239937218680557139826668747.prime
theorem r7237005577332262213973186563042994240857116359379907606001950938285454250989 : Root 7237005577332262213973186563042994240857116359379907606001950938285454250989 2 := root_of_check (f := 253) (l := [2, 2, 3, 11, 198211423230930754013084525763697, 276602624281642239937218680557139826668747]) (by simp only [List.mem_cons, List.not_mem_nil, or_false]; rintro q (rfl | rfl | rfl | rfl | rfl | rfl) <;> first | exact p2 | exact p3 | exact p11 | exact p198211423230930754013084525763697 | exact p276602624281642239937218680557139826668747) (by decide +kernel)
end BJ
end

section
namespace BJ
/-- the prime of the field -/
abbrev pp : Nat := 57896044618658097711785492504343953926634992332820282019728792003956564819949
abbrev F := Fin pp
instance : NeZero pp := ⟨by decide⟩
theorem pp_prime : IsPrime pp := p57896044618658097711785492504343953926634992332820282019728792003956564819949
theorem F.mul_eq_zero {a b : F} (h : a * b = 0) : a = 0 ∨ b = 0 := by
  have h1 : (a.val * b.val) % pp = 0 := by
    have := congrArg Fin.val h
    rwa [Fin.val_mul] at this
  rcases pp_prime.dvd_mul (Nat.dvd_of_mod_eq_zero h1) with h2 | h2
  · exact .inl (Fin.ext (Nat.eq_zero_of_dvd_of_lt h2 a.isLt))
  · exact .inr (Fin.ext (Nat.eq_zero_of_dvd_of_lt h2 b.isLt))
theorem F.mz (a : F) : a * 0 = 0 := by grobner
theorem F.az : (0 : F) + 0 = 0 := by grobner
theorem F.mul_ne {a b : F} (ha : a ≠ 0) (hb : b ≠ 0) : a * b ≠ 0 := fun h =>
  (F.mul_eq_zero h).elim ha hb
theorem F.cancel {a b c : F} (hc : c ≠ 0) (h : a * c = b * c) : a = b := by
  have : (a - b) * c = 0 := by grobner
  rcases F.mul_eq_zero this with h1 | h1
  · grobner
  · exact absurd h1 hc
/-- powers -/
def F.pow (a : F) (n : Nat) : F := ⟨a.val ^ n % pp, Nat.mod_lt _ (by decide)⟩
theorem F.pow_zero (a : F) : F.pow a 0 = 1 := by
  apply Fin.ext; simp [F.pow]
theorem F.pow_succ (a : F) (n : Nat) : F.pow a (n + 1) = F.pow a n * a := by
  apply Fin.ext
  simp only [F.pow, Fin.val_mul, Nat.pow_succ]
  rw [Nat.mul_mod, Nat.mod_eq_of_lt a.isLt]
/-- the inverse -/
def F.inv (a : F) : F := F.pow a (pp - 2)
theorem F.val_ne {a : F} (h : a ≠ 0) : a.val % pp ≠ 0 := by
  rw [Nat.mod_eq_of_lt a.isLt]
  intro e
  exact h (Fin.ext e)
theorem pp_root : Root pp 2 := r57896044618658097711785492504343953926634992332820282019728792003956564819949
theorem F.inv_mul {a : F} (h : a ≠ 0) : a * F.inv a = 1 := by
  have hf := pp_root.fermat (F.val_ne h)
  apply Fin.ext
  show (a.val * (a.val ^ (pp - 2) % pp)) % pp = 1 % pp
  rw [Nat.mul_mod, Nat.mod_mod, ← Nat.mul_mod, Nat.mul_comm, ← Nat.pow_succ]
  rw [show Nat.succ (pp - 2) = pp - 1 from by decide, hf]
  decide
/-- the curve's number -/
def dd : F := 37095705934669439343138083508754565189542113879843219016388785533085940283555
/-- a root of -1 -/
def ii : F := 19681161376707505956807079304988542015446066515923890162744021073123829784752
theorem ii_sq : ii * ii = -1 := by decide +kernel
theorem dd_ne : dd ≠ 0 := by decide +kernel
/-- no square is d -/
theorem dd_nonsquare (s : F) : s * s ≠ dd := by
  intro h
  have hs : s ≠ 0 := by
    rintro rfl
    exact dd_ne (by rw [← h]; decide +kernel)
  have hf := pp_root.fermat (F.val_ne hs)
  have h1 : (s.val * s.val) % pp = dd.val := by
    have := congrArg Fin.val h
    rwa [Fin.val_mul] at this
  have h2 : dd.val ^ ((pp - 1) / 2) % pp = 1 := by
    rw [← h1, ← Nat.pow_mod, ← Nat.pow_two, ← Nat.pow_mul]
    rw [show 2 * ((pp - 1) / 2) = pp - 1 from by decide]
    exact hf
  rw [← pm_eq pp 255 _ _ (by decide +kernel)] at h2
  revert h2
  decide +kernel
theorem two_ne : (2 : F) ≠ 0 := by decide +kernel
def OnC (x y : F) : Prop := y * y - x * x = 1 + dd * (x * x) * (y * y)
theorem OnC.zero {x y : F} (h : OnC x y) : y * y - x * x - (1 + dd * (x * x) * (y * y)) = 0 := by unfold OnC at h; grobner
theorem denom {x1 y1 x2 y2 e : F} (h1 : OnC x1 y1) (h2 : OnC x2 y2) (he : e * e = 1) : dd * x1 * x2 * y1 * y2 ≠ e := by
  intro hd
  unfold OnC at h1 h2
  have e0 : e ≠ 0 := by rintro rfl; revert he; decide +kernel
  have hx1 : x1 ≠ 0 := by rintro rfl; apply e0; rw [← hd]; grobner
  have hy1 : y1 ≠ 0 := by rintro rfl; apply e0; rw [← hd]; grobner
  have hy2 : y2 ≠ 0 := by rintro rfl; apply e0; rw [← hd]; grobner
  have hi := ii_sq
  -- d (x1 y1)^2 (y2 + s i x2)^2 = (y1 + s e i x1)^2, of both signs
  have k1 : dd * ((x1 * y1 * (y2 + ii * x2)) * (x1 * y1 * (y2 + ii * x2))) = (y1 + e * ii * x1) * (y1 + e * ii * x1) := by grobner
  have k2 : dd * ((x1 * y1 * (y2 - ii * x2)) * (x1 * y1 * (y2 - ii * x2))) = (y1 - e * ii * x1) * (y1 - e * ii * x1) := by grobner
  have sq : ∀ t u : F, dd * (t * t) = u * u → t = 0 := by
    intro t u h
    refine Classical.byContradiction fun ht => ?_
    apply dd_nonsquare (u * F.inv t)
    have hv := F.inv_mul ht
    have : u * F.inv t * (u * F.inv t) = (u * u) * (F.inv t * F.inv t) := by grobner
    rw [this, ← h]
    have : dd * (t * t) * (F.inv t * F.inv t) = dd * ((t * F.inv t) * (t * F.inv t)) := by grobner
    rw [this, hv]; grobner
  have z1 := sq _ _ k1
  have z2 := sq _ _ k2
  have hxy := F.mul_ne hx1 hy1
  have w1 : y2 + ii * x2 = 0 := (F.mul_eq_zero z1).resolve_left hxy
  have w2 : y2 - ii * x2 = 0 := (F.mul_eq_zero z2).resolve_left hxy
  have : (2 : F) * y2 = 0 := by grobner
  exact hy2 ((F.mul_eq_zero this).resolve_left two_ne)
theorem denom_plus {x1 y1 x2 y2 : F} (h1 : OnC x1 y1) (h2 : OnC x2 y2) : 1 + dd * x1 * x2 * y1 * y2 ≠ 0 := by
  intro h
  exact denom h1 h2 (e := -1) (by decide +kernel) (by grobner)
theorem denom_minus {x1 y1 x2 y2 : F} (h1 : OnC x1 y1) (h2 : OnC x2 y2) : 1 - dd * x1 * x2 * y1 * y2 ≠ 0 := by
  intro h
  exact denom h1 h2 (e := 1) (by decide +kernel) (by grobner)
/-- a point of the curve -/
structure Pt where
  x : F
  y : F
  on : OnC x y
theorem Pt.ext' {p q : Pt} (hx : p.x = q.x) (hy : p.y = q.y) : p = q := by
  cases p; cases q; simp at hx hy; subst hx hy; rfl
def addX (x1 y1 x2 y2 : F) : F := (x1 * y2 + y1 * x2) * F.inv (1 + dd * x1 * x2 * y1 * y2)
def addY (x1 y1 x2 y2 : F) : F := (y1 * y2 + x1 * x2) * F.inv (1 - dd * x1 * x2 * y1 * y2)
theorem addX_mul {x1 y1 x2 y2 : F} (h1 : OnC x1 y1) (h2 : OnC x2 y2) : addX x1 y1 x2 y2 * (1 + dd * x1 * x2 * y1 * y2) = x1 * y2 + y1 * x2 := by
  have := F.inv_mul (denom_plus h1 h2)
  unfold addX
  generalize F.inv (1 + dd * x1 * x2 * y1 * y2) = v at *
  grobner
theorem addY_mul {x1 y1 x2 y2 : F} (h1 : OnC x1 y1) (h2 : OnC x2 y2) : addY x1 y1 x2 y2 * (1 - dd * x1 * x2 * y1 * y2) = y1 * y2 + x1 * x2 := by
  have := F.inv_mul (denom_minus h1 h2)
  unfold addY
  generalize F.inv (1 - dd * x1 * x2 * y1 * y2) = v at *
  grobner
theorem closure_id (d x1 y1 x2 y2 : F) : ((y1 * y2 + x1 * x2) * (y1 * y2 + x1 * x2)) * ((1 + d * x1 * x2 * y1 * y2) * (1 + d * x1 * x2 * y1 * y2)) - ((x1 * y2 + y1 * x2) * (x1 * y2 + y1 * x2)) * ((1 - d * x1 * x2 * y1 * y2) * (1 - d * x1 * x2 * y1 * y2)) - ((1 + d * x1 * x2 * y1 * y2) * (1 + d * x1 * x2 * y1 * y2)) * ((1 - d * x1 * x2 * y1 * y2) * (1 - d * x1 * x2 * y1 * y2)) - d * ((x1 * y2 + y1 * x2) * (x1 * y2 + y1 * x2)) * ((y1 * y2 + x1 * x2) * (y1 * y2 + x1 * x2)) = (y2 * y2 * y2 * y2 - 4 * x2 * x2 * y2 * y2 - 2 * x2 * x2 * y2 * y2 * d + 2 * x2 * x2 * y2 * y2 * y2 * y2 + x2 * x2 * x2 * x2 - 2 * x2 * x2 * x2 * x2 * y2 * y2 - 2 * x2 * x2 * x2 * x2 * y2 * y2 * y2 * y2 * d - x2 * x2 * x2 * x2 * y2 * y2 * y2 * y2 * d * d - y1 * y1 * x2 * x2 * y2 * y2 * y2 * y2 * d + y1 * y1 * x2 * x2 * x2 * x2 * y2 * y2 * d + y1 * y1 * x2 * x2 * x2 * x2 * y2 * y2 * y2 * y2 * d * d + x1 * x1 * x2 * x2 * y2 * y2 * y2 * y2 * d - x1 * x1 * x2 * x2 * x2 * x2 * y2 * y2 * d - x1 * x1 * x2 * x2 * x2 * x2 * y2 * y2 * y2 * y2 * d * d + x1 * x1 * y1 * y1 * x2 * x2 * x2 * x2 * y2 * y2 * y2 * y2 * d * d * d) * (y1 * y1 - x1 * x1 - (1 + d * (x1 * x1) * (y1 * y1))) + (1 + y2 * y2 - x2 * x2 + 2 * x2 * x2 * y2 * y2 + x2 * x2 * y2 * y2 * d - y1 * y1 * y2 * y2 + y1 * y1 * x2 * x2 - 2 * y1 * y1 * x2 * x2 * y2 * y2 - 2 * y1 * y1 * x2 * x2 * y2 * y2 * d + y1 * y1 * y1 * y1 * x2 * x2 * y2 * y2 * d + x1 * x1 * y2 * y2 - x1 * x1 * x2 * x2 + 2 * x1 * x1 * x2 * x2 * y2 * y2 + 2 * x1 * x1 * x2 * x2 * y2 * y2 * d + x1 * x1 * x1 * x1 * x2 * x2 * y2 * y2 * d) * (y2 * y2 - x2 * x2 - (1 + d * (x2 * x2) * (y2 * y2))) := by grobner
theorem assoc_x_id (d x1 y1 x2 y2 x3 y3 : F) : ((x1 * y2 + y1 * x2) * (1 - d * x1 * x2 * y1 * y2) * y3 + (y1 * y2 + x1 * x2) * (1 + d * x1 * x2 * y1 * y2) * x3) * ((1 + d * x2 * x3 * y2 * y3) * (1 - d * x2 * x3 * y2 * y3) + d * x1 * y1 * (x2 * y3 + y2 * x3) * (y2 * y3 + x2 * x3)) - (x1 * (y2 * y3 + x2 * x3) * (1 + d * x2 * x3 * y2 * y3) + y1 * (x2 * y3 + y2 * x3) * (1 - d * x2 * x3 * y2 * y3)) * ((1 + d * x1 * x2 * y1 * y2) * (1 - d * x1 * x2 * y1 * y2) + d * (x1 * y2 + y1 * x2) * (y1 * y2 + x1 * x2) * x3 * y3) = (- y1 * x2 * y2 * y2 * y2 * y2 * x3 * x3 * y3 * d - y1 * x2 * x2 * y2 * y2 * y2 * x3 * d - y1 * x2 * x2 * y2 * y2 * y2 * x3 * x3 * x3 * d - y1 * x2 * x2 * x2 * y2 * y2 * y3 * d + y1 * x2 * x2 * x2 * y2 * y2 * y3 * y3 * y3 * d + y1 * x2 * x2 * x2 * y2 * y2 * y2 * y2 * x3 * x3 * y3 * d * d + y1 * x2 * x2 * x2 * x2 * y2 * x3 * y3 * y3 * d + y1 * x2 * x2 * x2 * x2 * y2 * y2 * y2 * x3 * y3 * y3 * d * d + x1 * x2 * y2 * y2 * y2 * y2 * x3 * y3 * y3 * d - x1 * x2 * x2 * y2 * y2 * y2 * y3 * d + x1 * x2 * x2 * y2 * y2 * y2 * y3 * y3 * y3 * d - x1 * x2 * x2 * x2 * y2 * y2 * x3 * d - x1 * x2 * x2 * x2 * y2 * y2 * x3 * x3 * x3 * d - x1 * x2 * x2 * x2 * y2 * y2 * y2 * y2 * x3 * y3 * y3 * d * d - x1 * x2 * x2 * x2 * x2 * y2 * x3 * x3 * y3 * d - x1 * x2 * x2 * x2 * x2 * y2 * y2 * y2 * x3 * x3 * y3 * d * d) * (y1 * y1 - x1 * x1 - (1 + d * (x1 * x1) * (y1 * y1))) + (y1 * y2 * x3 - y1 * y2 * x3 * y3 * y3 + y1 * y2 * x3 * x3 * x3 + y1 * y2 * x3 * x3 * x3 * y3 * y3 * d + y1 * x2 * y3 - y1 * x2 * y3 * y3 * y3 + y1 * x2 * x3 * x3 * y3 + y1 * x2 * x3 * x3 * y3 * y3 * y3 * d - y1 * x2 * y2 * y2 * x3 * x3 * y3 * d - y1 * x2 * x2 * y2 * x3 * y3 * y3 * d - y1 * y1 * y1 * y2 * x3 + y1 * y1 * y1 * y2 * x3 * y3 * y3 - y1 * y1 * y1 * y2 * x3 * x3 * x3 - y1 * y1 * y1 * y2 * x3 * x3 * x3 * y3 * y3 * d - y1 * y1 * y1 * x2 * y3 + y1 * y1 * y1 * x2 * y3 * y3 * y3 - y1 * y1 * y1 * x2 * x3 * x3 * y3 - y1 * y1 * y1 * x2 * x3 * x3 * y3 * y3 * y3 * d + y1 * y1 * y1 * x2 * y2 * y2 * x3 * x3 * y3 * d + y1 * y1 * y1 * x2 * x2 * y2 * x3 * y3 * y3 * d + x1 * y2 * y3 - x1 * y2 * y3 * y3 * y3 + x1 * y2 * x3 * x3 * y3 + x1 * y2 * x3 * x3 * y3 * y3 * y3 * d + x1 * x2 * x3 - x1 * x2 * x3 * y3 * y3 + x1 * x2 * x3 * x3 * x3 + x1 * x2 * x3 * x3 * x3 * y3 * y3 * d + x1 * x2 * y2 * y2 * x3 * y3 * y3 * d + x1 * x2 * x2 * y2 * x3 * x3 * y3 * d - x1 * y1 * y1 * y2 * y3 + x1 * y1 * y1 * y2 * y3 * y3 * y3 - x1 * y1 * y1 * y2 * x3 * x3 * y3 - x1 * y1 * y1 * y2 * x3 * x3 * y3 * y3 * y3 * d - x1 * y1 * y1 * x2 * x3 + x1 * y1 * y1 * x2 * x3 * y3 * y3 - x1 * y1 * y1 * x2 * x3 * x3 * x3 - x1 * y1 * y1 * x2 * x3 * x3 * x3 * y3 * y3 * d - x1 * y1 * y1 * x2 * y2 * y2 * x3 * y3 * y3 * d + x1 * y1 * y1 * x2 * y2 * y2 * x3 * x3 * x3 * y3 * y3 * d * d - x1 * y1 * y1 * x2 * x2 * y2 * x3 * x3 * y3 * d - x1 * y1 * y1 * x2 * x2 * y2 * x3 * x3 * y3 * y3 * y3 * d * d + x1 * x1 * y1 * y2 * x3 - x1 * x1 * y1 * y2 * x3 * y3 * y3 + x1 * x1 * y1 * y2 * x3 * x3 * x3 + x1 * x1 * y1 * y2 * x3 * x3 * x3 * y3 * y3 * d + x1 * x1 * y1 * x2 * y3 - x1 * x1 * y1 * x2 * y3 * y3 * y3 + x1 * x1 * y1 * x2 * x3 * x3 * y3 + x1 * x1 * y1 * x2 * x3 * x3 * y3 * y3 * y3 * d - x1 * x1 * y1 * x2 * y2 * y2 * x3 * x3 * y3 * d - x1 * x1 * y1 * x2 * y2 * y2 * x3 * x3 * y3 * y3 * y3 * d * d - x1 * x1 * y1 * x2 * x2 * y2 * x3 * y3 * y3 * d + x1 * x1 * y1 * x2 * x2 * y2 * x3 * x3 * x3 * y3 * y3 * d * d + x1 * x1 * x1 * y2 * y3 - x1 * x1 * x1 * y2 * y3 * y3 * y3 + x1 * x1 * x1 * y2 * x3 * x3 * y3 + x1 * x1 * x1 * y2 * x3 * x3 * y3 * y3 * y3 * d + x1 * x1 * x1 * x2 * x3 - x1 * x1 * x1 * x2 * x3 * y3 * y3 + x1 * x1 * x1 * x2 * x3 * x3 * x3 + x1 * x1 * x1 * x2 * x3 * x3 * x3 * y3 * y3 * d + x1 * x1 * x1 * x2 * y2 * y2 * x3 * y3 * y3 * d + x1 * x1 * x1 * x2 * x2 * y2 * x3 * x3 * y3 * d) * (y2 * y2 - x2 * x2 - (1 + d * (x2 * x2) * (y2 * y2))) + (- y1 * y2 * x3 + y1 * y2 * y2 * y2 * x3 - y1 * x2 * y3 + y1 * x2 * y2 * y2 * y3 - y1 * x2 * x2 * y2 * x3 - y1 * x2 * x2 * x2 * y3 + y1 * y1 * y1 * y2 * x3 - y1 * y1 * y1 * y2 * y2 * y2 * x3 + y1 * y1 * y1 * x2 * y3 - y1 * y1 * y1 * x2 * y2 * y2 * y3 + y1 * y1 * y1 * x2 * x2 * y2 * x3 + y1 * y1 * y1 * x2 * x2 * x2 * y3 - x1 * y2 * y3 + x1 * y2 * y2 * y2 * y3 - x1 * x2 * x3 + x1 * x2 * y2 * y2 * x3 - x1 * x2 * x2 * y2 * y3 - x1 * x2 * x2 * x2 * x3 + x1 * y1 * y1 * y2 * y3 - x1 * y1 * y1 * y2 * y2 * y2 * y3 + x1 * y1 * y1 * x2 * x3 - x1 * y1 * y1 * x2 * y2 * y2 * x3 - x1 * y1 * y1 * x2 * y2 * y2 * x3 * d + x1 * y1 * y1 * x2 * x2 * y2 * y3 + x1 * y1 * y1 * x2 * x2 * y2 * y3 * d + x1 * y1 * y1 * x2 * x2 * x2 * x3 - x1 * x1 * y1 * y2 * x3 + x1 * x1 * y1 * y2 * y2 * y2 * x3 - x1 * x1 * y1 * x2 * y3 + x1 * x1 * y1 * x2 * y2 * y2 * y3 + x1 * x1 * y1 * x2 * y2 * y2 * y3 * d - x1 * x1 * y1 * x2 * x2 * y2 * x3 - x1 * x1 * y1 * x2 * x2 * y2 * x3 * d - x1 * x1 * y1 * x2 * x2 * x2 * y3 - x1 * x1 * x1 * y2 * y3 + x1 * x1 * x1 * y2 * y2 * y2 * y3 - x1 * x1 * x1 * x2 * x3 + x1 * x1 * x1 * x2 * y2 * y2 * x3 - x1 * x1 * x1 * x2 * x2 * y2 * y3 - x1 * x1 * x1 * x2 * x2 * x2 * x3) * (y3 * y3 - x3 * x3 - (1 + d * (x3 * x3) * (y3 * y3))) := by grobner
theorem assoc_y_id (d x1 y1 x2 y2 x3 y3 : F) : ((y1 * y2 + x1 * x2) * (1 + d * x1 * x2 * y1 * y2) * y3 + (x1 * y2 + y1 * x2) * (1 - d * x1 * x2 * y1 * y2) * x3) * ((1 + d * x2 * x3 * y2 * y3) * (1 - d * x2 * x3 * y2 * y3) - d * x1 * y1 * (x2 * y3 + y2 * x3) * (y2 * y3 + x2 * x3)) - (y1 * (y2 * y3 + x2 * x3) * (1 + d * x2 * x3 * y2 * y3) + x1 * (x2 * y3 + y2 * x3) * (1 - d * x2 * x3 * y2 * y3)) * ((1 + d * x1 * x2 * y1 * y2) * (1 - d * x1 * x2 * y1 * y2) - d * (x1 * y2 + y1 * x2) * (y1 * y2 + x1 * x2) * x3 * y3) = (y1 * x2 * y2 * y2 * y2 * y2 * x3 * y3 * y3 * d - y1 * x2 * x2 * y2 * y2 * y2 * y3 * d + y1 * x2 * x2 * y2 * y2 * y2 * y3 * y3 * y3 * d - y1 * x2 * x2 * x2 * y2 * y2 * x3 * d - y1 * x2 * x2 * x2 * y2 * y2 * x3 * x3 * x3 * d - y1 * x2 * x2 * x2 * y2 * y2 * y2 * y2 * x3 * y3 * y3 * d * d - y1 * x2 * x2 * x2 * x2 * y2 * x3 * x3 * y3 * d - y1 * x2 * x2 * x2 * x2 * y2 * y2 * y2 * x3 * x3 * y3 * d * d - x1 * x2 * y2 * y2 * y2 * y2 * x3 * x3 * y3 * d - x1 * x2 * x2 * y2 * y2 * y2 * x3 * d - x1 * x2 * x2 * y2 * y2 * y2 * x3 * x3 * x3 * d - x1 * x2 * x2 * x2 * y2 * y2 * y3 * d + x1 * x2 * x2 * x2 * y2 * y2 * y3 * y3 * y3 * d + x1 * x2 * x2 * x2 * y2 * y2 * y2 * y2 * x3 * x3 * y3 * d * d + x1 * x2 * x2 * x2 * x2 * y2 * x3 * y3 * y3 * d + x1 * x2 * x2 * x2 * x2 * y2 * y2 * y2 * x3 * y3 * y3 * d * d) * (y1 * y1 - x1 * x1 - (1 + d * (x1 * x1) * (y1 * y1))) + (y1 * y2 * y3 - y1 * y2 * y3 * y3 * y3 + y1 * y2 * x3 * x3 * y3 + y1 * y2 * x3 * x3 * y3 * y3 * y3 * d + y1 * x2 * x3 - y1 * x2 * x3 * y3 * y3 + y1 * x2 * x3 * x3 * x3 + y1 * x2 * x3 * x3 * x3 * y3 * y3 * d + y1 * x2 * y2 * y2 * x3 * y3 * y3 * d + y1 * x2 * x2 * y2 * x3 * x3 * y3 * d - y1 * y1 * y1 * y2 * y3 + y1 * y1 * y1 * y2 * y3 * y3 * y3 - y1 * y1 * y1 * y2 * x3 * x3 * y3 - y1 * y1 * y1 * y2 * x3 * x3 * y3 * y3 * y3 * d - y1 * y1 * y1 * x2 * x3 + y1 * y1 * y1 * x2 * x3 * y3 * y3 - y1 * y1 * y1 * x2 * x3 * x3 * x3 - y1 * y1 * y1 * x2 * x3 * x3 * x3 * y3 * y3 * d - y1 * y1 * y1 * x2 * y2 * y2 * x3 * y3 * y3 * d - y1 * y1 * y1 * x2 * x2 * y2 * x3 * x3 * y3 * d + x1 * y2 * x3 - x1 * y2 * x3 * y3 * y3 + x1 * y2 * x3 * x3 * x3 + x1 * y2 * x3 * x3 * x3 * y3 * y3 * d + x1 * x2 * y3 - x1 * x2 * y3 * y3 * y3 + x1 * x2 * x3 * x3 * y3 + x1 * x2 * x3 * x3 * y3 * y3 * y3 * d - x1 * x2 * y2 * y2 * x3 * x3 * y3 * d - x1 * x2 * x2 * y2 * x3 * y3 * y3 * d - x1 * y1 * y1 * y2 * x3 + x1 * y1 * y1 * y2 * x3 * y3 * y3 - x1 * y1 * y1 * y2 * x3 * x3 * x3 - x1 * y1 * y1 * y2 * x3 * x3 * x3 * y3 * y3 * d - x1 * y1 * y1 * x2 * y3 + x1 * y1 * y1 * x2 * y3 * y3 * y3 - x1 * y1 * y1 * x2 * x3 * x3 * y3 - x1 * y1 * y1 * x2 * x3 * x3 * y3 * y3 * y3 * d + x1 * y1 * y1 * x2 * y2 * y2 * x3 * x3 * y3 * d + x1 * y1 * y1 * x2 * y2 * y2 * x3 * x3 * y3 * y3 * y3 * d * d + x1 * y1 * y1 * x2 * x2 * y2 * x3 * y3 * y3 * d - x1 * y1 * y1 * x2 * x2 * y2 * x3 * x3 * x3 * y3 * y3 * d * d + x1 * x1 * y1 * y2 * y3 - x1 * x1 * y1 * y2 * y3 * y3 * y3 + x1 * x1 * y1 * y2 * x3 * x3 * y3 + x1 * x1 * y1 * y2 * x3 * x3 * y3 * y3 * y3 * d + x1 * x1 * y1 * x2 * x3 - x1 * x1 * y1 * x2 * x3 * y3 * y3 + x1 * x1 * y1 * x2 * x3 * x3 * x3 + x1 * x1 * y1 * x2 * x3 * x3 * x3 * y3 * y3 * d + x1 * x1 * y1 * x2 * y2 * y2 * x3 * y3 * y3 * d - x1 * x1 * y1 * x2 * y2 * y2 * x3 * x3 * x3 * y3 * y3 * d * d + x1 * x1 * y1 * x2 * x2 * y2 * x3 * x3 * y3 * d + x1 * x1 * y1 * x2 * x2 * y2 * x3 * x3 * y3 * y3 * y3 * d * d + x1 * x1 * x1 * y2 * x3 - x1 * x1 * x1 * y2 * x3 * y3 * y3 + x1 * x1 * x1 * y2 * x3 * x3 * x3 + x1 * x1 * x1 * y2 * x3 * x3 * x3 * y3 * y3 * d + x1 * x1 * x1 * x2 * y3 - x1 * x1 * x1 * x2 * y3 * y3 * y3 + x1 * x1 * x1 * x2 * x3 * x3 * y3 + x1 * x1 * x1 * x2 * x3 * x3 * y3 * y3 * y3 * d - x1 * x1 * x1 * x2 * y2 * y2 * x3 * x3 * y3 * d - x1 * x1 * x1 * x2 * x2 * y2 * x3 * y3 * y3 * d) * (y2 * y2 - x2 * x2 - (1 + d * (x2 * x2) * (y2 * y2))) + (- y1 * y2 * y3 + y1 * y2 * y2 * y2 * y3 - y1 * x2 * x3 + y1 * x2 * y2 * y2 * x3 - y1 * x2 * x2 * y2 * y3 - y1 * x2 * x2 * x2 * x3 + y1 * y1 * y1 * y2 * y3 - y1 * y1 * y1 * y2 * y2 * y2 * y3 + y1 * y1 * y1 * x2 * x3 - y1 * y1 * y1 * x2 * y2 * y2 * x3 + y1 * y1 * y1 * x2 * x2 * y2 * y3 + y1 * y1 * y1 * x2 * x2 * x2 * x3 - x1 * y2 * x3 + x1 * y2 * y2 * y2 * x3 - x1 * x2 * y3 + x1 * x2 * y2 * y2 * y3 - x1 * x2 * x2 * y2 * x3 - x1 * x2 * x2 * x2 * y3 + x1 * y1 * y1 * y2 * x3 - x1 * y1 * y1 * y2 * y2 * y2 * x3 + x1 * y1 * y1 * x2 * y3 - x1 * y1 * y1 * x2 * y2 * y2 * y3 - x1 * y1 * y1 * x2 * y2 * y2 * y3 * d + x1 * y1 * y1 * x2 * x2 * y2 * x3 + x1 * y1 * y1 * x2 * x2 * y2 * x3 * d + x1 * y1 * y1 * x2 * x2 * x2 * y3 - x1 * x1 * y1 * y2 * y3 + x1 * x1 * y1 * y2 * y2 * y2 * y3 - x1 * x1 * y1 * x2 * x3 + x1 * x1 * y1 * x2 * y2 * y2 * x3 + x1 * x1 * y1 * x2 * y2 * y2 * x3 * d - x1 * x1 * y1 * x2 * x2 * y2 * y3 - x1 * x1 * y1 * x2 * x2 * y2 * y3 * d - x1 * x1 * y1 * x2 * x2 * x2 * x3 - x1 * x1 * x1 * y2 * x3 + x1 * x1 * x1 * y2 * y2 * y2 * x3 - x1 * x1 * x1 * x2 * y3 + x1 * x1 * x1 * x2 * y2 * y2 * y3 - x1 * x1 * x1 * x2 * x2 * y2 * x3 - x1 * x1 * x1 * x2 * x2 * x2 * y3) * (y3 * y3 - x3 * x3 - (1 + d * (x3 * x3) * (y3 * y3))) := by grobner
theorem add_on {x1 y1 x2 y2 : F} (h1 : OnC x1 y1) (h2 : OnC x2 y2) : OnC (addX x1 y1 x2 y2) (addY x1 y1 x2 y2) := by
  have a := addX_mul h1 h2
  have b := addY_mul h1 h2
  have p := denom_plus h1 h2
  have q := denom_minus h1 h2
  have c := closure_id dd x1 y1 x2 y2
  have z1 := h1.zero
  have z2 := h2.zero
  rw [z1, z2, F.mz, F.mz, F.az] at c
  unfold OnC
  generalize addX x1 y1 x2 y2 = X at *
  generalize addY x1 y1 x2 y2 = Y at *
  rw [← a, ← b] at c
  generalize 1 + dd * x1 * x2 * y1 * y2 = D at *
  generalize 1 - dd * x1 * x2 * y1 * y2 = E at *
  clear a b z1 z2 h1 h2
  have k : (Y * Y - X * X - (1 + dd * (X * X) * (Y * Y))) * ((D * D) * (E * E)) = 0 := by grobner
  rcases F.mul_eq_zero k with k | k
  · grobner
  · exact absurd k (F.mul_ne (F.mul_ne p p) (F.mul_ne q q))
def Pt.add (p q : Pt) : Pt := ⟨addX p.x p.y q.x q.y, addY p.x p.y q.x q.y, add_on p.on q.on⟩
def Pt.zero : Pt := ⟨0, 1, by unfold OnC; grobner⟩
def Pt.neg (p : Pt) : Pt := ⟨-p.x, p.y, by have := p.on; unfold OnC at *; grobner⟩
theorem Pt.add_comm (p q : Pt) : p.add q = q.add p := by
  apply Pt.ext'
  · show addX _ _ _ _ = addX _ _ _ _
    unfold addX
    rw [show p.x * q.y + p.y * q.x = q.x * p.y + q.y * p.x from by grobner, show 1 + dd * p.x * q.x * p.y * q.y = 1 + dd * q.x * p.x * q.y * p.y from by grobner]
  · show addY _ _ _ _ = addY _ _ _ _
    unfold addY
    rw [show p.y * q.y + p.x * q.x = q.y * p.y + q.x * p.x from by grobner, show 1 - dd * p.x * q.x * p.y * q.y = 1 - dd * q.x * p.x * q.y * p.y from by grobner]
theorem Pt.add_zero (p : Pt) : p.add Pt.zero = p := by
  have h1 := addX_mul p.on Pt.zero.on
  have h2 := addY_mul p.on Pt.zero.on
  apply Pt.ext'
  · show addX p.x p.y 0 1 = p.x
    have e : addX p.x p.y 0 1 * (1 + dd * p.x * 0 * p.y * 1) = p.x * 1 + p.y * 0 := h1
    grobner
  · show addY p.x p.y 0 1 = p.y
    have e : addY p.x p.y 0 1 * (1 - dd * p.x * 0 * p.y * 1) = p.y * 1 + p.x * 0 := h2
    grobner
theorem Pt.add_neg (p : Pt) : p.add p.neg = Pt.zero := by
  have h1 := addX_mul p.on p.neg.on
  have h2 := addY_mul p.on p.neg.on
  have d1 := denom_plus p.on p.neg.on
  have d2 := denom_minus p.on p.neg.on
  have ho := p.on
  unfold OnC at ho
  simp only [Pt.neg] at h1 h2 d1 d2
  apply Pt.ext'
  · show addX p.x p.y (-p.x) p.y = 0
    apply F.cancel d1
    rw [h1]; grobner
  · show addY p.x p.y (-p.x) p.y = 1
    apply F.cancel d2
    rw [h2]; grobner
theorem Pt.add_assoc (p q r : Pt) : (p.add q).add r = p.add (q.add r) := by

  obtain ⟨x1, y1, o1⟩ := p
  obtain ⟨x2, y2, o2⟩ := q
  obtain ⟨x3, y3, o3⟩ := r
  have a12 := addX_mul o1 o2
  have b12 := addY_mul o1 o2
  have a23 := addX_mul o2 o3
  have b23 := addY_mul o2 o3
  have p12 := denom_plus o1 o2
  have q12 := denom_minus o1 o2
  have p23 := denom_plus o2 o3
  have q23 := denom_minus o2 o3
  have n12 := add_on o1 o2
  have n23 := add_on o2 o3
  have aL := addX_mul n12 o3
  have bL := addY_mul n12 o3
  have aR := addX_mul o1 n23
  have bR := addY_mul o1 n23
  have pL := denom_plus n12 o3
  have qL := denom_minus n12 o3
  have pR := denom_plus o1 n23
  have qR := denom_minus o1 n23
  have ix := assoc_x_id dd x1 y1 x2 y2 x3 y3
  have iy := assoc_y_id dd x1 y1 x2 y2 x3 y3
  have z1 := o1.zero
  have z2 := o2.zero
  have z3 := o3.zero
  rw [z1, z2, z3, F.mz, F.mz, F.mz, F.az, F.az] at ix iy
  apply Pt.ext'
  · show addX (addX x1 y1 x2 y2) (addY x1 y1 x2 y2) x3 y3 = addX x1 y1 (addX x2 y2 x3 y3) (addY x2 y2 x3 y3)
    clear z1 z2 z3 o1 o2 o3 n12 n23 bL bR iy qL qR
    generalize addX (addX x1 y1 x2 y2) (addY x1 y1 x2 y2) x3 y3 = XL at *
    generalize addX x1 y1 (addX x2 y2 x3 y3) (addY x2 y2 x3 y3) = XR at *
    generalize addX x1 y1 x2 y2 = u at *
    generalize addY x1 y1 x2 y2 = v at *
    generalize addX x2 y2 x3 y3 = s at *
    generalize addY x2 y2 x3 y3 = t at *
    generalize 1 + dd * x1 * x2 * y1 * y2 = D at *
    generalize 1 - dd * x1 * x2 * y1 * y2 = E at *
    generalize 1 + dd * x2 * x3 * y2 * y3 = G at *
    generalize 1 - dd * x2 * x3 * y2 * y3 = H at *
    rw [← a12, ← b12, ← a23, ← b23] at ix
    clear a12 b12 a23 b23
    generalize hA : 1 + dd * u * x3 * v * y3 = A at *
    generalize hB : 1 + dd * x1 * s * y1 * t = B at *
    have k1 : XL * (D * E * A) = (u * y3 + v * x3) * (D * E) := by grobner
    have k2 : XR * (G * H * B) = (x1 * t + y1 * s) * (G * H) := by grobner
    have k3 : (u * y3 + v * x3) * (D * E) * (G * H * B) = (x1 * t + y1 * s) * (G * H) * (D * E * A) := by grobner
    apply F.cancel (F.mul_ne (F.mul_ne (F.mul_ne p12 q12) pL) (F.mul_ne (F.mul_ne p23 q23) pR))
    grobner
  · show addY (addX x1 y1 x2 y2) (addY x1 y1 x2 y2) x3 y3 = addY x1 y1 (addX x2 y2 x3 y3) (addY x2 y2 x3 y3)
    clear z1 z2 z3 o1 o2 o3 n12 n23 aL aR ix pL pR
    generalize addY (addX x1 y1 x2 y2) (addY x1 y1 x2 y2) x3 y3 = XL at *
    generalize addY x1 y1 (addX x2 y2 x3 y3) (addY x2 y2 x3 y3) = XR at *
    generalize addX x1 y1 x2 y2 = u at *
    generalize addY x1 y1 x2 y2 = v at *
    generalize addX x2 y2 x3 y3 = s at *
    generalize addY x2 y2 x3 y3 = t at *
    generalize 1 + dd * x1 * x2 * y1 * y2 = D at *
    generalize 1 - dd * x1 * x2 * y1 * y2 = E at *
    generalize 1 + dd * x2 * x3 * y2 * y3 = G at *
    generalize 1 - dd * x2 * x3 * y2 * y3 = H at *
    rw [← a12, ← b12, ← a23, ← b23] at iy
    clear a12 b12 a23 b23
    generalize hA : 1 - dd * u * x3 * v * y3 = A at *
    generalize hB : 1 - dd * x1 * s * y1 * t = B at *
    have k1 : XL * (D * E * A) = (v * y3 + u * x3) * (D * E) := by grobner
    have k2 : XR * (G * H * B) = (y1 * t + x1 * s) * (G * H) := by grobner
    have k3 : (v * y3 + u * x3) * (D * E) * (G * H * B) = (y1 * t + x1 * s) * (G * H) * (D * E * A) := by grobner
    apply F.cancel (F.mul_ne (F.mul_ne (F.mul_ne p12 q12) qL) (F.mul_ne (F.mul_ne p23 q23) qR))
    grobner
end BJ
end

section
namespace Go.Proofs.Ythdfifcgobfgdaa
open Go Go.Ev
set_option maxRecDepth 100000
abbrev Fe := Vec Int 5
abbrev B32 := Vec Int 32
def w64 (n : Int) : Int := IntKind.u64.wrap n
def and64 (a b : Int) : Int := bitAnd .u64 a b
def shr64 (a b : Int) : Int := shr .u64 a b
def msk : Int := 2251799813685247
def feCarry (x : Fe) : Fe :=
  (w64 (and64 x.1 msk + w64 (shr64 x.2.2.2.2.1 51 * 19)),
   w64 (and64 x.2.1 msk + shr64 x.1 51),
   w64 (and64 x.2.2.1 msk + shr64 x.2.1 51),
   w64 (and64 x.2.2.2.1 msk + shr64 x.2.2.1 51),
   w64 (and64 x.2.2.2.2.1 msk + shr64 x.2.2.2.1 51), ())
def feSmall (n : Int) : Fe := (and64 n msk, shr64 n 51, 0, 0, 0, ())
def feAdd (carry : Fe → Fe) (x y : Fe) : Fe := carry (Vec.zip (fun a b => w64 (a + b)) x y)
def feSub (carry : Fe → Fe) (x y : Fe) : Fe := carry (Vec.zip (fun a b => w64 (a - b)) (Vec.zip (fun a b => w64 (a + b)) x (4503599627370458, 4503599627370494, 4503599627370494, 4503599627370494, 4503599627370494, ())) y)
def feZero : Fe := (0, 0, 0, 0, 0, ())
def eqV : {n : Nat} → Vec Int n → Vec Int n → Bool
  | 0, _, _ => true
  | _ + 1, v, u => (v.1 == u.1) && eqV v.2 u.2
theorem eqV_iff : {n : Nat} → (v u : Vec Int n) → (eqV v u = true ↔ v = u)
  | 0, _, _ => ⟨fun _ => rfl, fun _ => rfl⟩
  | n + 1, v, u => by
    simp only [eqV, Bool.and_eq_true, beq_iff_eq, eqV_iff v.2 u.2]
    exact ⟨fun h => Prod.ext h.1 h.2, fun h => by rw [h]; exact ⟨rfl, rfl⟩⟩
def feOdd (bytes : Fe → B32) (x : Fe) : Bool := bitAnd .u8 (bytes x).1 1 == 1
def feLeast (carry : Fe → Fe) (x : Fe) : Fe :=
  let y := carry x
  let c := shr64 (w64 (y.1 + 19)) 51
  let c := shr64 (w64 (y.2.1 + c)) 51
  let c := shr64 (w64 (y.2.2.1 + c)) 51
  let c := shr64 (w64 (y.2.2.2.1 + c)) 51
  let c := shr64 (w64 (y.2.2.2.2.1 + c)) 51
  let c := w64 (c * 19)
  let c0 := w64 (c + y.1)
  let c1 := w64 (shr64 c0 51 + y.2.1)
  let c2 := w64 (shr64 c1 51 + y.2.2.1)
  let c3 := w64 (shr64 c2 51 + y.2.2.2.1)
  let c4 := w64 (shr64 c3 51 + y.2.2.2.2.1)
  (and64 c0 msk, and64 c1 msk, and64 c2 msk, and64 c3 msk, and64 c4 msk, ())
end Go.Proofs.Ythdfifcgobfgdaa
namespace Go.Proofs.Ythdfifcgobfgdaa
open Go Go.Ev
set_option maxRecDepth 1000000
def feBits (y : Fe) : B32 := Vec.ofFn 32 fun j => (List.range (if j = 31 then 7 else 8)).foldl
  (fun acc i => bitOr .u8 acc (shl .u8 (IntKind.u8.wrap (and64 (shr64 (y.get ((8 * j + i) / 51)) (((8 * j + i) % 51 : Nat) : Int)) 1)) (i : Int))) 0
def word (b : B32) (j : Nat) : Int := (List.range 8).foldl (fun acc i => bitOr .u64 acc (shl .u64 (w64 (b.get (8 * j + i))) (8 * i : Nat))) 0
def feFrom (b : B32) : Fe :=
  (and64 (word b 0) msk, and64 (bitOr .u64 (shr64 (word b 0) 51) (shl .u64 (word b 1) 13)) msk, and64 (bitOr .u64 (shr64 (word b 1) 38) (shl .u64 (word b 2) 26)) msk,
   and64 (bitOr .u64 (shr64 (word b 2) 25) (shl .u64 (word b 3) 39)) msk, and64 (shr64 (word b 3) 12) msk, ())
def Vec.upd {α : Type} (f : α → α) : {n : Nat} → Nat → Vec α n → Vec α n
  | 0, _, _ => ()
  | _ + 1, 0, v => (f v.1, v.2)
  | _ + 1, i + 1, v => (v.1, Vec.upd f i v.2)
def clearTop (b : B32) : B32 := Vec.upd (fun x => bitAndNot .u8 x 128) 31 b
def mulFn (x y : Int) : Int × Int :=
  let x0 := and64 x 4294967295
  let x1 := shr64 x 32
  let y0 := and64 y 4294967295
  let y1 := shr64 y 32
  let t := w64 (w64 (x1 * y0) + shr64 (w64 (x0 * y0)) 32)
  let w1 := w64 (and64 t 4294967295 + w64 (x0 * y1))
  (w64 (w64 (w64 (x1 * y1) + shr64 t 32) + shr64 w1 32), w64 (x * y))
def conjAll : List Prop → Option Prop
  | [] => none
  | p :: l => conj p (conjAll l)
section
variable (m64 : Int → Int → Int × Int) (a64 : Int → Int → Int → Int × Int)
def mulRun (x y : Fe) : List (Nat × Nat) → List (Int × Int) → List (Int × Int) × List Prop
  | [], r => (r, [])
  | (i, j) :: l, r =>
    let a := if i + j < 5 then x.get i else w64 (x.get i * 19)
    let p := r.getD ((i + j) % 5) (0, 0)
    let m := m64 a (y.get j)
    let s := a64 p.2 m.2 0
    let t := a64 p.1 m.1 s.2
    let z := mulRun x y l (r.set ((i + j) % 5) (t.1, s.1))
    (z.1, (0 ≤ s.2 ∧ s.2 ≤ 1) :: z.2)
def mulSteps : List (Nat × Nat) := [(0,0),(0,1),(0,2),(0,3),(0,4),(1,0),(1,1),(1,2),(1,3),(1,4),(2,0),(2,1),(2,2),(2,3),(2,4),(3,0),(3,1),(3,2),(3,3),(3,4),(4,0),(4,1),(4,2),(4,3),(4,4)]
def mulNeeds (x y : Fe) : List Prop := (mulRun m64 a64 x y mulSteps [(0,0),(0,0),(0,0),(0,0),(0,0)]).2
def mulOut (carry : Fe → Fe) (x y : Fe) : Fe :=
  let r := (mulRun m64 a64 x y mulSteps [(0,0),(0,0),(0,0),(0,0),(0,0)]).1
  let lo (i : Nat) := and64 (r.getD i (0,0)).2 msk
  let c (i : Nat) := bitOr .u64 (shl .u64 (r.getD i (0,0)).1 13) (shr64 (r.getD i (0,0)).2 51)
  carry (w64 (w64 (0 + lo 0) + w64 (c 4 * 19)), w64 (w64 (0 + c 0) + lo 1), w64 (w64 (0 + c 1) + lo 2), w64 (w64 (0 + c 2) + lo 3), w64 (w64 (0 + c 3) + lo 4), ())
end
end Go.Proofs.Ythdfifcgobfgdaa
namespace Go.Proofs.Ythdfifcgobfgdaa
open Go Go.Ev
set_option maxRecDepth 1000000
noncomputable def feExp (lo hi : Int) : B32 := Vec.ofFn 32 fun j => if j = 0 then lo else if j = 31 then hi else 255
def selN (b : Bool) : {n : Nat} → Vec Int n → Vec Int n → Vec Int n
  | 0, _, _ => ()
  | _ + 1, v, u => (bif b then v.1 else u.1, selN b v.2 u.2)
theorem selN_eq : {n : Nat} → (b : Bool) → (v u : Vec Int n) → selN b v u = bif b then v else u
  | 0, b, v, u => by cases b <;> rfl
  | n + 1, b, v, u => by
    show ((bif b then v.1 else u.1), selN b v.2 u.2) = _
    rw [selN_eq b v.2 u.2]
    cases b <;> rfl
theorem selN_self {n : Nat} (b : Bool) (v : Vec Int n) : selN b v v = v := by rw [selN_eq]; cases b <;> rfl
def bitU8 (e : B32) (i : Nat) : Bool := bitAnd .u8 (shr .u8 (e.get (i / 8)) ((i % 8 : Nat) : Int)) 1 == 1
section
variable (small : Int → Fe) (square : Fe → Fe) (mul : Fe → Fe → Fe)
def powStep (x : Fe) (e : B32) (k : Nat) (r : Fe) : Fe := selN (bitU8 e (255 - k)) (mul (square r) x) (square r)
noncomputable def powFn (x : Fe) (e : B32) : Fe := rnds (powStep square mul x e) 256 (small 1)
end
section
variable (pow : Fe → B32 → Fe) (exp : Int → Int → B32) (mul : Fe → Fe → Fe) (square neg : Fe → Fe) (small : Int → Fe) (equal : Fe → Fe → Bool) (odd isZero : Fe → Bool) (invert : Fe → Fe)
noncomputable def rootFn (x : Fe) : Fe × Bool :=
  let r := pow x (exp 254 15)
  let r1 := selN (!(equal (square r) x)) (mul r (pow (small 2) (exp 251 31))) r
  let bad := !(equal (square r1) (selN (!(equal (square r) x)) x x))
  (selN bad feZero (selN (odd r1) (neg r1) r1), bif bad then false else true)
end
end Go.Proofs.Ythdfifcgobfgdaa
namespace Go.Proofs.Ythdfifcgobfgdaa
open Go Go.Ev
set_option maxRecDepth 1000000
abbrev Pt := Bool × Fe × Fe × Fe × Fe
noncomputable def selPt (b : Bool) (p q : Pt) : Pt := (bif b then p.1 else q.1, selN b p.2.1 q.2.1, selN b p.2.2.1 q.2.2.1, selN b p.2.2.2.1 q.2.2.2.1, selN b p.2.2.2.2 q.2.2.2.2)
theorem selPt_eq (b : Bool) (p q : Pt) : selPt b p q = bif b then p else q := by
  unfold selPt; rw [selN_eq, selN_eq, selN_eq, selN_eq]; cases b <;> rfl
section
variable (mul add sub : Fe → Fe → Fe) (square neg invert : Fe → Fe) (small : Int → Fe) (isZero odd : Fe → Bool) (sqrt : Fe → Fe × Bool) (ratio : Fe → Fe → Fe × Bool) (frm : B32 → Fe) (bytes : Fe → B32)
  (canonical : B32 → Bool) (equal : Fe → Fe → Bool) (edge : Fe) (zero : Pt) (own : Pt → Pt) (affine : Fe → Fe → Pt) (root : Fe → Fe × Bool) (place : Pt → Fe × Fe) (cross : Fe → Fe → Fe → Fe → Pt) (padd : Pt → Pt → Pt)
noncomputable def edgeBytes : B32 := (0xa3, 0x78, 0x59, 0x13, 0xca, 0x4d, 0xeb, 0x75, 0xab, 0xd8, 0x41, 0x41, 0x4d, 0x0a, 0x70, 0x00, 0x98, 0xe8, 0x79, 0x77, 0x79, 0x40, 0xc7, 0x8c, 0x73, 0xfe, 0x6f, 0x2b, 0xee, 0x6c, 0x03, 0x52, ())
noncomputable def affineFn (x y : Fe) : Pt := (true, x, y, small 1, mul x y)
noncomputable def ownFn (p : Pt) : Pt := selPt (!p.1) zero p
noncomputable def ptNone : Pt := (false, feZero, feZero, feZero, feZero)
noncomputable def topBit (b : B32) : Bool := bitAnd .u8 (b.get 31) 128 != 0
noncomputable def decodeFn (b : B32) : Pt × Bool :=
  let y := frm b
  let x := (root y).1
  let ok := (root y).2
  let b1 := (!ok) == false
  let b2 := (!(canonical b)) == false
  let b3 := topBit b == true
  let j (v : Fe) : Fe := selN b1 (selN b2 (selN b3 v v) v) v
  let jb (v : Bool) : Bool := bif b1 then (bif b2 then (bif b3 then v else v) else v) else v
  let bad := bif b1 then (bif b2 then (bif b3 then isZero x else false) else true) else true
  let o := jb (topBit b)
  (selPt bad ptNone (affine (selN o (neg (j x)) (j x)) (selN o (j y) (j y))), bif bad then false else true)
noncomputable def placeFn (p : Pt) : Fe × Fe := (mul (own p).2.1 (invert (own p).2.2.2.1), mul (own p).2.2.1 (invert (own p).2.2.2.1))
noncomputable def encodeFn (p : Pt) : B32 :=
  let b := bytes (place p).2
  selN (odd (place p).1) (Vec.upd (fun x => bitOr .u8 x 128) 31 b) b
noncomputable def crossFn (e f g h : Fe) : Pt := (true, mul e f, mul g h, mul f g, mul e h)
noncomputable def addFn (p0 q0 : Pt) : Pt :=
  let p := own p0
  let q := own q0
  let a := mul (sub p.2.2.1 p.2.1) (sub q.2.2.1 q.2.1)
  let b := mul (add p.2.2.1 p.2.1) (add q.2.2.1 q.2.1)
  let c := mul (mul p.2.2.2.2 q.2.2.2.2) edge
  let c := add c c
  let d := mul p.2.2.2.1 q.2.2.2.1
  let d := add d d
  cross (sub b a) (sub d c) (add d c) (add b a)
noncomputable def negFn (p : Pt) : Pt := ((own p).1, neg (own p).2.1, (own p).2.2.1, (own p).2.2.2.1, neg (own p).2.2.2.2)
end
end Go.Proofs.Ythdfifcgobfgdaa
namespace Go.Ev
open Go
end Go.Ev
namespace Go.Proofs.Ythdfifcgobfgdaa
open Go Go.Ev
set_option maxRecDepth 1000000
noncomputable def bitFn (b : B32) (k : Nat) : Int := IntKind.i64.wrap (bitAnd .u8 (shr .u8 (b.get (k / 8)) ((k % 8 : Nat) : Int)) 1)
section
variable (bit : B32 → Nat → Int) (zero base : Pt) (double : Pt → Pt) (padd : Pt → Pt → Pt)
noncomputable def multStep (n : B32) (p : Pt) (k : Nat) (r : Pt) : Pt := selPt (bit n (255 - k) == 1) (padd (double r) p) (double r)
noncomputable def multFn (n : B32) (p : Pt) : Pt := rnds (multStep bit double padd n p) 256 zero
end
end Go.Proofs.Ythdfifcgobfgdaa
namespace Go.Proofs.Ythdfifcgobfgdaa
open Go Go.Ev
set_option maxRecDepth 1000000
abbrev Fn := Vec Int 16
def w (n : Int) : Int := IntKind.i64.wrap n
section
variable (prime : Fn) (below : Fn → Fn → Bool) (norm : Fn → Fn)
end
end Go.Proofs.Ythdfifcgobfgdaa
namespace Go.Proofs.Ythdfifcgobfgdaa
open Go Go.Ev
set_option maxRecDepth 1000000
abbrev Pn := Fn × Fn × Fn × Fn
section
variable (bit : B32 → Nat → Int) (small : Int → Fn) (mul add sub : Fn → Fn → Fn) (neg invert : Fn → Fn) (odd : Fn → Bool) (pow : Fn → B32 → Fn) (sqrt : Fn → Fn × Bool) (ratio : Fn → Fn → Fn × Bool) (edge : Fn)
  (frm : B32 → Fn) (bytes : Fn → B32) (canonical : B32 → Bool) (zero : Pn) (ofp : Fn → Fn → Pn) (xOf : Fn → Fn × Bool) (plus3 : Pn → Pn → Fn → Pn)
end
end Go.Proofs.Ythdfifcgobfgdaa
namespace BJ
def toF (n : Int) : F := ⟨(n % (pp : Int)).toNat, by
  have h1 : 0 ≤ n % (pp : Int) := Int.emod_nonneg _ (by decide)
  have h2 : n % (pp : Int) < (pp : Int) := Int.emod_lt_of_pos _ (by decide)
  omega⟩
theorem toF_val (n : Int) : ((toF n).val : Int) = n % (pp : Int) := Int.toNat_of_nonneg (Int.emod_nonneg _ (by decide))
theorem F_ext {a b : F} (h : (a.val : Int) = b.val) : a = b := Fin.ext (Int.ofNat_inj.1 h)
theorem toF_iff {a b : Int} : toF a = toF b ↔ a % (pp : Int) = b % (pp : Int) := by
  constructor
  · intro h; rw [← toF_val, ← toF_val, h]
  · intro h; exact F_ext (by rw [toF_val, toF_val, h])
theorem toF_add (a b : Int) : toF (a + b) = toF a + toF b := by
  apply F_ext
  rw [toF_val, Fin.val_add, Int.natCast_emod, Int.natCast_add, toF_val, toF_val, ← Int.add_emod]
theorem toF_mul (a b : Int) : toF (a * b) = toF a * toF b := by
  apply F_ext
  rw [toF_val, Fin.val_mul, Int.natCast_emod, Int.natCast_mul, toF_val, toF_val, ← Int.mul_emod]
theorem toF_zero : toF 0 = 0 := by apply F_ext; rw [toF_val]; decide
theorem toF_one : toF 1 = 1 := by apply F_ext; rw [toF_val]; decide
theorem toF_sub (a b : Int) : toF (a - b) = toF a - toF b := by
  have h : toF (a - b) + toF b = toF a := by rw [← toF_add]; congr 1; omega
  grobner
theorem toF_pp (a k : Int) : toF (a + k * (pp : Int)) = toF a := toF_iff.2 (Int.add_mul_emod_self_right _ _ _)
end BJ
namespace Go.Proofs.Ythdfifcgobfgdaa
open Go Go.Ev BJ
def mk5 (a b c d e : Int) : Fe := (a, b, c, d, e, ())
def U64 (n : Int) : Prop := 0 ≤ n ∧ n < 18446744073709551616
def Lim (n : Int) : Prop := 0 ≤ n ∧ n < 2251799813947392
def U5 (x : Fe) : Prop := U64 x.1 ∧ U64 x.2.1 ∧ U64 x.2.2.1 ∧ U64 x.2.2.2.1 ∧ U64 x.2.2.2.2.1
def Ok5 (x : Fe) : Prop := Lim x.1 ∧ Lim x.2.1 ∧ Lim x.2.2.1 ∧ Lim x.2.2.2.1 ∧ Lim x.2.2.2.2.1
def val5 (x : Fe) : Int := x.1 + x.2.1 * 2251799813685248 + x.2.2.1 * 5070602400912917605986812821504 + x.2.2.2.1 * 11417981541647679048466287755595961091061972992 + x.2.2.2.2.1 * 25711008708143844408671393477458601640355247900524685364822016
def fe (x : Fe) : F := toF (val5 x)
theorem and_msk (x : Int) : and64 x msk = x % 2251799813685248 := by
  have := and_u64 (m := 51) (by decide) x msk (by decide)
  simpa [and64] using this
theorem shr_51 (x : Int) : shr64 x 51 = x / 2251799813685248 := by
  have := shr_div .u64 x 51 (by decide)
  simpa [shr64] using this
theorem carry_val {x : Fe} (h : U5 x) : Ok5 (feCarry x) ∧ ∃ k, val5 (feCarry x) = val5 x + k * (pp : Int) := by
  obtain ⟨x0, x1, x2, x3, x4, u⟩ := x
  obtain ⟨h0, h1, h2, h3, h4⟩ := h
  simp only [U64] at h0 h1 h2 h3 h4
  have e : feCarry (x0, x1, x2, x3, x4, u) = mk5 (x0 % 2251799813685248 + x4 / 2251799813685248 * 19) (x1 % 2251799813685248 + x0 / 2251799813685248) (x2 % 2251799813685248 + x1 / 2251799813685248)
      (x3 % 2251799813685248 + x2 / 2251799813685248) (x4 % 2251799813685248 + x3 / 2251799813685248) := by
    simp only [feCarry, and_msk, shr_51, w64]
    rw [wrap_u64 (n := x4 / 2251799813685248 * 19) (by omega) (by omega)]
    rw [wrap_u64 (by omega) (by omega), wrap_u64 (by omega) (by omega), wrap_u64 (by omega) (by omega), wrap_u64 (by omega) (by omega), wrap_u64 (by omega) (by omega)]
    rfl
  rw [e]
  refine ⟨?_, -(x4 / 2251799813685248), ?_⟩
  · simp only [Ok5, Lim, mk5]; omega
  · simp only [val5, pp, mk5]; omega
theorem carry_fe {x : Fe} (h : U5 x) : Ok5 (feCarry x) ∧ fe (feCarry x) = fe x := by
  obtain ⟨h1, k, h2⟩ := carry_val h
  exact ⟨h1, by unfold fe; rw [h2, toF_pp]⟩
theorem add_fe {x y : Fe} (hx : Ok5 x) (hy : Ok5 y) : Ok5 (feAdd feCarry x y) ∧ fe (feAdd feCarry x y) = fe x + fe y := by
  obtain ⟨x0, x1, x2, x3, x4, u⟩ := x
  obtain ⟨y0, y1, y2, y3, y4, v⟩ := y
  simp only [Ok5, Lim] at hx hy
  have e : Vec.zip (n := 5) (fun a b => w64 (a + b)) (x0, x1, x2, x3, x4, u) (y0, y1, y2, y3, y4, v) = mk5 (x0 + y0) (x1 + y1) (x2 + y2) (x3 + y3) (x4 + y4) := by
    show (w64 (x0 + y0), w64 (x1 + y1), w64 (x2 + y2), w64 (x3 + y3), w64 (x4 + y4), ()) = _
    simp only [w64]
    rw [wrap_u64 (by omega) (by omega), wrap_u64 (by omega) (by omega), wrap_u64 (by omega) (by omega), wrap_u64 (by omega) (by omega), wrap_u64 (by omega) (by omega)]
    rfl
  unfold feAdd
  rw [e]
  obtain ⟨h1, h2⟩ := carry_fe (x := mk5 (x0 + y0) (x1 + y1) (x2 + y2) (x3 + y3) (x4 + y4)) (by simp only [U5, U64, mk5]; omega)
  refine ⟨h1, ?_⟩
  rw [h2]
  unfold fe
  rw [← toF_add]
  congr 1
  simp only [val5, mk5]; omega
theorem sub_fe {x y : Fe} (hx : Ok5 x) (hy : Ok5 y) : Ok5 (feSub feCarry x y) ∧ fe (feSub feCarry x y) = fe x - fe y := by
  obtain ⟨x0, x1, x2, x3, x4, u⟩ := x
  obtain ⟨y0, y1, y2, y3, y4, v⟩ := y
  simp only [Ok5, Lim] at hx hy
  have e : Vec.zip (n := 5) (fun a b => w64 (a - b)) (Vec.zip (n := 5) (fun a b => w64 (a + b)) (x0, x1, x2, x3, x4, u) (4503599627370458, 4503599627370494, 4503599627370494, 4503599627370494, 4503599627370494, ())) (y0, y1, y2, y3, y4, v) =
      mk5 (x0 + 4503599627370458 - y0) (x1 + 4503599627370494 - y1) (x2 + 4503599627370494 - y2) (x3 + 4503599627370494 - y3) (x4 + 4503599627370494 - y4) := by
    show (w64 (w64 (x0 + 4503599627370458) - y0), w64 (w64 (x1 + 4503599627370494) - y1), w64 (w64 (x2 + 4503599627370494) - y2), w64 (w64 (x3 + 4503599627370494) - y3), w64 (w64 (x4 + 4503599627370494) - y4), ()) = _
    simp only [w64]
    rw [wrap_u64 (n := x0 + 4503599627370458) (by omega) (by omega), wrap_u64 (n := x1 + 4503599627370494) (by omega) (by omega), wrap_u64 (n := x2 + 4503599627370494) (by omega) (by omega), wrap_u64 (n := x3 + 4503599627370494) (by omega) (by omega), wrap_u64 (n := x4 + 4503599627370494) (by omega) (by omega)]
    rw [wrap_u64 (by omega) (by omega), wrap_u64 (by omega) (by omega), wrap_u64 (by omega) (by omega), wrap_u64 (by omega) (by omega), wrap_u64 (by omega) (by omega)]
    rfl
  unfold feSub
  rw [e]
  obtain ⟨h1, h2⟩ := carry_fe (x := mk5 (x0 + 4503599627370458 - y0) (x1 + 4503599627370494 - y1) (x2 + 4503599627370494 - y2) (x3 + 4503599627370494 - y3) (x4 + 4503599627370494 - y4)) (by simp only [U5, U64, mk5]; omega)
  refine ⟨h1, ?_⟩
  rw [h2]
  unfold fe
  rw [← toF_sub, ← toF_pp (val5 (x0, x1, x2, x3, x4, u) - _) 2]
  congr 1
  simp only [val5, pp, mk5]; omega
theorem zero_fe : Ok5 feZero ∧ fe feZero = 0 := by
  refine ⟨by simp [Ok5, Lim, feZero], ?_⟩
  rw [← toF_zero]; rfl
theorem mulFn_val {a b : Int} (ha : U64 a) (hb : U64 b) : mulFn a b = (a * b / 18446744073709551616, a * b % 18446744073709551616) := by
  simp only [U64] at ha hb
  have e0 : ∀ x, and64 x 4294967295 = x % 4294967296 := fun x => by
    have := and_u64 (m := 32) (by decide) x 4294967295 (by decide)
    simpa [and64] using this
  have e1 : ∀ x, shr64 x 32 = x / 4294967296 := fun x => by
    have := shr_div .u64 x 32 (by decide)
    simpa [shr64] using this
  obtain ⟨a0, a1, ha0, ha1, rfl⟩ : ∃ a0 a1 : Int, a % 4294967296 = a0 ∧ a / 4294967296 = a1 ∧ a = a1 * 4294967296 + a0 := ⟨_, _, rfl, rfl, by omega⟩
  obtain ⟨b0, b1, hb0, hb1, rfl⟩ : ∃ b0 b1 : Int, b % 4294967296 = b0 ∧ b / 4294967296 = b1 ∧ b = b1 * 4294967296 + b0 := ⟨_, _, rfl, rfl, by omega⟩
  have bnd : ∀ {p q : Int}, 0 ≤ p → p ≤ 4294967295 → 0 ≤ q → q ≤ 4294967295 → 0 ≤ p * q ∧ p * q ≤ 18446744065119617025 := fun {p q} h1 h2 h3 h4 =>
    ⟨Int.mul_nonneg h1 h3, Int.le_trans (Int.mul_le_mul h2 h4 h3 (by decide)) (by decide)⟩
  have h00 := bnd (p := a0) (q := b0) (by omega) (by omega) (by omega) (by omega)
  have h01 := bnd (p := a0) (q := b1) (by omega) (by omega) (by omega) (by omega)
  have h10 := bnd (p := a1) (q := b0) (by omega) (by omega) (by omega) (by omega)
  have h11 := bnd (p := a1) (q := b1) (by omega) (by omega) (by omega) (by omega)
  have hab : (a1 * 4294967296 + a0) * (b1 * 4294967296 + b0) = a1 * b1 * 18446744073709551616 + (a1 * b0 + a0 * b1) * 4294967296 + a0 * b0 := by grind
  simp only [mulFn, e0, e1, ha0, ha1, hb0, hb1, w64]
  rw [hab]
  generalize a0 * b0 = p00 at *
  generalize a0 * b1 = p01 at *
  generalize a1 * b0 = p10 at *
  generalize a1 * b1 = p11 at *
  rw [wrap_u64 (n := p00) (by omega) (by omega), wrap_u64 (n := p10) (by omega) (by omega), wrap_u64 (n := p01) (by omega) (by omega), wrap_u64 (n := p11) (by omega) (by omega)]
  rw [wrap_u64 (n := p10 + p00 / 4294967296) (by omega) (by omega)]
  rw [wrap_u64 (n := (p10 + p00 / 4294967296) % 4294967296 + p01) (by omega) (by omega)]
  rw [wrap_u64 (n := p11 + (p10 + p00 / 4294967296) / 4294967296) (by omega) (by omega)]
  rw [wrap_u64', wrap_u64']
  refine Prod.ext ?_ ?_
  · show _ = _ / _; omega
  · show _ = _ % _; omega
end Go.Proofs.Ythdfifcgobfgdaa
namespace Go.Proofs.Ythdfifcgobfgdaa
open Go Go.Ev BJ
theorem add64_val {x y c : Int} (hx : 0 ≤ x) (hy : 0 ≤ y) (hc : 0 ≤ c) : add64 x y c = ((x + y + c) % 18446744073709551616, (x + y + c) / 18446744073709551616) := by
  obtain ⟨a, rfl⟩ := Int.eq_ofNat_of_zero_le hx
  obtain ⟨b, rfl⟩ := Int.eq_ofNat_of_zero_le hy
  obtain ⟨d, rfl⟩ := Int.eq_ofNat_of_zero_le hc
  simp only [add64, Int.toNat_natCast]
  refine Prod.ext ?_ ?_
  · show (((a + b + d) % 2 ^ 64 : Nat) : Int) = _; omega
  · show (((a + b + d) / 2 ^ 64 : Nat) : Int) = _; omega
def OkP (p : Int × Int) : Prop := 0 ≤ p.2 ∧ p.2 < 18446744073709551616 ∧ 0 ≤ p.1
def pv (p : Int × Int) : Int := p.1 * 18446744073709551616 + p.2
def coef (x : Fe) (i j : Nat) : Int := if i + j < 5 then x.get i else w64 (x.get i * 19)
def sumAt (x y : Fe) (k : Nat) : List (Nat × Nat) → Int
  | [] => 0
  | (i, j) :: l => (if (i + j) % 5 = k then coef x i j * y.get j else 0) + sumAt x y k l
theorem mulRun_ok {x y : Fe} (hc : ∀ i j, i < 5 → j < 5 → 0 ≤ coef x i j ∧ coef x i j < 72057594037927936) (hy : ∀ j, j < 5 → 0 ≤ y.get j ∧ y.get j < 4503599627370496) :
    ∀ (l : List (Nat × Nat)) (r : List (Int × Int)) (B : Int), (∀ p ∈ l, p.1 < 5 ∧ p.2 < 5) → r.length = 5 → (∀ k, k < 5 → OkP (r.getD k (0, 0)) ∧ pv (r.getD k (0, 0)) ≤ B) →
      B + l.length * 324518553658426726783156020576256 < 340282366920938463463374607431768211456 →
      (∀ k, k < 5 → OkP ((mulRun mulFn add64 x y l r).1.getD k (0, 0)) ∧ pv ((mulRun mulFn add64 x y l r).1.getD k (0, 0)) = pv (r.getD k (0, 0)) + sumAt x y k l) ∧
      ∀ p ∈ (mulRun mulFn add64 x y l r).2, p
  | [], r, B, _, hl, hr, _ => ⟨fun k hk => ⟨(hr k hk).1, by simp [mulRun, sumAt]⟩, fun p hp => by simp [mulRun] at hp⟩
  | (i, j) :: l, r, B, hm, hl, hr, hB => by
    obtain ⟨hi, hj⟩ := hm (i, j) (by simp)
    obtain ⟨c0, c1⟩ := hc i j hi hj
    obtain ⟨y0, y1⟩ := hy j hj
    have hkk : (i + j) % 5 < 5 := Nat.mod_lt _ (by decide)
    obtain ⟨⟨p0, p1, p2⟩, p3⟩ := hr _ hkk
    have hpr : 0 ≤ coef x i j * y.get j ∧ coef x i j * y.get j ≤ 324518553658426726783156020576256 := ⟨Int.mul_nonneg c0 y0, by
      have := Int.mul_le_mul (a := coef x i j) (b := y.get j) (c := 72057594037927936) (d := 4503599627370496) (by omega) (by omega) (by omega) (by omega)
      omega⟩
    have hcB : 0 ≤ (l.length : Int) := by omega
    simp only [List.length_cons, Int.natCast_add] at hB
    have hmul := mulFn_val (a := coef x i j) (b := y.get j) ⟨c0, by omega⟩ ⟨y0, by omega⟩
    generalize hab : coef x i j * y.get j = ab at hpr hmul
    generalize hpe : r.getD ((i + j) % 5) (0, 0) = p at p0 p1 p2 p3
    unfold pv at p3
    have hs : add64 p.2 (mulFn (coef x i j) (y.get j)).2 0 = ((p.2 + ab % 18446744073709551616 + 0) % 18446744073709551616, (p.2 + ab % 18446744073709551616 + 0) / 18446744073709551616) := by
      rw [hmul]; exact add64_val p0 (by show 0 ≤ ab % 18446744073709551616; omega) (by omega)
    have ht : add64 p.1 (mulFn (coef x i j) (y.get j)).1 (add64 p.2 (mulFn (coef x i j) (y.get j)).2 0).2 = ((p.1 + ab / 18446744073709551616 + (p.2 + ab % 18446744073709551616 + 0) / 18446744073709551616) % 18446744073709551616,
        (p.1 + ab / 18446744073709551616 + (p.2 + ab % 18446744073709551616 + 0) / 18446744073709551616) / 18446744073709551616) := by
      rw [hs, hmul]; exact add64_val p2 (by show 0 ≤ ab / 18446744073709551616; omega) (by show 0 ≤ (p.2 + ab % 18446744073709551616 + 0) / 18446744073709551616; omega)
    have hstep : mulRun mulFn add64 x y ((i, j) :: l) r = ((mulRun mulFn add64 x y l (r.set ((i + j) % 5) ((add64 p.1 (mulFn (coef x i j) (y.get j)).1 (add64 p.2 (mulFn (coef x i j) (y.get j)).2 0).2).1, (add64 p.2 (mulFn (coef x i j) (y.get j)).2 0).1))).1,
        (0 ≤ (add64 p.2 (mulFn (coef x i j) (y.get j)).2 0).2 ∧ (add64 p.2 (mulFn (coef x i j) (y.get j)).2 0).2 ≤ 1) :: (mulRun mulFn add64 x y l (r.set ((i + j) % 5) ((add64 p.1 (mulFn (coef x i j) (y.get j)).1 (add64 p.2 (mulFn (coef x i j) (y.get j)).2 0).2).1, (add64 p.2 (mulFn (coef x i j) (y.get j)).2 0).1))).2) := by
      rw [← hpe]; rfl
    rw [hstep, ht, hs]
    have hget : ∀ (v : Int × Int) k, k < 5 → (r.set ((i + j) % 5) v).getD k (0, 0) = if (i + j) % 5 = k then v else r.getD k (0, 0) := by
      intro v k hk
      simp only [List.getD_eq_getElem?_getD, List.getElem?_set]
      split
      · rename_i e; subst e; simp [hl, hkk]
      · rfl
    obtain ⟨h1, h2⟩ := mulRun_ok hc hy l (r.set ((i + j) % 5) ((p.1 + ab / 18446744073709551616 + (p.2 + ab % 18446744073709551616 + 0) / 18446744073709551616) % 18446744073709551616, (p.2 + ab % 18446744073709551616 + 0) % 18446744073709551616))
      (B + 324518553658426726783156020576256) (fun p hp => hm p (by simp [hp])) (by simpa using hl) (fun k hk => by
        rw [hget _ k hk]
        split
        · refine ⟨⟨?_, ?_, ?_⟩, ?_⟩
          · show 0 ≤ (p.2 + ab % 18446744073709551616 + 0) % 18446744073709551616; omega
          · show (p.2 + ab % 18446744073709551616 + 0) % 18446744073709551616 < _; omega
          · show 0 ≤ (p.1 + ab / 18446744073709551616 + (p.2 + ab % 18446744073709551616 + 0) / 18446744073709551616) % 18446744073709551616; omega
          · show (p.1 + ab / 18446744073709551616 + (p.2 + ab % 18446744073709551616 + 0) / 18446744073709551616) % 18446744073709551616 * 18446744073709551616 + (p.2 + ab % 18446744073709551616 + 0) % 18446744073709551616 ≤ _
            omega
        · exact ⟨(hr k hk).1, by have := (hr k hk).2; omega⟩) (by omega)
    refine ⟨fun k hk => ?_, ?_⟩
    · obtain ⟨h3, h4⟩ := h1 k hk
      refine ⟨h3, ?_⟩
      show pv _ = _ + ((if (i + j) % 5 = k then coef x i j * y.get j else 0) + sumAt x y k l)
      rw [h4, hget _ k hk]
      split
      · rename_i e
        rw [← e, hpe, hab]
        simp only [pv]
        omega
      · omega
    · intro q hq
      rcases List.mem_cons.1 hq with rfl | hq
      · show 0 ≤ (p.2 + ab % 18446744073709551616 + 0) / 18446744073709551616 ∧ (p.2 + ab % 18446744073709551616 + 0) / 18446744073709551616 ≤ 1
        omega
      · exact h2 q hq
theorem needs_conjAll : ∀ {l : List Prop}, (∀ p ∈ l, p) → needs (conjAll l)
  | [], _ => trivial
  | p :: l, h => by
    have h1 := h p (by simp)
    have h2 := needs_conjAll (l := l) fun q hq => h q (by simp [hq])
    unfold conjAll
    cases hc : conjAll l with
    | none => exact h1
    | some q => rw [hc] at h2; exact ⟨h1, h2⟩
theorem get5 (x0 x1 x2 x3 x4 : Int) (u : Vec Int 0) : Vec.get (n := 5) (x0, x1, x2, x3, x4, u) 0 = x0 ∧ Vec.get (n := 5) (x0, x1, x2, x3, x4, u) 1 = x1 ∧ Vec.get (n := 5) (x0, x1, x2, x3, x4, u) 2 = x2 ∧
    Vec.get (n := 5) (x0, x1, x2, x3, x4, u) 3 = x3 ∧ Vec.get (n := 5) (x0, x1, x2, x3, x4, u) 4 = x4 := ⟨rfl, rfl, rfl, rfl, rfl⟩
theorem get5_all {x : Fe} {Q : Int → Prop} (h0 : Q x.1) (h1 : Q x.2.1) (h2 : Q x.2.2.1) (h3 : Q x.2.2.2.1) (h4 : Q x.2.2.2.2.1) : ∀ i, i < 5 → Q (x.get i)
  | 0, _ => h0
  | 1, _ => h1
  | 2, _ => h2
  | 3, _ => h3
  | 4, _ => h4
  | n + 5, h => absurd h (by omega)
theorem mulNeeds_ok {x y : Fe} (hx : Ok5 x) (hy : Ok5 y) : needs (conjAll (mulNeeds mulFn add64 x y)) ∧
    ∀ k, k < 5 → ∃ p, (mulRun mulFn add64 x y mulSteps [(0, 0), (0, 0), (0, 0), (0, 0), (0, 0)]).1.getD k (0, 0) = p ∧ OkP p ∧ pv p = sumAt x y k mulSteps := by
  have hgx : ∀ i, i < 5 → Lim (x.get i) := get5_all hx.1 hx.2.1 hx.2.2.1 hx.2.2.2.1 hx.2.2.2.2
  have hgy : ∀ i, i < 5 → Lim (y.get i) := get5_all hy.1 hy.2.1 hy.2.2.1 hy.2.2.2.1 hy.2.2.2.2
  obtain ⟨h1, h2⟩ := mulRun_ok (x := x) (y := y) (fun i j hi hj => by
      obtain ⟨a, b⟩ := hgx i hi
      unfold coef
      split
      · omega
      · unfold w64; rw [wrap_u64 (by omega) (by omega)]; omega) (fun j hj => by obtain ⟨a, b⟩ := hgy j hj; omega)
    mulSteps [(0, 0), (0, 0), (0, 0), (0, 0), (0, 0)] 0 (by decide) rfl (fun k hk => by
      have : ([(0, 0), (0, 0), (0, 0), (0, 0), (0, 0)] : List (Int × Int)).getD k (0, 0) = (0, 0) := by
        match k, hk with
        | 0, _ => rfl
        | 1, _ => rfl
        | 2, _ => rfl
        | 3, _ => rfl
        | 4, _ => rfl
      rw [this]; exact ⟨⟨by decide, by decide, by decide⟩, by decide⟩) (by decide)
  refine ⟨needs_conjAll h2, fun k hk => ⟨_, rfl, (h1 k hk).1, ?_⟩⟩
  rw [(h1 k hk).2]
  have : ([(0, 0), (0, 0), (0, 0), (0, 0), (0, 0)] : List (Int × Int)).getD k (0, 0) = (0, 0) := by
    match k, hk with
    | 0, _ => rfl
    | 1, _ => rfl
    | 2, _ => rfl
    | 3, _ => rfl
    | 4, _ => rfl
  rw [this]; simp [pv]
theorem high_low {p : Int × Int} (h : OkP p) {R : Int} (hR : pv p = R) (hlt : R < 20769187434139310514121985316880384) :
    and64 p.2 msk = R % 2251799813685248 ∧ bitOr .u64 (shl .u64 p.1 13) (shr64 p.2 51) = R / 2251799813685248 := by
  obtain ⟨a, b⟩ := p
  obtain ⟨h0, h1, h2⟩ := h
  simp only [pv] at *
  rw [and_msk, shr_51]
  have e : shl .u64 a 13 = a * 8192 := by
    have := shl_mul .u64 a 13 (by decide)
    rw [show ((13 : Nat) : Int) = 13 from rfl] at this
    rw [this]
    exact wrap_u64 (by omega) (by omega)
  rw [e, or_u64 (m := 13) (by omega) (by omega) (by omega) (by omega) (by omega)]
  constructor <;> omega
theorem mul_val (x0 x1 x2 x3 x4 y0 y1 y2 y3 y4 : Int) (u v : Vec Int 0) (hx : Ok5 (x0, x1, x2, x3, x4, u)) (k : Nat) (hk : k < 5) :
    sumAt (x0, x1, x2, x3, x4, u) (y0, y1, y2, y3, y4, v) k mulSteps =
      [x0 * y0 + x1 * 19 * y4 + x2 * 19 * y3 + x3 * 19 * y2 + x4 * 19 * y1, x0 * y1 + x1 * y0 + x2 * 19 * y4 + x3 * 19 * y3 + x4 * 19 * y2, x0 * y2 + x1 * y1 + x2 * y0 + x3 * 19 * y4 + x4 * 19 * y3,
        x0 * y3 + x1 * y2 + x2 * y1 + x3 * y0 + x4 * 19 * y4, x0 * y4 + x1 * y3 + x2 * y2 + x3 * y1 + x4 * y0].getD k 0 := by
  simp only [Ok5, Lim] at hx
  have w1 : w64 (x1 * 19) = x1 * 19 := wrap_u64 (by omega) (by omega)
  have w2 : w64 (x2 * 19) = x2 * 19 := wrap_u64 (by omega) (by omega)
  have w3 : w64 (x3 * 19) = x3 * 19 := wrap_u64 (by omega) (by omega)
  have w4 : w64 (x4 * 19) = x4 * 19 := wrap_u64 (by omega) (by omega)
  obtain ⟨g0, g1, g2, g3, g4⟩ := get5 x0 x1 x2 x3 x4 u
  obtain ⟨f0, f1, f2, f3, f4⟩ := get5 y0 y1 y2 y3 y4 v
  match k, hk with
  | 0, _ => simp [sumAt, mulSteps, coef, g0, g1, g2, g3, g4, f0, f1, f2, f3, f4, w1, w2, w3, w4]; omega
  | 1, _ => simp [sumAt, mulSteps, coef, g0, g1, g2, g3, g4, f0, f1, f2, f3, f4, w2, w3, w4]; omega
  | 2, _ => simp [sumAt, mulSteps, coef, g0, g1, g2, g3, g4, f0, f1, f2, f3, f4, w3, w4]; omega
  | 3, _ => simp [sumAt, mulSteps, coef, g0, g1, g2, g3, g4, f0, f1, f2, f3, f4, w4]; omega
  | 4, _ => simp [sumAt, mulSteps, coef, g0, g1, g2, g3, g4, f0, f1, f2, f3, f4]; omega
theorem mul_ring (x0 x1 x2 x3 x4 y0 y1 y2 y3 y4 t : F) (ht : t * t * t * t * t = 19) :
    (x0 * y0 + x1 * 19 * y4 + x2 * 19 * y3 + x3 * 19 * y2 + x4 * 19 * y1) + (x0 * y1 + x1 * y0 + x2 * 19 * y4 + x3 * 19 * y3 + x4 * 19 * y2) * t + (x0 * y2 + x1 * y1 + x2 * y0 + x3 * 19 * y4 + x4 * 19 * y3) * (t * t) +
      (x0 * y3 + x1 * y2 + x2 * y1 + x3 * y0 + x4 * 19 * y4) * (t * t * t) + (x0 * y4 + x1 * y3 + x2 * y2 + x3 * y1 + x4 * y0) * (t * t * t * t) =
    (x0 + x1 * t + x2 * (t * t) + x3 * (t * t * t) + x4 * (t * t * t * t)) * (y0 + y1 * t + y2 * (t * t) + y3 * (t * t * t) + y4 * (t * t * t * t)) := by
  grobner
end Go.Proofs.Ythdfifcgobfgdaa
namespace Go.Proofs.Ythdfifcgobfgdaa
open Go Go.Ev BJ
def tt : F := toF 2251799813685248
theorem tt5 : tt * tt * tt * tt * tt = 19 := by decide +kernel
theorem tt2 : toF 5070602400912917605986812821504 = tt * tt := by decide +kernel
theorem tt3 : toF 11417981541647679048466287755595961091061972992 = tt * tt * tt := by decide +kernel
theorem tt4 : toF 25711008708143844408671393477458601640355247900524685364822016 = tt * tt * tt * tt := by decide +kernel
theorem t19 : toF 19 = 19 := by decide +kernel
theorem toF_val5 (x0 x1 x2 x3 x4 : Int) : toF (x0 + x1 * 2251799813685248 + x2 * 5070602400912917605986812821504 + x3 * 11417981541647679048466287755595961091061972992 + x4 * 25711008708143844408671393477458601640355247900524685364822016) =
    toF x0 + toF x1 * tt + toF x2 * (tt * tt) + toF x3 * (tt * tt * tt) + toF x4 * (tt * tt * tt * tt) := by
  simp only [toF_add, toF_mul, tt2, tt3, tt4]; rfl
theorem tail_mk {R0 R1 R2 R3 R4 : Int} (n0 : 0 ≤ R0 ∧ R0 ≤ 1000000000000000000000000000000000) (n1 : 0 ≤ R1 ∧ R1 ≤ 1000000000000000000000000000000000) (n2 : 0 ≤ R2 ∧ R2 ≤ 1000000000000000000000000000000000)
    (n3 : 0 ≤ R3 ∧ R3 ≤ 1000000000000000000000000000000000) (n4 : 0 ≤ R4 ∧ R4 ≤ 26000000000000000000000000000000) :
    ((w64 (w64 (0 + R0 % 2251799813685248) + w64 (R4 / 2251799813685248 * 19)), w64 (w64 (0 + R0 / 2251799813685248) + R1 % 2251799813685248), w64 (w64 (0 + R1 / 2251799813685248) + R2 % 2251799813685248),
      w64 (w64 (0 + R2 / 2251799813685248) + R3 % 2251799813685248), w64 (w64 (0 + R3 / 2251799813685248) + R4 % 2251799813685248), ()) : Fe) = mk5 (R0 % 2251799813685248 + R4 / 2251799813685248 * 19) (R0 / 2251799813685248 + R1 % 2251799813685248) (R1 / 2251799813685248 + R2 % 2251799813685248)
      (R2 / 2251799813685248 + R3 % 2251799813685248) (R3 / 2251799813685248 + R4 % 2251799813685248) := by
  simp only [w64, Int.zero_add]
  rw [wrap_u64 (n := R0 % 2251799813685248) (by omega) (by omega), wrap_u64 (n := R4 / 2251799813685248 * 19) (by omega) (by omega), wrap_u64 (n := R0 / 2251799813685248) (by omega) (by omega), wrap_u64 (n := R1 / 2251799813685248) (by omega) (by omega),
    wrap_u64 (n := R2 / 2251799813685248) (by omega) (by omega), wrap_u64 (n := R3 / 2251799813685248) (by omega) (by omega)]
  rw [wrap_u64 (n := R0 % 2251799813685248 + R4 / 2251799813685248 * 19) (by omega) (by omega), wrap_u64 (n := R0 / 2251799813685248 + R1 % 2251799813685248) (by omega) (by omega), wrap_u64 (n := R1 / 2251799813685248 + R2 % 2251799813685248) (by omega) (by omega),
    wrap_u64 (n := R2 / 2251799813685248 + R3 % 2251799813685248) (by omega) (by omega), wrap_u64 (n := R3 / 2251799813685248 + R4 % 2251799813685248) (by omega) (by omega)]
  rfl
theorem tail_fe {R0 R1 R2 R3 R4 : Int} (n0 : 0 ≤ R0 ∧ R0 ≤ 1000000000000000000000000000000000) (n1 : 0 ≤ R1 ∧ R1 ≤ 1000000000000000000000000000000000) (n2 : 0 ≤ R2 ∧ R2 ≤ 1000000000000000000000000000000000)
    (n3 : 0 ≤ R3 ∧ R3 ≤ 1000000000000000000000000000000000) (n4 : 0 ≤ R4 ∧ R4 ≤ 26000000000000000000000000000000) :
    U5 (mk5 (R0 % 2251799813685248 + R4 / 2251799813685248 * 19) (R0 / 2251799813685248 + R1 % 2251799813685248) (R1 / 2251799813685248 + R2 % 2251799813685248)
      (R2 / 2251799813685248 + R3 % 2251799813685248) (R3 / 2251799813685248 + R4 % 2251799813685248)) ∧ fe (mk5 (R0 % 2251799813685248 + R4 / 2251799813685248 * 19) (R0 / 2251799813685248 + R1 % 2251799813685248) (R1 / 2251799813685248 + R2 % 2251799813685248)
      (R2 / 2251799813685248 + R3 % 2251799813685248) (R3 / 2251799813685248 + R4 % 2251799813685248)) =
      toF (R0 + R1 * 2251799813685248 + R2 * 5070602400912917605986812821504 + R3 * 11417981541647679048466287755595961091061972992 + R4 * 25711008708143844408671393477458601640355247900524685364822016) := by
  constructor
  · simp only [U5, U64, mk5]; omega
  · unfold fe
    rw [← toF_pp (val5 _) (R4 / 2251799813685248)]
    congr 1
    simp only [val5, pp, mk5]; omega
set_option maxHeartbeats 1000000 in
theorem mul_fe {x y : Fe} (hx : Ok5 x) (hy : Ok5 y) : Ok5 (mulOut mulFn add64 feCarry x y) ∧ fe (mulOut mulFn add64 feCarry x y) = fe x * fe y := by
  obtain ⟨_, hr⟩ := mulNeeds_ok hx hy
  obtain ⟨x0, x1, x2, x3, x4, u⟩ := x
  obtain ⟨y0, y1, y2, y3, y4, v⟩ := y
  have hv := mul_val x0 x1 x2 x3 x4 y0 y1 y2 y3 y4 u v hx
  have bnd : ∀ {p q : Int}, 0 ≤ p → p < 2251799813947392 → 0 ≤ q → q < 2251799813947392 → 0 ≤ p * q ∧ p * q ≤ 5070602402093548913987446767616 := fun {p q} h1 h2 h3 h4 =>
    ⟨Int.mul_nonneg h1 h3, Int.le_trans (Int.mul_le_mul (c := 2251799813947392) (d := 2251799813947392) (by omega) (by omega) h3 (by decide)) (by decide)⟩
  simp only [Ok5, Lim] at hx hy
  obtain ⟨hx0, hx1, hx2, hx3, hx4⟩ := hx
  obtain ⟨hy0, hy1, hy2, hy3, hy4⟩ := hy
  have b00 := bnd hx0.1 hx0.2 hy0.1 hy0.2
  have b01 := bnd hx0.1 hx0.2 hy1.1 hy1.2
  have b02 := bnd hx0.1 hx0.2 hy2.1 hy2.2
  have b03 := bnd hx0.1 hx0.2 hy3.1 hy3.2
  have b04 := bnd hx0.1 hx0.2 hy4.1 hy4.2
  have b10 := bnd hx1.1 hx1.2 hy0.1 hy0.2
  have b11 := bnd hx1.1 hx1.2 hy1.1 hy1.2
  have b12 := bnd hx1.1 hx1.2 hy2.1 hy2.2
  have b13 := bnd hx1.1 hx1.2 hy3.1 hy3.2
  have b14 := bnd hx1.1 hx1.2 hy4.1 hy4.2
  have b20 := bnd hx2.1 hx2.2 hy0.1 hy0.2
  have b21 := bnd hx2.1 hx2.2 hy1.1 hy1.2
  have b22 := bnd hx2.1 hx2.2 hy2.1 hy2.2
  have b23 := bnd hx2.1 hx2.2 hy3.1 hy3.2
  have b24 := bnd hx2.1 hx2.2 hy4.1 hy4.2
  have b30 := bnd hx3.1 hx3.2 hy0.1 hy0.2
  have b31 := bnd hx3.1 hx3.2 hy1.1 hy1.2
  have b32 := bnd hx3.1 hx3.2 hy2.1 hy2.2
  have b33 := bnd hx3.1 hx3.2 hy3.1 hy3.2
  have b34 := bnd hx3.1 hx3.2 hy4.1 hy4.2
  have b40 := bnd hx4.1 hx4.2 hy0.1 hy0.2
  have b41 := bnd hx4.1 hx4.2 hy1.1 hy1.2
  have b42 := bnd hx4.1 hx4.2 hy2.1 hy2.2
  have b43 := bnd hx4.1 hx4.2 hy3.1 hy3.2
  have b44 := bnd hx4.1 hx4.2 hy4.1 hy4.2
  have sw : ∀ a b : Int, a * 19 * b = 19 * (a * b) := fun a b => by rw [Int.mul_comm a 19, Int.mul_assoc]
  obtain ⟨p0, e0, k0, v0⟩ := hr 0 (by decide)
  obtain ⟨p1, e1, k1, v1⟩ := hr 1 (by decide)
  obtain ⟨p2, e2, k2, v2⟩ := hr 2 (by decide)
  obtain ⟨p3, e3, k3, v3⟩ := hr 3 (by decide)
  obtain ⟨p4, e4, k4, v4⟩ := hr 4 (by decide)
  rw [hv 0 (by decide)] at v0
  rw [hv 1 (by decide)] at v1
  rw [hv 2 (by decide)] at v2
  rw [hv 3 (by decide)] at v3
  rw [hv 4 (by decide)] at v4
  have v0' : pv p0 = x0 * y0 + x1 * 19 * y4 + x2 * 19 * y3 + x3 * 19 * y2 + x4 * 19 * y1 := v0
  have v1' : pv p1 = x0 * y1 + x1 * y0 + x2 * 19 * y4 + x3 * 19 * y3 + x4 * 19 * y2 := v1
  have v2' : pv p2 = x0 * y2 + x1 * y1 + x2 * y0 + x3 * 19 * y4 + x4 * 19 * y3 := v2
  have v3' : pv p3 = x0 * y3 + x1 * y2 + x2 * y1 + x3 * y0 + x4 * 19 * y4 := v3
  have v4' : pv p4 = x0 * y4 + x1 * y3 + x2 * y2 + x3 * y1 + x4 * y0 := v4
  have hring := mul_ring (toF x0) (toF x1) (toF x2) (toF x3) (toF x4) (toF y0) (toF y1) (toF y2) (toF y3) (toF y4) tt tt5
  have hR0 : toF (pv p0) = toF x0 * toF y0 + toF x1 * 19 * toF y4 + toF x2 * 19 * toF y3 + toF x3 * 19 * toF y2 + toF x4 * 19 * toF y1 := by rw [v0']; simp only [toF_add, toF_mul, t19]
  have hR1 : toF (pv p1) = toF x0 * toF y1 + toF x1 * toF y0 + toF x2 * 19 * toF y4 + toF x3 * 19 * toF y3 + toF x4 * 19 * toF y2 := by rw [v1']; simp only [toF_add, toF_mul, t19]
  have hR2 : toF (pv p2) = toF x0 * toF y2 + toF x1 * toF y1 + toF x2 * toF y0 + toF x3 * 19 * toF y4 + toF x4 * 19 * toF y3 := by rw [v2']; simp only [toF_add, toF_mul, t19]
  have hR3 : toF (pv p3) = toF x0 * toF y3 + toF x1 * toF y2 + toF x2 * toF y1 + toF x3 * toF y0 + toF x4 * 19 * toF y4 := by rw [v3']; simp only [toF_add, toF_mul, t19]
  have hR4 : toF (pv p4) = toF x0 * toF y4 + toF x1 * toF y3 + toF x2 * toF y2 + toF x3 * toF y1 + toF x4 * toF y0 := by rw [v4']; simp only [toF_add, toF_mul]
  rw [← hR0, ← hR1, ← hR2, ← hR3, ← hR4] at hring
  have n0 : 0 ≤ pv p0 ∧ pv p0 ≤ 1000000000000000000000000000000000 := by rw [v0']; simp only [sw]; omega
  have n1 : 0 ≤ pv p1 ∧ pv p1 ≤ 1000000000000000000000000000000000 := by rw [v1']; simp only [sw]; omega
  have n2 : 0 ≤ pv p2 ∧ pv p2 ≤ 1000000000000000000000000000000000 := by rw [v2']; simp only [sw]; omega
  have n3 : 0 ≤ pv p3 ∧ pv p3 ≤ 1000000000000000000000000000000000 := by rw [v3']; simp only [sw]; omega
  have n4 : 0 ≤ pv p4 ∧ pv p4 ≤ 26000000000000000000000000000000 := by rw [v4']; omega
  obtain ⟨l0, c0⟩ := high_low k0 rfl (by omega)
  obtain ⟨l1, c1⟩ := high_low k1 rfl (by omega)
  obtain ⟨l2, c2⟩ := high_low k2 rfl (by omega)
  obtain ⟨l3, c3⟩ := high_low k3 rfl (by omega)
  obtain ⟨l4, c4⟩ := high_low k4 rfl (by omega)
  generalize pv p0 = R0 at *
  generalize pv p1 = R1 at *
  generalize pv p2 = R2 at *
  generalize pv p3 = R3 at *
  generalize pv p4 = R4 at *
  have e : mulOut mulFn add64 feCarry (x0, x1, x2, x3, x4, u) (y0, y1, y2, y3, y4, v) = feCarry (mk5 (R0 % 2251799813685248 + R4 / 2251799813685248 * 19) (R0 / 2251799813685248 + R1 % 2251799813685248) (R1 / 2251799813685248 + R2 % 2251799813685248)
      (R2 / 2251799813685248 + R3 % 2251799813685248) (R3 / 2251799813685248 + R4 % 2251799813685248)) := by
    rw [← tail_mk n0 n1 n2 n3 n4]
    simp only [mulOut, e0, e1, e2, e3, e4, l0, l1, l2, l3, l4, c0, c1, c2, c3, c4]
  rw [e]
  obtain ⟨hU, h3⟩ := tail_fe n0 n1 n2 n3 n4
  obtain ⟨h1, h2⟩ := carry_fe hU
  refine ⟨h1, ?_⟩
  rw [h2, h3, toF_val5, hring]
  show _ = toF (x0 + x1 * _ + _ + _ + _) * toF (y0 + y1 * _ + _ + _ + _)
  rw [toF_val5, toF_val5]
def Lim51 (n : Int) : Prop := 0 ≤ n ∧ n < 2251799813685248
def Lst5 (x : Fe) : Prop := (Lim51 x.1 ∧ Lim51 x.2.1 ∧ Lim51 x.2.2.1 ∧ Lim51 x.2.2.2.1 ∧ Lim51 x.2.2.2.2.1) ∧ val5 x < (pp : Int)
theorem least_fe {x : Fe} (hx : Ok5 x) : Lst5 (feLeast feCarry x) ∧ fe (feLeast feCarry x) = fe x := by
  obtain ⟨hy, hyx⟩ := carry_fe (x := x) (by simp only [Ok5, Lim] at hx; simp only [U5, U64]; omega)
  rw [← hyx]
  unfold feLeast
  generalize feCarry x = y at hy
  obtain ⟨y0, y1, y2, y3, y4, u⟩ := y
  simp only [Ok5, Lim] at hy
  simp only [and_msk, shr_51, w64]
  obtain ⟨a0, ha0⟩ : ∃ a, a = (y0 + 19) / 2251799813685248 := ⟨_, rfl⟩
  obtain ⟨a1, ha1⟩ : ∃ a, a = (y1 + a0) / 2251799813685248 := ⟨_, rfl⟩
  obtain ⟨a2, ha2⟩ : ∃ a, a = (y2 + a1) / 2251799813685248 := ⟨_, rfl⟩
  obtain ⟨a3, ha3⟩ : ∃ a, a = (y3 + a2) / 2251799813685248 := ⟨_, rfl⟩
  obtain ⟨q, hq⟩ : ∃ a, a = (y4 + a3) / 2251799813685248 := ⟨_, rfl⟩
  rw [wrap_u64 (n := y0 + 19) (by omega) (by omega), ← ha0]
  rw [wrap_u64 (n := y1 + a0) (by omega) (by omega), ← ha1]
  rw [wrap_u64 (n := y2 + a1) (by omega) (by omega), ← ha2]
  rw [wrap_u64 (n := y3 + a2) (by omega) (by omega), ← ha3]
  rw [wrap_u64 (n := y4 + a3) (by omega) (by omega), ← hq]
  have hq01 : q = 0 ∨ q = 1 := by omega
  rw [wrap_u64 (n := q * 19) (by omega) (by omega)]
  obtain ⟨c0, hc0⟩ : ∃ a, a = q * 19 + y0 := ⟨_, rfl⟩
  rw [wrap_u64 (n := q * 19 + y0) (by omega) (by omega), ← hc0]
  obtain ⟨c1, hc1⟩ : ∃ a, a = c0 / 2251799813685248 + y1 := ⟨_, rfl⟩
  rw [wrap_u64 (n := c0 / 2251799813685248 + y1) (by omega) (by omega), ← hc1]
  obtain ⟨c2, hc2⟩ : ∃ a, a = c1 / 2251799813685248 + y2 := ⟨_, rfl⟩
  rw [wrap_u64 (n := c1 / 2251799813685248 + y2) (by omega) (by omega), ← hc2]
  obtain ⟨c3, hc3⟩ : ∃ a, a = c2 / 2251799813685248 + y3 := ⟨_, rfl⟩
  rw [wrap_u64 (n := c2 / 2251799813685248 + y3) (by omega) (by omega), ← hc3]
  obtain ⟨c4, hc4⟩ : ∃ a, a = c3 / 2251799813685248 + y4 := ⟨_, rfl⟩
  rw [wrap_u64 (n := c3 / 2251799813685248 + y4) (by omega) (by omega), ← hc4]
  have hval : val5 (c0 % 2251799813685248, c1 % 2251799813685248, c2 % 2251799813685248, c3 % 2251799813685248, c4 % 2251799813685248, ()) = val5 (y0, y1, y2, y3, y4, u) - q * (pp : Int) ∧
      val5 (c0 % 2251799813685248, c1 % 2251799813685248, c2 % 2251799813685248, c3 % 2251799813685248, c4 % 2251799813685248, ()) < (pp : Int) := by
    simp only [val5, pp]
    rcases hq01 with rfl | rfl
    · constructor <;> omega
    · constructor <;> omega
  refine ⟨⟨by simp only [Lim51]; omega, hval.2⟩, ?_⟩
  unfold fe
  rw [hval.1, ← toF_pp (val5 (y0, y1, y2, y3, y4, u) - _) q]
  congr 1; omega
end Go.Proofs.Ythdfifcgobfgdaa
namespace Go.Proofs.Ythdfifcgobfgdaa
open Go Go.Ev BJ
def valB : {n : Nat} → Vec Int n → Int
  | 0, _ => 0
  | _ + 1, v => v.1 + 256 * valB v.2
def OkB : {n : Nat} → Vec Int n → Prop
  | 0, _ => True
  | _ + 1, v => (0 ≤ v.1 ∧ v.1 < 256) ∧ OkB v.2
theorem valB_nonneg : {n : Nat} → {v : Vec Int n} → OkB v → 0 ≤ valB v
  | 0, _, _ => Int.le_refl _
  | n + 1, v, h => by have := valB_nonneg h.2; have := h.1; simp only [valB]; omega
theorem valB_lt : {n : Nat} → {v : Vec Int n} → OkB v → valB v < (256 ^ n : Nat)
  | 0, _, _ => by simp [valB]
  | n + 1, v, h => by
    have h1 := valB_lt h.2
    have h2 := h.1
    simp only [valB]
    have e : (256 ^ (n + 1) : Nat) = 256 * 256 ^ n := by rw [Nat.pow_succ, Nat.mul_comm]
    rw [e]
    generalize (256 ^ n : Nat) = m at *
    omega
theorem valB_inj : {n : Nat} → {v u : Vec Int n} → OkB v → OkB u → valB v = valB u → v = u
  | 0, _, _, _, _, _ => rfl
  | n + 1, v, u, hv, hu, h => by
    simp only [valB] at h
    have h1 := hv.1
    have h2 := hu.1
    have e1 : v.1 = u.1 := by omega
    have e2 : valB v.2 = valB u.2 := by omega
    exact Prod.ext e1 (valB_inj hv.2 hu.2 e2)
def digB (n : Nat) (V : Int) : Vec Int n := Vec.ofFn n fun j => V / (256 ^ j : Nat) % 256
theorem digB_spec : (n : Nat) → (V : Int) → 0 ≤ V → OkB (digB n V) ∧ valB (digB n V) = V % (256 ^ n : Nat)
  | 0, V, h => ⟨trivial, by simp [valB]⟩
  | n + 1, V, h => by
    have e : digB (n + 1) V = (V / (256 ^ 0 : Nat) % 256, digB n (V / 256)) := by
      unfold digB
      show (_, Vec.ofFn n fun i => V / (256 ^ (i + 1) : Nat) % 256) = _
      have : (fun i : Nat => V / (256 ^ (i + 1) : Nat) % 256) = fun j : Nat => V / 256 / (256 ^ j : Nat) % 256 := by
        funext j
        rw [Int.ediv_ediv_of_nonneg (by omega)]
        congr 2
        rw [Nat.pow_succ]; simp [Int.mul_comm]
      rw [this]
    rw [e]
    obtain ⟨h1, h2⟩ := digB_spec n (V / 256) (by omega)
    refine ⟨⟨by simp only [Nat.pow_zero]; omega, h1⟩, ?_⟩
    show V / (256 ^ 0 : Nat) % 256 + 256 * valB (digB n (V / 256)) = _
    rw [h2]
    have e2 : (256 ^ (n + 1) : Nat) = 256 * 256 ^ n := by rw [Nat.pow_succ, Nat.mul_comm]
    rw [e2]
    generalize hm : (256 ^ n : Nat) = m
    have hm0 : 0 < (m : Int) := by have := Nat.pow_pos (n := n) (show 0 < 256 by decide); omega
    have h3 := Int.emod_nonneg (V / 256) (b := (m : Int)) (by omega)
    have h4 := Int.emod_lt_of_pos (V / 256) hm0
    have h5 := Int.emod_add_mul_ediv (V / 256) (m : Int)
    have h6 : V = (V % 256 + 256 * (V / 256 % m)) + ((256 * m : Nat) : Int) * (V / 256 / m) := by
      rw [Int.natCast_mul, Int.mul_assoc]
      generalize (m : Int) * (V / 256 / m) = z at *
      omega
    rw [Nat.pow_zero]
    have h7 : V % ((256 * m : Nat) : Int) = V % 256 + 256 * (V / 256 % m) := by
      conv => lhs; rw [h6]
      rw [Int.add_mul_emod_self_left]
      exact Int.emod_eq_of_lt (by omega) (by rw [Int.natCast_mul]; omega)
    rw [h7]; omega
theorem digB_valB {n : Nat} {v : Vec Int n} (h : OkB v) : digB n (valB v) = v := by
  obtain ⟨h1, h2⟩ := digB_spec n (valB v) (valB_nonneg h)
  exact valB_inj h1 h (by rw [h2, Int.emod_eq_of_lt (valB_nonneg h) (valB_lt h)])
def bytesF (a : F) : B32 := digB 32 (a.val : Int)
theorem p256 : (256 ^ 32 : Nat) = 115792089237316195423570985008687907853269984665640564039457584007913129639936 := by decide
theorem bytesF_val (a : F) : OkB (bytesF a) ∧ valB (bytesF a) = (a.val : Int) := by
  obtain ⟨h1, h2⟩ := digB_spec 32 (a.val : Int) (by omega)
  have := a.isLt
  refine ⟨h1, h2.trans (Int.emod_eq_of_lt (by omega) ?_)⟩
  rw [p256]; simp only [pp] at this; omega
theorem bytesF_inj {a b : F} (h : bytesF a = bytesF b) : a = b := F_ext (by rw [← (bytesF_val a).2, ← (bytesF_val b).2, h])
def bsum (f : Nat → Int) : Nat → Int
  | 0 => 0
  | n + 1 => bsum f n + f n * (2 ^ n : Nat)
theorem or_bits (f : Nat → Int) : ∀ n, n ≤ 8 → (∀ i, i < n → 0 ≤ f i ∧ f i ≤ 1) →
    (List.range n).foldl (fun acc i => bitOr .u8 acc (shl .u8 (f i) (i : Int))) 0 = bsum f n ∧ 0 ≤ bsum f n ∧ bsum f n < (2 ^ n : Nat)
  | 0, _, _ => ⟨rfl, by simp [bsum], by simp [bsum]⟩
  | n + 1, hn, hf => by
    obtain ⟨h1, h2, h3⟩ := or_bits f n (by omega) fun i hi => hf i (by omega)
    have h4 := hf n (by omega)
    rw [List.range_succ, List.foldl_append, h1]
    simp only [List.foldl_cons, List.foldl_nil, bsum]
    have hp : 0 < 2 ^ n := Nat.two_pow_pos n
    have hle : 2 ^ n ≤ 2 ^ 7 := Nat.pow_le_pow_right (by omega) (by omega)
    have hs : f n * (2 ^ n : Nat) = 0 ∨ f n * (2 ^ n : Nat) = (2 ^ n : Nat) := by
      have : f n = 0 ∨ f n = 1 := by omega
      rcases this with e | e <;> rw [e] <;> simp
    have e : shl .u8 (f n) (n : Int) = f n * (2 ^ n : Nat) := by
      rw [shl_mul .u8 _ _ (by show n ≤ 8; omega), wrap_u8]
      have : (2 : Nat) ^ 7 = 128 := by decide
      omega
    have hm : f n * (2 ^ n : Nat) % (2 ^ n : Nat) = 0 := Int.mul_emod_left _ _
    have h7 : (2 : Nat) ^ 7 = 128 := by decide
    rw [e, or_comm', or_u8 (m := n) (by omega) hm h2 h3 (by omega)]
    have e2 : (2 ^ (n + 1) : Nat) = 2 * 2 ^ n := by rw [Nat.pow_succ, Nat.mul_comm]
    rw [e2]
    refine ⟨by omega, by omega, by omega⟩
theorem bit_low (u H : Int) {b : Nat} (hb : b < 51) : (u + 2251799813685248 * H) / (2 ^ b : Nat) % 2 = u / (2 ^ b : Nat) % 2 := by
  have e : (2251799813685248 : Int) = (2 ^ b : Nat) * (2 * (2 ^ (50 - b) : Nat)) := by
    have : (2251799813685248 : Nat) = 2 ^ b * (2 * 2 ^ (50 - b)) := by
      rw [← Nat.mul_assoc, Nat.mul_comm (2 ^ b) 2, Nat.mul_assoc, ← Nat.pow_add, show b + (50 - b) = 50 by omega]
    have h2 : ((2251799813685248 : Nat) : Int) = ((2 ^ b * (2 * 2 ^ (50 - b)) : Nat) : Int) := by rw [← this]
    rw [Int.natCast_mul, Int.natCast_mul] at h2
    exact h2
  rw [e, Int.mul_assoc, Int.add_mul_ediv_left _ _ (by have := Nat.two_pow_pos b; omega), Int.mul_assoc, Int.add_mul_emod_self_left]
theorem limb_bit {y : Fe} (h : Lim51 y.1 ∧ Lim51 y.2.1 ∧ Lim51 y.2.2.1 ∧ Lim51 y.2.2.2.1 ∧ Lim51 y.2.2.2.2.1) (q : Nat) (hq : q < 255) :
    y.get (q / 51) / (2 ^ (q % 51) : Nat) % 2 = val5 y / (2 ^ q : Nat) % 2 := by
  obtain ⟨y0, y1, y2, y3, y4, u⟩ := y
  simp only [Lim51] at h
  have hb : q % 51 < 51 := Nat.mod_lt _ (by decide)
  have hq2 : (2 ^ q : Nat) = 2 ^ (51 * (q / 51)) * 2 ^ (q % 51) := by rw [← Nat.pow_add]; congr 1; omega
  rw [hq2, Int.natCast_mul, ← Int.ediv_ediv_of_nonneg (Int.natCast_nonneg _)]
  have h5 : q / 51 < 5 := by omega
  generalize q % 51 = b at *
  generalize q / 51 = a at *
  have key : ∀ (V H : Int), val5 (y0, y1, y2, y3, y4, u) / (2 ^ (51 * a) : Nat) = V + 2251799813685248 * H → V / (2 ^ b : Nat) % 2 = val5 (y0, y1, y2, y3, y4, u) / (2 ^ (51 * a) : Nat) / (2 ^ b : Nat) % 2 := by
    intro V H e; rw [e, bit_low V H hb]
  match a, h5 with
  | 0, _ => exact key y0 (y1 + y2 * 2251799813685248 + y3 * 5070602400912917605986812821504 + y4 * 11417981541647679048466287755595961091061972992) (by simp only [val5, Nat.mul_zero, Nat.pow_zero]; omega)
  | 1, _ => exact key y1 (y2 + y3 * 2251799813685248 + y4 * 5070602400912917605986812821504) (by
      have : (2 : Nat) ^ (51 * 1) = 2251799813685248 := by decide
      rw [this]; simp only [val5]; omega)
  | 2, _ => exact key y2 (y3 + y4 * 2251799813685248) (by
      have : (2 : Nat) ^ (51 * 2) = 5070602400912917605986812821504 := by decide
      rw [this]; simp only [val5]; omega)
  | 3, _ => exact key y3 y4 (by
      have : (2 : Nat) ^ (51 * 3) = 11417981541647679048466287755595961091061972992 := by decide
      rw [this]; simp only [val5]; omega)
  | 4, _ => exact key y4 0 (by
      have : (2 : Nat) ^ (51 * 4) = 25711008708143844408671393477458601640355247900524685364822016 := by decide
      rw [this]; simp only [val5]; omega)
theorem bsum8 (W : Int) : bsum (fun i => W / (2 ^ i : Nat) % 2) 8 = W % 256 := by
  simp [bsum]; omega
theorem bsum7 (W : Int) (h0 : 0 ≤ W) (h : W < 128) : bsum (fun i => W / (2 ^ i : Nat) % 2) 7 = W % 256 := by
  simp [bsum]; omega
theorem ofFn_congr {α : Type} : ∀ {n : Nat} {f g : Nat → α}, (∀ i, i < n → f i = g i) → Vec.ofFn n f = Vec.ofFn n g
  | 0, _, _, _ => rfl
  | n + 1, f, g, h => by
    show (f 0, Vec.ofFn n _) = (g 0, Vec.ofFn n _)
    rw [h 0 (by omega), ofFn_congr (n := n) fun i hi => h (i + 1) (by omega)]
theorem bits_dig {y : Fe} (h : Lst5 y) : feBits y = digB 32 (val5 y) := by
  have hv0 : 0 ≤ val5 y := by
    obtain ⟨y0, y1, y2, y3, y4, u⟩ := y
    have := h.1
    simp only [Lim51] at this
    simp only [val5]; omega
  have hv1 := h.2
  unfold feBits digB
  refine ofFn_congr fun j hj => ?_
  have hfold : ∀ n, n ≤ 8 → (∀ i, i < n → 8 * j + i < 255) →
      (List.range n).foldl (fun acc i => bitOr .u8 acc (shl .u8 (IntKind.u8.wrap (and64 (shr64 (y.get ((8 * j + i) / 51)) (((8 * j + i) % 51 : Nat) : Int)) 1)) (i : Int))) 0 =
        bsum (fun i => val5 y / (2 ^ (8 * j) : Nat) / (2 ^ i : Nat) % 2) n := by
    intro n hn hlt
    have hbit : ∀ i, i < n → IntKind.u8.wrap (and64 (shr64 (y.get ((8 * j + i) / 51)) (((8 * j + i) % 51 : Nat) : Int)) 1) = val5 y / (2 ^ (8 * j) : Nat) / (2 ^ i : Nat) % 2 := by
      intro i hi
      have e1 : shr64 (y.get ((8 * j + i) / 51)) (((8 * j + i) % 51 : Nat) : Int) = y.get ((8 * j + i) / 51) / (2 ^ ((8 * j + i) % 51) : Nat) := shr_div .u64 _ _ (by show (8 * j + i) % 51 ≤ 64; omega)
      have e2 : ∀ x, and64 x 1 = x % 2 := fun x => by
        have := and_u64 (m := 1) (by decide) x 1 (by decide)
        simpa [and64] using this
      rw [e1, e2, limb_bit h.1 _ (hlt i hi), wrap_u8, Int.ediv_ediv_of_nonneg (Int.natCast_nonneg _), ← Int.natCast_mul, ← Nat.pow_add]
      omega
    have hcongr : ∀ (l : List Nat) (a : Int), (∀ i ∈ l, i < n) → l.foldl (fun (acc : Int) (i : Nat) => bitOr .u8 acc (shl .u8 (IntKind.u8.wrap (and64 (shr64 (y.get ((8 * j + i) / 51)) (((8 * j + i) % 51 : Nat) : Int)) 1)) (i : Int))) a =
        l.foldl (fun (acc : Int) (i : Nat) => bitOr .u8 acc (shl .u8 (val5 y / (2 ^ (8 * j) : Nat) / (2 ^ i : Nat) % 2) (i : Int))) a := by
      intro l
      induction l with
      | nil => intro a _; rfl
      | cons i l ih => intro a hl; simp only [List.foldl_cons]; rw [hbit i (hl i (by simp)), ih _ fun k hk => hl k (by simp [hk])]
    rw [hcongr _ _ fun i hi => List.mem_range.1 hi]
    exact (or_bits (fun i => val5 y / (2 ^ (8 * j) : Nat) / (2 ^ i : Nat) % 2) n hn fun i _ => by
      have := Int.emod_nonneg (val5 y / (2 ^ (8 * j) : Nat) / (2 ^ i : Nat)) (b := 2) (by omega)
      have := Int.emod_lt_of_pos (val5 y / (2 ^ (8 * j) : Nat) / (2 ^ i : Nat)) (b := 2) (by omega)
      omega).1
  have e8 : (2 ^ (8 * j) : Nat) = 256 ^ j := by rw [Nat.pow_mul]
  by_cases h31 : j = 31
  · rw [if_pos h31, hfold 7 (by omega) (fun i hi => by omega), e8]
    refine bsum7 _ (Int.ediv_nonneg hv0 (Int.natCast_nonneg _)) ?_
    subst h31
    have : (256 ^ 31 : Nat) = 452312848583266388373324160190187140051835877600158453279131187530910662656 := by decide
    rw [this]
    simp only [pp] at hv1
    omega
  · rw [if_neg h31, hfold 8 (by omega) (fun i hi => by omega), e8]
    exact bsum8 _
theorem val_of_least {y : Fe} (h : Lst5 y) : ((fe y).val : Int) = val5 y := by
  have hv0 : 0 ≤ val5 y := by
    obtain ⟨y0, y1, y2, y3, y4, u⟩ := y
    have := h.1
    simp only [Lim51] at this
    simp only [val5]; omega
  unfold fe
  rw [toF_val, Int.emod_eq_of_lt hv0 h.2]
noncomputable def feBytes (x : Fe) : B32 := feBits (feLeast feCarry x)
theorem bytes_fe {x : Fe} (h : Ok5 x) : feBytes x = bytesF (fe x) := by
  obtain ⟨h1, h2⟩ := least_fe h
  unfold feBytes bytesF
  rw [bits_dig h1, ← val_of_least h1, h2]
theorem eq_bytes {a b : F} : eqV (bytesF a) (bytesF b) = decide (a = b) := by
  by_cases h : a = b
  · subst h; rw [decide_eq_true rfl]; exact (eqV_iff _ _).2 rfl
  · rw [decide_eq_false h]
    refine Bool.eq_false_iff.2 fun e => h (bytesF_inj ((eqV_iff _ _).1 e))
theorem equal_fe {x y : Fe} (hx : Ok5 x) (hy : Ok5 y) : eqV (feBytes x) (feBytes y) = decide (fe x = fe y) := by
  rw [bytes_fe hx, bytes_fe hy, eq_bytes]
theorem odd_fe {x : Fe} (h : Ok5 x) : feOdd feBytes x = decide ((fe x).val % 2 = 1) := by
  unfold feOdd
  rw [bytes_fe h]
  have e : (bytesF (fe x)).1 = ((fe x).val : Int) / (256 ^ 0 : Nat) % 256 := rfl
  rw [e, and_u8 (m := 1) (by decide) _ 1 (by decide)]
  have : ((((fe x).val : Int) / (256 ^ 0 : Nat) % 256 % (2 ^ 1 : Nat) == 1) = true) ↔ (fe x).val % 2 = 1 := by
    rw [beq_iff_eq]; simp only [Nat.pow_zero, Nat.pow_one]; omega
  by_cases h1 : (fe x).val % 2 = 1
  · rw [decide_eq_true h1]; exact this.2 h1
  · rw [decide_eq_false h1]; exact Bool.eq_false_iff.2 fun e => h1 (this.1 e)
theorem small_fe {n : Int} (h : U64 n) : Ok5 (feSmall n) ∧ fe (feSmall n) = toF n := by
  simp only [U64] at h
  have e : feSmall n = mk5 (n % 2251799813685248) (n / 2251799813685248) 0 0 0 := by
    simp only [feSmall, and_msk, shr_51]; rfl
  rw [e]
  refine ⟨by simp only [Ok5, Lim, mk5]; omega, ?_⟩
  unfold fe; congr 1; simp only [val5, mk5]; omega
end Go.Proofs.Ythdfifcgobfgdaa
end

section
namespace Go.Proofs.Ythdfifcgobfgdaa
open Go Go.Ev BJ
def wsum (f : Nat → Int) : Nat → Int
  | 0 => 0
  | n + 1 => wsum f n + f n * (256 ^ n : Nat)
theorem or_words (f : Nat → Int) : ∀ n, n ≤ 8 → (∀ i, i < n → 0 ≤ f i ∧ f i < 256) →
    (List.range n).foldl (fun acc i => bitOr .u64 acc (shl .u64 (w64 (f i)) ((8 * i : Nat) : Int))) 0 = wsum f n ∧ 0 ≤ wsum f n ∧ wsum f n < (256 ^ n : Nat)
  | 0, _, _ => ⟨rfl, by simp [wsum], by simp [wsum]⟩
  | n + 1, hn, hf => by
    obtain ⟨h1, h2, h3⟩ := or_words f n (by omega) fun i hi => hf i (by omega)
    have h4 := hf n (by omega)
    rw [List.range_succ, List.foldl_append, h1]
    simp only [List.foldl_cons, List.foldl_nil, wsum]
    have hle : 256 ^ n ≤ 256 ^ 7 := Nat.pow_le_pow_right (by omega) (by omega)
    have h7 : (256 : Nat) ^ 7 = 72057594037927936 := by decide
    have e8 : (2 ^ (8 * n) : Nat) = 256 ^ n := by rw [Nat.pow_mul]
    have hmul : 0 ≤ f n * (256 ^ n : Nat) ∧ f n * (256 ^ n : Nat) ≤ 255 * (256 ^ n : Nat) := ⟨Int.mul_nonneg h4.1 (Int.natCast_nonneg _), Int.mul_le_mul_of_nonneg_right (by omega) (Int.natCast_nonneg _)⟩
    have hm : f n * (256 ^ n : Nat) % (256 ^ n : Nat) = 0 := Int.mul_emod_left _ _
    have e : shl .u64 (w64 (f n)) ((8 * n : Nat) : Int) = f n * (256 ^ n : Nat) := by
      rw [shl_mul .u64 _ _ (by show 8 * n ≤ 64; omega), e8]
      unfold w64
      rw [wrap_u64 (n := f n) (by omega) (by omega)]
      exact wrap_u64 hmul.1 (by omega)
    have e2 : (256 ^ (n + 1) : Nat) = 256 * 256 ^ n := by rw [Nat.pow_succ, Nat.mul_comm]
    rw [e, or_comm', or_u64 (m := 8 * n) hmul.1 (by rw [e8]; exact hm) h2 (by rw [e8]; exact h3) (by omega), e2]
    refine ⟨by omega, by omega, by omega⟩
theorem get_ofFn {f : Nat → Int} : ∀ {n i : Nat}, i < n → Vec.get (Vec.ofFn n f) i = f i
  | 0, _, h => absurd h (by omega)
  | n + 1, 0, _ => rfl
  | n + 1, i + 1, h => by
    show Vec.get (Vec.ofFn n fun k => f (k + 1)) i = _
    rw [get_ofFn (n := n) (by omega)]
theorem get_val {n : Nat} {v : Vec Int n} (h : OkB v) {i : Nat} (hi : i < n) : v.get i = valB v / (256 ^ i : Nat) % 256 := by
  conv => lhs; rw [← digB_valB h]
  unfold digB
  rw [get_ofFn hi]
theorem get_byte {n : Nat} {v : Vec Int n} (h : OkB v) {i : Nat} (hi : i < n) : 0 ≤ v.get i ∧ v.get i < 256 := by
  rw [get_val h hi]; omega
theorem wsum_dig (V : Int) (hV : 0 ≤ V) : ∀ n, wsum (fun i => V / (256 ^ i : Nat) % 256) n = V % (256 ^ n : Nat)
  | 0 => by simp [wsum]
  | n + 1 => by
    simp only [wsum]
    rw [wsum_dig V hV n]
    have e2 : (256 ^ (n + 1) : Nat) = 256 ^ n * 256 := Nat.pow_succ ..
    rw [e2]
    generalize hm : (256 ^ n : Nat) = m
    have hm0 : 0 < (m : Int) := by have := Nat.pow_pos (n := n) (show 0 < 256 by decide); omega
    have h3 := Int.emod_nonneg V (b := (m : Int)) (by omega)
    have h4 := Int.emod_lt_of_pos V hm0
    have h5 := Int.emod_add_mul_ediv V (m : Int)
    have h6 : V = (V % m + V / m % 256 * m) + ((m * 256 : Nat) : Int) * (V / m / 256) := by
      rw [Int.natCast_mul, Int.mul_assoc]
      have h7 : V / m = V / m % 256 + 256 * (V / m / 256) := by omega
      have h8 : (m : Int) * (V / m) = m * (V / m % 256) + m * (256 * (V / m / 256)) := by rw [← Int.mul_add, ← h7]
      rw [Int.mul_comm (V / m % 256) m]
      have h9 : (m : Int) * (((256 : Nat) : Int) * (V / m / 256)) = m * (256 * (V / m / 256)) := rfl
      rw [h9]; omega
    have h10 : 0 ≤ V / m % 256 * m ∧ V / m % 256 * m ≤ 255 * m := ⟨Int.mul_nonneg (by omega) (by omega), Int.mul_le_mul_of_nonneg_right (by omega) (by omega)⟩
    conv => rhs; rw [h6]
    rw [Int.add_mul_emod_self_left]
    exact (Int.emod_eq_of_lt (by omega) (by rw [Int.natCast_mul]; omega)).symm
theorem word_val {b : B32} (h : OkB b) (j : Nat) (hj : j < 4) : word b j = valB b / (256 ^ (8 * j) : Nat) % 18446744073709551616 := by
  have h1 := (or_words (fun i => b.get (8 * j + i)) 8 (by omega) fun i hi => get_byte h (by omega)).1
  have hV := valB_nonneg h
  unfold word
  rw [h1]
  have h2 : wsum (fun i => b.get (8 * j + i)) 8 = wsum (fun i => valB b / (256 ^ (8 * j) : Nat) / (256 ^ i : Nat) % 256) 8 := by
    have key : ∀ n, n ≤ 8 → wsum (fun i => b.get (8 * j + i)) n = wsum (fun i => valB b / (256 ^ (8 * j) : Nat) / (256 ^ i : Nat) % 256) n := by
      intro n
      induction n with
      | zero => intro _; rfl
      | succ n ih =>
        intro hn
        simp only [wsum]
        rw [ih (by omega), get_val h (by omega), Int.ediv_ediv_of_nonneg (Int.natCast_nonneg _), ← Int.natCast_mul, ← Nat.pow_add]
    exact key 8 (by omega)
  rw [h2, wsum_dig _ (Int.ediv_nonneg hV (Int.natCast_nonneg _)) 8]
  rfl
theorem from_val {b : B32} (h : OkB b) : Ok5 (feFrom b) ∧ val5 (feFrom b) = valB b % 57896044618658097711785492504343953926634992332820282019728792003956564819968 := by
  have hV := valB_nonneg h
  have hV2 := valB_lt h
  rw [p256] at hV2
  have w0 := word_val h 0 (by omega)
  have w1 := word_val h 1 (by omega)
  have w2 := word_val h 2 (by omega)
  have w3 := word_val h 3 (by omega)
  have q0 : (256 ^ (8 * 0) : Nat) = 1 := by decide
  have q1 : (256 ^ (8 * 1) : Nat) = 18446744073709551616 := by decide
  have q2 : (256 ^ (8 * 2) : Nat) = 340282366920938463463374607431768211456 := by decide
  have q3 : (256 ^ (8 * 3) : Nat) = 6277101735386680763835789423207666416102355444464034512896 := by decide
  rw [q0] at w0; rw [q1] at w1; rw [q2] at w2; rw [q3] at w3
  unfold feFrom
  rw [w0, w1, w2, w3]
  generalize valB b = V at *
  obtain ⟨a0, ha0⟩ : ∃ a, a = V / ((1 : Nat) : Int) % 18446744073709551616 := ⟨_, rfl⟩
  obtain ⟨a1, ha1⟩ : ∃ a, a = V / ((18446744073709551616 : Nat) : Int) % 18446744073709551616 := ⟨_, rfl⟩
  obtain ⟨a2, ha2⟩ : ∃ a, a = V / ((340282366920938463463374607431768211456 : Nat) : Int) % 18446744073709551616 := ⟨_, rfl⟩
  obtain ⟨a3, ha3⟩ : ∃ a, a = V / ((6277101735386680763835789423207666416102355444464034512896 : Nat) : Int) % 18446744073709551616 := ⟨_, rfl⟩
  rw [← ha0, ← ha1, ← ha2, ← ha3]
  have sh : ∀ (x : Int) (n : Nat), n ≤ 64 → shr64 x n = x / (2 ^ n : Nat) := fun x n hn => shr_div .u64 x n hn
  have sl : ∀ (x : Int) (n : Nat), n ≤ 64 → shl .u64 x n = x * (2 ^ n : Nat) % 18446744073709551616 := fun x n hn => by rw [shl_mul .u64 x n hn, wrap_u64']
  have s51 := sh a0 51 (by decide)
  have s38 := sh a1 38 (by decide)
  have s25 := sh a2 25 (by decide)
  have s12 := sh a3 12 (by decide)
  have l13 := sl a1 13 (by decide)
  have l26 := sl a2 26 (by decide)
  have l39 := sl a3 39 (by decide)
  have e51 : (2 ^ 51 : Nat) = 2251799813685248 := by decide
  have e38 : (2 ^ 38 : Nat) = 274877906944 := by decide
  have e25 : (2 ^ 25 : Nat) = 33554432 := by decide
  have e12 : (2 ^ 12 : Nat) = 4096 := by decide
  have e13 : (2 ^ 13 : Nat) = 8192 := by decide
  have e26 : (2 ^ 26 : Nat) = 67108864 := by decide
  have e39 : (2 ^ 39 : Nat) = 549755813888 := by decide
  rw [e51] at s51; rw [e38] at s38; rw [e25] at s25; rw [e12] at s12; rw [e13] at l13; rw [e26] at l26; rw [e39] at l39
  have o1 : bitOr .u64 (shr64 a0 51) (shl .u64 a1 13) = a0 / 2251799813685248 + a1 * 8192 % 18446744073709551616 := by
    have e : bitOr .u64 (shl .u64 a1 13) (shr64 a0 51) = shl .u64 a1 13 + shr64 a0 51 := or_u64 (m := 13) (by rw [show shl .u64 a1 13 = _ from l13]; omega) (by rw [show shl .u64 a1 13 = _ from l13, e13]; omega) (by rw [show shr64 a0 51 = _ from s51]; omega) (by rw [show shr64 a0 51 = _ from s51, e13]; omega) (by rw [show shl .u64 a1 13 = _ from l13, show shr64 a0 51 = _ from s51]; omega)
    rw [or_comm', e, show shl .u64 a1 13 = _ from l13, show shr64 a0 51 = _ from s51]; omega
  have o2 : bitOr .u64 (shr64 a1 38) (shl .u64 a2 26) = a1 / 274877906944 + a2 * 67108864 % 18446744073709551616 := by
    have e : bitOr .u64 (shl .u64 a2 26) (shr64 a1 38) = shl .u64 a2 26 + shr64 a1 38 := or_u64 (m := 26) (by rw [show shl .u64 a2 26 = _ from l26]; omega) (by rw [show shl .u64 a2 26 = _ from l26, e26]; omega) (by rw [show shr64 a1 38 = _ from s38]; omega) (by rw [show shr64 a1 38 = _ from s38, e26]; omega) (by rw [show shl .u64 a2 26 = _ from l26, show shr64 a1 38 = _ from s38]; omega)
    rw [or_comm', e, show shl .u64 a2 26 = _ from l26, show shr64 a1 38 = _ from s38]; omega
  have o3 : bitOr .u64 (shr64 a2 25) (shl .u64 a3 39) = a2 / 33554432 + a3 * 549755813888 % 18446744073709551616 := by
    have e : bitOr .u64 (shl .u64 a3 39) (shr64 a2 25) = shl .u64 a3 39 + shr64 a2 25 := or_u64 (m := 39) (by rw [show shl .u64 a3 39 = _ from l39]; omega) (by rw [show shl .u64 a3 39 = _ from l39, e39]; omega) (by rw [show shr64 a2 25 = _ from s25]; omega) (by rw [show shr64 a2 25 = _ from s25, e39]; omega) (by rw [show shl .u64 a3 39 = _ from l39, show shr64 a2 25 = _ from s25]; omega)
    rw [or_comm', e, show shl .u64 a3 39 = _ from l39, show shr64 a2 25 = _ from s25]; omega
  rw [o1, o2, o3, show shr64 a3 12 = _ from s12]
  simp only [and_msk]
  constructor
  · simp only [Ok5, Lim]; omega
  · simp only [val5]; omega
end Go.Proofs.Ythdfifcgobfgdaa
namespace BJ
theorem F.pow_add (a : F) (m n : Nat) : F.pow a (m + n) = F.pow a m * F.pow a n := by
  induction n with
  | zero => rw [Nat.add_zero, F.pow_zero]; grobner
  | succ n ih => rw [← Nat.add_assoc, F.pow_succ, ih, F.pow_succ]; grobner
theorem F.pow_double (a : F) (m : Nat) : F.pow a (2 * m) = F.pow a m * F.pow a m := by rw [Nat.two_mul, F.pow_add]
theorem F.pow_one (a : F) : F.pow a 1 = a := by rw [F.pow_succ, F.pow_zero]; grobner
def rootOf (a : F) : F × Bool :=
  let r := F.pow a ((pp + 3) / 8)
  let r1 := if r * r = a then r else r * F.pow 2 ((pp - 1) / 4)
  if r1 * r1 = a then (if r1.val % 2 = 1 then -r1 else r1, true) else (0, false)
def ratioOf (u v : F) : F × Bool := if v = 0 then (0, decide (u = 0)) else rootOf (u * F.inv v)
end BJ
namespace Go.Proofs.Ythdfifcgobfgdaa
open Go Go.Ev BJ
theorem andNot_top (x : Int) : bitAndNot .u8 x 128 = x % 128 := by
  have e : bitAndNot .u8 x 128 = bitAnd .u8 x 127 := by
    unfold bitAndNot bitAnd
    have : (~~~BitVec.ofInt IntKind.u8.bits 128) = BitVec.ofInt IntKind.u8.bits 127 := by decide
    rw [this]
  rw [e]
  exact and_u8 (m := 7) (by decide) x 127 (by decide)
theorem upd_last (g : Int → Int) : ∀ {n : Nat} {v : Vec Int (n + 1)}, OkB v → (∀ x, 0 ≤ x → x < 256 → 0 ≤ g x ∧ g x < 256) →
    OkB (Vec.upd g n v) ∧ valB (Vec.upd g n v) = valB v - v.get n * (256 ^ n : Nat) + g (v.get n) * (256 ^ n : Nat)
  | 0, v, h, hg => by
    obtain ⟨x, u⟩ := v
    refine ⟨⟨hg x h.1.1 h.1.2, h.2⟩, ?_⟩
    show g x + 256 * 0 = x + 256 * 0 - x * ((256 ^ 0 : Nat) : Int) + g x * ((256 ^ 0 : Nat) : Int)
    rw [Nat.pow_zero]; omega
  | n + 1, v, h, hg => by
    obtain ⟨x, u⟩ := v
    obtain ⟨h1, h2⟩ := upd_last g (n := n) (v := u) h.2 hg
    refine ⟨⟨h.1, h1⟩, ?_⟩
    show x + 256 * valB (Vec.upd g n u) = x + 256 * valB u - Vec.get u n * ((256 ^ (n + 1) : Nat) : Int) + g (Vec.get u n) * ((256 ^ (n + 1) : Nat) : Int)
    rw [h2]
    have e2 : (256 ^ (n + 1) : Nat) = 256 * 256 ^ n := by rw [Nat.pow_succ, Nat.mul_comm]
    rw [e2, Int.natCast_mul]
    have sw : ∀ a b : Int, a * (((256 : Nat) : Int) * b) = 256 * (a * b) := fun a b => by rw [← Int.mul_assoc, Int.mul_comm a, Int.mul_assoc]; rfl
    rw [sw, sw]; omega
theorem p255 : (256 ^ 31 : Nat) = 452312848583266388373324160190187140051835877600158453279131187530910662656 := by decide
theorem clear_val {b : B32} (h : OkB b) : OkB (clearTop b) ∧ valB (clearTop b) = valB b % 57896044618658097711785492504343953926634992332820282019728792003956564819968 := by
  obtain ⟨h1, h2⟩ := upd_last (fun x => bitAndNot .u8 x 128) (n := 31) h fun x h1 h2 => by show 0 ≤ bitAndNot .u8 x 128 ∧ bitAndNot .u8 x 128 < 256; rw [andNot_top]; omega
  refine ⟨h1, h2.trans ?_⟩
  have hV := valB_nonneg h
  have hV2 := valB_lt h
  rw [p256] at hV2
  show valB b - b.get 31 * _ + bitAndNot .u8 (b.get 31) 128 * _ = _
  rw [andNot_top, get_val h (by decide), p255]
  omega
theorem from_fe {b : B32} (h : OkB b) : Ok5 (feFrom b) ∧ fe (feFrom b) = toF (valB b % 57896044618658097711785492504343953926634992332820282019728792003956564819968) := by
  obtain ⟨h1, h2⟩ := from_val h
  exact ⟨h1, by unfold fe; rw [h2]⟩
theorem bytes_of_val {b : B32} (h : OkB b) (_hlt : valB b < 57896044618658097711785492504343953926634992332820282019728792003956564819968) : eqV (bytesF (toF (valB b))) b = decide (valB b < (pp : Int)) := by
  have h0 := valB_nonneg h
  by_cases hp : valB b < (pp : Int)
  · rw [decide_eq_true hp]
    refine (eqV_iff _ _).2 ?_
    obtain ⟨h1, h2⟩ := bytesF_val (toF (valB b))
    exact valB_inj h1 h (by rw [h2, toF_val, Int.emod_eq_of_lt h0 hp])
  · rw [decide_eq_false hp]
    refine Bool.eq_false_iff.2 fun e => hp ?_
    have e2 := (eqV_iff _ _).1 e
    have h2 := (bytesF_val (toF (valB b))).2
    rw [e2, toF_val] at h2
    rw [h2]; exact Int.emod_lt_of_pos _ (by decide)
theorem canonical_fe {b : B32} (h : OkB b) : eqV (feBytes (feFrom (clearTop b))) (clearTop b) = decide (valB (clearTop b) < (pp : Int)) := by
  obtain ⟨h1, h2⟩ := clear_val h
  obtain ⟨h3, h4⟩ := from_fe h1
  have hlt : valB (clearTop b) < 57896044618658097711785492504343953926634992332820282019728792003956564819968 := by rw [h2]; omega
  rw [bytes_fe h3, h4, Int.emod_eq_of_lt (valB_nonneg h1) hlt, bytes_of_val h1 hlt]
noncomputable abbrev mulC : Fe → Fe → Fe := mulOut mulFn add64 feCarry
theorem bit_val {e : B32} (h : OkB e) {i : Nat} (hi : i < 256) : bitU8 e i = decide ((valB e).toNat / 2 ^ i % 2 = 1) := by
  have hV := valB_nonneg h
  unfold bitU8
  have e1 : shr .u8 (e.get (i / 8)) ((i % 8 : Nat) : Int) = e.get (i / 8) / (2 ^ (i % 8) : Nat) := shr_div .u8 _ _ (by show i % 8 ≤ 8; omega)
  rw [e1, and_u8 (m := 1) (by decide) _ 1 (by decide), get_val h (by omega)]
  obtain ⟨N, hN⟩ := Int.eq_ofNat_of_zero_le hV
  rw [hN]
  have key : (((N : Int) / (256 ^ (i / 8) : Nat) % 256 / (2 ^ (i % 8) : Nat) % (2 ^ 1 : Nat) == 1) = true) ↔ N / 2 ^ i % 2 = 1 := by
    rw [beq_iff_eq]
    have e2 : (2 ^ i : Nat) = 256 ^ (i / 8) * 2 ^ (i % 8) := by
      rw [show (256 : Nat) = 2 ^ 8 from rfl, ← Nat.pow_mul, ← Nat.pow_add]; congr 1; omega
    rw [e2, ← Nat.div_div_eq_div_mul, ← Int.natCast_ediv]
    generalize N / 256 ^ (i / 8) = W at *
    have h8 : i % 8 < 8 := Nat.mod_lt _ (by decide)
    generalize i % 8 = m at *
    have hm : m = 0 ∨ m = 1 ∨ m = 2 ∨ m = 3 ∨ m = 4 ∨ m = 5 ∨ m = 6 ∨ m = 7 := by omega
    rcases hm with rfl | rfl | rfl | rfl | rfl | rfl | rfl | rfl <;> simp <;> omega
  rw [Int.toNat_natCast]
  by_cases hb : N / 2 ^ i % 2 = 1
  · rw [decide_eq_true hb]; exact key.2 hb
  · rw [decide_eq_false hb]; exact Bool.eq_false_iff.2 fun e => hb (key.1 e)
theorem square_fe {x : Fe} (hx : Ok5 x) : Ok5 (mulC x x) ∧ fe (mulC x x) = fe x * fe x := mul_fe hx hx
noncomputable def powC (x : Fe) (e : B32) : Fe := powFn feSmall (fun x => mulC x x) mulC x e
theorem selN_ite {n : Nat} {b : Bool} {p : Prop} [Decidable p] (h : b = decide p) (v u : Vec Int n) : selN b v u = if p then v else u := by
  rw [selN_eq, h]; by_cases hp : p <;> simp [hp]
theorem pow_fe {x : Fe} {e : B32} (hx : Ok5 x) (he : OkB e) : Ok5 (powC x e) ∧ fe (powC x e) = F.pow (fe x) (valB e).toNat := by
  have hV := valB_nonneg he
  have hV2 := valB_lt he
  obtain ⟨N, hN⟩ := Int.eq_ofNat_of_zero_le hV
  have key : ∀ k, k ≤ 256 → Ok5 (rnds (powStep (fun x => mulC x x) mulC x e) k (feSmall 1)) ∧ fe (rnds (powStep (fun x => mulC x x) mulC x e) k (feSmall 1)) = F.pow (fe x) (N / 2 ^ (256 - k)) := by
    intro k
    induction k with
    | zero =>
      intro _
      obtain ⟨h1, h2⟩ := small_fe (n := 1) ⟨by decide, by decide⟩
      refine ⟨h1, ?_⟩
      have h256 : (256 ^ 32 : Nat) = 2 ^ 256 := by rw [show (256 : Nat) = 2 ^ 8 from rfl, ← Nat.pow_mul]
      have : N / 2 ^ (256 - 0) = 0 := Nat.div_eq_of_lt (by rw [hN] at hV2; rw [Nat.sub_zero, ← h256]; omega)
      rw [this, F.pow_zero]
      exact h2.trans toF_one
    | succ k ih =>
      intro hk
      obtain ⟨h1, h2⟩ := ih (by omega)
      show Ok5 (powStep (fun x => mulC x x) mulC x e k _) ∧ fe (powStep (fun x => mulC x x) mulC x e k _) = _
      generalize rnds (powStep (fun x => mulC x x) mulC x e) k (feSmall 1) = r at *
      obtain ⟨s1, s2⟩ := square_fe h1
      obtain ⟨m1, m2⟩ := mul_fe s1 hx
      unfold powStep
      rw [selN_ite (bit_val he (i := 255 - k) (by omega)), hN, Int.toNat_natCast]
      have hdiv : N / 2 ^ (256 - k) = N / 2 ^ (256 - (k + 1)) / 2 := by
        rw [Nat.div_div_eq_div_mul, ← Nat.pow_succ]; congr 2; omega
      rw [hdiv] at h2
      have e255 : 255 - k = 256 - (k + 1) := by omega
      rw [e255]
      generalize N / 2 ^ (256 - (k + 1)) = M at *
      split
      · rename_i hb
        refine ⟨m1, ?_⟩
        show fe (mulC (mulC r r) x) = _
        rw [m2, s2, h2]
        have : M = 2 * (M / 2) + 1 := by omega
        conv => rhs; rw [this]
        rw [F.pow_succ, F.pow_double]
      · rename_i hb
        refine ⟨s1, ?_⟩
        show fe (mulC r r) = _
        rw [s2, h2]
        have : M = 2 * (M / 2) := by omega
        conv => rhs; rw [this]
        rw [F.pow_double]
  have := key 256 (by omega)
  rw [hN, Int.toNat_natCast]
  have e : N / 2 ^ (256 - 256) = N := by simp
  rw [e] at this
  unfold powC powFn
  exact this
theorem OkB_ofFn {f : Nat → Int} : ∀ {n : Nat}, (∀ i, i < n → 0 ≤ f i ∧ f i < 256) → OkB (Vec.ofFn n f)
  | 0, _ => trivial
  | n + 1, h => ⟨h 0 (by omega), OkB_ofFn (n := n) fun i hi => h (i + 1) (by omega)⟩
theorem OkB_exp {lo hi : Int} (h1 : 0 ≤ lo ∧ lo < 256) (h2 : 0 ≤ hi ∧ hi < 256) : OkB (feExp lo hi) := OkB_ofFn fun i _ => by
  show 0 ≤ (if i = 0 then lo else if i = 31 then hi else 255) ∧ (if i = 0 then lo else if i = 31 then hi else 255) < 256
  split
  · exact h1
  · split
    · exact h2
    · omega
theorem exp_inv : (valB (feExp 235 127)).toNat = pp - 2 := by decide +kernel
theorem exp_root : (valB (feExp 254 15)).toNat = (pp + 3) / 8 := by decide +kernel
theorem exp_ii : (valB (feExp 251 31)).toNat = (pp - 1) / 4 := by decide +kernel
noncomputable def invC (x : Fe) : Fe := powC x (feExp 235 127)
theorem inv_fe {x : Fe} (hx : Ok5 x) : Ok5 (invC x) ∧ fe (invC x) = F.inv (fe x) := by
  obtain ⟨h1, h2⟩ := pow_fe hx (OkB_exp (lo := 235) (hi := 127) (by omega) (by omega))
  rw [exp_inv] at h2
  exact ⟨h1, h2⟩
noncomputable def addC : Fe → Fe → Fe := feAdd feCarry
noncomputable def subC : Fe → Fe → Fe := feSub feCarry
noncomputable def negC (x : Fe) : Fe := subC feZero x
noncomputable def eqC (x y : Fe) : Bool := eqV (feBytes x) (feBytes y)
noncomputable def oddC : Fe → Bool := feOdd feBytes
noncomputable def isZeroC (x : Fe) : Bool := eqC x feZero
noncomputable def sqrtC : Fe → Fe × Bool := rootFn powC feExp mulC (fun x => mulC x x) negC feSmall eqC oddC
noncomputable def ratioC : Fe → Fe → Fe × Bool := fun u v => (selN (isZeroC v) feZero (sqrtC (mulC u (invC v))).1, bif isZeroC v then isZeroC u else (sqrtC (mulC u (invC v))).2)
theorem neg_fe {x : Fe} (hx : Ok5 x) : Ok5 (negC x) ∧ fe (negC x) = -fe x := by
  obtain ⟨h1, h2⟩ := sub_fe zero_fe.1 hx
  refine ⟨h1, ?_⟩
  show fe (feSub feCarry feZero x) = _
  rw [h2, zero_fe.2]; grobner
theorem isZero_fe {x : Fe} (hx : Ok5 x) : isZeroC x = decide (fe x = 0) := by
  unfold isZeroC eqC; rw [equal_fe hx zero_fe.1, zero_fe.2]
theorem sqrt_fe {x : Fe} (hx : Ok5 x) : Ok5 (sqrtC x).1 ∧ fe (sqrtC x).1 = (rootOf (fe x)).1 ∧ (sqrtC x).2 = (rootOf (fe x)).2 := by
  obtain ⟨r1, r2⟩ := pow_fe hx (OkB_exp (lo := 254) (hi := 15) (by omega) (by omega))
  rw [exp_root] at r2
  obtain ⟨t1, t2⟩ := small_fe (n := 2) ⟨by decide, by decide⟩
  obtain ⟨i1, i2⟩ := pow_fe t1 (OkB_exp (lo := 251) (hi := 31) (by omega) (by omega))
  have t3 : toF 2 = 2 := by decide +kernel
  rw [exp_ii, t2, t3] at i2
  unfold sqrtC rootFn
  simp only [selN_self]
  obtain ⟨s1, s2⟩ := square_fe r1
  obtain ⟨m1, m2⟩ := mul_fe r1 i1
  have q1 : eqC (mulC (powC x (feExp 254 15)) (powC x (feExp 254 15))) x = decide (F.pow (fe x) ((pp + 3) / 8) * F.pow (fe x) ((pp + 3) / 8) = fe x) := by
    unfold eqC; rw [equal_fe s1 hx, s2, r2]
  generalize hR : selN (!eqC (mulC (powC x (feExp 254 15)) (powC x (feExp 254 15))) x) (mulC (powC x (feExp 254 15)) (powC (feSmall 2) (feExp 251 31))) (powC x (feExp 254 15)) = R
  have hR1 : Ok5 R ∧ fe R = if F.pow (fe x) ((pp + 3) / 8) * F.pow (fe x) ((pp + 3) / 8) = fe x then F.pow (fe x) ((pp + 3) / 8) else F.pow (fe x) ((pp + 3) / 8) * F.pow 2 ((pp - 1) / 4) := by
    rw [← hR, q1, selN_eq]
    by_cases hq : F.pow (fe x) ((pp + 3) / 8) * F.pow (fe x) ((pp + 3) / 8) = fe x
    · rw [decide_eq_true hq, if_pos hq]; exact ⟨r1, r2⟩
    · rw [decide_eq_false hq, if_neg hq]; exact ⟨m1, by show fe (mulC _ _) = _; rw [m2, r2, i2]⟩
  obtain ⟨hR1, hR2⟩ := hR1
  obtain ⟨u1, u2⟩ := square_fe hR1
  have q2 : eqC (mulC R R) x = decide (fe R * fe R = fe x) := by unfold eqC; rw [equal_fe u1 hx, u2]
  obtain ⟨n1, n2⟩ := neg_fe hR1
  have ho : oddC R = decide ((fe R).val % 2 = 1) := odd_fe hR1
  rw [q2, ho, selN_eq, selN_eq]
  have hroot : rootOf (fe x) = if fe R * fe R = fe x then (if (fe R).val % 2 = 1 then -fe R else fe R, true) else (0, false) := by
    unfold rootOf; rw [hR2]
  rw [hroot]
  by_cases h1 : fe R * fe R = fe x
  · rw [decide_eq_true h1, if_pos h1]
    by_cases h2 : (fe R).val % 2 = 1
    · rw [decide_eq_true h2, if_pos h2]; exact ⟨n1, n2, rfl⟩
    · rw [decide_eq_false h2, if_neg h2]; exact ⟨hR1, rfl, rfl⟩
  · rw [decide_eq_false h1, if_neg h1]; exact ⟨zero_fe.1, zero_fe.2, rfl⟩
end Go.Proofs.Ythdfifcgobfgdaa
namespace Go.Proofs.Ythdfifcgobfgdaa
open Go Go.Ev BJ
theorem ratio_core (bv bu : Bool) (fu : F) (z : Fe × Bool) (y : F × Bool) (v : F) (hz1 : bv = decide (v = 0)) (hz2 : bu = decide (fu = 0)) (s1 : Ok5 z.1) (s2 : fe z.1 = y.1) (s3 : z.2 = y.2) :
    Ok5 (selN bv feZero z.1) ∧ fe (selN bv feZero z.1) = (if v = 0 then ((0 : F), decide (fu = 0)) else y).1 ∧ (bif bv then bu else z.2) = (if v = 0 then ((0 : F), decide (fu = 0)) else y).2 := by
  rw [selN_eq]
  by_cases h : v = 0
  · rw [if_pos h, hz1, decide_eq_true h]; exact ⟨zero_fe.1, zero_fe.2, hz2⟩
  · rw [if_neg h, hz1, decide_eq_false h]; exact ⟨s1, s2, s3⟩
theorem ratio_fe {u v : Fe} (hu : Ok5 u) (hv : Ok5 v) : Ok5 (ratioC u v).1 ∧ fe (ratioC u v).1 = (ratioOf (fe u) (fe v)).1 ∧ (ratioC u v).2 = (ratioOf (fe u) (fe v)).2 := by
  have hi := inv_fe hv
  have hm := mul_fe hu hi.1
  have hs := sqrt_fe hm.1
  have e : fe (mulOut mulFn add64 feCarry u (invC v)) = fe u * F.inv (fe v) := hm.2.trans (by rw [hi.2])
  rw [e] at hs
  exact ratio_core _ _ (fe u) _ _ (fe v) (isZero_fe hv) (isZero_fe hu) hs.1 hs.2.1 hs.2.2
end Go.Proofs.Ythdfifcgobfgdaa
namespace BJ
abbrev E4 := F × F × F × F
def affE (x y : F) : E4 := (x, y, 1, x * y)
def zeroE : E4 := affE 0 1
def addE (p q : E4) : E4 :=
  let a := (p.2.1 - p.1) * (q.2.1 - q.1)
  let b := (p.2.1 + p.1) * (q.2.1 + q.1)
  let c := p.2.2.2 * q.2.2.2 * dd + p.2.2.2 * q.2.2.2 * dd
  let d := p.2.2.1 * q.2.2.1 + p.2.2.1 * q.2.2.1
  ((b - a) * (d - c), (d + c) * (b + a), (d - c) * (d + c), (b - a) * (b + a))
def negE (p : E4) : E4 := (-p.1, p.2.1, p.2.2.1, -p.2.2.2)
def xOfE (y : F) : F × Bool := ratioOf (y * y - 1) (dd * (y * y) + 1)
def baseE : E4 := affE (xOfE (4 * F.inv 5)).1 (4 * F.inv 5)
end BJ
namespace Go.Proofs.Ythdfifcgobfgdaa
open Go Go.Ev BJ
def Ok4 (p : Pt) : Prop := Ok5 p.2.1 ∧ Ok5 p.2.2.1 ∧ Ok5 p.2.2.2.1 ∧ Ok5 p.2.2.2.2
def OkPt (p : Pt) : Prop := p.1 = true → Ok4 p
noncomputable def ptF (p : Pt) : E4 := (fe p.2.1, fe p.2.2.1, fe p.2.2.2.1, fe p.2.2.2.2)
noncomputable def ptE (p : Pt) : E4 := if p.1 = true then ptF p else zeroE
noncomputable def edgeC : Fe := feFrom edgeBytes
theorem edge_fe : Ok5 edgeC ∧ fe edgeC = dd := by
  have hb : OkB edgeBytes := by simp [edgeBytes, OkB]
  obtain ⟨h1, h2⟩ := from_fe hb
  refine ⟨h1, h2.trans ?_⟩
  decide +kernel
noncomputable def affineC : Fe → Fe → Pt := affineFn mulC feSmall
theorem one_fe : Ok5 (feSmall 1) ∧ fe (feSmall 1) = 1 := by
  obtain ⟨h1, h2⟩ := small_fe (n := 1) ⟨by decide, by decide⟩
  exact ⟨h1, h2.trans toF_one⟩
theorem affine_pt {x y : Fe} (hx : Ok5 x) (hy : Ok5 y) : (affineC x y).1 = true ∧ Ok4 (affineC x y) ∧ ptF (affineC x y) = affE (fe x) (fe y) := by
  obtain ⟨m1, m2⟩ := mul_fe hx hy
  obtain ⟨o1, o2⟩ := one_fe
  refine ⟨rfl, ⟨hx, hy, o1, m1⟩, ?_⟩
  show (fe x, fe y, fe (feSmall 1), fe (mulC x y)) = _
  rw [o2, m2]; rfl
noncomputable def zeroC : Pt := affineC feZero (feSmall 1)
theorem zero_pt : zeroC.1 = true ∧ Ok4 zeroC ∧ ptF zeroC = zeroE := by
  obtain ⟨h1, h2, h3⟩ := affine_pt zero_fe.1 one_fe.1
  refine ⟨h1, h2, h3.trans ?_⟩
  rw [zero_fe.2, one_fe.2]; rfl
noncomputable def ownC : Pt → Pt := ownFn zeroC
theorem own_pt {p : Pt} (h : OkPt p) : (ownC p).1 = true ∧ Ok4 (ownC p) ∧ ptF (ownC p) = ptE p := by
  unfold ownC ownFn
  rw [selPt_eq]
  unfold ptE
  cases hp : p.1 with
  | false => simp only [Bool.not_false, cond_true, Bool.false_eq_true, if_false]; exact zero_pt
  | true => simp only [Bool.not_true, cond_false, if_true]; exact ⟨hp, h hp, trivial⟩
theorem ok_of {p : Pt} (h1 : p.1 = true) (h2 : Ok4 p) : OkPt p ∧ ptE p = ptF p := ⟨fun _ => h2, if_pos h1⟩
noncomputable def crossC : Fe → Fe → Fe → Fe → Pt := crossFn mulC
noncomputable def addPC : Pt → Pt → Pt := addFn mulC addC subC edgeC ownC crossC
theorem addC_fe {x y : Fe} (hx : Ok5 x) (hy : Ok5 y) : Ok5 (addC x y) ∧ fe (addC x y) = fe x + fe y := add_fe hx hy
theorem subC_fe {x y : Fe} (hx : Ok5 x) (hy : Ok5 y) : Ok5 (subC x y) ∧ fe (subC x y) = fe x - fe y := sub_fe hx hy
theorem mulC_fe {x y : Fe} (hx : Ok5 x) (hy : Ok5 y) : Ok5 (mulC x y) ∧ fe (mulC x y) = fe x * fe y := mul_fe hx hy
theorem cross_pt {e f g h : Fe} (he : Ok5 e) (hf : Ok5 f) (hg : Ok5 g) (hh : Ok5 h) : (crossC e f g h).1 = true ∧ Ok4 (crossC e f g h) ∧ ptF (crossC e f g h) = (fe e * fe f, fe g * fe h, fe f * fe g, fe e * fe h) := by
  obtain ⟨a1, a2⟩ := mulC_fe he hf
  obtain ⟨b1, b2⟩ := mulC_fe hg hh
  obtain ⟨c1, c2⟩ := mulC_fe hf hg
  obtain ⟨d1, d2⟩ := mulC_fe he hh
  refine ⟨rfl, ⟨a1, b1, c1, d1⟩, ?_⟩
  show (fe (mulC e f), fe (mulC g h), fe (mulC f g), fe (mulC e h)) = _
  rw [a2, b2, c2, d2]
theorem add_core {p q : Pt} (hp : Ok4 p) (hq : Ok4 q) :
    let r := crossC (subC (mulC (addC p.2.2.1 p.2.1) (addC q.2.2.1 q.2.1)) (mulC (subC p.2.2.1 p.2.1) (subC q.2.2.1 q.2.1)))
      (subC (addC (mulC p.2.2.2.1 q.2.2.2.1) (mulC p.2.2.2.1 q.2.2.2.1)) (addC (mulC (mulC p.2.2.2.2 q.2.2.2.2) edgeC) (mulC (mulC p.2.2.2.2 q.2.2.2.2) edgeC)))
      (addC (addC (mulC p.2.2.2.1 q.2.2.2.1) (mulC p.2.2.2.1 q.2.2.2.1)) (addC (mulC (mulC p.2.2.2.2 q.2.2.2.2) edgeC) (mulC (mulC p.2.2.2.2 q.2.2.2.2) edgeC)))
      (addC (mulC (addC p.2.2.1 p.2.1) (addC q.2.2.1 q.2.1)) (mulC (subC p.2.2.1 p.2.1) (subC q.2.2.1 q.2.1)))
    r.1 = true ∧ Ok4 r ∧ ptF r = addE (ptF p) (ptF q) := by
  obtain ⟨px, py, pz, pt⟩ := hp
  obtain ⟨qx, qy, qz, qt⟩ := hq
  have a1 := subC_fe py px
  have a2 := subC_fe qy qx
  have a := mulC_fe a1.1 a2.1
  have b1 := addC_fe py px
  have b2 := addC_fe qy qx
  have b := mulC_fe b1.1 b2.1
  have c1 := mulC_fe pt qt
  have c2 := mulC_fe c1.1 edge_fe.1
  have c := addC_fe c2.1 c2.1
  have d1 := mulC_fe pz qz
  have d := addC_fe d1.1 d1.1
  have e := subC_fe b.1 a.1
  have f := subC_fe d.1 c.1
  have g := addC_fe d.1 c.1
  have h := addC_fe b.1 a.1
  obtain ⟨r1, r2, r3⟩ := cross_pt e.1 f.1 g.1 h.1
  refine ⟨r1, r2, r3.trans ?_⟩
  rw [e.2, f.2, g.2, h.2, d.2, c.2, b.2, a.2, d1.2, c2.2, c1.2, b1.2, b2.2, a1.2, a2.2, edge_fe.2]
  rfl
theorem add_pt {p q : Pt} (hp : OkPt p) (hq : OkPt q) : OkPt (addPC p q) ∧ (addPC p q).1 = true ∧ ptE (addPC p q) = addE (ptE p) (ptE q) := by
  obtain ⟨p1, p2, p3⟩ := own_pt hp
  obtain ⟨q1, q2, q3⟩ := own_pt hq
  obtain ⟨r1, r2, r3⟩ := add_core p2 q2
  rw [p3, q3] at r3
  obtain ⟨s1, s2⟩ := ok_of r1 r2
  exact ⟨s1, r1, s2.trans r3⟩
noncomputable def negPC : Pt → Pt := negFn negC ownC
theorem neg_pt {p : Pt} (hp : OkPt p) : OkPt (negPC p) ∧ (negPC p).1 = true ∧ ptE (negPC p) = negE (ptE p) := by
  obtain ⟨p1, p2, p3⟩ := own_pt hp
  obtain ⟨n1, n2⟩ := neg_fe p2.1
  obtain ⟨m1, m2⟩ := neg_fe p2.2.2.2
  have h1 : (negPC p).1 = true := p1
  have h2 : Ok4 (negPC p) := ⟨n1, p2.2.1, p2.2.2.1, m1⟩
  obtain ⟨s1, s2⟩ := ok_of h1 h2
  refine ⟨s1, h1, s2.trans ?_⟩
  rw [← p3]
  show (fe (negC _), fe _, fe _, fe (negC _)) = _
  rw [n2, m2]; rfl
end Go.Proofs.Ythdfifcgobfgdaa
namespace Go.Proofs.Ythdfifcgobfgdaa
open Go Go.Ev BJ
noncomputable def topSet (b : B32) : B32 := Vec.upd (fun x => x + 128) 31 b
noncomputable def encE (p : E4) : B32 := if (p.1 * F.inv p.2.2.1).val % 2 = 1 then topSet (bytesF (p.2.1 * F.inv p.2.2.1)) else bytesF (p.2.1 * F.inv p.2.2.1)
abbrev p2255 : Int := 57896044618658097711785492504343953926634992332820282019728792003956564819968
noncomputable def decE (b : B32) : E4 × Bool :=
  let y := toF (valB b % p2255)
  let x := (xOfE y).1
  if (xOfE y).2 = true ∧ valB b % p2255 < (pp : Int) ∧ ¬ (128 ≤ b.get 31 ∧ x = 0) then (affE (if 128 ≤ b.get 31 then -x else x) y, true) else (zeroE, false)
theorem upd_congr {f g : Int → Int} : ∀ {n i : Nat} {v : Vec Int n}, f (v.get i) = g (v.get i) → Vec.upd f i v = Vec.upd g i v
  | 0, _, _, _ => rfl
  | n + 1, 0, v, h => by
    show (f v.1, v.2) = (g v.1, v.2)
    rw [show f v.1 = g v.1 from h]
  | n + 1, i + 1, v, h => by
    show (v.1, Vec.upd f i v.2) = (v.1, Vec.upd g i v.2)
    rw [upd_congr (n := n) (i := i) (v := v.2) h]
theorem bytes_top (a : F) : 0 ≤ (bytesF a).get 31 ∧ (bytesF a).get 31 < 128 := by
  obtain ⟨h1, h2⟩ := bytesF_val a
  rw [get_val h1 (by decide), h2, p255]
  have := a.isLt
  simp only [pp] at this
  omega
noncomputable def rootC : Fe → Fe × Bool := fun y => ratioC (subC (mulC y y) (feSmall 1)) (addC (mulC edgeC (mulC y y)) (feSmall 1))
theorem root_fe {y : Fe} (hy : Ok5 y) : Ok5 (rootC y).1 ∧ fe (rootC y).1 = (xOfE (fe y)).1 ∧ (rootC y).2 = (xOfE (fe y)).2 := by
  have s := mulC_fe hy hy
  have a := subC_fe s.1 one_fe.1
  have m := mulC_fe edge_fe.1 s.1
  have b := addC_fe m.1 one_fe.1
  have r := ratio_fe a.1 b.1
  have e1 : fe (subC (mulC y y) (feSmall 1)) = fe y * fe y - 1 := by rw [a.2, s.2, one_fe.2]
  have e2 : fe (addC (mulC edgeC (mulC y y)) (feSmall 1)) = dd * (fe y * fe y) + 1 := by rw [b.2, m.2, s.2, one_fe.2, edge_fe.2]
  rw [e1, e2] at r
  exact r
noncomputable def baseC : Pt := affineC (rootC (mulC (feSmall 4) (invC (feSmall 5)))).1 (mulC (feSmall 4) (invC (feSmall 5)))
theorem t4 : toF 4 = 4 := by decide +kernel
theorem t5 : toF 5 = 5 := by decide +kernel
theorem base_pt : baseC.1 = true ∧ Ok4 baseC ∧ ptF baseC = baseE := by
  have h4 := small_fe (n := 4) ⟨by decide, by decide⟩
  have h5 := small_fe (n := 5) ⟨by decide, by decide⟩
  have i := inv_fe h5.1
  have m := mulC_fe h4.1 i.1
  have r := root_fe m.1
  have e : fe (mulC (feSmall 4) (invC (feSmall 5))) = 4 * F.inv 5 := by rw [m.2, i.2, h4.2, h5.2, t4, t5]
  have a := affine_pt r.1 m.1
  refine ⟨a.1, a.2.1, a.2.2.trans ?_⟩
  rw [r.2.1, e]; rfl
noncomputable def placeC : Pt → Fe × Fe := placeFn mulC invC ownC
noncomputable def encodeC : Pt → B32 := encodeFn oddC feBytes placeC
theorem selN_dec {n : Nat} {p : Prop} [Decidable p] (v u : Vec Int n) : selN (decide p) v u = if p then v else u := selN_ite rfl v u
theorem encode_pt {p : Pt} (hp : OkPt p) : encodeC p = encE (ptE p) := by
  obtain ⟨p1, p2, p3⟩ := own_pt hp
  have i := inv_fe p2.2.2.1
  have x := mulC_fe p2.1 i.1
  have y := mulC_fe p2.2.1 i.1
  unfold encodeC encodeFn
  have ex : (placeC p).1 = mulC (ownC p).2.1 (invC (ownC p).2.2.2.1) := rfl
  have ey : (placeC p).2 = mulC (ownC p).2.2.1 (invC (ownC p).2.2.2.1) := rfl
  simp only [ex, ey]
  have ho : oddC (mulC (ownC p).2.1 (invC (ownC p).2.2.2.1)) = decide ((fe (mulC (ownC p).2.1 (invC (ownC p).2.2.2.1))).val % 2 = 1) := odd_fe x.1
  rw [ho, selN_dec, bytes_fe y.1, x.2, y.2, i.2]
  have hb := bytes_top (fe (ownC p).2.2.1 * F.inv (fe (ownC p).2.2.2.1))
  have hu : Vec.upd (fun x => bitOr .u8 x 128) 31 (bytesF (fe (ownC p).2.2.1 * F.inv (fe (ownC p).2.2.2.1))) = topSet (bytesF (fe (ownC p).2.2.1 * F.inv (fe (ownC p).2.2.2.1))) := by
    refine upd_congr ?_
    generalize Vec.get (bytesF (fe (ownC p).2.2.1 * F.inv (fe (ownC p).2.2.2.1))) 31 = z at *
    show bitOr .u8 z 128 = z + 128
    rw [or_comm', or_u8 (m := 7) (by omega) (by decide) hb.1 (by omega) (by omega)]; omega
  rw [hu, ← p3]; rfl
theorem topBit_val {b : B32} (h : OkB b) : topBit b = decide (128 ≤ b.get 31) := by
  obtain ⟨h1, h2⟩ := get_byte h (i := 31) (by decide)
  unfold topBit
  generalize b.get 31 = x at *
  have key : ∀ k : Fin 256, (bitAnd .u8 (k.val : Int) 128 != 0) = decide ((128 : Int) ≤ (k.val : Int)) := by decide +kernel
  obtain ⟨k, rfl⟩ := Int.eq_ofNat_of_zero_le h1
  exact key ⟨k, by omega⟩
noncomputable def canonicalC (b : B32) : Bool := eqV (feBytes (feFrom (clearTop b))) (clearTop b)
noncomputable def decodeC : B32 → Pt × Bool := decodeFn negC isZeroC feFrom canonicalC affineC rootC
theorem decode_pt {b : B32} (hb : OkB b) : OkPt (decodeC b).1 ∧ ptE (decodeC b).1 = (decE b).1 ∧ (decodeC b).2 = (decE b).2 := by
  obtain ⟨y1, y2⟩ := from_fe hb
  obtain ⟨x1, x2, x3⟩ := root_fe y1
  have hc : canonicalC b = decide (valB b % p2255 < (pp : Int)) := by unfold canonicalC; rw [canonical_fe hb, (clear_val hb).2]
  have ht := topBit_val hb
  have hz := isZero_fe x1
  obtain ⟨n1, n2⟩ := neg_fe x1
  rw [x2, y2] at hz n2
  rw [y2] at x2 x3
  have ha : ∀ (u : Fe), Ok5 u → (affineC u (feFrom b)).1 = true ∧ Ok4 (affineC u (feFrom b)) ∧ ptF (affineC u (feFrom b)) = affE (fe u) (toF (valB b % p2255)) := fun u hu => by
    have := affine_pt hu y1
    rw [y2] at this; exact this
  have hbad : ∀ (ok c t z : Bool), (bif (!ok) == false then bif (!c) == false then bif t == true then z else false else true else true) = !(ok && c && !(t && z)) := by decide
  have hnone : OkPt ptNone ∧ ptE ptNone = zeroE := ⟨fun h => by simp [ptNone] at h, rfl⟩
  unfold decodeC decodeFn decE
  simp only [selN_self, Bool.cond_self, hc, ht, hz, x3, hbad]
  generalize (xOfE (toF (valB b % p2255))).2 = ok at *
  generalize hX : (xOfE (toF (valB b % p2255))).1 = X at *
  have hg : (ok && decide (valB b % p2255 < (pp : Int)) && !(decide (128 ≤ b.get 31) && decide (X = 0))) = decide (ok = true ∧ valB b % p2255 < (pp : Int) ∧ ¬(128 ≤ b.get 31 ∧ X = 0)) := by
    cases ok
    · simp
    · by_cases h1 : valB b % p2255 < (pp : Int) <;> by_cases h2 : 128 ≤ b.get 31 <;> by_cases h3 : X = 0 <;> simp [h2, h3]
  rw [hg, selPt_eq, selN_dec]
  by_cases h : ok = true ∧ valB b % p2255 < (pp : Int) ∧ ¬(128 ≤ b.get 31 ∧ X = 0)
  · rw [decide_eq_true h, if_pos h]
    by_cases htop : 128 ≤ b.get 31
    · rw [if_pos htop, if_pos htop]
      obtain ⟨a1, a2, a3⟩ := ha _ n1
      obtain ⟨o1, o2⟩ := ok_of a1 a2
      exact ⟨o1, o2.trans (a3.trans (by rw [n2])), rfl⟩
    · rw [if_neg htop, if_neg htop]
      obtain ⟨a1, a2, a3⟩ := ha _ x1
      obtain ⟨o1, o2⟩ := ok_of a1 a2
      exact ⟨o1, o2.trans (a3.trans (by rw [x2])), rfl⟩
  · rw [decide_eq_false h, if_neg h]
    exact ⟨hnone.1, hnone.2, rfl⟩
def bitE (V : Nat) (i : Nat) : Bool := decide (V / 2 ^ i % 2 = 1)
noncomputable def stepE4 (V : Nat) (p : E4) (k : Nat) (r : E4) : E4 := if bitE V (255 - k) = true then addE (addE r r) p else addE r r
noncomputable def multE (V : Nat) (p : E4) : E4 := rnds (stepE4 V p) 256 zeroE
theorem bitFn_val {e : B32} (h : OkB e) {i : Nat} (hi : i < 256) : (bitFn e i == 1) = bitE (valB e).toNat i := by
  have h1 := bit_val h hi
  unfold bitU8 at h1
  unfold bitE bitFn
  rw [← h1]
  have e1 : shr .u8 (e.get (i / 8)) ((i % 8 : Nat) : Int) = e.get (i / 8) / (2 ^ (i % 8) : Nat) := shr_div .u8 _ _ (by show i % 8 ≤ 8; omega)
  rw [e1, and_u8 (m := 1) (by decide) _ 1 (by decide), wrap_i64 (by omega) (by omega)]
noncomputable def doubleC (p : Pt) : Pt := addPC p p
noncomputable def multC : B32 → Pt → Pt := multFn bitFn zeroC doubleC addPC
theorem mult_pt {n : B32} {p : Pt} (hn : OkB n) (hp : OkPt p) : OkPt (multC n p) ∧ ptE (multC n p) = multE (valB n).toNat (ptE p) := by
  have key : ∀ k, k ≤ 256 → OkPt (rnds (multStep bitFn doubleC addPC n p) k zeroC) ∧ ptE (rnds (multStep bitFn doubleC addPC n p) k zeroC) = rnds (stepE4 (valB n).toNat (ptE p)) k zeroE := by
    intro k
    induction k with
    | zero =>
      intro _
      obtain ⟨z1, z2, z3⟩ := zero_pt
      obtain ⟨o1, o2⟩ := ok_of z1 z2
      exact ⟨o1, o2.trans z3⟩
    | succ k ih =>
      intro hk
      obtain ⟨h1, h2⟩ := ih (by omega)
      show OkPt (multStep bitFn doubleC addPC n p k _) ∧ ptE (multStep bitFn doubleC addPC n p k _) = stepE4 _ _ k _
      rw [← h2]
      generalize rnds (multStep bitFn doubleC addPC n p) k zeroC = r at *
      obtain ⟨d1, _, d3⟩ := add_pt h1 h1
      obtain ⟨a1, _, a3⟩ := add_pt d1 hp
      unfold multStep stepE4
      rw [selPt_eq, bitFn_val hn (by omega)]
      cases bitE (valB n).toNat (255 - k)
      · exact ⟨d1, d3⟩
      · refine ⟨a1, ?_⟩
        rw [if_pos rfl, ← d3]; exact a3
  exact key 256 (by omega)
end Go.Proofs.Ythdfifcgobfgdaa
namespace Go.Proofs.Ythdfifcgobfgdaa
open Go Go.Ev BJ
theorem mulRun_needs (x y : Fe) : ∀ (l : List (Nat × Nat)) (r : List (Int × Int)), (∀ k, 0 ≤ (r.getD k (0, 0)).2 ∧ (r.getD k (0, 0)).2 < 18446744073709551616) → ∀ p ∈ (mulRun mulFn add64 x y l r).2, p
  | [], r, _, p, hp => by simp [mulRun] at hp
  | (i, j) :: l, r, hr, p, hp => by
    have hstep : (mulRun mulFn add64 x y ((i, j) :: l) r).2 = (0 ≤ (add64 (r.getD ((i + j) % 5) (0, 0)).2 (mulFn (coef x i j) (y.get j)).2 0).2 ∧ (add64 (r.getD ((i + j) % 5) (0, 0)).2 (mulFn (coef x i j) (y.get j)).2 0).2 ≤ 1) ::
      (mulRun mulFn add64 x y l (r.set ((i + j) % 5) ((add64 (r.getD ((i + j) % 5) (0, 0)).1 (mulFn (coef x i j) (y.get j)).1 (add64 (r.getD ((i + j) % 5) (0, 0)).2 (mulFn (coef x i j) (y.get j)).2 0).2).1, (add64 (r.getD ((i + j) % 5) (0, 0)).2 (mulFn (coef x i j) (y.get j)).2 0).1))).2 := rfl
    rw [hstep] at hp
    have h0 := hr ((i + j) % 5)
    generalize (r.getD ((i + j) % 5) (0, 0)) = q at *
    have hm : 0 ≤ (mulFn (coef x i j) (y.get j)).2 ∧ (mulFn (coef x i j) (y.get j)).2 < 18446744073709551616 := by
      show 0 ≤ w64 (coef x i j * y.get j) ∧ w64 (coef x i j * y.get j) < 18446744073709551616
      unfold w64; rw [wrap_u64']; omega
    have hs := add64_val h0.1 hm.1 (c := 0) (by omega)
    rcases List.mem_cons.1 hp with rfl | hp
    · rw [hs]
      show 0 ≤ (q.2 + (mulFn (coef x i j) (y.get j)).2 + 0) / 18446744073709551616 ∧ (q.2 + (mulFn (coef x i j) (y.get j)).2 + 0) / 18446744073709551616 ≤ 1
      omega
    · refine mulRun_needs x y l _ (fun k => ?_) p hp
      have hget : ∀ (v : Int × Int) (a k : Nat), (r.set a v).getD k (0, 0) = r.getD k (0, 0) ∨ (r.set a v).getD k (0, 0) = v := by
        intro v a k
        simp only [List.getD_eq_getElem?_getD, List.getElem?_set]
        split
        · split
          · exact .inr rfl
          · rename_i e h; subst e; left; rw [List.getElem?_eq_none (by omega)]
        · exact .inl rfl
      rcases hget _ ((i + j) % 5) k with e | e
      · rw [e]; exact hr k
      · rw [e, hs]
        show 0 ≤ (q.2 + (mulFn (coef x i j) (y.get j)).2 + 0) % 18446744073709551616 ∧ (q.2 + (mulFn (coef x i j) (y.get j)).2 + 0) % 18446744073709551616 < 18446744073709551616
        omega
noncomputable def leastC : Fe → Fe := feLeast feCarry
end Go.Proofs.Ythdfifcgobfgdaa
namespace Go.Proofs.Ythdfifcgobfgdaa
open Go Go.Ev BJ
end Go.Proofs.Ythdfifcgobfgdaa
namespace Go.Proofs.Ythdfifcgobfgdaa
open Go Go.Ev BJ
end Go.Proofs.Ythdfifcgobfgdaa
namespace Go.Proofs.Ythdfifcgobfgdaa
open Go Go.Ev BJ
set_option maxRecDepth 100000
theorem pp_pos (a : F) : 0 ≤ (a.val : Int) ∧ (a.val : Int) < (pp : Int) := ⟨by omega, by have := a.isLt; omega⟩
theorem toF_of (a : F) : toF (a.val : Int) = a := F_ext (by rw [toF_val, Int.emod_eq_of_lt (pp_pos a).1 (pp_pos a).2])
def isum (f : Nat → Int) : Nat → Int
  | 0 => 0
  | n + 1 => isum f n + f n
def conv (f g : Nat → Int) (n j : Nat) : Int := isum (fun i => if i ≤ j ∧ j - i < 16 then f i * g (j - i) else 0) n
end Go.Proofs.Ythdfifcgobfgdaa
end

section
namespace Go.Proofs.Ythdfifcgobfgdaa
open Go Go.Ev BJ
set_option maxRecDepth 1000000
section
variable (base zero : Pt) (encode : Pt → B32) (decode : B32 → Pt × Bool) (padd : Pt → Pt → Pt) (equal : Pt → Pt → Bool) (alive : Bool)
end
end Go.Proofs.Ythdfifcgobfgdaa
namespace BJ
def F.powK (a : F) (e : Nat) : F := ⟨pm pp 256 a.val e % pp, Nat.mod_lt _ (by decide)⟩
theorem F.pow_K (a : F) {e : Nat} (he : e < 2 ^ 256) : F.pow a e = F.powK a e := by
  apply Fin.ext
  show a.val ^ e % pp = pm pp 256 a.val e % pp
  rw [pm_eq pp 256 a.val e he, Nat.mod_mod]
def F.invK (a : F) : F := F.powK a (pp - 2)
theorem F.inv_K (a : F) : F.inv a = F.invK a := F.pow_K a (by decide)
def rootK (a : F) : F × Bool :=
  let r := F.powK a ((pp + 3) / 8)
  let r1 := if r * r = a then r else r * F.powK 2 ((pp - 1) / 4)
  if r1 * r1 = a then (if r1.val % 2 = 1 then -r1 else r1, true) else (0, false)
theorem root_K (a : F) : rootOf a = rootK a := by
  unfold rootOf rootK
  rw [F.pow_K a (by decide), F.pow_K 2 (by decide)]
def xOfK (y : F) : F × Bool := if dd * (y * y) + 1 = 0 then (0, decide (y * y - 1 = 0)) else rootK ((y * y - 1) * F.invK (dd * (y * y) + 1))
theorem xOf_K (y : F) : xOfE y = xOfK y := by
  unfold xOfE ratioOf xOfK
  rw [root_K, F.inv_K]
def baseY : F := 46316835694926478169428394003475163141307993866256225615783033603165251855960
def baseX : F := 15112221349535400772501151409588531511454012693041857206046113283949847762202
theorem baseY_eq : 4 * F.inv 5 = baseY := by rw [F.inv_K]; decide +kernel
theorem baseX_eq : xOfE baseY = (baseX, true) := by rw [xOf_K]; decide +kernel
theorem base_lit : baseE = affE baseX baseY := by
  unfold baseE
  rw [baseY_eq, baseX_eq]
end BJ
namespace Go.Proofs.Ythdfifcgobfgdaa
open Go Go.Ev BJ
theorem base_is : OkPt baseC ∧ ptE baseC = baseE := by
  obtain ⟨h1, h2, h3⟩ := base_pt
  obtain ⟨o1, o2⟩ := ok_of h1 h2
  exact ⟨o1, o2.trans h3⟩
theorem zero_is : OkPt zeroC ∧ ptE zeroC = zeroE := by
  obtain ⟨h1, h2, h3⟩ := zero_pt
  obtain ⟨o1, o2⟩ := ok_of h1 h2
  exact ⟨o1, o2.trans h3⟩
end Go.Proofs.Ythdfifcgobfgdaa
namespace BJ
theorem neg_sum (x : F) : (x.val + (-x).val) % pp = 0 := by
  have h : x + -x = 0 := by grobner
  have := congrArg Fin.val h
  rw [Fin.val_add] at this
  exact this
theorem par {a b p : Nat} (hs : (a + b) % p = 0) (ha : a < p) (hb : b < p) (h0 : a ≠ 0) (hp : p % 2 = 1) : b % 2 = 1 ↔ a % 2 = 0 := by
  have h1 : a + b = p := by
    rcases Nat.lt_or_ge (a + b) p with h | h
    · rw [Nat.mod_eq_of_lt h] at hs; omega
    · rw [Nat.mod_eq_sub_mod h, Nat.mod_eq_of_lt (by omega)] at hs; omega
  omega
theorem pp_odd : pp % 2 = 1 := by decide +kernel
theorem neg_odd {x : F} (h : x ≠ 0) : (-x).val % 2 = 1 ↔ x.val % 2 = 0 :=
  par (neg_sum x) x.isLt (-x).isLt (fun e => h (Fin.ext e)) pp_odd
theorem pp_int : (pp : Int) = 57896044618658097711785492504343953926634992332820282019728792003956564819949 := rfl
theorem p2255_int : Go.Proofs.Ythdfifcgobfgdaa.p2255 = 57896044618658097711785492504343953926634992332820282019728792003956564819968 := rfl
def pickRoot (r a : F) : F × Bool := if r * r = a then (if r.val % 2 = 1 then -r else r, true) else (0, false)
theorem root_pick (a : F) : rootOf a = pickRoot (if F.pow a ((pp + 3) / 8) * F.pow a ((pp + 3) / 8) = a then F.pow a ((pp + 3) / 8) else F.pow a ((pp + 3) / 8) * F.pow 2 ((pp - 1) / 4)) a := rfl
theorem F.zero_val : (0 : F).val = 0 := rfl
theorem pick_even (r a : F) : (pickRoot r a).1.val % 2 = 0 := by
  unfold pickRoot
  by_cases h : r * r = a
  · rw [if_pos h]
    show (if r.val % 2 = 1 then -r else r).val % 2 = 0
    by_cases h1 : r.val % 2 = 1
    · rw [if_pos h1]
      have hr : r ≠ 0 := fun e => by rw [e, F.zero_val] at h1; cases h1
      have := neg_odd hr
      omega
    · rw [if_neg h1]; omega
  · rw [if_neg h]
    show (0 : F).val % 2 = 0
    rw [F.zero_val]
theorem root_even (a : F) : (rootOf a).1.val % 2 = 0 := by rw [root_pick]; exact pick_even _ _
theorem ratio_even (u v : F) : (ratioOf u v).1.val % 2 = 0 := by
  unfold ratioOf
  by_cases h : v = 0
  · rw [if_pos h]
    show (0 : F).val % 2 = 0
    rw [F.zero_val]
  · rw [if_neg h]; exact root_even _
theorem xOf_even (y : F) : (xOfE y).1.val % 2 = 0 := ratio_even _ _
end BJ
namespace Go.Proofs.Ythdfifcgobfgdaa
open Go Go.Ev BJ
theorem topSet_val {b : B32} (h : OkB b) (h31 : b.get 31 < 128) : OkB (topSet b) ∧ valB (topSet b) = valB b + p2255 := by
  have e : topSet b = Vec.upd (fun x => if x < 128 then x + 128 else x) 31 b := upd_congr (by show _ = if b.get 31 < 128 then _ else _; rw [if_pos h31])
  rw [e]
  obtain ⟨h1, h2⟩ := upd_last (fun x => if x < 128 then x + 128 else x) (n := 31) h (fun x h1 h2 => by show 0 ≤ (if x < 128 then x + 128 else x) ∧ (if x < 128 then x + 128 else x) < 256; split <;> omega)
  refine ⟨h1, h2.trans ?_⟩
  show valB b - b.get 31 * _ + (if b.get 31 < 128 then b.get 31 + 128 else b.get 31) * _ = _
  have := p2255_int
  rw [if_pos h31, p255]; omega
end Go.Proofs.Ythdfifcgobfgdaa
namespace Go.Proofs.Ythdfifcgobfgdaa
open Go Go.Ev BJ
set_option maxRecDepth 100000
end Go.Proofs.Ythdfifcgobfgdaa
namespace BJ
theorem F.one_ne : (1 : F) ≠ 0 := by decide +kernel
theorem F.pow_sq (s : F) (m : Nat) : F.pow (s * s) m = F.pow s (m + m) := by
  induction m with
  | zero => rw [F.pow_zero, F.pow_zero]
  | succ m ih =>
    rw [F.pow_succ, ih, show m + 1 + (m + 1) = (m + m + 1) + 1 from by omega, F.pow_succ, F.pow_succ]
    grobner
theorem F.fermat {s : F} (h : s ≠ 0) : F.pow s (pp - 1) = 1 := by
  apply Fin.ext
  show s.val ^ (pp - 1) % pp = 1
  exact pp_root.fermat (F.val_ne h)
theorem F.sq_one {t : F} (h : t * t = 1) : t = 1 ∨ t = -1 := by
  have : (t - 1) * (t + 1) = 0 := by grobner
  rcases F.mul_eq_zero this with h1 | h1
  · left; grobner
  · right; grobner
theorem F.sq_eq {a b : F} (h : a * a = b * b) : a = b ∨ a = -b := by
  have : (a - b) * (a + b) = 0 := by grobner
  rcases F.mul_eq_zero this with h1 | h1
  · left; grobner
  · right; grobner
theorem pick_true {r a : F} (h : r * r = a) : (pickRoot r a).2 = true := by
  unfold pickRoot; rw [if_pos h]
theorem pick_sq {r a : F} (h : (pickRoot r a).2 = true) : (pickRoot r a).1 * (pickRoot r a).1 = a := by
  unfold pickRoot at h ⊢
  by_cases h1 : r * r = a
  · rw [if_pos h1]
    show (if r.val % 2 = 1 then -r else r) * (if r.val % 2 = 1 then -r else r) = a
    by_cases h2 : r.val % 2 = 1
    · rw [if_pos h2]; grobner
    · rw [if_neg h2]; exact h1
  · rw [if_neg h1] at h; cases h
theorem root_abs {s c : F} {m k : Nat} (hm : m + m = k + 1) (hk : s ≠ 0 → F.pow s (k + k) * F.pow s (k + k) = 1) (hc : c * c = -1) :
    (pickRoot (if F.pow (s * s) m * F.pow (s * s) m = s * s then F.pow (s * s) m else F.pow (s * s) m * c) (s * s)).2 = true := by
  apply pick_true
  by_cases h : F.pow (s * s) m * F.pow (s * s) m = s * s
  · rw [if_pos h]; exact h
  · rw [if_neg h]
    have h1 : F.pow (s * s) m * F.pow (s * s) m = F.pow s (k + k) * (s * s) := by
      rw [← F.pow_add, hm, F.pow_succ, F.pow_sq]
    by_cases hs : s = 0
    · exfalso; apply h; rw [h1, hs]; grobner
    · rcases F.sq_one (hk hs) with h2 | h2
      · exfalso; apply h; rw [h1, h2]; grobner
      · rw [h2] at h1
        generalize F.pow (s * s) m = r at *
        grobner
theorem exp_half : (pp + 3) / 8 + (pp + 3) / 8 = (pp - 1) / 4 + 1 := by decide +kernel
theorem exp_full : (pp - 1) / 4 + (pp - 1) / 4 + ((pp - 1) / 4 + (pp - 1) / 4) = pp - 1 := by decide +kernel
theorem root_minus : F.pow 2 ((pp - 1) / 4) * F.pow 2 ((pp - 1) / 4) = -1 := by
  rw [F.pow_K 2 (by decide +kernel)]; decide +kernel
theorem root_of_sq (s : F) : (rootOf (s * s)).2 = true := by
  rw [root_pick]
  exact root_abs exp_half (fun hs => by rw [← F.pow_add, exp_full]; exact F.fermat hs) root_minus
theorem root_sq {a : F} (h : (rootOf a).2 = true) : (rootOf a).1 * (rootOf a).1 = a := by
  rw [root_pick] at h ⊢; exact pick_sq h
theorem den_ne (y : F) : dd * (y * y) + 1 ≠ 0 := by
  intro h
  have hy : y ≠ 0 := by rintro rfl; exact F.one_ne (by grobner)
  have hi := F.inv_mul hy
  have h2 := ii_sq
  apply dd_nonsquare (ii * F.inv y)
  generalize F.inv y = v at *
  grobner
theorem xOf_of {x y : F} (h : OnC x y) : (xOfE y).2 = true ∧ ((xOfE y).1 = x ∨ (xOfE y).1 = -x) := by
  have h2 := F.inv_mul (den_ne y)
  have e : (y * y - 1) * F.inv (dd * (y * y) + 1) = x * x := by
    apply F.cancel (den_ne y)
    unfold OnC at h
    generalize F.inv (dd * (y * y) + 1) = v at *
    grobner
  unfold xOfE ratioOf
  rw [if_neg (den_ne y), e]
  exact ⟨root_of_sq x, F.sq_eq (root_sq (root_of_sq x))⟩
def IsP (p : E4) (P : Pt) : Prop := p.2.2.1 ≠ 0 ∧ p.1 = P.x * p.2.2.1 ∧ p.2.1 = P.y * p.2.2.1 ∧ p.2.2.2 = P.x * P.y * p.2.2.1
theorem isP_aff (P : Pt) : IsP (affE P.x P.y) P :=
  ⟨F.one_ne, (show P.x = P.x * 1 by grobner), (show P.y = P.y * 1 by grobner), (show P.x * P.y = P.x * P.y * 1 by grobner)⟩
theorem isP_zero : IsP zeroE Pt.zero := isP_aff Pt.zero
theorem add_aux {x1 y1 Z1 x2 y2 Z2 : F} {A B : F} (h1 : OnC x1 y1) (h2 : OnC x2 y2) (hz1 : Z1 ≠ 0) (hz2 : Z2 ≠ 0)
    (hA : A * (1 + dd * x1 * x2 * y1 * y2) = x1 * y2 + y1 * x2) (hB : B * (1 - dd * x1 * x2 * y1 * y2) = y1 * y2 + x1 * x2) {r : E4}
    (hr : addE (x1 * Z1, y1 * Z1, Z1, x1 * y1 * Z1) (x2 * Z2, y2 * Z2, Z2, x2 * y2 * Z2) = r) : r.2.2.1 ≠ 0 ∧ r.1 = A * r.2.2.1 ∧ r.2.1 = B * r.2.2.1 ∧ r.2.2.2 = A * B * r.2.2.1 := by
  have d1 := denom_plus h1 h2
  have d2 := denom_minus h1 h2
  subst hr
  unfold addE
  simp only []
  generalize hD : dd * x1 * x2 * y1 * y2 = D at *
  have e1 : y1 * Z1 * Z2 + y1 * Z1 * Z2 = y1 * Z1 * Z2 + y1 * Z1 * Z2 := rfl
  have eba : (y1 * Z1 + x1 * Z1) * (y2 * Z2 + x2 * Z2) - (y1 * Z1 - x1 * Z1) * (y2 * Z2 - x2 * Z2) = 2 * (Z1 * Z2) * (A * (1 + D)) := by rw [hA]; grobner
  have ebA : (y1 * Z1 + x1 * Z1) * (y2 * Z2 + x2 * Z2) + (y1 * Z1 - x1 * Z1) * (y2 * Z2 - x2 * Z2) = 2 * (Z1 * Z2) * (B * (1 - D)) := by rw [hB]; grobner
  have edc : Z1 * Z2 + Z1 * Z2 - (x1 * y1 * Z1 * (x2 * y2 * Z2) * dd + x1 * y1 * Z1 * (x2 * y2 * Z2) * dd) = 2 * (Z1 * Z2) * (1 - D) := by rw [← hD]; grobner
  have edC : Z1 * Z2 + Z1 * Z2 + (x1 * y1 * Z1 * (x2 * y2 * Z2) * dd + x1 * y1 * Z1 * (x2 * y2 * Z2) * dd) = 2 * (Z1 * Z2) * (1 + D) := by rw [← hD]; grobner
  rw [eba, ebA, edc, edC]
  have hne := F.mul_ne two_ne (F.mul_ne hz1 hz2)
  refine ⟨F.mul_ne (F.mul_ne hne d2) (F.mul_ne hne d1), ?_, ?_, ?_⟩ <;> grobner
theorem isP_form {p : E4} {P : Pt} (h : IsP p P) : p = (P.x * p.2.2.1, P.y * p.2.2.1, p.2.2.1, P.x * P.y * p.2.2.1) := by
  obtain ⟨X, Y, Z, T⟩ := p
  obtain ⟨_, h1, h2, h3⟩ := h
  simp only at h1 h2 h3
  rw [h1, h2, h3]
theorem isP_add {p q : E4} {P Q : Pt} (hp : IsP p P) (hq : IsP q Q) : IsP (addE p q) (P.add Q) := by
  have h := add_aux P.on Q.on hp.1 hq.1 (addX_mul P.on Q.on) (addY_mul P.on Q.on) (r := addE p q) (by rw [← isP_form hp, ← isP_form hq])
  exact h
theorem isP_neg {p : E4} {P : Pt} (hp : IsP p P) : IsP (negE p) P.neg := by
  obtain ⟨X, Y, Z, T⟩ := p
  obtain ⟨h0, h1, h2, h3⟩ := hp
  simp only at h0 h1 h2 h3
  refine ⟨h0, ?_, h2, ?_⟩
  · show -X = -P.x * Z
    grobner
  · show -T = -P.x * P.y * Z
    grobner
theorem isP_x {p : E4} {P : Pt} (hp : IsP p P) : p.1 * F.inv p.2.2.1 = P.x := by
  obtain ⟨h0, h1, _⟩ := hp
  have := F.inv_mul h0
  rw [h1]
  generalize F.inv p.2.2.1 = v at *
  grobner
theorem isP_y {p : E4} {P : Pt} (hp : IsP p P) : p.2.1 * F.inv p.2.2.1 = P.y := by
  obtain ⟨h0, _, h2, _⟩ := hp
  have := F.inv_mul h0
  rw [h2]
  generalize F.inv p.2.2.1 = v at *
  grobner
theorem Pt.zero_add (p : Pt) : Pt.zero.add p = p := by rw [Pt.add_comm, Pt.add_zero]
def nsm : Nat → Pt → Pt
  | 0, _ => Pt.zero
  | n + 1, p => (nsm n p).add p
theorem nsm_add (m n : Nat) (p : Pt) : nsm (m + n) p = (nsm m p).add (nsm n p) := by
  induction n with
  | zero =>
    show nsm m p = (nsm m p).add Pt.zero
    rw [Pt.add_zero]
  | succ n ih => rw [← Nat.add_assoc, nsm, nsm, ih, Pt.add_assoc]
theorem add4 (a b c d : Pt) : (a.add b).add (c.add d) = (a.add c).add (b.add d) := by
  rw [Pt.add_assoc, Pt.add_assoc, ← Pt.add_assoc b, Pt.add_comm b c, Pt.add_assoc c]
theorem nsm_over (n : Nat) (p q : Pt) : nsm n (p.add q) = (nsm n p).add (nsm n q) := by
  induction n with
  | zero =>
    show Pt.zero = Pt.zero.add Pt.zero
    rw [Pt.add_zero]
  | succ n ih => rw [nsm, nsm, nsm, ih, add4]
theorem nsm_zero (n : Nat) : nsm n Pt.zero = Pt.zero := by
  induction n with
  | zero => rfl
  | succ n ih => rw [nsm, ih, Pt.add_zero]
theorem nsm_mul (m n : Nat) (p : Pt) : nsm (m * n) p = nsm m (nsm n p) := by
  induction m with
  | zero => rw [Nat.zero_mul]; rfl
  | succ m ih => rw [Nat.succ_mul, nsm_add, ih, nsm]
theorem add_left {a b c : Pt} (h : a.add b = a.add c) : b = c := by
  have : a.neg.add (a.add b) = a.neg.add (a.add c) := by rw [h]
  rwa [← Pt.add_assoc, ← Pt.add_assoc, Pt.add_comm a.neg, Pt.add_neg, Pt.zero_add, Pt.zero_add] at this
theorem nsm_neg (n : Nat) (p : Pt) : nsm n p.neg = (nsm n p).neg := by
  apply add_left (a := nsm n p)
  rw [← nsm_over, Pt.add_neg, Pt.add_neg, nsm_zero]
theorem nsm_one (p : Pt) : nsm 1 p = p := Pt.zero_add p
end BJ
namespace Go.Proofs.Ythdfifcgobfgdaa
open Go Go.Ev
set_option maxRecDepth 1000000
section
variable (bit : B32 → Nat → Int) (zero : Pn) (edge : Fn) (add : Fn → Fn → Fn) (plus3 : Pn → Pn → Fn → Pn)
end
section
variable (decode : B32 → Pt × Bool) (base : Pt) (double : Pt → Pt)
end
section
variable (decode : B32 → Pt × Bool) (base : Pt) (double : Pt → Pt) (decode9 : B32 → Pn × Bool) (base9 : Pn) (plus9 : Pn → Pn → Pn)
end
end Go.Proofs.Ythdfifcgobfgdaa
namespace Go.Proofs.Ythdfifcgobfgdaa
open Go Go.Ev BJ
set_option maxRecDepth 1000000
end Go.Proofs.Ythdfifcgobfgdaa
namespace Go.Ev
open Go
end Go.Ev
namespace Go.Proofs.Ythdfifcgobfgdaa
open Go Go.Ev BJ
set_option maxRecDepth 1000000
def both (a b : Bool) : Bool := bif a == true then b else false
section
variable (at2 : B32 → Pt × Pn) (zero : Pt) (add : Pt → Pt → Pt) (neg double : Pt → Pt) (equal : Pt → Pt → Bool) (encode : Pt → B32)
end
section
variable (at2 : B32 → Pt × Pn) (decode : B32 → Pt × Bool) (add : Pt → Pt → Pt) (neg double : Pt → Pt) (equal : Pt → Pt → Bool) (encode : Pt → B32) (decode9 : B32 → Pn × Bool) (plus9 : Pn → Pn → Pn) (turn9 : Pn → Pn) (alike9 : Pn → Pn → Bool) (encode9 : Pn → B32)
end
section
variable (zero : Pt) (decode : B32 → Pt × Bool) (neg double : Pt → Pt) (equal : Pt → Pt → Bool)
end
end Go.Proofs.Ythdfifcgobfgdaa
namespace Go.Proofs.Ythdfifcgobfgdaa
open Go Go.Ev BJ
theorem base_on : OnC baseX baseY := by unfold OnC; decide +kernel
def baseP : BJ.Pt := ⟨baseX, baseY, base_on⟩
theorem base_isP : IsP baseE baseP := by
  rw [base_lit]; exact isP_aff baseP
structure Rep (p : Pt) (P : BJ.Pt) : Prop where
  ok : OkPt p
  is : IsP (ptE p) P
theorem rep_zero : Rep zeroC BJ.Pt.zero := ⟨zero_is.1, by rw [zero_is.2]; exact isP_zero⟩
theorem rep_base : Rep baseC baseP := ⟨base_is.1, by rw [base_is.2]; exact base_isP⟩
theorem rep_add {p q : Pt} {P Q : BJ.Pt} (hp : Rep p P) (hq : Rep q Q) : Rep (addPC p q) (P.add Q) := by
  obtain ⟨h1, _, h3⟩ := add_pt hp.ok hq.ok
  exact ⟨h1, by rw [h3]; exact isP_add hp.is hq.is⟩
theorem rep_double {p : Pt} {P : BJ.Pt} (hp : Rep p P) : Rep (doubleC p) (P.add P) := rep_add hp hp
theorem rep_neg {p : Pt} {P : BJ.Pt} (hp : Rep p P) : Rep (negPC p) P.neg := by
  obtain ⟨h1, _, h3⟩ := neg_pt hp.ok
  exact ⟨h1, by rw [h3]; exact isP_neg hp.is⟩
noncomputable def encP (P : BJ.Pt) : B32 := if P.x.val % 2 = 1 then topSet (bytesF P.y) else bytesF P.y
theorem rep_enc {p : Pt} {P : BJ.Pt} (hp : Rep p P) : encodeC p = encP P := by
  rw [encode_pt hp.ok]
  unfold encE encP
  rw [isP_x hp.is, isP_y hp.is]
theorem encP_val (P : BJ.Pt) : valB (encP P) = (P.y.val : Int) + (if P.x.val % 2 = 1 then p2255 else 0) := by
  unfold encP
  obtain ⟨h1, h2⟩ := bytesF_val P.y
  by_cases h : P.x.val % 2 = 1
  · rw [if_pos h, if_pos h, (topSet_val h1 (bytes_top _).2).2, h2]
  · rw [if_neg h, if_neg h, h2, Int.add_zero]
theorem encP_inj {P Q : BJ.Pt} (h : encP P = encP Q) : P = Q := by
  have hv := congrArg valB h
  rw [encP_val, encP_val] at hv
  have hp := pp_pos P.y
  have hq := pp_pos Q.y
  have c1 := p2255_int
  have c2 := pp_int
  have hy : P.y = Q.y := F_ext (by split at hv <;> split at hv <;> omega)
  have hpar : P.x.val % 2 = 1 ↔ Q.x.val % 2 = 1 := by
    split at hv <;> split at hv <;> omega
  refine BJ.Pt.ext' ?_ hy
  have e1 := xOf_of P.on
  have e2 := xOf_of Q.on
  rw [← hy] at e2
  have hc : P.x = Q.x ∨ P.x = -Q.x := by
    rcases e1.2 with a | a <;> rcases e2.2 with b | b <;> rw [a] at b
    · exact .inl b
    · exact .inr b
    · right; grobner
    · left; grobner
  rcases hc with h1 | h1
  · exact h1
  · by_cases h0 : Q.x = 0
    · rw [h1, h0]; grobner
    · have := neg_odd h0
      rw [← h1] at this
      omega
end Go.Proofs.Ythdfifcgobfgdaa
namespace Go.Proofs.Ythdfifcgobfgdaa
open Go Go.Ev BJ
theorem mult_isP {V : Nat} (hV : V < 2 ^ 256) {p : E4} {P : BJ.Pt} (hp : IsP p P) : IsP (multE V p) (nsm V P) := by
  have key : ∀ k, k ≤ 256 → IsP (rnds (stepE4 V p) k zeroE) (nsm (V / 2 ^ (256 - k)) P) := by
    intro k
    induction k with
    | zero =>
      intro _
      rw [Nat.sub_zero, Nat.div_eq_of_lt hV]
      exact isP_zero
    | succ k ih =>
      intro hk
      have h := ih (by omega)
      show IsP (stepE4 V p k (rnds (stepE4 V p) k zeroE)) _
      have hdiv : V / 2 ^ (256 - k) = V / 2 ^ (256 - (k + 1)) / 2 := by
        rw [Nat.div_div_eq_div_mul, ← Nat.pow_succ]; congr 2; omega
      rw [hdiv] at h
      unfold stepE4 bitE
      rw [show 255 - k = 256 - (k + 1) from by omega]
      generalize V / 2 ^ (256 - (k + 1)) = M at *
      have h2 := isP_add h h
      rw [← nsm_add] at h2
      by_cases hb : M % 2 = 1
      · rw [decide_eq_true hb, if_pos rfl]
        have h3 := isP_add h2 hp
        have e : (nsm (M / 2 + M / 2) P).add P = nsm M P := by
          have : M = (M / 2 + M / 2) + 1 := by omega
          conv => rhs; rw [this]
          rfl
        rw [e] at h3; exact h3
      · rw [decide_eq_false hb, if_neg (by simp)]
        rw [show M / 2 + M / 2 = M from by omega] at h2; exact h2
  have := key 256 (by omega)
  rw [Nat.sub_self, Nat.pow_zero, Nat.div_one] at this
  exact this
theorem val_lt {n : B32} (h : OkB n) : (valB n).toNat < 2 ^ 256 := by
  have h1 := valB_lt h
  have h0 := valB_nonneg h
  have h256 : (256 ^ 32 : Nat) = 2 ^ 256 := by rw [show (256 : Nat) = 2 ^ 8 from rfl, ← Nat.pow_mul]
  rw [h256] at h1
  omega
theorem rep_mult {n : B32} {p : Pt} {P : BJ.Pt} (hn : OkB n) (hp : Rep p P) : Rep (multC n p) (nsm (valB n).toNat P) := by
  obtain ⟨h1, h2⟩ := mult_pt hn hp.ok
  exact ⟨h1, by rw [h2]; exact mult_isP (val_lt hn) hp.is⟩
theorem dec_encP (P : BJ.Pt) : OkB (encP P) ∧ decE (encP P) = (affE P.x P.y, true) := by
  obtain ⟨b1, b2⟩ := bytesF_val P.y
  have hv := encP_val P
  have hok : OkB (encP P) := by
    unfold encP
    split
    · exact (topSet_val b1 (bytes_top _).2).1
    · exact b1
  have hp := pp_pos P.y
  have c1 := p2255_int
  have c2 := pp_int
  have hm : valB (encP P) % p2255 = (P.y.val : Int) := by
    have c3 : ∀ x : Int, x % p2255 = x % 57896044618658097711785492504343953926634992332820282019728792003956564819968 := fun _ => rfl
    rw [hv, c3]
    split <;> omega
  have hF : toF (valB (encP P) % p2255) = P.y := by rw [hm, toF_of]
  have h31 := get_val hok (i := 31) (by decide)
  rw [p255] at h31
  have htop : 128 ≤ (encP P).get 31 ↔ P.x.val % 2 = 1 := by
    rw [h31, hv]
    split <;> omega
  obtain ⟨x1, x2⟩ := xOf_of P.on
  have hev := xOf_even P.y
  refine ⟨hok, ?_⟩
  unfold decE
  simp only [hF]
  have hcond : (xOfE P.y).2 = true ∧ valB (encP P) % p2255 < (pp : Int) ∧ ¬(128 ≤ (encP P).get 31 ∧ (xOfE P.y).1 = 0) := by
    refine ⟨x1, by rw [hm]; exact hp.2, fun ⟨h1, h2⟩ => ?_⟩
    have hodd := htop.1 h1
    have hx0 : P.x = 0 := by
      rcases x2 with h | h
      · rw [← h, h2]
      · have : P.x = -(xOfE P.y).1 := by rw [h]; grobner
        rw [this, h2]; grobner
    rw [hx0, BJ.F.zero_val] at hodd; cases hodd
  rw [if_pos hcond]
  have hsel : (if 128 ≤ (encP P).get 31 then -(xOfE P.y).1 else (xOfE P.y).1) = P.x := by
    generalize (xOfE P.y).1 = X at *
    by_cases h : P.x.val % 2 = 1
    · rw [if_pos (htop.2 h)]
      rcases x2 with e | e
      · rw [e] at hev; omega
      · rw [e]; grobner
    · rw [if_neg fun h' => h (htop.1 h')]
      rcases x2 with e | e
      · exact e
      · by_cases h0 : P.x = 0
        · rw [e, h0]; grobner
        · have := neg_odd h0
          rw [← e] at this
          omega
  rw [hsel]
end Go.Proofs.Ythdfifcgobfgdaa
namespace Go.Proofs.Ythdfifcgobfgdaa
open Go Go.Ev BJ
set_option maxRecDepth 1000000
section
variable (alive : Unit) (mult : B32 → Pt → Pt) (mbase : B32 → Pt) (base zero : Pt) (double neg : Pt → Pt) (equal : Pt → Pt → Bool) (at13 : B32 → Pt) (add : Pt → Pt → Pt) (half : B32 → B32) (plus : B32 → B32 → B32) (two3 : B32 → Pt → B32 → Pt)
end
end Go.Proofs.Ythdfifcgobfgdaa
namespace Go.Proofs.Ythdfifcgobfgdaa
open Go Go.Ev
set_option maxRecDepth 1000000
section
variable (bit : B32 → Nat → Int) (zero base : Pt) (double : Pt → Pt) (padd : Pt → Pt → Pt)
def pickN (z : Int) : {n : Nat} → List (Vec Int n) → Vec Int n
  | 0, _ => ()
  | _ + 1, l => ((l.map (·.1)).getD z.toNat 0, pickN z (l.map (·.2)))
noncomputable def pickPt (z : Int) (l : List Pt) : Pt := ((l.map (·.1)).getD z.toNat false, pickN z (l.map (·.2.1)), pickN z (l.map (·.2.2.1)), pickN z (l.map (·.2.2.2.1)), pickN z (l.map (·.2.2.2.2)))
def vec4 (a b c d : Pt) : Vec Pt 4 := (a, b, c, d, ())
noncomputable def twoK (a b : B32) (i : Int) : Int := w (bit a i.toNat + w (2 * bit b i.toNat))
noncomputable def twoStep (a b : B32) (l : Vec Pt 4) (i : Int) (r : Pt) : Pt := selPt (decide (twoK bit a b i > 0)) (padd (double r) (pickPt (twoK bit a b i) l.toList)) (double r)
noncomputable def twoFn (a : B32) (p : Pt) (b : B32) : Pt := rnds (fun k r => twoStep bit double padd a b (vec4 zero p base (padd p base)) (255 - (k : Int)) r) 256 zero
end
end Go.Proofs.Ythdfifcgobfgdaa
namespace Go.Proofs.Ythdfifcgobfgdaa
open Go Go.Ev BJ
theorem bit_01 {e : B32} (_k : Nat) : bitFn e _k = 0 ∨ bitFn e _k = 1 := by
  unfold bitFn
  rw [and_u8 (m := 1) (by decide) _ 1 (by decide)]
  have h := Int.emod_nonneg (shr .u8 (e.get (_k / 8)) ((_k % 8 : Nat) : Int)) (b := ((2 ^ 1 : Nat) : Int)) (by decide)
  have h2 := Int.emod_lt_of_pos (shr .u8 (e.get (_k / 8)) ((_k % 8 : Nat) : Int)) (b := ((2 ^ 1 : Nat) : Int)) (by decide)
  generalize (shr .u8 (e.get (_k / 8)) ((_k % 8 : Nat) : Int)) % ((2 ^ 1 : Nat) : Int) = x at *
  have h3 : ((2 ^ 1 : Nat) : Int) = 2 := by decide
  rw [h3] at h2
  rw [wrap_i64 (by omega) (by omega)]
  omega
noncomputable def twoC : B32 → Pt → B32 → Pt := twoFn bitFn zeroC baseC doubleC addPC
theorem pickN_get (z : Nat) : ∀ {n : Nat} (l : List (Vec Int n)) (v : Vec Int n), l[z]? = some v → pickN (z : Int) l = v
  | 0, _, _, _ => rfl
  | n + 1, l, v, h => by
    have h1 : (l.map (·.1))[z]? = some v.1 := by rw [List.getElem?_map, h]; rfl
    have h2 : (l.map (·.2))[z]? = some v.2 := by rw [List.getElem?_map, h]; rfl
    show ((l.map (·.1)).getD ((z : Int)).toNat 0, pickN (z : Int) (l.map (·.2))) = v
    rw [pickN_get z _ _ h2, Int.toNat_natCast, List.getD_eq_getElem?_getD, h1]; rfl
theorem pickPt_get (z : Nat) (l : List Pt) (v : Pt) (h : l[z]? = some v) : pickPt (z : Int) l = v := by
  have hm : ∀ {α : Type} (f : Pt → α), (l.map f)[z]? = some (f v) := fun f => by rw [List.getElem?_map, h]; rfl
  unfold pickPt
  rw [Int.toNat_natCast, List.getD_eq_getElem?_getD, hm, pickN_get z _ _ (hm _), pickN_get z _ _ (hm _), pickN_get z _ _ (hm _), pickN_get z _ _ (hm _)]; rfl
theorem bit_half (V : Nat) (k : Nat) (hk : k < 256) (e : B32) (he : OkB e) (hV : V = (valB e).toNat) : bitFn e (255 - (k : Int)).toNat = ((V / 2 ^ (256 - (k + 1)) % 2 : Nat) : Int) := by
  have h1 := bitFn_val he (i := (255 - (k : Int)).toNat) (by omega)
  have e1 : (255 - (k : Int)).toNat = 256 - (k + 1) := by omega
  rw [e1] at h1 ⊢
  unfold bitE at h1
  rw [← hV] at h1
  generalize V / 2 ^ (256 - (k + 1)) = M at *
  rcases bit_01 (e := e) (256 - (k + 1)) with h | h
  · rw [h] at h1 ⊢
    have : ¬ M % 2 = 1 := fun h' => by rw [decide_eq_true h'] at h1; cases h1
    omega
  · rw [h] at h1 ⊢
    have : M % 2 = 1 := by
      refine Classical.byContradiction fun h' => ?_
      rw [decide_eq_false h'] at h1; cases h1
    omega
theorem nsm_succ (n : Nat) (P : BJ.Pt) : (nsm (n + 1) P) = (nsm n P).add P := rfl
theorem add_four (a b c d : BJ.Pt) : ((a.add b).add (c.add d)) = (a.add c).add (b.add d) := add4 a b c d
theorem two_rep {a b : B32} {p : Pt} {P : BJ.Pt} (ha : OkB a) (hb : OkB b) (hp : Rep p P) : Rep (twoC a p b) ((nsm (valB a).toNat P).add (nsm (valB b).toNat baseP)) := by
  have key : ∀ k, k ≤ 256 → Rep (rnds (fun k r => twoStep bitFn doubleC addPC a b (vec4 zeroC p baseC (addPC p baseC)) (255 - (k : Int)) r) k zeroC) ((nsm ((valB a).toNat / 2 ^ (256 - k)) P).add (nsm ((valB b).toNat / 2 ^ (256 - k)) baseP)) := by
    intro k
    induction k with
    | zero =>
      intro _
      rw [Nat.sub_zero, Nat.div_eq_of_lt (val_lt ha), Nat.div_eq_of_lt (val_lt hb)]
      have e : (nsm 0 P).add (nsm 0 baseP) = BJ.Pt.zero := by
        show BJ.Pt.zero.add BJ.Pt.zero = _
        rw [BJ.Pt.add_zero]
      rw [e]; exact rep_zero
    | succ k ih =>
      intro hk
      have h := ih (by omega)
      simp only [rnds]
      generalize rnds (fun k r => twoStep bitFn doubleC addPC a b (vec4 zeroC p baseC (addPC p baseC)) (255 - (k : Int)) r) k zeroC = r at *
      have hdiv : ∀ V : Nat, V / 2 ^ (256 - k) = V / 2 ^ (256 - (k + 1)) / 2 := fun V => by
        rw [Nat.div_div_eq_div_mul, ← Nat.pow_succ]; congr 2; omega
      rw [hdiv, hdiv] at h
      have b1 := bit_half _ k (by omega) a ha rfl
      have b2 := bit_half _ k (by omega) b hb rfl
      unfold twoStep twoK
      rw [b1, b2]
      generalize (valB a).toNat / 2 ^ (256 - (k + 1)) = A at *
      generalize (valB b).toNat / 2 ^ (256 - (k + 1)) = B at *
      have hd := rep_double h
      rw [add_four, ← nsm_add, ← nsm_add] at hd
      have hA : A % 2 = 0 ∨ A % 2 = 1 := by omega
      have hB : B % 2 = 0 ∨ B % 2 = 1 := by omega
      rcases hA with hA | hA <;> rcases hB with hB | hB <;> rw [hA, hB]
      · have e1 : A / 2 + A / 2 = A := by omega
        have e2 : B / 2 + B / 2 = B := by omega
        have e3 : w (((0 : Nat) : Int) + w (2 * ((0 : Nat) : Int))) = 0 := by decide
        rw [e1, e2] at hd
        rw [e3, selPt_eq]; exact hd
      · have e1 : A / 2 + A / 2 = A := by omega
        have e2 : B = B / 2 + B / 2 + 1 := by omega
        have e3 : w (((0 : Nat) : Int) + w (2 * ((1 : Nat) : Int))) = ((2 : Nat) : Int) := by decide
        have hs := rep_add hd rep_base
        rw [e1, BJ.Pt.add_assoc] at hs
        rw [e3, selPt_eq, pickPt_get 2 _ baseC rfl]
        have e4 : nsm B baseP = (nsm (B / 2 + B / 2) baseP).add baseP := by rw [← nsm_succ, ← e2]
        rw [e4]; exact hs
      · have e1 : A = A / 2 + A / 2 + 1 := by omega
        have e2 : B / 2 + B / 2 = B := by omega
        have e3 : w (((1 : Nat) : Int) + w (2 * ((0 : Nat) : Int))) = ((1 : Nat) : Int) := by decide
        have hs := rep_add hd hp
        have e5 : ∀ x y z : BJ.Pt, (x.add y).add z = (x.add z).add y := fun x y z => by rw [BJ.Pt.add_assoc, BJ.Pt.add_comm y z, ← BJ.Pt.add_assoc]
        rw [e2, e5] at hs
        rw [e3, selPt_eq, pickPt_get 1 _ p rfl]
        have e4 : nsm A P = (nsm (A / 2 + A / 2) P).add P := by rw [← nsm_succ, ← e1]
        rw [e4]; exact hs
      · have e1 : A = A / 2 + A / 2 + 1 := by omega
        have e2 : B = B / 2 + B / 2 + 1 := by omega
        have e3 : w (((1 : Nat) : Int) + w (2 * ((1 : Nat) : Int))) = ((3 : Nat) : Int) := by decide
        have hs := rep_add hd (rep_add hp rep_base)
        rw [add_four] at hs
        rw [e3, selPt_eq, pickPt_get 3 _ (addPC p baseC) rfl]
        have e4 : nsm A P = (nsm (A / 2 + A / 2) P).add P := by rw [← nsm_succ, ← e1]
        have e5 : nsm B baseP = (nsm (B / 2 + B / 2) baseP).add baseP := by rw [← nsm_succ, ← e2]
        rw [e4, e5]; exact hs
  have := key 256 (by omega)
  rw [Nat.sub_self, Nat.pow_zero, Nat.div_one, Nat.div_one] at this
  exact this
end Go.Proofs.Ythdfifcgobfgdaa
end

section
set_option linter.unusedVariables false
set_option linter.unusedSimpArgs false
namespace Go.Proofs.Ythdfifcgobfgdaa
open Go Go.Ev BJ
set_option maxRecDepth 1000000
abbrev cFe : Cod LV Fe := vAgg (vecL .u64 5)
abbrev cB : Cod LV (List Int) := vRow .u8 32
abbrev nB32 (b : B32) : LV := nRow .u8 32 b.toList
abbrev u64A : Cod (List LV) (Int × Unit) := lCons (vOne (sInt .u64)) lNil
abbrev feA : Cod (List LV) (Fe × Unit) := lCons cFe lNil
abbrev fe2A : Cod (List LV) (Fe × Fe × Unit) := lCons cFe (lCons cFe lNil)
abbrev bA32 : Cod (List LV) (List Int × Unit) := lCons cB lNil
abbrev kK : List Wk := [.fr [.sym], .auto]
abbrev kR : List Wk := [.fr [.sym], .rowF 0 0 32 .u8, .auto]
noncomputable def fcarryE : Ent := Ent.ofS [] (feA) (lNil) fun x_ y_ => (fun (x : Fe) => .leaf none (cFe.wr (feCarry x)) []) x_.1
theorem fcarry_tree (x : Fe) : fnT Try.prog [] [] Try.f79 ((feA).wr (x, ())) ((lNil).wr ()) [.fr [.sym], .auto] = .leaf (cFe.wr (feCarry x)) ([]) := by kernel_rfl
theorem fcarry_ok : fcarryE.Ok Try.prog 79 := by
  refine (Ent.ofOk Try.call79 fun x_ y_ Q H_ => ?_).sym
  obtain ⟨x, _⟩ := x_
  have hq := H_.2
  refine (fnT_ok mixed tab0 Try.func79 rfl (LT := []) (ks := [.fr [.sym], .auto]) (LOk.nil _)).use (D := []) ?_ hq
  show (fnT _ _ _ _ ((feA).wr (x, ())) ((lNil).wr ()) _).sat _
  rw [fcarry_tree]
  exact ⟨rfl, rfl⟩
noncomputable def fsmallE : Ent := Ent.ofS [] (u64A) (lNil) fun x_ y_ => (fun (n : Int) => .leaf none (cFe.wr (feSmall n)) []) x_.1
theorem fsmall_tree (n : Int) : fnT Try.prog [] [] Try.f48 ((u64A).wr (n, ())) ((lNil).wr ()) [.fr [.sym], .auto] = .leaf (cFe.wr (feSmall n)) ([]) := by kernel_rfl
theorem fsmall_ok : fsmallE.Ok Try.prog 48 := by
  refine (Ent.ofOk Try.call48 fun x_ y_ Q H_ => ?_).sym
  obtain ⟨n, _⟩ := x_
  have hq := H_.2
  refine (fnT_ok mixed tab0 Try.func48 rfl (LT := []) (ks := [.fr [.sym], .auto]) (LOk.nil _)).use (D := []) ?_ hq
  show (fnT _ _ _ _ ((u64A).wr (n, ())) ((lNil).wr ()) _).sat _
  rw [fsmall_tree]
  exact ⟨rfl, rfl⟩
noncomputable def faddE : Ent := Ent.ofS [] (fe2A) (lNil) fun x_ y_ => (fun (x y : Fe) => .leaf none (cFe.wr (addC x y)) []) x_.1 x_.2.1
theorem fadd_tree (x y : Fe) : fnT Try.prog [(79, fcarryE)] [] Try.f55 ((fe2A).wr (x, y, ())) ((lNil).wr ()) [.fr [.sym], .auto] = .leaf (cFe.wr (addC x y)) ([]) := by kernel_rfl
theorem fadd_ok : faddE.Ok Try.prog 55 := by
  refine (Ent.ofOk Try.call55 fun x_ y_ Q H_ => ?_).sym
  obtain ⟨x, y, _⟩ := x_
  have hq := H_.2
  refine (fnT_ok mixed ((tabC fcarry_ok tab0)) Try.func55 rfl (LT := []) (ks := [.fr [.sym], .auto]) (LOk.nil _)).use (D := []) ?_ hq
  show (fnT _ _ _ _ ((fe2A).wr (x, y, ())) ((lNil).wr ()) _).sat _
  rw [fadd_tree]
  exact ⟨rfl, rfl⟩
noncomputable def fsubE : Ent := Ent.ofS [] (fe2A) (lNil) fun x_ y_ => (fun (x y : Fe) => .leaf none (cFe.wr (subC x y)) []) x_.1 x_.2.1
theorem fsub_tree (x y : Fe) : fnT Try.prog [(79, fcarryE)] [] Try.f54 ((fe2A).wr (x, y, ())) ((lNil).wr ()) [.fr [.sym], .auto] = .leaf (cFe.wr (subC x y)) ([]) := by kernel_rfl
theorem fsub_ok : fsubE.Ok Try.prog 54 := by
  refine (Ent.ofOk Try.call54 fun x_ y_ Q H_ => ?_).sym
  obtain ⟨x, y, _⟩ := x_
  have hq := H_.2
  refine (fnT_ok mixed ((tabC fcarry_ok tab0)) Try.func54 rfl (LT := []) (ks := [.fr [.sym], .auto]) (LOk.nil _)).use (D := []) ?_ hq
  show (fnT _ _ _ _ ((fe2A).wr (x, y, ())) ((lNil).wr ()) _).sat _
  rw [fsub_tree]
  exact ⟨rfl, rfl⟩
noncomputable def fnegE : Ent := Ent.ofS [] (feA) (lNil) fun x_ y_ => (fun (x : Fe) => .leaf none (cFe.wr (negC x)) []) x_.1
theorem fneg_tree (x : Fe) : fnT Try.prog [(54, fsubE)] [] Try.f43 ((feA).wr (x, ())) ((lNil).wr ()) [.fr [.sym], .auto] = .leaf (cFe.wr (negC x)) ([]) := by kernel_rfl
theorem fneg_ok : fnegE.Ok Try.prog 43 := by
  refine (Ent.ofOk Try.call43 fun x_ y_ Q H_ => ?_).sym
  obtain ⟨x, _⟩ := x_
  have hq := H_.2
  refine (fnT_ok mixed ((tabC fsub_ok tab0)) Try.func43 rfl (LT := []) (ks := [.fr [.sym], .auto]) (LOk.nil _)).use (D := []) ?_ hq
  show (fnT _ _ _ _ ((feA).wr (x, ())) ((lNil).wr ()) _).sat _
  rw [fneg_tree]
  exact ⟨rfl, rfl⟩
noncomputable def mul64E : Ent := Ent.ofS [] ((lCons (vOne (sInt .u64)) (lCons (vOne (sInt .u64)) lNil))) (lNil) fun x_ y_ => (fun (x y : Int) => .leaf none (.tup [.sc (.int .u64 (.sym (mulFn x y).1)), .sc (.int .u64 (.sym (mulFn x y).2))]) []) x_.1 x_.2.1
theorem mul64_tree (x y : Int) : fnT Try.prog [] [] Try.f83 (((lCons (vOne (sInt .u64)) (lCons (vOne (sInt .u64)) lNil))).wr (x, y, ())) ((lNil).wr ()) [.fr [.sym], .auto] = .leaf (.tup [.sc (.int .u64 (.sym (mulFn x y).1)), .sc (.int .u64 (.sym (mulFn x y).2))]) ([]) := by kernel_rfl
theorem mul64_ok : mul64E.Ok Try.prog 83 := by
  refine (Ent.ofOk Try.call83 fun x_ y_ Q H_ => ?_).sym
  obtain ⟨x, y, _⟩ := x_
  have hq := H_.2
  refine (fnT_ok mixed tab0 Try.func83 rfl (LT := []) (ks := [.fr [.sym], .auto]) (LOk.nil _)).use (D := []) ?_ hq
  show (fnT _ _ _ _ (((lCons (vOne (sInt .u64)) (lCons (vOne (sInt .u64)) lNil))).wr (x, y, ())) ((lNil).wr ()) _).sat _
  rw [mul64_tree]
  exact ⟨rfl, rfl⟩
noncomputable def ffromE : Ent := Ent.ofS [] (bA32) (lNil) fun x_ y_ => (fun (b : List Int) => .leaf none (cFe.wr (feFrom (v32 b))) []) x_.1
theorem ffrom_tree (b : List Int) : fnT Try.prog [] [] Try.f39 ((bA32).wr (b, ())) ((lNil).wr ()) [.fr [.sym], .auto] = .leaf (cFe.wr (feFrom (v32 b))) ([]) := by kernel_rfl
theorem ffrom_ok : ffromE.Ok Try.prog 39 := by
  refine (Ent.ofOk Try.call39 fun x_ y_ Q H_ => ?_).sym
  obtain ⟨b, _⟩ := x_
  have hq := H_.2
  refine (fnT_ok mixed tab0 Try.func39 rfl (LT := []) (ks := [.fr [.sym], .auto]) (LOk.nil _)).use (D := []) ?_ hq
  show (fnT _ _ _ _ ((bA32).wr (b, ())) ((lNil).wr ()) _).sat _
  rw [ffrom_tree]
  exact ⟨rfl, rfl⟩
noncomputable def fleastE : Ent := Ent.ofS [] (feA) (lNil) fun x_ y_ => (fun (x : Fe) => .leaf none (cFe.wr (leastC x)) []) x_.1
theorem fleast_tree (x : Fe) : fnT Try.prog [(79, fcarryE)] [] Try.f95 ((feA).wr (x, ())) ((lNil).wr ()) [.fr [.sym], .auto] = .leaf (cFe.wr (leastC x)) ([]) := by kernel_rfl
theorem fleast_ok : fleastE.Ok Try.prog 95 := by
  refine (Ent.ofOk Try.call95 fun x_ y_ Q H_ => ?_).sym
  obtain ⟨x, _⟩ := x_
  have hq := H_.2
  refine (fnT_ok mixed ((tabC fcarry_ok tab0)) Try.func95 rfl (LT := []) (ks := [.fr [.sym], .auto]) (LOk.nil _)).use (D := []) ?_ hq
  show (fnT _ _ _ _ ((feA).wr (x, ())) ((lNil).wr ()) _).sat _
  rw [fleast_tree]
  exact ⟨rfl, rfl⟩
noncomputable def fbytesE : Ent := Ent.ofS [] (feA) (lNil) fun x_ y_ => (fun (x : Fe) => .leaf none (nB32 (feBytes x)) []) x_.1
theorem fbytes_tree (x : Fe) : fnT Try.prog [(95, fleastE)] [] Try.f74 ((feA).wr (x, ())) ((lNil).wr ()) kR = .leaf (nB32 (feBytes x)) ([]) := by kernel_rfl
theorem fbytes_ok : fbytesE.Ok Try.prog 74 := by
  refine (Ent.ofOk Try.call74 fun x_ y_ Q H_ => ?_).sym
  obtain ⟨x, _⟩ := x_
  have hq := H_.2
  refine (fnT_ok mixed ((tabC fleast_ok tab0)) Try.func74 rfl (LT := []) (ks := kR) (LOk.nil _)).use (D := []) ?_ hq
  show (fnT _ _ _ _ ((feA).wr (x, ())) ((lNil).wr ()) _).sat _
  rw [fbytes_tree]
  exact ⟨rfl, rfl⟩
abbrev add64E : Ent := (onceE add64).sym
theorem add64_ok : add64E.Ok Try.prog 80 := (add64_once Try.func80 (by kernel_rfl) (by kernel_rfl) (by kernel_rfl) (by kernel_rfl) rfl).sym
end Go.Proofs.Ythdfifcgobfgdaa
end

section
set_option linter.unusedVariables false
set_option linter.unusedSimpArgs false
namespace Go.Proofs.Ythdfifcgobfgdaa
open Go Go.Ev BJ
set_option maxRecDepth 1000000
def mulE' (m : Int → Int → Int × Int) : Ent := Ent.ofS [] (lCons (vOne (sInt .u64)) (lCons (vOne (sInt .u64)) lNil)) lNil fun x _ => .leaf none (.tup [.sc (.int .u64 (.sym (m x.1 x.2.1).1)), .sc (.int .u64 (.sym (m x.1 x.2.1).2))]) []
abbrev longA (o : Nat) : Cod (List LV) (Int × Int × Unit) := lSkip (vOne (sPtr 0 o)) (lCons (vOne (sInt .u64)) (lCons (vOne (sInt .u64)) lNil))
abbrev longH : Cod Hp (Vec Int 10 × Unit) := lCons (iBlk 114 (vecL .u64 10)) lNil
section
variable (m : Int → Int → Int × Int) (a : Int → Int → Int → Int × Int)
def longS (k : Nat) (x y : Int) (v : Vec Int 10) : Int × Int := a (v.get (2 * k + 1)) (m x y).2 0
def longU (k : Nat) (x y : Int) (v : Vec Int 10) : Vec Int 10 := Vec.upd (fun _ => (longS m a k x y v).1) (2 * k + 1) (Vec.upd (fun _ => (a (v.get (2 * k)) (m x y).1 (longS m a k x y v).2).1) (2 * k) v)
noncomputable def longE (k : Nat) : Ent := Ent.ofS [] (longA (2 * k)) longH fun x h => .leaf (some (0 ≤ (longS m a k x.1 x.2.1 h.1).2 ∧ (longS m a k x.1 x.2.1 h.1).2 ≤ 1)) (.tup []) [(0, .blk ((vecL .u64 10).wr (longU m a k x.1 x.2.1 h.1)) 114)]
abbrev longTab : List (FuncId × Ent) := [(83, mulE' m), (80, (onceE a).sym)]
abbrev longK : List Wk := [.blk 0 (List.replicate 10 .sym), .auto]
theorem long_tree0 (x y : Int) (v : Vec Int 10) : fnT Try.prog (longTab m a) [] Try.f78 ((longA 0).wr (x, y, ())) (longH.wr (v, ())) longK =
    .need (0 ≤ (0 : Int) ∧ (0 : Int) ≤ 1) (.need (0 ≤ (longS m a 0 x y v).2 ∧ (longS m a 0 x y v).2 ≤ 1) (.leaf (.tup []) [some (.blk ((vecL .u64 10).wr (longU m a 0 x y v)) 114)])) := by kernel_rfl
theorem long_tree1 (x y : Int) (v : Vec Int 10) : fnT Try.prog (longTab m a) [] Try.f78 ((longA 2).wr (x, y, ())) (longH.wr (v, ())) longK =
    .need (0 ≤ (0 : Int) ∧ (0 : Int) ≤ 1) (.need (0 ≤ (longS m a 1 x y v).2 ∧ (longS m a 1 x y v).2 ≤ 1) (.leaf (.tup []) [some (.blk ((vecL .u64 10).wr (longU m a 1 x y v)) 114)])) := by kernel_rfl
theorem long_tree2 (x y : Int) (v : Vec Int 10) : fnT Try.prog (longTab m a) [] Try.f78 ((longA 4).wr (x, y, ())) (longH.wr (v, ())) longK =
    .need (0 ≤ (0 : Int) ∧ (0 : Int) ≤ 1) (.need (0 ≤ (longS m a 2 x y v).2 ∧ (longS m a 2 x y v).2 ≤ 1) (.leaf (.tup []) [some (.blk ((vecL .u64 10).wr (longU m a 2 x y v)) 114)])) := by kernel_rfl
theorem long_tree3 (x y : Int) (v : Vec Int 10) : fnT Try.prog (longTab m a) [] Try.f78 ((longA 6).wr (x, y, ())) (longH.wr (v, ())) longK =
    .need (0 ≤ (0 : Int) ∧ (0 : Int) ≤ 1) (.need (0 ≤ (longS m a 3 x y v).2 ∧ (longS m a 3 x y v).2 ≤ 1) (.leaf (.tup []) [some (.blk ((vecL .u64 10).wr (longU m a 3 x y v)) 114)])) := by kernel_rfl
theorem long_tree4 (x y : Int) (v : Vec Int 10) : fnT Try.prog (longTab m a) [] Try.f78 ((longA 8).wr (x, y, ())) (longH.wr (v, ())) longK =
    .need (0 ≤ (0 : Int) ∧ (0 : Int) ≤ 1) (.need (0 ≤ (longS m a 4 x y v).2 ∧ (longS m a 4 x y v).2 ≤ 1) (.leaf (.tup []) [some (.blk ((vecL .u64 10).wr (longU m a 4 x y v)) 114)])) := by kernel_rfl
variable (hm : ∀ p ∈ longTab m a, p.2.Ok Try.prog p.1)
include hm
theorem long_ok0 : (longE m a 0).Ok Try.prog 78 := by
  refine (Ent.ofOk Try.call78 fun x_ y_ Q H_ => ?_).sym
  obtain ⟨x, y, _⟩ := x_
  obtain ⟨v, _⟩ := y_
  obtain ⟨hn, hq⟩ := H_
  refine (fnT_ok mixed hm Try.func78 rfl (LT := []) (ks := longK) (LOk.nil _)).use (D := [(0, .blk ((vecL .u64 10).wr (longU m a 0 x y v)) 114)]) ?_ hq
  show (fnT _ _ _ _ ((longA 0).wr (x, y, ())) (longH.wr (v, ())) _).sat _
  rw [long_tree0]
  exact ⟨by decide, hn, rfl, rfl⟩
theorem long_ok1 : (longE m a 1).Ok Try.prog 78 := by
  refine (Ent.ofOk Try.call78 fun x_ y_ Q H_ => ?_).sym
  obtain ⟨x, y, _⟩ := x_
  obtain ⟨v, _⟩ := y_
  obtain ⟨hn, hq⟩ := H_
  refine (fnT_ok mixed hm Try.func78 rfl (LT := []) (ks := longK) (LOk.nil _)).use (D := [(0, .blk ((vecL .u64 10).wr (longU m a 1 x y v)) 114)]) ?_ hq
  show (fnT _ _ _ _ ((longA 2).wr (x, y, ())) (longH.wr (v, ())) _).sat _
  rw [long_tree1]
  exact ⟨by decide, hn, rfl, rfl⟩
theorem long_ok2 : (longE m a 2).Ok Try.prog 78 := by
  refine (Ent.ofOk Try.call78 fun x_ y_ Q H_ => ?_).sym
  obtain ⟨x, y, _⟩ := x_
  obtain ⟨v, _⟩ := y_
  obtain ⟨hn, hq⟩ := H_
  refine (fnT_ok mixed hm Try.func78 rfl (LT := []) (ks := longK) (LOk.nil _)).use (D := [(0, .blk ((vecL .u64 10).wr (longU m a 2 x y v)) 114)]) ?_ hq
  show (fnT _ _ _ _ ((longA 4).wr (x, y, ())) (longH.wr (v, ())) _).sat _
  rw [long_tree2]
  exact ⟨by decide, hn, rfl, rfl⟩
theorem long_ok3 : (longE m a 3).Ok Try.prog 78 := by
  refine (Ent.ofOk Try.call78 fun x_ y_ Q H_ => ?_).sym
  obtain ⟨x, y, _⟩ := x_
  obtain ⟨v, _⟩ := y_
  obtain ⟨hn, hq⟩ := H_
  refine (fnT_ok mixed hm Try.func78 rfl (LT := []) (ks := longK) (LOk.nil _)).use (D := [(0, .blk ((vecL .u64 10).wr (longU m a 3 x y v)) 114)]) ?_ hq
  show (fnT _ _ _ _ ((longA 6).wr (x, y, ())) (longH.wr (v, ())) _).sat _
  rw [long_tree3]
  exact ⟨by decide, hn, rfl, rfl⟩
theorem long_ok4 : (longE m a 4).Ok Try.prog 78 := by
  refine (Ent.ofOk Try.call78 fun x_ y_ Q H_ => ?_).sym
  obtain ⟨x, y, _⟩ := x_
  obtain ⟨v, _⟩ := y_
  obtain ⟨hn, hq⟩ := H_
  refine (fnT_ok mixed hm Try.func78 rfl (LT := []) (ks := longK) (LOk.nil _)).use (D := [(0, .blk ((vecL .u64 10).wr (longU m a 4 x y v)) 114)]) ?_ hq
  show (fnT _ _ _ _ ((longA 8).wr (x, y, ())) (longH.wr (v, ())) _).sat _
  rw [long_tree4]
  exact ⟨by decide, hn, rfl, rfl⟩
omit hm
noncomputable def longAll : Ent := (longE m a 0).or ((longE m a 1).or ((longE m a 2).or ((longE m a 3).or (longE m a 4))))
/-- all that is asked, one after the other -/
def needsE (l : List Prop) (e : Ev.End) : Ev.End := l.foldr Ev.End.need e
theorem needsE_sat {R : LV → Hp → Prop} : ∀ {l : List Prop} {e : Ev.End}, (∀ p ∈ l, p) → e.sat R → (needsE l e).sat R
  | [], _, _, h => h
  | p :: l, e, hl, h => ⟨hl p (by simp), needsE_sat (fun q hq => hl q (by simp [hq])) h⟩
theorem fmul_tree (x y : Fe) : fnT Try.prog [(78, longAll m a), (79, fcarryE)] [] Try.f47 (fe2A.wr (x, y, ())) [] kK =
    needsE (mulNeeds m a x y) (Ev.End.leaf (cFe.wr (mulOut m a feCarry x y)) []) := by kernel_rfl
end
theorem mulFn_ok : (mulE' mulFn).Ok Try.prog 83 := mul64_ok
theorem longTab_ok : ∀ p ∈ longTab mulFn add64, p.2.Ok Try.prog p.1 := tabC mulFn_ok (tabC add64_ok tab0)
theorem longAll_ok : (longAll mulFn add64).Ok Try.prog 78 := (long_ok0 mulFn add64 longTab_ok).or ((long_ok1 mulFn add64 longTab_ok).or ((long_ok2 mulFn add64 longTab_ok).or ((long_ok3 mulFn add64 longTab_ok).or (long_ok4 mulFn add64 longTab_ok))))
theorem mulAll_ok (x y : Fe) : ∀ p ∈ mulNeeds mulFn add64 x y, p := mulRun_needs x y mulSteps _ fun k => by
  have : ([(0, 0), (0, 0), (0, 0), (0, 0), (0, 0)] : List (Int × Int)).getD k (0, 0) = (0, 0) := by
    match k with
    | 0 => rfl
    | 1 => rfl
    | 2 => rfl
    | 3 => rfl
    | 4 => rfl
    | k + 5 => rfl
  rw [this]; exact ⟨by decide, by decide⟩
noncomputable def fmulE : Ent := Ent.ofS [] fe2A lNil fun x _ => .leaf none (cFe.wr (mulC x.1 x.2.1)) []
theorem fmul_ok : fmulE.Ok Try.prog 47 := by
  refine (Ent.ofOk Try.call47 fun x_ y_ Q H_ => ?_).sym
  obtain ⟨x, y, _⟩ := x_
  have hq := H_.2
  refine (fnT_ok mixed (tabC longAll_ok (tabC fcarry_ok tab0)) Try.func47 rfl (LT := []) (ks := kK) (LOk.nil _)).use (D := []) ?_ hq
  show (fnT _ _ _ _ (fe2A.wr (x, y, ())) [] _).sat _
  rw [fmul_tree]
  exact needsE_sat (mulAll_ok x y) ⟨rfl, rfl⟩
noncomputable def fsqE : Ent := Ent.ofS [] (feA) (lNil) fun x_ y_ => (fun (x : Fe) => .leaf none (cFe.wr (mulC x x)) []) x_.1
theorem fsq_tree (x : Fe) : fnT Try.prog [(47, fmulE)] [] Try.f76 ((feA).wr (x, ())) ((lNil).wr ()) [.fr [.sym], .auto] = .leaf (cFe.wr (mulC x x)) ([]) := by kernel_rfl
theorem fsq_ok : fsqE.Ok Try.prog 76 := by
  refine (Ent.ofOk Try.call76 fun x_ y_ Q H_ => ?_).sym
  obtain ⟨x, _⟩ := x_
  have hq := H_.2
  refine (fnT_ok mixed ((tabC fmul_ok tab0)) Try.func76 rfl (LT := []) (ks := [.fr [.sym], .auto]) (LOk.nil _)).use (D := []) ?_ hq
  show (fnT _ _ _ _ ((feA).wr (x, ())) ((lNil).wr ()) _).sat _
  rw [fsq_tree]
  exact ⟨rfl, rfl⟩
theorem eqV_dec (u v : B32) : decide (u.toList = v.toList) = eqV u v := by
  cases h : eqV u v with
  | true => rw [(eqV_iff u v).1 h]; simp
  | false => exact decide_eq_false fun e => by rw [(eqV_iff u v).2 (Vec.toList_inj e)] at h; cases h
noncomputable def feqE : Ent := Ent.ofS [] (fe2A) (lNil) fun x_ y_ => (fun (x y : Fe) => .leaf none (nB (eqC x y)) []) x_.1 x_.2.1
theorem feq_tree (x y : Fe) : fnT Try.prog [(74, fbytesE)] [] Try.f46 ((fe2A).wr (x, y, ())) ((lNil).wr ()) [.fr [.sym], .auto] = .leaf (nB (decide ((feBytes x).toList = (feBytes y).toList))) [] := by kernel_rfl
theorem feq_ok : feqE.Ok Try.prog 46 := by
  refine (Ent.ofOk Try.call46 fun x_ y_ Q H_ => ?_).sym
  obtain ⟨x, y, _⟩ := x_
  have hq := H_.2
  refine (fnT_ok mixed ((tabC fbytes_ok tab0)) Try.func46 rfl (LT := []) (ks := [.fr [.sym], .auto]) (LOk.nil _)).use (D := []) ?_ hq
  show (fnT _ _ _ _ ((fe2A).wr (x, y, ())) ((lNil).wr ()) _).sat _
  rw [feq_tree]
  rw [eqV_dec]; exact ⟨rfl, rfl⟩
noncomputable def fzeroE : Ent := Ent.ofS [] (feA) (lNil) fun x_ y_ => (fun (x : Fe) => .leaf none (nB (isZeroC x)) []) x_.1
theorem fzero_tree (x : Fe) : fnT Try.prog [(46, feqE)] [] Try.f42 ((feA).wr (x, ())) ((lNil).wr ()) [.fr [.sym], .auto] = .leaf (nB (isZeroC x)) ([]) := by kernel_rfl
theorem fzero_ok : fzeroE.Ok Try.prog 42 := by
  refine (Ent.ofOk Try.call42 fun x_ y_ Q H_ => ?_).sym
  obtain ⟨x, _⟩ := x_
  have hq := H_.2
  refine (fnT_ok mixed ((tabC feq_ok tab0)) Try.func42 rfl (LT := []) (ks := [.fr [.sym], .auto]) (LOk.nil _)).use (D := []) ?_ hq
  show (fnT _ _ _ _ ((feA).wr (x, ())) ((lNil).wr ()) _).sat _
  rw [fzero_tree]
  exact ⟨rfl, rfl⟩
noncomputable def foddE : Ent := Ent.ofS [] (feA) (lNil) fun x_ y_ => (fun (x : Fe) => .leaf none (nB (oddC x)) []) x_.1
theorem fodd_tree (x : Fe) : fnT Try.prog [(74, fbytesE)] [] Try.f75 ((feA).wr (x, ())) ((lNil).wr ()) [.fr [.sym], .auto] = .leaf (nB (oddC x)) ([]) := by kernel_rfl
theorem fodd_ok : foddE.Ok Try.prog 75 := by
  refine (Ent.ofOk Try.call75 fun x_ y_ Q H_ => ?_).sym
  obtain ⟨x, _⟩ := x_
  have hq := H_.2
  refine (fnT_ok mixed ((tabC fbytes_ok tab0)) Try.func75 rfl (LT := []) (ks := [.fr [.sym], .auto]) (LOk.nil _)).use (D := []) ?_ hq
  show (fnT _ _ _ _ ((feA).wr (x, ())) ((lNil).wr ()) _).sat _
  rw [fodd_tree]
  exact ⟨rfl, rfl⟩
theorem v32_toList {l : List Int} (h : l.length = 32) : (v32 l).toList = l := by
  have e : (v32 l).toList = (List.range 32).map fun i => l.getD i 0 := rfl
  rw [e, map_getD h]
theorem v32_of (u : B32) : v32 u.toList = u := Vec.toList_inj (v32_toList (Vec.toList_length u))
theorem upd_toList {f : Int → Int} : {n : Nat} → (k : Nat) → (v : Vec Int n) → (Vec.upd f k v).toList = v.toList.modify k f
  | 0, k, _ => by simp [Vec.upd, Vec.toList]
  | n + 1, 0, v => by simp [Vec.upd, Vec.toList]
  | n + 1, k + 1, v => by simp [Vec.upd, Vec.toList, upd_toList k v.2]
theorem v32_set {l : List Int} (h : l.length = 32) {k : Nat} (hk : k < 32) (f : Int → Int) : v32 (l.set k (f (l.getD k 0))) = Vec.upd f k (v32 l) := by
  apply Vec.toList_inj
  rw [upd_toList, v32_toList h, v32_toList (by simpa using h), List.getD_eq_getElem?_getD, List.getElem?_eq_getElem (by omega : k < l.length), Option.getD_some]
  apply List.ext_getElem?
  intro i
  simp only [List.getElem?_modify, List.getElem?_set]
  by_cases e : k = i
  · subst e; simp [h, hk]
  · simp [e]
theorem v32_get (l : List Int) : ∀ {k : Nat}, k < 32 → (v32 l).get k = l.getD k 0 := by
  have key : ∀ (n : Nat) (g : Nat → Int) (k : Nat), k < n → (Vec.ofFn n g).get k = g k := by
    intro n
    induction n with
    | zero => intro g k hk; omega
    | succ n ih =>
      intro g k hk
      cases k with
      | zero => rfl
      | succ k => exact ih (fun i => g (i + 1)) k (by omega)
  intro k hk
  exact key 32 (fun i => l.getD i 0) k hk
theorem tmod_nat (k m : Nat) : (k : Int).tmod (m : Int) = ((k % m : Nat) : Int) := by rw [Int.tmod_eq_emod_of_nonneg (by omega), ← Int.natCast_emod]
noncomputable def fcanonE : Ent := Ent.ofS [] (bA32) (lNil) fun x_ y_ => (fun (b : List Int) => .leaf (some (b.length = 32)) (nB (canonicalC (v32 b))) []) x_.1
theorem fcanon_tree (b : List Int) : fnT Try.prog [(74, fbytesE), (39, ffromE)] [] Try.f41 ((bA32).wr (b, ())) ((lNil).wr ()) [.fr [.sym], .auto] = .leaf (nB (decide ((feBytes (feFrom (v32 (b.set 31 (bitAndNot .u8 (b.getD 31 0) 128))))).toList = b.set 31 (bitAndNot .u8 (b.getD 31 0) 128)))) [] := by kernel_rfl
theorem fcanon_ok : fcanonE.Ok Try.prog 41 := by
  refine (Ent.ofOk Try.call41 fun x_ y_ Q H_ => ?_).sym
  obtain ⟨b, _⟩ := x_
  obtain ⟨hn, hq⟩ := H_
  have hn : b.length = 32 := hn
  refine (fnT_ok mixed ((tabC fbytes_ok (tabC ffrom_ok tab0))) Try.func41 rfl (LT := []) (ks := [.fr [.sym], .auto]) (LOk.nil _)).use (D := []) ?_ hq
  show (fnT _ _ _ _ ((bA32).wr (b, ())) ((lNil).wr ()) _).sat _
  rw [fcanon_tree]
  have e := v32_set hn (k := 31) (by omega) (fun x => bitAndNot .u8 x 128)
  rw [show b.set 31 (bitAndNot .u8 (b.getD 31 0) 128) = (v32 (b.set 31 (bitAndNot .u8 (b.getD 31 0) 128))).toList from (v32_toList (by simpa using hn)).symm, eqV_dec, v32_of, e]
  exact ⟨rfl, rfl⟩
noncomputable def pexpE : Ent := Ent.ofS [] ((lCons (vOne (sInt .u8)) (lCons (vOne (sInt .u8)) lNil))) (lNil) fun x_ y_ => (fun (lo hi : Int) => .leaf none (nB32 (feExp lo hi)) []) x_.1 x_.2.1
theorem pexp_tree (lo hi : Int) : fnT Try.prog [] [] Try.f94 (((lCons (vOne (sInt .u8)) (lCons (vOne (sInt .u8)) lNil))).wr (lo, hi, ())) ((lNil).wr ()) kR = .leaf (nB32 (feExp lo hi)) ([]) := by kernel_rfl
theorem pexp_ok : pexpE.Ok Try.prog 94 := by
  refine (Ent.ofOk Try.call94 fun x_ y_ Q H_ => ?_).sym
  obtain ⟨lo, hi, _⟩ := x_
  have hq := H_.2
  refine (fnT_ok mixed tab0 Try.func94 rfl (LT := []) (ks := kR) (LOk.nil _)).use (D := []) ?_ hq
  show (fnT _ _ _ _ (((lCons (vOne (sInt .u8)) (lCons (vOne (sInt .u8)) lNil))).wr (lo, hi, ())) ((lNil).wr ()) _).sat _
  rw [pexp_tree]
  exact ⟨rfl, rfl⟩
noncomputable abbrev poFn : Func := Try.f93
abbrev poC : Cod (List LV) (Int × Unit) := (jk 2 (lSkip (vOne (sPtr 0 0)) (lSkip (vOne (sPtr 1 0)) (lSkip (vOne (sPtr 2 0)) (lSkip (vOne (sPtr 3 0)) (lCons (vOne (sInt .i64)) (jk 20 lNil)))))))
abbrev poCf : Wk := .fr (fmS 27 [(2, .keep), (3, .keep), (4, .keep), (5, .keep), (6, .sym)])
abbrev poX : Cod (List LV) (Unit) := (jk 4 (lSkip (vOne (sPtr 0 0)) (lSkip (vOne (sPtr 1 0)) (jk 21 lNil))))
abbrev iFe : Cod (Option Ev.Item) Fe := iBlk 28 (vecL .u64 5)
abbrev poH : Cod Hp (Fe × List Int × Fe × Fe × Unit) := lCons iFe (lCons (iRow 23 .u8 32) (lCons iFe (lCons iFe lNil)))
abbrev poHX : Cod Hp (Fe × Fe × Unit) := lCons iFe (lCons iFe lNil)
noncomputable abbrev poTab : List (FuncId × Ent) := [(48, fsmallE), (76, fsqE), (47, fmulE)]
theorem poTab_ok : ∀ p ∈ poTab, p.2.Ok Try.prog p.1 := tabC fsmall_ok (tabC fsq_ok (tabC fmul_ok tab0))
abbrev symF (i : Nat) : Wk := .blk i (List.replicate 5 .sym)
def poW : Exit → List Wk
  | .normal => [poCf, symF 2, symF 3, .auto]
  | .exit 0 => [.fr (fmS 27 [(4, .keep), (5, .keep)]), .auto]
  | _ => []
theorem po_rnd (x r o : Fe) (e : List Int) (i : Int) : rndT Try.prog poTab [] poFn 0 [] poW ((stC poC poH).wr ((i, ()), (x, e, r, o, ()))) =
    Res.ite (decide ((0 : Int) ≤ i))
      (Res.need ((0 : Int) ≤ IntKind.i64.wrap (i.tdiv (8 : Int)) ∧ IntKind.i64.wrap (i.tdiv (8 : Int)) < (32 : Int))
        (Res.need ((0 : Int) ≤ i.tmod (8 : Int))
          (Res.ite
            (bitAnd IntKind.u8
                (shr IntKind.u8
                  ((List.take (32 : Nat) (List.drop (0 : Nat) e)).getD (IntKind.i64.wrap (i.tdiv (8 : Int))).toNat
                    (0 : Int))
                  (i.tmod (8 : Int)))
                (1 : Int) ==
              (1 : Int))
            (Res.leaf Exit.normal
              ((stC poC poH).wr ((IntKind.i64.wrap (i - (1 : Int)), PUnit.unit), x, e, r, mulC (mulC o o) x, PUnit.unit)))
            (Res.leaf Exit.normal
              ((stC poC poH).wr ((IntKind.i64.wrap (i - (1 : Int)), PUnit.unit), x, e, r, mulC o o, PUnit.unit))))))
      (Res.leaf (Exit.exit (0 : Nat)) ((stC poX poHX).wr (PUnit.unit, r, o, PUnit.unit))) := by kernel_rfl
theorem pow_bit {e : List Int} (he : e.length = 32) {j : Nat} (hj : j < 256) :
    (bitAnd .u8 (shr .u8 ((List.take 32 (List.drop 0 e)).getD (IntKind.i64.wrap ((j : Int).tdiv 8)).toNat 0) ((j : Int).tmod 8)) 1 == 1) = bitU8 (v32 e) j := by
  have e1 : IntKind.i64.wrap ((j : Int).tdiv 8) = ((j / 8 : Nat) : Int) := tdiv_nat j 8 (by omega)
  have e2 : (j : Int).tmod 8 = ((j % 8 : Nat) : Int) := tmod_nat j 8
  rw [e1, e2, take_all he, Int.toNat_natCast]
  unfold bitU8
  rw [v32_get e (show j / 8 < 32 by omega)]
noncomputable def poF (x : (Int × Unit) × Fe × List Int × Fe × Fe × Unit) : Res :=
  .need (x.1.1 = 255 ∧ x.2.2.1.length = 32) (.leaf (.exit 0) ((stC poX poHX).wr ((), (x.2.2.2.1, rnds (powStep (fun x => mulC x x) mulC x.2.1 (v32 x.2.2.1)) 256 x.2.2.2.2.1, ()))))
theorem po_loop (x) : Ex Try.prog [] (.loop (loopAt poFn 0)) ((stC poC poH).wr x) (poF x) := by
  obtain ⟨⟨i, _⟩, x, e, r, o, _⟩ := x
  refine Ex.need fun ⟨h1, h2⟩ => ?_
  simp only at h1 h2
  subst h1
  have key := loopUp (fn := poFn) (id := 0) (j := 0) (ws := poW) (hp := []) mixed poTab_ok (LOk.nil _) 256 (fun k o => (stC poC poH).wr ((255 - (k : Int), ()), (x, e, r, o, ()))) (fun o => (stC poX poHX).wr ((), (r, o, ()))) (powStep (fun x => mulC x x) mulC x (v32 e)) (fun _ _ => True)
    (fun k o R hk _ hn hx => ?_) (fun _ _ _ _ => trivial) 0 o (by omega) trivial
  · rw [Nat.sub_zero, rnds_upto] at key; exact key
  rw [po_rnd]
  refine ⟨fun hb => ?_, fun hb => ?_⟩
  · have hk' : k < 256 := by have := of_decide_eq_true hb; omega
    have e0 : (255 - (k : Int)) = ((255 - k : Nat) : Int) := by omega
    have hn' := hn hk'
    have e3 : IntKind.i64.wrap ((255 - (k : Int)) - 1) = 255 - ((k + 1 : Nat) : Int) := by rw [wrap_ok (by omega) (by omega)]; omega
    have hw : IntKind.i64.wrap ((255 - (k : Int)).tdiv 8) = (((255 - k) / 8 : Nat) : Int) := by rw [e0]; exact tdiv_nat _ 8 (by omega)
    have ht : (255 - (k : Int)).tmod 8 = (((255 - k) % 8 : Nat) : Int) := by rw [e0]; exact tmod_nat _ 8
    have hbit := pow_bit h2 (j := 255 - k) (by omega)
    rw [← e0] at hbit
    rw [hbit, e3]
    refine ⟨by rw [hw]; omega, by rw [ht]; omega, fun hc => ?_, fun hc => ?_⟩
    · have : powStep (fun x => mulC x x) mulC x (v32 e) k o = mulC (mulC o o) x := by unfold powStep; rw [hc, selN_eq]; rfl
      rw [this] at hn'; exact hn'
    · have : powStep (fun x => mulC x x) mulC x (v32 e) k o = mulC o o := by unfold powStep; rw [hc, selN_eq]; rfl
      rw [this] at hn'; exact hn'
  · have : k = 256 := by have := of_decide_eq_false hb; omega
    exact hx this
noncomputable def pow256 (x : Fe) (e : List Int) (o : Fe) : Fe := rnds (powStep (fun x => mulC x x) mulC x (v32 e)) 256 o
noncomputable def poF' (x : (Int × Unit) × Fe × List Int × Fe × Fe × Unit) : Res :=
  .need (x.1.1 = 255 ∧ x.2.2.1.length = 32) (.leaf (.exit 0) ((stC poX poHX).wr ((), (x.2.2.2.1, pow256 x.2.1 x.2.2.1 x.2.2.2.2.1, ()))))
noncomputable abbrev poLT : LTab := [(0, loopF (stC poC poH) 0 [poCf, .auto, symF 2, symF 3] poF')]
abbrev poA : Cod (List LV) (Fe × List Int × Unit) := lCons cFe (lCons cB lNil)
end Go.Proofs.Ythdfifcgobfgdaa
end

section
set_option linter.unusedVariables false
set_option linter.unusedSimpArgs false
namespace Go.Proofs.Ythdfifcgobfgdaa
open Go Go.Ev BJ
set_option maxRecDepth 1000000
abbrev nPair (r : Fe × Bool) : LV := .tup [.agg ((vecL .u64 5).wr r.1), .sc (.bool (.sym r.2))]
def e1F (g : Fe → Fe) : Ent := Ent.ofS [] feA lNil fun x _ => .leaf none (cFe.wr (g x.1)) []
def e2F (g : Fe → Fe → Fe) : Ent := Ent.ofS [] fe2A lNil fun x _ => .leaf none (cFe.wr (g x.1 x.2.1)) []
def e1B (g : Fe → Bool) : Ent := Ent.ofS [] feA lNil fun x _ => .leaf none (nB (g x.1)) []
def e2B (g : Fe → Fe → Bool) : Ent := Ent.ofS [] fe2A lNil fun x _ => .leaf none (nB (g x.1 x.2.1)) []
def e1P (g : Fe → Fe × Bool) : Ent := Ent.ofS [] feA lNil fun x _ => .leaf none (nPair (g x.1)) []
def e2P (g : Fe → Fe → Fe × Bool) : Ent := Ent.ofS [] fe2A lNil fun x _ => .leaf none (nPair (g x.1 x.2.1)) []
def eSm (g : Int → Fe) : Ent := Ent.ofS [] u64A lNil fun x _ => .leaf none (cFe.wr (g x.1)) []
def ePw (g : Fe → List Int → Fe) : Ent := Ent.ofS [] poA lNil fun x _ => .leaf (some (x.2.1.length = 32)) (cFe.wr (g x.1 x.2.1)) []
def eEx (g : Int → Int → List Int) : Ent := Ent.ofS [] (lCons (vOne (sInt .u8)) (lCons (vOne (sInt .u8)) lNil)) lNil fun x _ => .leaf none (nRow .u8 32 (g x.1 x.2.1)) []
noncomputable def powL (x : Fe) (e : List Int) : Fe := powC x (v32 e)
noncomputable def expL (lo hi : Int) : List Int := (feExp lo hi).toList
theorem powL_exp (x : Fe) (lo hi : Int) : powL x (expL lo hi) = powC x (feExp lo hi) := by unfold powL expL; rw [v32_of]
theorem expL_len (lo hi : Int) : (expL lo hi).length = 32 := Vec.toList_length _
noncomputable abbrev ppowE : Ent := ePw powL
theorem ppow_tree (p : Fe → List Int → Fe → Fe) (sm : Int → Fe) (x : Fe) (e : List Int) : fnT Try.prog [(48, eSm sm), (76, fsqE), (47, fmulE)] [(0, loopF (stC poC poH) 0 [poCf, .auto, symF 2, symF 3] fun x => .need (x.1.1 = 255 ∧ x.2.2.1.length = 32) (.leaf (.exit 0) ((stC poX poHX).wr ((), (x.2.2.2.1, p x.2.1 x.2.2.1 x.2.2.2.2.1, ())))))] Try.f93 (poA.wr (x, e, ())) [] kK =
    .need ((255 : Int) = 255 ∧ e.length = 32) (.leaf (cFe.wr (p x e (sm 1))) []) := by kernel_rfl
theorem ppow_same (x : Fe) (e : List Int) : fnT Try.prog poTab poLT Try.f93 (poA.wr (x, e, ())) [] kK = fnT Try.prog [(48, eSm feSmall), (76, fsqE), (47, fmulE)] [(0, loopF (stC poC poH) 0 [poCf, .auto, symF 2, symF 3] fun x => .need (x.1.1 = 255 ∧ x.2.2.1.length = 32) (.leaf (.exit 0) ((stC poX poHX).wr ((), (x.2.2.2.1, pow256 x.2.1 x.2.2.1 x.2.2.2.2.1, ())))))] Try.f93 (poA.wr (x, e, ())) [] kK := by kernel_rfl
theorem ppow_ok : ppowE.Ok Try.prog 93 := by
  refine (Ent.ofOk Try.call93 fun x_ y_ Q H_ => ?_).sym
  obtain ⟨x, e, _⟩ := x_
  obtain ⟨hn, hq⟩ := H_
  have hn : e.length = 32 := hn
  refine (fnT_ok mixed poTab_ok Try.func93 rfl (LT := poLT) (ks := kK) (LOk.ofTab (LTC rfl (loopF_ok (hp := []) po_loop) LT0))).use (D := []) ?_ hq
  show (fnT _ _ _ _ (poA.wr (x, e, ())) [] _).sat _
  rw [ppow_same x e, ppow_tree pow256 feSmall x e]
  exact ⟨⟨rfl, hn⟩, rfl, rfl⟩
theorem fsmall_as : fsmallE = eSm feSmall := by kernel_rfl
theorem fsmall'_ok : (eSm feSmall).Ok Try.prog 48 := fsmall_as ▸ fsmall_ok
theorem fmul_as : fmulE = e2F mulC := by kernel_rfl
theorem fmul'_ok : (e2F mulC).Ok Try.prog 47 := fmul_as ▸ fmul_ok
theorem fadd_as : faddE = e2F addC := by kernel_rfl
theorem fadd'_ok : (e2F addC).Ok Try.prog 55 := fadd_as ▸ fadd_ok
theorem fsub_as : fsubE = e2F subC := by kernel_rfl
theorem fsub'_ok : (e2F subC).Ok Try.prog 54 := fsub_as ▸ fsub_ok
theorem fsq_as : fsqE = e1F (fun x => mulC x x) := by kernel_rfl
theorem fsq'_ok : (e1F (fun x => mulC x x)).Ok Try.prog 76 := fsq_as ▸ fsq_ok
theorem fneg_as : fnegE = e1F negC := by kernel_rfl
theorem fneg'_ok : (e1F negC).Ok Try.prog 43 := fneg_as ▸ fneg_ok
theorem feq_as : feqE = e2B eqC := by kernel_rfl
theorem feq'_ok : (e2B eqC).Ok Try.prog 46 := feq_as ▸ feq_ok
theorem fodd_as : foddE = e1B oddC := by kernel_rfl
theorem fodd'_ok : (e1B oddC).Ok Try.prog 75 := fodd_as ▸ fodd_ok
theorem fzero_as : fzeroE = e1B isZeroC := by kernel_rfl
theorem fzero'_ok : (e1B isZeroC).Ok Try.prog 42 := fzero_as ▸ fzero_ok
theorem pexp_as : pexpE = eEx expL := by kernel_rfl
theorem pexp'_ok : (eEx expL).Ok Try.prog 94 := pexp_as ▸ pexp_ok
noncomputable abbrev pinvE : Ent := e1F invC
theorem pinv_tree (pow : Fe → List Int → Fe) (exp : Int → Int → List Int) (x : Fe) : fnT Try.prog [(93, ePw pow), (94, eEx exp)] [] Try.f72 ((feA).wr (x, ())) [] kK = .need ((exp 235 127).length = 32) (.leaf (cFe.wr (pow x (exp 235 127))) []) := by kernel_rfl
theorem pinv_tab_ : ∀ p_ ∈ ([(93, ePw powL), (94, eEx expL)] : List (FuncId × Ent)), p_.2.Ok Try.prog p_.1 := (tabC ppow_ok (tabC pexp'_ok tab0))
theorem pinv_ok : pinvE.Ok Try.prog 72 := by
  refine (Ent.ofOk Try.call72 fun x_ y_ Q H_ => ?_).sym
  obtain ⟨x, _⟩ := x_
  have hq := H_.2
  refine (fnT_ok (tab := [(93, ePw powL), (94, eEx expL)]) mixed pinv_tab_ Try.func72 rfl (LT := []) (ks := kK) (LOk.nil _)).use (D := []) ?_ hq
  show (fnT _ _ _ _ ((feA).wr (x, ())) [] _).sat _
  rw [pinv_tree powL expL]
  rw [powL_exp]; exact ⟨expL_len _ _, rfl, rfl⟩
theorem root_eq (pw : Fe → B32 → Fe) (ex : Int → Int → B32) (ml : Fe → Fe → Fe) (sq ng : Fe → Fe) (sm : Int → Fe) (eq : Fe → Fe → Bool) (od : Fe → Bool) (x : Fe) :
    rootFn pw ex ml sq ng sm eq od x = bif eq (sq (pw x (ex 254 15))) x then (bif od (pw x (ex 254 15)) then ng (pw x (ex 254 15)) else pw x (ex 254 15), true)
      else bif eq (sq (ml (pw x (ex 254 15)) (pw (sm 2) (ex 251 31)))) x then (bif od (ml (pw x (ex 254 15)) (pw (sm 2) (ex 251 31))) then ng (ml (pw x (ex 254 15)) (pw (sm 2) (ex 251 31))) else ml (pw x (ex 254 15)) (pw (sm 2) (ex 251 31)), true) else (feZero, false) := by
  have hsel : ∀ (b : Bool) (u v : Fe), selN b u v = bif b then u else v := fun b u v => selN_eq b u v
  unfold rootFn
  simp only [hsel]
  cases h : eq (sq (pw x (ex 254 15))) x
  · simp only [Bool.not_false, cond_true, cond_false]
    cases eq (sq (ml (pw x (ex 254 15)) (pw (sm 2) (ex 251 31)))) x <;> rfl
  · simp only [Bool.not_true, cond_true, cond_false, h]
theorem root_sat {t1 t2 o1 o2 : Bool} {r r2 n1 n2 : Fe} {p1 p2 : Prop} (h1 : p1) (h2 : p2) {q : Fe × Bool} (hq : q = bif t1 then (bif o1 then n1 else r, true) else bif t2 then (bif o2 then n2 else r2, true) else (feZero, false)) :
    (Ev.End.need p1 (.ite (!t1) (.need p2 (.ite (!t2) (.leaf (nPair (feZero, false)) []) (.ite o2 (.leaf (nPair (n2, true)) []) (.leaf (nPair (r2, true)) [])))) (.ite (!t1) (.leaf (nPair (feZero, false)) []) (.ite o1 (.leaf (nPair (n1, true)) []) (.leaf (nPair (r, true)) []))))).sat fun v hp' => v = nPair q ∧ hp' = [] := by
  subst hq
  refine ⟨h1, ?_⟩
  cases t1
  · refine ⟨fun _ => ⟨h2, ?_⟩, fun h => (by cases h)⟩
    cases t2
    · exact ⟨fun _ => ⟨rfl, rfl⟩, fun h => (by cases h)⟩
    · refine ⟨fun h => (by cases h), fun _ => ?_⟩
      cases o2
      · exact ⟨fun h => (by cases h), fun _ => ⟨rfl, rfl⟩⟩
      · exact ⟨fun _ => ⟨rfl, rfl⟩, fun h => (by cases h)⟩
  · refine ⟨fun h => (by cases h), fun _ => ⟨fun h => (by cases h), fun _ => ?_⟩⟩
    cases o1
    · exact ⟨fun h => (by cases h), fun _ => ⟨rfl, rfl⟩⟩
    · exact ⟨fun _ => ⟨rfl, rfl⟩, fun h => (by cases h)⟩
theorem sqrt_eq (x : Fe) : sqrtC x = rootFn powC feExp mulC (fun x => mulC x x) negC feSmall eqC oddC x := rfl
noncomputable abbrev psqrtE : Ent := e1P sqrtC
theorem psqrt_tree (pow : Fe → List Int → Fe) (exp : Int → Int → List Int) (mul : Fe → Fe → Fe) (sq neg : Fe → Fe) (eq : Fe → Fe → Bool) (odd : Fe → Bool) (sm : Int → Fe) (x : Fe) : fnT Try.prog [(93, ePw pow), (94, eEx exp), (47, e2F mul), (76, e1F sq), (43, e1F neg), (46, e2B eq), (75, e1B odd), (48, eSm sm)] [] Try.f96 ((feA).wr (x, ())) [] kK = .need ((exp 254 15).length = 32) (.ite (!(eq (sq (pow x (exp 254 15))) x)) (.need ((exp 251 31).length = 32) (.ite (!(eq (sq (mul (pow x (exp 254 15)) (pow (sm 2) (exp 251 31)))) x)) (.leaf (nPair (feZero, false)) []) (.ite (odd (mul (pow x (exp 254 15)) (pow (sm 2) (exp 251 31)))) (.leaf (nPair (neg (mul (pow x (exp 254 15)) (pow (sm 2) (exp 251 31))), true)) []) (.leaf (nPair (mul (pow x (exp 254 15)) (pow (sm 2) (exp 251 31)), true)) [])))) (.ite (!(eq (sq (pow x (exp 254 15))) x)) (.leaf (nPair (feZero, false)) []) (.ite (odd (pow x (exp 254 15))) (.leaf (nPair (neg (pow x (exp 254 15)), true)) []) (.leaf (nPair (pow x (exp 254 15), true)) [])))) := by kernel_rfl
theorem psqrt_tab_ : ∀ p_ ∈ ([(93, ePw powL), (94, eEx expL), (47, e2F mulC), (76, e1F (fun x => mulC x x)), (43, e1F negC), (46, e2B eqC), (75, e1B oddC), (48, eSm feSmall)] : List (FuncId × Ent)), p_.2.Ok Try.prog p_.1 := (tabC ppow_ok (tabC pexp'_ok (tabC fmul'_ok (tabC fsq'_ok (tabC fneg'_ok (tabC feq'_ok (tabC fodd'_ok (tabC fsmall'_ok tab0))))))))
theorem psqrt_ok : psqrtE.Ok Try.prog 96 := by
  refine (Ent.ofOk Try.call96 fun x_ y_ Q H_ => ?_).sym
  obtain ⟨x, _⟩ := x_
  have hq := H_.2
  refine (fnT_ok (tab := [(93, ePw powL), (94, eEx expL), (47, e2F mulC), (76, e1F (fun x => mulC x x)), (43, e1F negC), (46, e2B eqC), (75, e1B oddC), (48, eSm feSmall)]) mixed psqrt_tab_ Try.func96 rfl (LT := []) (ks := kK) (LOk.nil _)).use (D := []) ?_ hq
  show (fnT _ _ _ _ ((feA).wr (x, ())) [] _).sat _
  rw [psqrt_tree powL expL mulC (fun x => mulC x x) negC eqC oddC feSmall]
  simp only [powL_exp]
  exact root_sat (expL_len _ _) (expL_len _ _) ((sqrt_eq x).trans (root_eq _ _ _ _ _ _ _ _ x))
theorem ratio_eq (u v : Fe) : ratioC u v = (selN (isZeroC v) feZero (sqrtC (mulC u (invC v))).1, bif isZeroC v then isZeroC u else (sqrtC (mulC u (invC v))).2) := by unfold ratioC; rfl
theorem ratio_sat {z zu : Bool} {s r : Fe × Bool} (hr : r = (selN z feZero s.1, bif z then zu else s.2)) : (Ev.End.ite z (.leaf (nPair (feZero, zu)) []) (.leaf (nPair s) [])).sat fun v hp' => v = nPair r ∧ hp' = [] := by
  subst hr
  rw [selN_eq]
  cases z
  · exact ⟨fun h => (by cases h), fun _ => ⟨rfl, rfl⟩⟩
  · exact ⟨fun _ => ⟨rfl, rfl⟩, fun h => (by cases h)⟩
noncomputable abbrev pratioE : Ent := e2P ratioC
theorem pratio_tree (mul : Fe → Fe → Fe) (inv : Fe → Fe) (isz : Fe → Bool) (sqrt : Fe → Fe × Bool) (u v : Fe) : fnT Try.prog [(47, e2F mul), (72, e1F inv), (42, e1B isz), (96, e1P sqrt)] [] Try.f77 ((fe2A).wr (u, v, ())) [] kK = .ite (isz v) (.leaf (nPair (feZero, isz u)) []) (.leaf (nPair (sqrt (mul u (inv v)))) []) := by kernel_rfl
theorem pratio_tab_ : ∀ p_ ∈ ([(47, e2F mulC), (72, e1F invC), (42, e1B isZeroC), (96, e1P sqrtC)] : List (FuncId × Ent)), p_.2.Ok Try.prog p_.1 := (tabC fmul'_ok (tabC pinv_ok (tabC fzero'_ok (tabC psqrt_ok tab0))))
theorem pratio_ok : pratioE.Ok Try.prog 77 := by
  refine (Ent.ofOk Try.call77 fun x_ y_ Q H_ => ?_).sym
  obtain ⟨u, v, _⟩ := x_
  have hq := H_.2
  refine (fnT_ok (tab := [(47, e2F mulC), (72, e1F invC), (42, e1B isZeroC), (96, e1P sqrtC)]) mixed pratio_tab_ Try.func77 rfl (LT := []) (ks := kK) (LOk.nil _)).use (D := []) ?_ hq
  show (fnT _ _ _ _ ((fe2A).wr (u, v, ())) [] _).sat _
  rw [pratio_tree mulC invC isZeroC sqrtC]
  exact ratio_sat (ratio_eq u v)
end Go.Proofs.Ythdfifcgobfgdaa
end
