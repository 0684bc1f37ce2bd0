/- Prime numbers by Lucas' test, and Fermat's theorem for a number that has a primitive root. Plain numbers, no program. -/
namespace BJ

/-- a number that has no divisors but 1 and itself -/
def IsPrime (n : Nat) : Prop := 2 ≤ n ∧ ∀ m, m ∣ n → m = 1 ∨ m = n

theorem exists_prime_dvd : ∀ n : Nat, 2 ≤ n → ∃ q, IsPrime q ∧ q ∣ n := by
  intro n
  induction n using Nat.strongRecOn with
  | _ n ih =>
    intro h
    by_cases hp : ∀ m, m ∣ n → m = 1 ∨ m = n
    · exact ⟨n, ⟨h, hp⟩, Nat.dvd_refl n⟩
    · have ⟨m, hm⟩ := Classical.not_forall.1 hp
      have ⟨hd, hn⟩ := Classical.not_imp.1 hm
      have h1 : m ≠ 1 := fun e => hn (.inl e)
      have h2 : m ≠ n := fun e => hn (.inr e)
      have hle : m ≤ n := Nat.le_of_dvd (by omega) hd
      have h0 : m ≠ 0 := by
        rintro rfl
        have := Nat.eq_zero_of_zero_dvd hd
        omega
      obtain ⟨q, hq, hqm⟩ := ih m (by omega) (by omega)
      exact ⟨q, hq, Nat.dvd_trans hqm hd⟩

theorem IsPrime.coprime {q a : Nat} (hq : IsPrime q) (h : ¬ q ∣ a) : Nat.Coprime q a := by
  rcases hq.2 (Nat.gcd q a) (Nat.gcd_dvd_left q a) with h1 | h1
  · exact h1
  · exact absurd (h1 ▸ Nat.gcd_dvd_right q a) h

theorem IsPrime.dvd_mul {q a b : Nat} (hq : IsPrime q) (h : q ∣ a * b) : q ∣ a ∨ q ∣ b := by
  by_cases ha : q ∣ a
  · exact .inl ha
  · exact .inr ((hq.coprime ha).dvd_of_dvd_mul_left h)

theorem IsPrime.dvd_prod {q : Nat} (hq : IsPrime q) : ∀ l : List Nat, (∀ x ∈ l, IsPrime x) → q ∣ l.foldr (· * ·) 1 → q ∈ l
  | [], _, h => by
    have : q = 1 := Nat.eq_one_of_dvd_one h
    have := hq.1
    omega
  | x :: l, hl, h => by
    rcases hq.dvd_mul h with h | h
    · rcases (hl x (by simp)).2 q h with h1 | h1
      · have := hq.1; omega
      · simp [h1]
    · exact List.mem_cons_of_mem _ (hq.dvd_prod l (fun y hy => hl y (by simp [hy])) h)

/-- powers modulo n, by halving the exponent -/
def pm (n : Nat) : Nat → Nat → Nat → Nat
  | 0, _, _ => 1 % n
  | f + 1, a, e => if e % 2 = 1 then a * pm n f (a * a % n) (e / 2) % n else pm n f (a * a % n) (e / 2)

theorem pm_eq (n : Nat) : ∀ f a e, e < 2 ^ f → pm n f a e = a ^ e % n := by
  intro f
  induction f with
  | zero => intro a e h; have : e = 0 := by simpa using h
            subst this; simp [pm]
  | succ f ih =>
    intro a e h
    have h2 : e / 2 < 2 ^ f := by rw [Nat.pow_succ] at h; omega
    have hk : (a * a % n) ^ (e / 2) % n = a ^ (2 * (e / 2)) % n := by
      rw [← Nat.pow_mod, Nat.pow_mul, Nat.pow_two]
    simp only [pm, ih _ _ h2, hk]
    split
    · rename_i ho
      rw [Nat.mul_mod, Nat.mod_mod, ← Nat.mul_mod, Nat.mul_comm, ← Nat.pow_succ]
      congr 2; omega
    · rename_i ho
      congr 2; omega

theorem pow_one_mod {n a k : Nat} (hn : 2 ≤ n) (h : a ^ k % n = 1) (j : Nat) : a ^ (k * j) % n = 1 := by
  rw [Nat.pow_mul, Nat.pow_mod, h, Nat.one_pow, Nat.mod_eq_of_lt hn]

/-- the least exponent that gives 1 -/
theorem exists_order {n a m : Nat} (hm : 0 < m) (h : a ^ m % n = 1) :
    ∃ k, 0 < k ∧ a ^ k % n = 1 ∧ ∀ j, 0 < j → j < k → a ^ j % n ≠ 1 := by
  induction m using Nat.strongRecOn with
  | _ m ih =>
    by_cases hs : ∃ j, 0 < j ∧ j < m ∧ a ^ j % n = 1
    · obtain ⟨j, h0, h1, h2⟩ := hs
      exact ih j h1 h0 h2
    · exact ⟨m, hm, h, fun j h0 h1 h2 => hs ⟨j, h0, h1, h2⟩⟩

theorem order_dvd {n a k m : Nat} (hn : 2 ≤ n) (hk : 0 < k) (h1 : a ^ k % n = 1) (hmin : ∀ j, 0 < j → j < k → a ^ j % n ≠ 1)
    (hm : a ^ m % n = 1) : k ∣ m := by
  have e : a ^ m = a ^ (k * (m / k)) * a ^ (m % k) := by
    rw [← Nat.pow_add, Nat.div_add_mod]
  rw [e, Nat.mul_mod, pow_one_mod hn h1, Nat.one_mul, Nat.mod_mod] at hm
  by_cases hr : m % k = 0
  · exact Nat.dvd_of_mod_eq_zero hr
  · exact absurd hm (hmin _ (by omega) (Nat.mod_lt _ hk))

/-- all of 1 .. n-1 lie in a list of n-1 different numbers of 1 .. n-1 -/
theorem mem_of_nodup : ∀ (m : Nat) (l : List Nat), l.Nodup → (∀ x ∈ l, 1 ≤ x ∧ x ≤ m) → m ≤ l.length → ∀ x, 1 ≤ x → x ≤ m → x ∈ l
  | 0, _, _, _, _, x, h1, h2 => by omega
  | m + 1, l, hd, hl, hlen, x, h1, h2 => by
    have hmem : m + 1 ∈ l := by
      refine Classical.byContradiction fun hno => ?_
      have hl' : ∀ y ∈ l, 1 ≤ y ∧ y ≤ m := fun y hy => by
        have := hl y hy
        have : y ≠ m + 1 := fun e => hno (e ▸ hy)
        omega
      -- too many numbers for m places
      have := length_le m l hd hl'
      omega
    have hd' : (l.erase (m + 1)).Nodup := hd.erase _
    have hlen' : (l.erase (m + 1)).length = l.length - 1 := List.length_erase_of_mem hmem
    have hl' : ∀ y ∈ l.erase (m + 1), 1 ≤ y ∧ y ≤ m := fun y hy => by
      have hy' := (List.Nodup.mem_erase_iff hd).1 hy
      have := hl y hy'.2
      have := hy'.1
      omega
    by_cases hx : x = m + 1
    · exact hx ▸ hmem
    · exact List.mem_of_mem_erase (mem_of_nodup m (l.erase (m + 1)) hd' hl' (by omega) x h1 (by omega))
where
  length_le : ∀ (m : Nat) (l : List Nat), l.Nodup → (∀ x ∈ l, 1 ≤ x ∧ x ≤ m) → l.length ≤ m
    | 0, l, _, hl => by
      cases l with
      | nil => simp
      | cons a l => have := hl a (by simp); omega
    | m + 1, l, hd, hl => by
      have hd' : (l.erase (m + 1)).Nodup := hd.erase _
      have hl' : ∀ y ∈ l.erase (m + 1), 1 ≤ y ∧ y ≤ m := fun y hy => by
        have hy' := (List.Nodup.mem_erase_iff hd).1 hy
        have := hl y hy'.2
        have := hy'.1
        omega
      have := length_le m _ hd' hl'
      have h3 := @List.length_erase Nat _ _ (m + 1) l
      split at h3 <;> omega

/-- what Lucas' test gives: every number that n does not divide is a power of a, modulo n -/
def Root (n a : Nat) : Prop := 2 ≤ n ∧ a ^ (n - 1) % n = 1 ∧ ∀ x, x % n ≠ 0 → ∃ i, a ^ i % n = x % n

theorem lucas {n a : Nat} {l : List Nat} (hn : 2 ≤ n) (hl : ∀ q ∈ l, IsPrime q) (hp : l.foldr (· * ·) 1 = n - 1)
    (h1 : a ^ (n - 1) % n = 1) (hq : ∀ q ∈ l, a ^ ((n - 1) / q) % n ≠ 1) : Root n a := by
  refine ⟨hn, h1, ?_⟩
  by_cases hn2 : n = 2
  · subst hn2
    intro x hx
    exact ⟨0, by simp; omega⟩
  obtain ⟨k, hk, hk1, hmin⟩ := exists_order (m := n - 1) (by omega) h1
  have hdvd := order_dvd hn hk hk1 hmin h1
  have hkn : k = n - 1 := by
    refine Classical.byContradiction fun hne => ?_
    obtain ⟨c, hc⟩ := hdvd
    have hc2 : 2 ≤ c := by
      rcases Nat.lt_or_ge c 2 with h | h
      · have : c = 0 ∨ c = 1 := by omega
        rcases this with rfl | rfl
        · simp at hc; omega
        · simp at hc; omega
      · exact h
    obtain ⟨q, hqp, c', rfl⟩ := exists_prime_dvd c hc2
    have hmem : q ∈ l := hqp.dvd_prod l hl (by rw [hp, hc]; exact ⟨k * c', by rw [Nat.mul_left_comm]⟩)
    refine hq q hmem ?_
    have : (n - 1) / q = k * c' := by
      rw [hc, Nat.mul_left_comm]
      exact Nat.mul_div_cancel_left _ (by have := hqp.1; omega)
    rw [this]
    exact pow_one_mod hn hk1 c'
  subst hkn
  -- a and n have no common divisor: a power of a times a is 1
  have hinv : ∀ i, a ^ i % n ≠ 0 := by
    intro i h0
    have : a ^ ((n - 1) * (i + 1)) % n = 1 := pow_one_mod hn h1 _
    have e : (n - 1) * (i + 1) = i + ((n - 1) * (i + 1) - i) := by
      have : i ≤ (n - 1) * (i + 1) := Nat.le_trans (by omega) (Nat.le_mul_of_pos_left (i + 1) (by omega))
      omega
    rw [e, Nat.pow_add, Nat.mul_mod, h0, Nat.zero_mul, Nat.zero_mod] at this
    omega
  -- powers with exponents below n - 1 are different
  have hinj : ∀ i j, i < j → j < n - 1 → a ^ i % n ≠ a ^ j % n := by
    intro i j hij hj he
    have e1 : a ^ (j + (n - 1 - i)) % n = 1 := by
      rw [Nat.pow_add, Nat.mul_mod, ← he, ← Nat.mul_mod, ← Nat.pow_add]
      have : i + (n - 1 - i) = n - 1 := by omega
      rw [this]; exact h1
    have e2 : j + (n - 1 - i) = (n - 1) + (j - i) := by omega
    rw [e2, Nat.pow_add, Nat.mul_mod, h1, Nat.one_mul, Nat.mod_mod] at e1
    exact hmin (j - i) (by omega) (by omega) e1
  intro x hx
  have hnd : ((List.range (n - 1)).map fun i => a ^ i % n).Nodup := by
    rw [List.nodup_iff_pairwise_ne, List.pairwise_map]
    refine List.Pairwise.imp_of_mem ?_ (List.pairwise_lt_range (n := n - 1))
    intro i j hi hj hij
    exact hinj i j hij (by simpa using hj)
  have := mem_of_nodup (n - 1) _ hnd (fun y hy => by
    obtain ⟨i, _, rfl⟩ := List.mem_map.1 hy
    have := hinv i
    have := Nat.mod_lt (a ^ i) (show 0 < n by omega)
    omega) (by simp) (x % n) (by omega) (by have := Nat.mod_lt x (show 0 < n by omega); omega)
  obtain ⟨i, _, hi⟩ := List.mem_map.1 this
  exact ⟨i, hi⟩

theorem Root.fermat {n a : Nat} (h : Root n a) {x : Nat} (hx : x % n ≠ 0) : x ^ (n - 1) % n = 1 := by
  obtain ⟨hn, h1, hs⟩ := h
  obtain ⟨i, hi⟩ := hs x hx
  rw [Nat.pow_mod, ← hi, ← Nat.pow_mod, ← Nat.pow_mul, Nat.mul_comm]
  exact pow_one_mod hn h1 i

theorem Root.prime {n a : Nat} (h : Root n a) : IsPrime n := by
  refine ⟨h.1, fun m hm => ?_⟩
  refine Classical.byContradiction fun hne => ?_
  have hn := h.1
  have hle : m ≤ n := Nat.le_of_dvd (by omega) hm
  have h1 : m ≠ 1 := fun e => hne (.inl e)
  have h2 : m ≠ n := fun e => hne (.inr e)
  have h0 : m ≠ 0 := by
    rintro rfl
    have := Nat.eq_zero_of_zero_dvd hm
    omega
  have hf := h.fermat (x := m) (by rw [Nat.mod_eq_of_lt (by omega)]; exact h0)
  have hd : m ∣ m ^ (n - 1) := by
    rw [show n - 1 = (n - 2) + 1 from by omega, Nat.pow_succ]
    exact Nat.dvd_mul_left m _
  have : m ∣ m ^ (n - 1) % n := (Nat.dvd_mod_iff hm).2 hd
  rw [hf] at this
  exact h1 (Nat.eq_one_of_dvd_one this)

/-- Lucas' test, to be reckoned: the factors of n - 1 are known to be prime -/
def check (n a f : Nat) (l : List Nat) : Bool :=
  decide (2 ≤ n) && decide (n - 1 < 2 ^ f) && l.foldr (· * ·) 1 == n - 1 && pm n f a (n - 1) == 1 && l.all fun q => pm n f a ((n - 1) / q) != 1

theorem root_of_check {n a f : Nat} {l : List Nat} (hl : ∀ q ∈ l, IsPrime q) (h : check n a f l = true) : Root n a := by
  simp only [check, Bool.and_eq_true, decide_eq_true_eq, beq_iff_eq, List.all_eq_true, bne_iff_ne] at h
  obtain ⟨⟨⟨⟨hn, hf⟩, hp⟩, h1⟩, hq⟩ := h
  refine lucas hn hl hp ?_ ?_
  · rw [← pm_eq n f a _ hf]; exact h1
  · intro q hm
    rw [← pm_eq n f a _ (Nat.lt_of_le_of_lt (Nat.div_le_self _ _) hf)]
    exact hq q hm

/-- small primes by trying all divisors -/
def noDiv (n : Nat) : Nat → Nat → Bool
  | 0, _ => true
  | k + 1, d => if d * d > n then true else n % d != 0 && noDiv n k (d + 1)

theorem noDiv_spec (n : Nat) : ∀ k d, noDiv n k d = true → (d + k) * (d + k) > n → ∀ m, d ≤ m → m * m ≤ n → ¬ m ∣ n := by
  intro k
  induction k with
  | zero => intro d _ hgt m h1 h2; exfalso; have := Nat.mul_le_mul h1 h1; simp at hgt; omega
  | succ k ih =>
    intro d h hgt m h1 h2 hd
    unfold noDiv at h
    split at h
    · have := Nat.mul_le_mul h1 h1; omega
    · simp only [Bool.and_eq_true, bne_iff_ne] at h
      by_cases he : m = d
      · subst he; exact h.1 (Nat.mod_eq_zero_of_dvd hd)
      · exact ih (d + 1) h.2 (by rw [show d + 1 + k = d + (k + 1) by omega]; exact hgt) m (by omega) h2 hd

theorem prime_small {n : Nat} (k : Nat) (hn : 2 ≤ n) (hk : (2 + k) * (2 + k) > n) (h : noDiv n k 2 = true) : IsPrime n := by
  have hs := noDiv_spec n k 2 h hk
  refine ⟨hn, fun m hm => ?_⟩
  refine Classical.byContradiction fun hne => ?_
  have h1 : m ≠ 1 := fun e => hne (.inl e)
  have h2 : m ≠ n := fun e => hne (.inr e)
  obtain ⟨c, hc⟩ := hm
  have h0 : m ≠ 0 := by rintro rfl; simp at hc; omega
  have hc0 : c ≠ 0 := by rintro rfl; simp at hc; omega
  have hc1 : c ≠ 1 := by rintro rfl; simp at hc; omega
  by_cases hmc : m ≤ c
  · exact hs m (by omega) (by rw [hc]; exact Nat.mul_le_mul_left m hmc) ⟨c, hc⟩
  · exact hs c (by omega) (by rw [hc]; exact Nat.mul_le_mul_right c (by omega)) ⟨m, by rw [hc, Nat.mul_comm]⟩

end BJ
