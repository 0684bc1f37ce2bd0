/- A reader of code, third make: loops that count; more shapes. -/
import Derived.Test.YtdpbkfmjknmmnaaVw
set_option linter.unusedVariables false
set_option linter.unusedSimpArgs false
namespace Go.Ev
open Go

theorem drop_getD {l : List Int} {j : Nat} (h : j < l.length) : l.drop j = l.getD j 0 :: l.drop (j + 1) := by
  rw [List.drop_eq_getElem_cons h, List.getD_eq_getElem?_getD, List.getElem?_eq_getElem h]; rfl
def By (z : Int) : Prop := 0 ≤ z ∧ z < 256
def AllBy (l : List Int) : Prop := ∀ z ∈ l, By z
theorem AllBy.take {l : List Int} (h : AllBy l) (n : Nat) : AllBy (l.take n) := fun z hz => h z (List.mem_of_mem_take hz)
theorem AllBy.drop {l : List Int} (h : AllBy l) (n : Nat) : AllBy (l.drop n) := fun z hz => h z (List.mem_of_mem_drop hz)
theorem AllBy.append {l m : List Int} (h : AllBy l) (h' : AllBy m) : AllBy (l ++ m) := fun z hz => by
  rcases List.mem_append.1 hz with k | k
  · exact h z k
  · exact h' z k
/-- n rounds, from the k-th on -/
def upto {σ : Type} (f : Nat → σ → σ) : Nat → Nat → σ → σ
  | _, 0, s => s
  | k, m + 1, s => upto f (k + 1) m (f k s)
theorem upto_succ {σ : Type} (f : Nat → σ → σ) : ∀ (m k : Nat) (s : σ), upto f k (m + 1) s = f (k + m) (upto f k m s)
  | 0, k, s => rfl
  | m + 1, k, s => by
    show upto f (k + 1) (m + 1) (f k s) = _
    rw [upto_succ f m (k + 1)]
    show f (k + 1 + m) (upto f (k + 1) m (f k s)) = f (k + (m + 1)) (upto f (k + 1) m (f k s))
    rw [show k + 1 + m = k + (m + 1) from by omega]
theorem upto_add {σ : Type} (f : Nat → σ → σ) : ∀ (m k j : Nat) (s : σ), upto f k (m + j) s = upto f (k + m) j (upto f k m s)
  | 0, k, j, s => by simp [upto]
  | m + 1, k, j, s => by
    rw [show m + 1 + j = (m + j) + 1 from by omega]
    show upto f (k + 1) (m + j) (f k s) = _
    rw [upto_add f m (k + 1) j, show k + 1 + m = k + (m + 1) from by omega]
    rfl
theorem upto_inv {σ : Type} {f : Nat → σ → σ} (I : Nat → σ → Prop) {n : Nat} (hI : ∀ k s, k < n → I k s → I (k + 1) (f k s)) : ∀ (m k : Nat) (s : σ), k + m ≤ n → I k s → I (k + m) (upto f k m s)
  | 0, _, _, _, h => h
  | m + 1, k, s, hn, h => by
    have := upto_inv I hI m (k + 1) (f k s) (by omega) (hI k s (by omega) h)
    rw [show k + 1 + m = k + (m + 1) from by omega] at this
    exact this
theorem upto_congr {σ : Type} {f g : Nat → σ → σ} (I : Nat → σ → Prop) {n : Nat} (hI : ∀ k s, k < n → I k s → I (k + 1) (f k s)) (hfg : ∀ k s, k < n → I k s → f k s = g k s) : ∀ (m k : Nat) (s : σ), k + m ≤ n → I k s → upto f k m s = upto g k m s
  | 0, _, _, _, _ => rfl
  | m + 1, k, s, hn, h => by
    show upto f (k + 1) m (f k s) = upto g (k + 1) m (g k s)
    rw [← hfg k s (by omega) h]
    exact upto_congr I hI hfg m (k + 1) (f k s) (by omega) (hI k s (by omega) h)
/-- a row that is filled -/
theorem upto_sets (g : Nat → Int) : ∀ (m k : Nat) (o : List Int), o.length = k + m → upto (fun k o => o.set k (g k)) k m o = o.take k ++ (List.range m).map fun i => g (k + i)
  | 0, k, o, h => by simp [upto, List.take_of_length_le (show o.length ≤ k by omega)]
  | m + 1, k, o, h => by
    show upto (fun k o => o.set k (g k)) (k + 1) m (o.set k (g k)) = _
    rw [upto_sets g m (k + 1) _ (by simp; omega), List.range_succ_eq_map, List.map_cons, List.map_map]
    have e : (o.set k (g k)).take (k + 1) = o.take k ++ [g k] := by
      rw [List.take_add_one, List.take_set_of_le (Nat.le_refl _)]
      simp [show k < o.length by omega]
    rw [e, List.append_assoc]
    congr 1
    simp only [List.singleton_append, Nat.add_zero]
    congr 1
    apply List.map_congr_left
    intro i _
    show g (k + 1 + i) = g (k + (i + 1))
    congr 1; omega
theorem upto_fill (g : Nat → Int) {n : Nat} {o : List Int} (h : o.length = n) : upto (fun k o => o.set k (g k)) 0 n o = (List.range n).map g := by
  rw [upto_sets g n 0 o (by omega)]
  simp
theorem map_getD {l : List Int} {n : Nat} (h : l.length = n) : (List.range n).map (fun i => l.getD i 0) = l := by
  subst h
  apply List.ext_getElem?
  intro i
  simp only [List.getElem?_map]
  rcases Nat.lt_or_ge i l.length with h1 | h1
  · rw [List.getElem?_range h1]
    simp [List.getD_eq_getElem?_getD, List.getElem?_eq_getElem h1]
  · rw [List.getElem?_eq_none h1, List.getElem?_eq_none (by simpa using h1)]
    rfl
theorem upto_pair {σ τ : Type} (f : Nat → σ → σ) (g : Nat → τ → τ) : ∀ (m k : Nat) (s : σ) (t : τ), upto (fun k (p : σ × τ) => (f k p.1, g k p.2)) k m (s, t) = (upto f k m s, upto g k m t)
  | 0, _, _, _ => rfl
  | m + 1, k, s, t => upto_pair f g m (k + 1) (f k s) (g k t)
/-- a loop of n rounds -/
theorem loopUp {P : Program} (hmix : P.follows .mixedOrders = true) {tab : List (FuncId × Ent)} (htab : ∀ p ∈ tab, p.2.Ok P p.1) {LT : LTab} {fn : Func} {id j : Nat} {hp : Hp} {ws : Exit → List Wk} (hL : LOk P hp LT (loopAt fn id))
    {σ : Type} (n : Nat) (S : Nat → σ → St) (X : σ → St) (f : Nat → σ → σ) (I : Nat → σ → Prop)
    (hT : ∀ k s R, k ≤ n → I k s → (k < n → R .normal (S (k + 1) (f k s))) → (k = n → R (.exit j) (X s)) → (rndT P tab LT fn id hp ws (S k s)).sat R)
    (hI : ∀ k s, k < n → I k s → I (k + 1) (f k s)) (k : Nat) (s : σ) (hk : k ≤ n) (h : I k s) : Ex P hp (.loop (loopAt fn id)) (S k s) (.leaf (.exit j) (X (upto f k (n - k) s))) := by
  refine loopR (ws := ws) (T := fun x => rndT P tab LT fn id hp ws (S x.1 x.2)) hmix htab hL (fun x : Nat × σ => n - x.1) (fun x => S x.1 x.2) (fun x => x.1 ≤ n ∧ I x.1 x.2) (fun x => .leaf (.exit j) (X (upto f x.1 (n - x.1) x.2))) (fun x _ => rfl) (fun x R hx hs => ?_) (k, s) ⟨hk, h⟩
  obtain ⟨k, s⟩ := x
  obtain ⟨hk, hi⟩ := hx
  simp only at hk hi hs ⊢
  refine hT k s _ hk hi (fun hlt => .inl ⟨rfl, (k + 1, f k s), rfl, ⟨hlt, hI k s hlt hi⟩, by simp only; omega, ?_⟩) (fun e => .inr ⟨by simp, ?_⟩)
  · have e : n - k = (n - (k + 1)) + 1 := by omega
    rw [e] at hs
    exact hs
  · subst e
    rw [Nat.sub_self] at hs
    exact hs
/-- a row alone -/
abbrev vRow (k : IntKind) (n : Nat) : Cod LV (List Int) := (vAgg (lCons (sArr (.int k) n) lNil)).iso (fun x => x.1) (fun l => (l, ())) (fun _ => rfl)
/-- n numbers of a block, as a row -/
abbrev iRow (e : TypeId) (k : IntKind) (n : Nat) : Cod (Option Item) (List Int) := (iBlk e (lCons (sArr (.int k) n) lNil)).iso (fun x => x.1) (fun l => (l, ())) (fun _ => rfl)
abbrev iCells (e : TypeId) (k : IntKind) (n : Nat) : Cod (Option Item) (List Int) := iBlk e (rInts k n)
end Go.Ev
