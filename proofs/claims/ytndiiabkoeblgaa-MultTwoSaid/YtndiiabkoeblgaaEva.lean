/- A second reader of the walked code: it goes through code without loops over unknown counts, keeps what is known of the frame and of the blocks, and is proved to say what the machine does. -/
import Derived.Tactics
import Derived.Laws.World
import Derived.Laws.Rows
import Derived.Laws.Cells
namespace Go.Ev
open Go

/-! ### What is known of a value -/
inductive SI where
  | lit (n : Int)
  | sym (n : Int)
def SI.val : SI → Int
  | .lit n => n
  | .sym n => n
inductive SB where
  | lit (b : Bool)
  | sym (b : Bool)
def SB.val : SB → Bool
  | .lit b => b
  | .sym b => b

/-- what is known of the value of one cell; a block is told by its place in the state's list -/
inductive SV where
  | int (k : IntKind) (n : SI)
  | bool (b : SB)
  | ptr (b off : Nat)
  /-- to one of n parts of a block, each of so many cells -/
  | ptrx (b base stride n : Nat) (z : Int)
  | slice (b off len cap : Nat)
  | con (v : Value)
  | junk
inductive VV where
  | sc (s : SV)
  | agg (l : List SV)
inductive LV where
  | one (x : VV)
  | tup (l : List VV)
  | junk

inductive All2 {α β : Type} (R : α → β → Prop) : List α → List β → Prop where
  | nil : All2 R [] []
  | cons {a b l m} (h : R a b) (t : All2 R l m) : All2 R (a :: l) (b :: m)

section
variable {α β : Type} {R S : α → β → Prop}
theorem All2.length {l : List α} {m : List β} (h : All2 R l m) : l.length = m.length := by
  induction h with
  | nil => rfl
  | cons _ _ ih => simp [ih]
theorem All2.imp {l : List α} {m : List β} (h : All2 R l m) (f : ∀ a b, R a b → S a b) : All2 S l m := by
  induction h with
  | nil => exact .nil
  | cons h _ ih => exact .cons (f _ _ h) ih
theorem All2.get {l : List α} {m : List β} (h : All2 R l m) : ∀ {i : Nat} {a : α}, l[i]? = some a → ∃ b, m[i]? = some b ∧ R a b := by
  induction h with
  | nil => intro i a h; simp at h
  | cons h _ ih =>
    intro i a hi
    cases i with
    | zero => simp at hi; subst hi; exact ⟨_, by simp, h⟩
    | succ i => simp at hi; obtain ⟨b, hb, hr⟩ := ih hi; exact ⟨b, by simpa using hb, hr⟩
theorem All2.set {l : List α} {m : List β} (h : All2 R l m) : ∀ (i : Nat) {a : α} {b : β}, R a b → All2 R (l.set i a) (m.set i b) := by
  induction h with
  | nil => intro i a b _; exact .nil
  | cons h t ih =>
    intro i a b hr
    cases i with
    | zero => exact .cons hr t
    | succ i => exact .cons h (ih i hr)
theorem All2.append {l l' : List α} {m m' : List β} (h : All2 R l m) (h' : All2 R l' m') : All2 R (l ++ l') (m ++ m') := by
  induction h with
  | nil => exact h'
  | cons h _ ih => exact .cons h ih
theorem All2.take {l : List α} {m : List β} (h : All2 R l m) : ∀ n, All2 R (l.take n) (m.take n) := by
  induction h with
  | nil => intro n; simp; exact .nil
  | cons h _ ih => intro n; cases n with
    | zero => simp; exact .nil
    | succ n => simp; exact .cons h (ih n)
theorem All2.drop {l : List α} {m : List β} (h : All2 R l m) : ∀ n, All2 R (l.drop n) (m.drop n) := by
  induction h with
  | nil => intro n; simp; exact .nil
  | cons h t ih => intro n; cases n with
    | zero => simp; exact .cons h t
    | succ n => simp; exact ih n
theorem All2.of_map {γ : Type} (f : γ → α) (g : γ → β) (l : List γ) (h : ∀ x ∈ l, R (f x) (g x)) : All2 R (l.map f) (l.map g) := by
  induction l with
  | nil => exact .nil
  | cons x l ih => exact .cons (h x (by simp)) (ih fun y hy => h y (by simp [hy]))
end

/-- a block's cells from its first one on; more: there may be others behind them -/
structure Blk where
  cells : List SV
  elem : TypeId
  more : Bool
/-- the blocks; none: a place that no block has -/
abbrev Hp := List (Option Blk)
def Live (hp : Hp) (i : Nat) : Prop := ∃ blk, hp[i]? = some (some blk)

/-- which value a description stands for; L: which blocks there are -/
def SV.den (β : Nat → Nat) (L : Nat → Prop) : SV → Value → Prop
  | .int k i, v => v = .int k i.val
  | .bool b, v => v = .bool b.val
  | .ptr b o, v => L b ∧ v = .pointer (some ⟨β b, o, none⟩)
  | .ptrx b base stride n z, v => L b ∧ z.toNat < n ∧ v = .pointer (some ⟨β b, base + z.toNat * stride, none⟩)
  | .slice b o l c, v => L b ∧ v = .slice (some ⟨β b, o, none⟩) l c
  | .con c, v => c.oneCell' = true ∧ v = c
  | .junk, v => v.oneCell' = true

def VV.den (β : Nat → Nat) (L : Nat → Prop) : VV → Value → Prop
  | .sc s, v => s.den β L v
  | .agg l, v => ∃ cs : List Value, v = .agg cs.toArray ∧ All2 (SV.den β L) l cs
def LV.den (β : Nat → Nat) (L : Nat → Prop) : LV → Value → Prop
  | .one x, v => x.den β L v
  | .tup l, v => ∃ vs : List Value, v = .tuple vs.toArray ∧ All2 (VV.den β L) l vs
  | .junk, _ => True

/-- the blocks of L are among those of L', and lie where they lay -/
def Agree (β β' : Nat → Nat) (L L' : Nat → Prop) : Prop := ∀ i, L i → L' i ∧ β' i = β i
theorem Agree.refl (β : Nat → Nat) (L : Nat → Prop) : Agree β β L L := fun _ h => ⟨h, rfl⟩
theorem Agree.trans {β β' β'' : Nat → Nat} {L L' L'' : Nat → Prop} (h : Agree β β' L L') (h' : Agree β' β'' L' L'') : Agree β β'' L L'' :=
  fun i hi => ⟨(h' i (h i hi).1).1, (h' i (h i hi).1).2.trans (h i hi).2⟩

theorem SV.den_oneCell {β : Nat → Nat} {L : Nat → Prop} {s : SV} {v : Value} (h : s.den β L v) : v.oneCell' = true := by
  cases s <;> simp only [SV.den] at h
  · subst h; rfl
  · subst h; rfl
  · obtain ⟨_, rfl⟩ := h; rfl
  · obtain ⟨_, _, rfl⟩ := h; rfl
  · obtain ⟨_, rfl⟩ := h; rfl
  · obtain ⟨h, rfl⟩ := h; exact h
  · exact h

theorem SV.den_mono {β β' : Nat → Nat} {L L' : Nat → Prop} (ha : Agree β β' L L') {s : SV} {v : Value} (h : s.den β L v) : s.den β' L' v := by
  cases s <;> simp only [SV.den] at h ⊢
  · exact h
  · exact h
  · obtain ⟨h1, rfl⟩ := h; exact ⟨(ha _ h1).1, by rw [(ha _ h1).2]⟩
  · obtain ⟨h1, h2, rfl⟩ := h; exact ⟨(ha _ h1).1, h2, by rw [(ha _ h1).2]⟩
  · obtain ⟨h1, rfl⟩ := h; exact ⟨(ha _ h1).1, by rw [(ha _ h1).2]⟩
  · exact h
  · exact h

theorem VV.den_mono {β β' : Nat → Nat} {L L' : Nat → Prop} (ha : Agree β β' L L') {s : VV} {v : Value} (h : s.den β L v) : s.den β' L' v := by
  cases s with
  | sc s => exact SV.den_mono ha h
  | agg l =>
    obtain ⟨cs, rfl, h⟩ := h
    exact ⟨cs, rfl, h.imp fun _ _ => SV.den_mono ha⟩

theorem LV.den_mono {β β' : Nat → Nat} {L L' : Nat → Prop} (ha : Agree β β' L L') {s : LV} {v : Value} (h : s.den β L v) : s.den β' L' v := by
  cases s with
  | one x => exact VV.den_mono ha h
  | tup l =>
    obtain ⟨cs, rfl, h⟩ := h
    exact ⟨cs, rfl, h.imp fun _ _ => VV.den_mono ha⟩
  | junk => trivial

/-- a closed value's description -/
def SV.ofVal : Value → Option SV
  | .int k n => some (.int k (.lit n))
  | .bool b => some (.bool (.lit b))
  | .agg _ | .tuple _ => none
  | x => some (.con x)
def optAll {α β : Type} (f : α → Option β) : List α → Option (List β)
  | [] => some []
  | x :: l => match f x, optAll f l with
    | some y, some m => some (y :: m)
    | _, _ => none
def LV.ofVal : Value → LV
  | .agg cs => match optAll SV.ofVal cs.toList with
    | some l => .one (.agg l)
    | none => .junk
  | .tuple cs => if cs.isEmpty then .tup [] else .junk
  | x => match SV.ofVal x with
    | some s => .one (.sc s)
    | none => .junk

theorem SV.ofVal_den {β : Nat → Nat} {L : Nat → Prop} {v : Value} {s : SV} (h : SV.ofVal v = some s) : s.den β L v := by
  cases v <;> simp [SV.ofVal] at h <;> subst h <;> simp [SV.den, SI.val, SB.val, Value.oneCell']

theorem optAll_all2 {α β : Type} {f : α → Option β} {R : β → α → Prop} (hf : ∀ x y, f x = some y → R y x) : ∀ {l : List α} {m : List β}, optAll f l = some m → All2 R m l
  | [], m, h => by simp [optAll] at h; subst h; exact .nil
  | x :: l, m, h => by
    simp only [optAll] at h
    split at h
    · rename_i y m' h1 h2
      simp at h; subst h
      exact .cons (hf _ _ h1) (optAll_all2 hf h2)
    · simp at h

theorem LV.ofVal_den {β : Nat → Nat} {L : Nat → Prop} (v : Value) : (LV.ofVal v).den β L v := by
  cases v with
  | agg cs =>
    simp only [LV.ofVal]
    split
    · rename_i l h
      exact ⟨cs.toList, by simp, optAll_all2 (fun _ _ => SV.ofVal_den) h⟩
    · trivial
  | tuple cs =>
    simp only [LV.ofVal]
    split
    · rename_i h
      have : cs = #[] := by simpa using h
      subst this
      exact ⟨[], rfl, .nil⟩
    · trivial
  | _ => simp [LV.ofVal, SV.ofVal, LV.den, VV.den, SV.den, SI.val, SB.val, Value.oneCell']

/-! ### The state -/
structure St where
  fr : List LV
  hp : Hp

/-- what a block's row is known to be -/
def RowOk (β : Nat → Nat) (L : Nat → Prop) (blk : Blk) (o : Option Obj) : Prop :=
  ∃ (c rest : List Value) (fz : Nat × Nat), o = some (.cells (c ++ rest).toArray blk.elem fz) ∧ (blk.more = false → rest = []) ∧
    (∀ off, off < c.length → ¬ (fz.1 ≤ off ∧ off < fz.2)) ∧ All2 (SV.den β L) blk.cells c

/-- what is known of the blocks; W: the world as the function began; the blocks of m may be older than it -/
structure HRel (W : World) (m : Nat → Prop) (β₀ β : Nat → Nat) (hp : Hp) (w : World) : Prop where
  rows : ∀ i blk, hp[i]? = some (some blk) → RowOk β (Live hp) blk w.heap[β i]?
  inj : ∀ i j, Live hp i → Live hp j → β i = β j → i = j
  first : ∀ i, m i → β i = β₀ i ∧ Live hp i
  new : ∀ i, ¬ m i → Live hp i → W.heap.size ≤ β i
  os : w.os = W.os
  output : w.output = W.output
  size : W.heap.size ≤ w.heap.size
  keep : ∀ b, b < W.heap.size → (∀ i, m i → β₀ i ≠ b) → w.heap[b]? = W.heap[b]?

structure Rel (W : World) (m : Nat → Prop) (β₀ β : Nat → Nat) (st : St) (a : Act) (w : World) : Prop where
  defers : a.defers = []
  fr : All2 (LV.den β (Live st.hp)) st.fr a.tmps.toList
  heap : HRel W m β₀ β st.hp w

/-! ### Blocks: laws -/
/-- a block at a place that has none -/
def setAt : Hp → Nat → Blk → Hp
  | [], 0, b => [some b]
  | [], n + 1, b => none :: setAt [] n b
  | _ :: l, 0, b => some b :: l
  | x :: l, n + 1, b => x :: setAt l n b

theorem setAt_same : ∀ (hp : Hp) (i : Nat) (b : Blk), (setAt hp i b)[i]? = some (some b)
  | [], 0, _ => rfl
  | [], n + 1, b => by simp [setAt, setAt_same [] n b]
  | _ :: _, 0, _ => rfl
  | _ :: l, n + 1, b => by simp [setAt, setAt_same l n b]
theorem setAt_nil : ∀ (i : Nat) (b : Blk) (j : Nat) (x : Blk), j ≠ i → (setAt [] i b)[j]? ≠ some (some x)
  | 0, b, 0, _, h => absurd rfl h
  | 0, b, j + 1, _, _ => by simp [setAt]
  | n + 1, b, 0, _, _ => by simp [setAt]
  | n + 1, b, j + 1, x, h => by
    have := setAt_nil n b j x (by omega)
    simpa [setAt] using this
theorem setAt_other : ∀ (hp : Hp) (i : Nat) (b : Blk) (j : Nat) (x : Blk), j ≠ i → ((setAt hp i b)[j]? = some (some x) ↔ hp[j]? = some (some x))
  | [], i, b, j, x, h => ⟨fun hh => absurd hh (setAt_nil i b j x h), fun hh => by simp at hh⟩
  | _ :: _, 0, _, 0, _, h => absurd rfl h
  | _ :: _, 0, _, j + 1, _, _ => by simp [setAt]
  | _ :: _, n + 1, _, 0, _, _ => by simp [setAt]
  | _ :: l, n + 1, b, j + 1, x, h => by
    have := setAt_other l n b j x (by omega)
    simpa [setAt] using this
theorem setAt_length : ∀ (hp : Hp) (b : Blk), setAt hp hp.length b = hp ++ [some b]
  | [], _ => rfl
  | _ :: l, b => by simp [setAt, setAt_length l b]
theorem live_setAt (hp : Hp) (i : Nat) (b : Blk) (j : Nat) : Live (setAt hp i b) j ↔ j = i ∨ Live hp j := by
  by_cases h : j = i
  · subst h; exact ⟨fun _ => .inl rfl, fun _ => ⟨b, setAt_same hp j b⟩⟩
  · constructor
    · rintro ⟨x, hx⟩; exact .inr ⟨x, (setAt_other hp i b j x h).1 hx⟩
    · rintro (e | ⟨x, hx⟩)
      · exact absurd e h
      · exact ⟨x, (setAt_other hp i b j x h).2 hx⟩
theorem live_set {hp : Hp} {i : Nat} (h : Live hp i) (b : Blk) (j : Nat) : Live (hp.set i (some b)) j ↔ Live hp j := by
  obtain ⟨x, hx⟩ := h
  have hi : i < hp.length := (List.getElem?_eq_some_iff.1 hx).1
  by_cases hj : j = i
  · subst hj
    exact ⟨fun _ => ⟨x, hx⟩, fun _ => ⟨b, by rw [List.getElem?_set_self hi]⟩⟩
  · constructor
    · rintro ⟨y, hy⟩; rw [List.getElem?_set_ne (by omega)] at hy; exact ⟨y, hy⟩
    · rintro ⟨y, hy⟩; exact ⟨y, by rw [List.getElem?_set_ne (by omega)]; exact hy⟩

section
variable {W : World} {m : Nat → Prop} {β₀ β : Nat → Nat} {hp : Hp} {w : World}

theorem RowOk.mono {β β' : Nat → Nat} {L L' : Nat → Prop} (ha : Agree β β' L L') {blk : Blk} {o : Option Obj} (h : RowOk β L blk o) : RowOk β' L' blk o :=
  let ⟨c, rest, fz, h1, h2, h3, h4⟩ := h
  ⟨c, rest, fz, h1, h2, h3, h4.imp fun _ _ => SV.den_mono ha⟩

theorem HRel.lt (h : HRel W m β₀ β hp w) {i : Nat} (hi : Live hp i) : β i < w.heap.size := by
  obtain ⟨blk, hb⟩ := hi
  obtain ⟨c, rest, fz, hc, _⟩ := h.rows i blk hb
  exact (Array.getElem?_eq_some_iff.1 hc).1

theorem HRel.cell (h : HRel W m β₀ β hp w) {i off : Nat} {blk : Blk} {s : SV} (hb : hp[i]? = some (some blk)) (hs : blk.cells[off]? = some s) :
    ∃ v, w.cell? ⟨β i, off, none⟩ = some v ∧ w.frozen? ⟨β i, off, none⟩ = false ∧ s.den β (Live hp) v := by
  obtain ⟨c, rest, fz, hc, _, hf, hd⟩ := h.rows i blk hb
  obtain ⟨v, hv, hr⟩ := hd.get hs
  have hlt : off < c.length := (List.getElem?_eq_some_iff.1 hv).1
  refine ⟨v, ?_, ?_, hr⟩
  · simp only [World.cell?, hc]
    simpa [List.getElem?_append_left hlt] using hv
  · have := hf off hlt
    simp only [World.frozen?, hc]
    simpa using this

theorem HRel.alloc (h : HRel W m β₀ β hp w) {id : Nat} (hid : ¬ Live hp id) {cells : List SV} {c : List Value} {t : TypeId} (hc : All2 (SV.den β (Live hp)) cells c) :
    HRel W m β₀ (fun i => if i = id then w.heap.size else β i) (setAt hp id ⟨cells, t, false⟩) (w.alloc (.cells c.toArray t)) ∧
    Agree β (fun i => if i = id then w.heap.size else β i) (Live hp) (Live (setAt hp id ⟨cells, t, false⟩)) := by
  have hne : ∀ i, Live hp i → i ≠ id := fun i hi e => hid (e ▸ hi)
  have hag : Agree β (fun i => if i = id then w.heap.size else β i) (Live hp) (Live (setAt hp id ⟨cells, t, false⟩)) := fun i hi =>
    ⟨(live_setAt _ _ _ _).2 (.inr hi), if_neg (hne i hi)⟩
  refine ⟨?_, hag⟩
  have hold : ∀ b, b < w.heap.size → (w.alloc (.cells c.toArray t)).heap[b]? = w.heap[b]? := fun b hb => heap_alloc_old w _ b hb
  constructor
  · intro i blk hi
    by_cases hil : i = id
    · subst hil
      rw [setAt_same] at hi
      simp at hi; subst hi
      show RowOk _ _ _ ((w.alloc _).heap[if i = i then w.heap.size else β i]?)
      rw [if_pos rfl, heap_alloc_new]
      exact ⟨c, [], (0, 0), by simp, fun _ => rfl, fun off _ => by simp, hc.imp fun _ _ => SV.den_mono hag⟩
    · have hi' := (setAt_other hp id _ i blk hil).1 hi
      show RowOk _ _ _ ((w.alloc _).heap[if i = id then w.heap.size else β i]?)
      rw [if_neg hil, hold _ (h.lt ⟨blk, hi'⟩)]
      exact (h.rows i blk hi').mono hag
  · intro i j hi hj he
    rw [live_setAt] at hi hj
    by_cases h1 : i = id <;> by_cases h2 : j = id
    · omega
    · have := h.lt (hj.resolve_left h2); simp only [if_pos h1, if_neg h2] at he; omega
    · have := h.lt (hi.resolve_left h1); simp only [if_neg h1, if_pos h2] at he; omega
    · simp only [if_neg h1, if_neg h2] at he
      exact h.inj i j (hi.resolve_left h1) (hj.resolve_left h2) he
  · intro i hi
    refine ⟨?_, (live_setAt _ _ _ _).2 (.inr (h.first i hi).2)⟩
    show (if i = id then w.heap.size else β i) = β₀ i
    rw [if_neg (hne i (h.first i hi).2)]
    exact (h.first i hi).1
  · intro i hi hl
    rw [live_setAt] at hl
    show W.heap.size ≤ if i = id then w.heap.size else β i
    by_cases h1 : i = id
    · rw [if_pos h1]; exact h.size
    · rw [if_neg h1]; exact h.new i hi (hl.resolve_left h1)
  · exact h.os
  · exact h.output
  · have := h.size; simp; omega
  · intro b hb hne
    rw [hold b (by have := h.size; omega)]
    exact h.keep b hb hne

theorem HRel.drew (h : HRel W m β₀ β hp w) (n : Nat) (tp : Tape) : HRel W m β₀ β hp { w with drawn := n, tape := tp } :=
  ⟨h.rows, h.inj, h.first, h.new, h.os, h.output, h.size, h.keep⟩

theorem HRel.setCell (h : HRel W m β₀ β hp w) {i off : Nat} {blk : Blk} {s : SV} {v : Value} (hb : hp[i]? = some (some blk)) (ho : off < blk.cells.length) (hv : s.den β (Live hp) v) :
    HRel W m β₀ β (hp.set i (some { blk with cells := blk.cells.set off s })) (w.setCell ⟨β i, off, none⟩ v) := by
  have hli : Live hp i := ⟨blk, hb⟩
  have hil : i < hp.length := (List.getElem?_eq_some_iff.1 hb).1
  obtain ⟨c, rest, fz, hc, hm, hf, hd⟩ := h.rows i blk hb
  have hcl : off < c.length := by rw [← hd.length]; exact ho
  have hag : ∀ b : Blk, Agree β β (Live hp) (Live (hp.set i (some b))) := fun b j hj => ⟨(live_set hli b j).2 hj, rfl⟩
  have hsame : (w.setCell ⟨β i, off, none⟩ v).heap[β i]? = some (.cells (c.set off v ++ rest).toArray blk.elem fz) := by
    simp only [World.setCell, Array.getElem?_modify, hc]
    simp [hcl]
  have hother : ∀ b, b ≠ β i → (w.setCell ⟨β i, off, none⟩ v).heap[b]? = w.heap[b]? := fun b hne => heap_setCell_other w _ b v hne
  constructor
  · intro j blk' hj
    by_cases hji : j = i
    · subst hji
      rw [List.getElem?_set_self hil] at hj
      simp at hj; subst hj
      rw [hsame]
      exact ⟨c.set off v, rest, fz, rfl, hm, fun o hlt => hf o (by simpa using hlt), (hd.set off hv).imp fun _ _ => SV.den_mono (hag _)⟩
    · rw [List.getElem?_set_ne (by omega)] at hj
      rw [hother _ (fun e => hji (h.inj j i ⟨blk', hj⟩ hli e))]
      exact (h.rows j blk' hj).mono (hag _)
  · intro a b ha hb'; exact h.inj a b ((live_set hli _ a).1 ha) ((live_set hli _ b).1 hb')
  · intro a ha; exact ⟨(h.first a ha).1, (live_set hli _ a).2 (h.first a ha).2⟩
  · intro a ha hb'; exact h.new a ha ((live_set hli _ a).1 hb')
  · exact h.os
  · exact h.output
  · simpa using h.size
  · intro b hb' hne
    by_cases hbi : b = β i
    · subst hbi
      exfalso
      by_cases him : m i
      · exact hne i him (h.first i him).1.symm
      · have := h.new i him hli
        omega
    · rw [hother b hbi]; exact h.keep b hb' hne
end

/-- a row of new cells from a place on -/
def setRange : List SV → Nat → List SV → List SV
  | l, _, [] => l
  | l, off, s :: r => setRange (l.set off s) (off + 1) r

theorem setRange_length : ∀ (r l : List SV) (off : Nat), (setRange l off r).length = l.length
  | [], _, _ => rfl
  | s :: r, l, off => by simp [setRange, setRange_length r]

theorem run_storeCells {P : Program} {W : World} {m : Nat → Prop} {β₀ β : Nat → Nat} {i : Nat} {off : Nat} :
    ∀ (r : List SV) (vs : List Value) (k : Nat) (hp : Hp) (w : World) (blk : Blk), HRel W m β₀ β hp w → hp[i]? = some (some blk) → All2 (SV.den β (Live hp)) r vs →
      off + k + r.length ≤ blk.cells.length →
      ∃ w', (storeCells ⟨β i, off, none⟩ vs k).run P w = .ok () w' ∧ HRel W m β₀ β (hp.set i (some { blk with cells := setRange blk.cells (off + k) r })) w' := by
  intro r
  induction r with
  | nil =>
    intro vs k hp w blk h hb hd _
    cases hd
    refine ⟨w, rfl, ?_⟩
    have : hp.set i (some { blk with cells := setRange blk.cells (off + k) [] }) = hp := by
      show hp.set i (some blk) = hp
      apply List.ext_getElem?
      intro j
      rw [List.getElem?_set]
      split
      · rename_i e; subst e; split
        · exact hb.symm
        · rename_i hh; rw [List.getElem?_eq_none (by omega)]
      · rfl
    rw [this]; exact h
  | cons s r ih =>
    intro vs k hp w blk h hb hd hle
    cases hd with
    | cons hs hd =>
      rename_i v vs
      simp only [List.length_cons] at hle
      obtain ⟨sv, hsv⟩ : ∃ sv, blk.cells[off + k]? = some sv := ⟨blk.cells[off + k]'(by omega), by simp⟩
      obtain ⟨v0, hc0, hf0, _⟩ := h.cell hb hsv
      have hadd : (⟨β i, off, none⟩ : Addr).add k = ⟨β i, off + k, none⟩ := by
        unfold Addr.add; split
        · rename_i e; subst e; simp
        · rfl
      have h1 := h.setCell (off := off + k) hb (by omega) hs
      have hil : i < hp.length := (List.getElem?_eq_some_iff.1 hb).1
      obtain ⟨w', hw', hr'⟩ := ih vs (k + 1) _ _ { blk with cells := blk.cells.set (off + k) s } h1 (by rw [List.getElem?_set_self hil])
        (hd.imp fun _ _ => SV.den_mono fun j hj => ⟨(live_set ⟨blk, hb⟩ _ j).2 hj, rfl⟩) (by simp; omega)
      refine ⟨w', ?_, ?_⟩
      · have hone : v.oneCell' = true := SV.den_oneCell hs
        simp only [storeCells, Sem.run_bind, hadd, run_store P w _ v _ hone, hc0, hf0]
        simpa using hw'
      · rw [List.set_set] at hr'
        exact hr'

end Go.Ev
