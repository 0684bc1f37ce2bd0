/- A reader of code, third make: what is known of values and of memory, and what it stands for. -/
import Derived.Tactics
import Derived.Laws.World
import Derived.Laws.Rows
import Derived.Laws.Cells
set_option linter.unusedVariables false
set_option linter.unusedSimpArgs false
namespace Go.Ev
open Go

/-! ### Lists -/
inductive All2 {α β : Type} (R : α → β → Prop) : List α → List β → Prop where
  | nil : All2 R [] []
  | cons {a b l m} (h : R a b) (t : All2 R l m) : All2 R (a :: l) (b :: m)

section
variable {α β : Type} {R S : α → β → Prop}
theorem All2.length {l : List α} {m : List β} (h : All2 R l m) : l.length = m.length := by
  induction h with
  | nil => rfl
  | cons _ _ ih => simp [ih]
theorem All2.imp {l : List α} {m : List β} (h : All2 R l m) (f : ∀ a b, R a b → S a b) : All2 S l m := by
  induction h with
  | nil => exact .nil
  | cons h _ ih => exact .cons (f _ _ h) ih
theorem All2.imp_mem {l : List α} {m : List β} (h : All2 R l m) (f : ∀ a b, a ∈ l → R a b → S a b) : All2 S l m := by
  induction h with
  | nil => exact .nil
  | cons h _ ih => exact .cons (f _ _ (by simp) h) (ih fun a b ha => f a b (by simp [ha]))
theorem All2.get {l : List α} {m : List β} (h : All2 R l m) : ∀ {i : Nat} {a : α}, l[i]? = some a → ∃ b, m[i]? = some b ∧ R a b := by
  induction h with
  | nil => intro i a h; simp at h
  | cons h _ ih =>
    intro i a hi
    cases i with
    | zero => simp at hi; subst hi; exact ⟨_, by simp, h⟩
    | succ i => simp at hi; obtain ⟨b, hb, hr⟩ := ih hi; exact ⟨b, by simpa using hb, hr⟩
theorem All2.set {l : List α} {m : List β} (h : All2 R l m) : ∀ (i : Nat) {a : α} {b : β}, R a b → All2 R (l.set i a) (m.set i b) := by
  induction h with
  | nil => intro i a b _; exact .nil
  | cons h t ih =>
    intro i a b hr
    cases i with
    | zero => exact .cons hr t
    | succ i => exact .cons h (ih i hr)
theorem All2.append {l l' : List α} {m m' : List β} (h : All2 R l m) (h' : All2 R l' m') : All2 R (l ++ l') (m ++ m') := by
  induction h with
  | nil => exact h'
  | cons h _ ih => exact .cons h ih
theorem All2.of_map {γ : Type} (f : γ → α) (g : γ → β) (l : List γ) (h : ∀ x ∈ l, R (f x) (g x)) : All2 R (l.map f) (l.map g) := by
  induction l with
  | nil => exact .nil
  | cons x l ih => exact .cons (h x (by simp)) (ih fun y hy => h y (by simp [hy]))
theorem All2.map_left {γ : Type} {T : γ → β → Prop} {f : α → γ} {l : List α} {m : List β} (h : All2 R l m) (hf : ∀ a b, R a b → T (f a) b) : All2 T (l.map f) m := by
  induction h with
  | nil => exact .nil
  | cons h _ ih => exact .cons (hf _ _ h) ih
end

/-- a row of values that falls into parts, one for each of a list -/
inductive HasL {α : Type} (R : α → List Value → Prop) : List α → List Value → Prop where
  | nil : HasL R [] []
  | cons {x l vs ws} (h : R x vs) (t : HasL R l ws) : HasL R (x :: l) (vs ++ ws)
section
variable {α : Type} {R S : α → List Value → Prop}
theorem HasL.imp_mem {l : List α} {vs : List Value} (h : HasL R l vs) (f : ∀ x vs, x ∈ l → R x vs → S x vs) : HasL S l vs := by
  induction h with
  | nil => exact .nil
  | cons h _ ih => exact .cons (f _ _ (by simp) h) (ih fun x vs hx => f x vs (by simp [hx]))
theorem HasL.imp {l : List α} {vs : List Value} (h : HasL R l vs) (f : ∀ x vs, R x vs → S x vs) : HasL S l vs := h.imp_mem fun x vs _ => f x vs
theorem HasL.append {l m : List α} {vs ws : List Value} (h : HasL R l vs) (h' : HasL R m ws) : HasL R (l ++ m) (vs ++ ws) := by
  induction h with
  | nil => exact h'
  | cons h _ ih => rw [List.cons_append, List.append_assoc]; exact .cons h ih
theorem HasL.one {x : α} {vs : List Value} (h : R x vs) : HasL R [x] vs := by have := HasL.cons h .nil; simpa using this
theorem HasL.of_one {x : α} {vs : List Value} (h : HasL R [x] vs) : R x vs := by
  cases h with
  | cons h t => cases t; simpa using h
theorem HasL.split : ∀ {l m : List α} {vs : List Value}, HasL R (l ++ m) vs → ∃ v1 v2, vs = v1 ++ v2 ∧ HasL R l v1 ∧ HasL R m v2
  | [], m, vs, h => ⟨[], vs, rfl, .nil, h⟩
  | x :: l, m, _, .cons (vs := vs) h t => by
    obtain ⟨v1, v2, rfl, h1, h2⟩ := HasL.split t
    exact ⟨vs ++ v1, v2, by simp, .cons h h1, h2⟩
theorem HasL.length {k : Nat} (hk : ∀ x vs, R x vs → vs.length = k) {l : List α} {vs : List Value} (h : HasL R l vs) : vs.length = l.length * k := by
  induction h with
  | nil => simp
  | cons h _ ih => rw [List.length_append, hk _ _ h, ih, List.length_cons, Nat.succ_mul]; omega
theorem HasL.get {l : List α} {vs : List Value} (h : HasL R l vs) {i : Nat} {x : α} (hi : l[i]? = some x) :
    ∃ a u b, vs = a ++ (u ++ b) ∧ R x u ∧ HasL R (l.take i) a ∧ HasL R (l.drop (i + 1)) b := by
  have hl : i < l.length := (List.getElem?_eq_some_iff.1 hi).1
  have hx : l[i] = x := (List.getElem?_eq_some_iff.1 hi).2
  have e : l = l.take i ++ (x :: l.drop (i + 1)) := by rw [← hx, List.getElem_cons_drop, List.take_append_drop]
  rw [e] at h
  obtain ⟨v1, v2, rfl, h1, h2⟩ := HasL.split h
  cases h2 with
  | cons h3 h4 => exact ⟨v1, _, _, rfl, h3, h1, h4⟩
theorem HasL.of_get {l : List α} {i : Nat} {x : α} (hi : i < l.length) {a u b : List Value} (h : R x u) (ha : HasL R (l.take i) a) (hb : HasL R (l.drop (i + 1)) b) : HasL R (l.set i x) (a ++ (u ++ b)) := by
  rw [List.set_eq_take_append_cons_drop, if_pos hi]
  exact ha.append (.cons h hb)
end

/-! ### Shapes -/
/-- the shape of an element -/
inductive Ty where
  | int (k : IntKind)
  | bool
  | flt
  | str
  | sl (t : Ty)
  | pair (a b : Ty)
  | arr (t : Ty) (n : Nat)
  deriving DecidableEq
/-- what an element of a shape is -/
@[reducible] def Ty.D : Ty → Type
  | .int _ => Int
  | .bool => Bool
  | .flt => Nat
  | .str => List Int
  | .sl t => List t.D
  | .pair a b => a.D × b.D
  | .arr t _ => List t.D
def Ty.z : (t : Ty) → t.D
  | .int _ => (0 : Int)
  | .bool => false
  | .flt => (0 : Nat)
  | .str => ([] : List Int)
  | .sl _ => []
  | .pair a b => (a.z, b.z)
  | .arr t n => List.replicate n t.z
/-- how many cells it takes -/
def Ty.w : Ty → Nat
  | .int _ | .bool | .flt | .str | .sl _ => 1
  | .pair a b => a.w + b.w
  | .arr t n => n * t.w

/-- a string of bytes -/
def strOf (l : List Int) : ByteArray := ⟨(l.map fun n => UInt8.ofNat n.toNat).toArray⟩

/-- what stands open: where the blocks lie, the own slices' headers, what is only read (for good or for now) -/
structure Env where
  b : Nat → Nat
  h : Nat → Value
  rd : Bool → Value → (t : Ty) → List t.D → Prop
instance : CoeFun Env (fun _ => Nat → Nat) := ⟨Env.b⟩

def RdOk (β : Env) (pm : Bool) (v : Value) (t : Ty) (l : List t.D) : Prop := β.rd true v t l ∨ (pm = false ∧ β.rd false v t l) ∨ (v = .slice none 0 0 ∧ l = [])

def Ty.has (β : Env) (pm : Bool) : (t : Ty) → t.D → List Value → Prop
  | .int k, n, vs => vs = [.int k n]
  | .bool, b, vs => vs = [.bool b]
  | .flt, n, vs => vs = [.float .f64 n]
  | .str, l, vs => vs = [.string (strOf l)]
  | .sl t, l, vs => ∃ v, vs = [v] ∧ v.oneCell' = true ∧ RdOk β pm v t l
  | .pair a b, x, vs => ∃ u w, vs = u ++ w ∧ a.has β pm x.1 u ∧ b.has β pm x.2 w
  | .arr t n, l, vs => l.length = n ∧ HasL (t.has β pm) l vs

theorem Ty.has_length {β : Env} {pm : Bool} : ∀ (t : Ty) {x : t.D} {vs : List Value}, t.has β pm x vs → vs.length = t.w
  | .int _, _, _, h => by simp only [Ty.has] at h; subst h; rfl
  | .bool, _, _, h => by simp only [Ty.has] at h; subst h; rfl
  | .flt, _, _, h => by simp only [Ty.has] at h; subst h; rfl
  | .str, _, _, h => by simp only [Ty.has] at h; subst h; rfl
  | .sl _, _, _, h => by simp only [Ty.has] at h; obtain ⟨v, rfl, _⟩ := h; rfl
  | .pair a b, _, _, h => by
    simp only [Ty.has] at h; obtain ⟨u, w, rfl, h1, h2⟩ := h
    simp [Ty.w, a.has_length h1, b.has_length h2]
  | .arr t n, _, _, h => by
    simp only [Ty.has] at h; obtain ⟨h1, h2⟩ := h
    rw [h2.length fun _ _ => t.has_length, h1]; rfl
theorem Ty.has_one {β : Env} {pm : Bool} : ∀ (t : Ty) {x : t.D} {vs : List Value}, t.has β pm x vs → ∀ v ∈ vs, v.oneCell' = true
  | .int _, _, _, h => by simp only [Ty.has] at h; subst h; simp [Value.oneCell']
  | .bool, _, _, h => by simp only [Ty.has] at h; subst h; simp [Value.oneCell']
  | .flt, _, _, h => by simp only [Ty.has] at h; subst h; simp [Value.oneCell']
  | .str, _, _, h => by simp only [Ty.has] at h; subst h; simp [Value.oneCell']
  | .sl _, _, _, h => by simp only [Ty.has] at h; obtain ⟨v, rfl, h, _⟩ := h; simpa using h
  | .pair a b, _, _, h => by
    simp only [Ty.has] at h; obtain ⟨u, w, rfl, h1, h2⟩ := h
    intro v hv
    rcases List.mem_append.1 hv with hv | hv
    · exact a.has_one h1 v hv
    · exact b.has_one h2 v hv
  | .arr t n, _, vs, h => by
    simp only [Ty.has] at h; obtain ⟨_, h2⟩ := h
    have key : ∀ {l : List t.D} {vs : List Value}, HasL (t.has β pm) l vs → ∀ v ∈ vs, v.oneCell' = true := by
      intro l vs h
      induction h with
      | nil => simp
      | cons h _ ih =>
        intro v hv
        rcases List.mem_append.1 hv with hv | hv
        · exact t.has_one h v hv
        · exact ih v hv
    exact key h2
theorem hasL_one {β : Env} {pm : Bool} {t : Ty} {l : List t.D} {vs : List Value} (h : HasL (t.has β pm) l vs) : ∀ v ∈ vs, v.oneCell' = true := by
  induction h with
  | nil => simp
  | cons h _ ih =>
    intro v hv
    rcases List.mem_append.1 hv with hv | hv
    · exact t.has_one h v hv
    · exact ih v hv
theorem hasL_length {β : Env} {pm : Bool} {t : Ty} {l : List t.D} {vs : List Value} (h : HasL (t.has β pm) l vs) : vs.length = l.length * t.w := h.length fun _ _ => t.has_length

/-! ### What is known of a value -/
inductive SI where
  | lit (n : Int)
  | sym (n : Int)
def SI.val : SI → Int
  | .lit n => n
  | .sym n => n
inductive SB where
  | lit (b : Bool)
  | sym (b : Bool)
def SB.val : SB → Bool
  | .lit b => b
  | .sym b => b

/-- what is known of the value of one cell (or, arr, of a row of cells) -/
inductive SV where
  | int (k : IntKind) (n : SI)
  | bool (b : SB)
  | flt (n : Nat)
  | str (l : List Int)
  | ptr (b off : Nat)
  /-- to one of n parts of a block, each of so many cells -/
  | ptrx (b base stride n : Nat) (z : Int)
  /-- of cells of a block -/
  | slice (b off len cap : Nat)
  | con (v : Value)
  | junk
  /-- a row of n elements -/
  | arr (t : Ty) (n : Nat) (l : List t.D)
  /-- a slice that is only read; pm: for good; nn: it is not nil -/
  | rd (pm nn : Bool) (t : Ty) (l : List t.D)
  /-- an own slice's header -/
  | sl (i ver : Nat)
  /-- n elements of an own slice, from z on -/
  | vw (i ver w : Nat) (z n : Int)
  /-- n elements of a row of m that lies in a block, from z on -/
  | vb (b o : Nat) (t : Ty) (m : Nat) (z n : Int)
  /-- to a cell of an element of a slice -/
  | ep (s : SV) (w : Nat) (z : Int) (f : Nat)
inductive VV where
  | sc (s : SV)
  | agg (l : List SV)
inductive LV where
  | one (x : VV)
  | tup (l : List VV)
  | junk

/-- kinds of items: a block; an own slice, and how often it has changed its place -/
inductive Kd where
  | blk
  | own (c : Nat)
  deriving DecidableEq

/-- n elements of what a header is of, from z on -/
def SubOf (h : Value) (w : Nat) (z n : Int) (v : Value) : Prop :=
  ∃ a m c a' c', h = .slice a m c ∧ 0 ≤ z ∧ 0 ≤ n ∧ z + n ≤ m ∧ v = .slice a' n.toNat c' ∧ n.toNat ≤ c' ∧ (a' = none → c' = 0) ∧ (0 < n → ∃ a0, a = some a0 ∧ a' = some (a0.add (z.toNat * w)))

def notNil : Value → Prop
  | .slice a _ _ => a ≠ none
  | _ => False

def SV.den (β : Env) (L : Nat → Option Kd) : SV → Value → Prop
  | .int k i, v => v = .int k i.val
  | .bool b, v => v = .bool b.val
  | .flt n, v => v = .float .f64 n
  | .str l, v => v = .string (strOf l)
  | .ptr b o, v => L b = some .blk ∧ v = .pointer (some ⟨β.b b, o, none⟩)
  | .ptrx b base stride n z, v => L b = some .blk ∧ z.toNat < n ∧ v = .pointer (some ⟨β.b b, base + z.toNat * stride, none⟩)
  | .slice b o l c, v => L b = some .blk ∧ v = .slice (some ⟨β.b b, o, none⟩) l c
  | .con c, v => c.oneCell' = true ∧ v = c
  | .junk, v => v.oneCell' = true
  | .arr _ _ _, _ => False
  | .rd pm nn t l, v => v.oneCell' = true ∧ (nn = true → notNil v) ∧ RdOk β pm v t l
  | .sl i ver, v => v.oneCell' = true ∧ ∃ c, L i = some (.own c) ∧ ver ≤ c ∧ (ver = c → v = β.h i)
  | .vw i ver w z n, v => v.oneCell' = true ∧ ∃ c, L i = some (.own c) ∧ ver ≤ c ∧ (ver = c → SubOf (β.h i) w z n v)
  | .vb b o t m z n, v => L b = some .blk ∧ 0 ≤ z ∧ 0 ≤ n ∧ z + n ≤ m ∧ ∃ a' c', v = .slice a' n.toNat c' ∧ n.toNat ≤ c' ∧ (a' = none → c' = 0) ∧ (0 < n → a' = some ((⟨β.b b, o, none⟩ : Addr).add (z.toNat * t.w)))
  | .ep s w z f, v => ∃ a n c, s.den β L (.slice (some a) n c) ∧ 0 ≤ z ∧ z < n ∧ v = .pointer (some (a.add (z.toNat * w + f)))

/-- which row of values -/
def SV.dens (β : Env) (L : Nat → Option Kd) : SV → List Value → Prop
  | .arr t n l, vs => l.length = n ∧ HasL (t.has β true) l vs
  | s, vs => ∃ v, vs = [v] ∧ s.den β L v
def SV.w : SV → Nat
  | .arr t n _ => n * t.w
  | _ => 1
abbrev DenL (β : Env) (L : Nat → Option Kd) : List SV → List Value → Prop := HasL (SV.dens β L)

def VV.den (β : Env) (L : Nat → Option Kd) : VV → Value → Prop
  | .sc s, v => s.den β L v
  | .agg l, v => ∃ cs : List Value, v = .agg cs.toArray ∧ DenL β L l cs
def LV.den (β : Env) (L : Nat → Option Kd) : LV → Value → Prop
  | .one x, v => x.den β L v
  | .tup l, v => ∃ vs : List Value, v = .tuple vs.toArray ∧ All2 (VV.den β L) l vs
  | .junk, _ => True

/-- what held goes on to hold -/
structure Agree (β β' : Env) (L L' : Nat → Option Kd) : Prop where
  blk : ∀ i, L i = some .blk → L' i = some .blk ∧ β'.b i = β.b i
  own : ∀ i c, L i = some (.own c) → ∃ c', L' i = some (.own c') ∧ c ≤ c' ∧ (c = c' → β'.h i = β.h i)
  rd : ∀ pm v t l, β.rd pm v t l → β'.rd pm v t l
theorem Agree.refl (β : Env) (L : Nat → Option Kd) : Agree β β L L := ⟨fun _ h => ⟨h, rfl⟩, fun _ c h => ⟨c, h, Nat.le_refl _, fun _ => rfl⟩, fun _ _ _ _ h => h⟩
theorem Agree.trans {β β' β'' : Env} {L L' L'' : Nat → Option Kd} (h : Agree β β' L L') (h' : Agree β' β'' L' L'') : Agree β β'' L L'' := by
  refine ⟨fun i hi => ⟨(h'.blk i (h.blk i hi).1).1, (h'.blk i (h.blk i hi).1).2.trans (h.blk i hi).2⟩, fun i c hi => ?_, fun pm v t l hr => h'.rd pm v t l (h.rd pm v t l hr)⟩
  obtain ⟨c1, h1, h2, h3⟩ := h.own i c hi
  obtain ⟨c2, h4, h5, h6⟩ := h'.own i c1 h1
  exact ⟨c2, h4, by omega, fun e => (h6 (by omega)).trans (h3 (by omega))⟩
theorem Agree.of {β : Env} {L L' : Nat → Option Kd} (h : ∀ i k, L i = some k → L' i = some k) : Agree β β L L' :=
  ⟨fun i hi => ⟨h i _ hi, rfl⟩, fun i c hi => ⟨c, h i _ hi, Nat.le_refl _, fun _ => rfl⟩, fun _ _ _ _ h => h⟩

theorem RdOk.mono {β β' : Env} (hr : ∀ pm v t l, β.rd pm v t l → β'.rd pm v t l) {pm : Bool} {v : Value} {t : Ty} {l : List t.D} (h : RdOk β pm v t l) : RdOk β' pm v t l :=
  h.imp (hr _ _ _ _) (Or.imp (fun ⟨a, b⟩ => ⟨a, hr _ _ _ _ b⟩) id)
theorem Ty.has_mono {β β' : Env} (hr : ∀ pm v t l, β.rd pm v t l → β'.rd pm v t l) {pm : Bool} : ∀ (t : Ty) {x : t.D} {vs : List Value}, t.has β pm x vs → t.has β' pm x vs
  | .int _, _, _, h => h
  | .bool, _, _, h => h
  | .flt, _, _, h => h
  | .str, _, _, h => h
  | .sl _, _, _, ⟨v, h1, h2, h3⟩ => ⟨v, h1, h2, h3.mono hr⟩
  | .pair a b, _, _, ⟨u, w, h, h1, h2⟩ => ⟨u, w, h, a.has_mono hr h1, b.has_mono hr h2⟩
  | .arr t _, _, _, ⟨h1, h2⟩ => ⟨h1, h2.imp fun _ _ => t.has_mono hr⟩

theorem SV.den_oneCell {β : Env} {L : Nat → Option Kd} {s : SV} {v : Value} (h : s.den β L v) : v.oneCell' = true := by
  cases s <;> simp only [SV.den] at h
  · subst h; rfl
  · subst h; rfl
  · subst h; rfl
  · subst h; rfl
  · obtain ⟨_, rfl⟩ := h; rfl
  · obtain ⟨_, _, rfl⟩ := h; rfl
  · obtain ⟨_, rfl⟩ := h; rfl
  · obtain ⟨h, rfl⟩ := h; exact h
  · exact h
  · exact h.1
  · exact h.1
  · exact h.1
  · obtain ⟨_, _, _, _, _, _, rfl, _⟩ := h; rfl
  · obtain ⟨_, _, _, _, _, _, rfl⟩ := h; rfl

theorem SV.den_mono {β β' : Env} {L L' : Nat → Option Kd} (ha : Agree β β' L L') : ∀ {s : SV} {v : Value}, s.den β L v → s.den β' L' v
  | .int _ _, _, h => h
  | .bool _, _, h => h
  | .flt _, _, h => h
  | .str _, _, h => h
  | .ptr _ _, _, ⟨h1, h2⟩ => ⟨(ha.blk _ h1).1, by rw [(ha.blk _ h1).2]; exact h2⟩
  | .ptrx _ _ _ _ _, _, ⟨h1, h2, h3⟩ => ⟨(ha.blk _ h1).1, h2, by rw [(ha.blk _ h1).2]; exact h3⟩
  | .slice _ _ _ _, _, ⟨h1, h2⟩ => ⟨(ha.blk _ h1).1, by rw [(ha.blk _ h1).2]; exact h2⟩
  | .con _, _, h => h
  | .junk, _, h => h
  | .rd _ _ _ _, _, ⟨h1, h2, h3⟩ => ⟨h1, h2, h3.mono ha.rd⟩
  | .sl i ver, _, ⟨h1, c, h2, h3, h4⟩ => by
    obtain ⟨c', k1, k2, k3⟩ := ha.own i c h2
    exact ⟨h1, c', k1, by omega, fun e => (h4 (by omega)).trans (k3 (by omega)).symm⟩
  | .vw i ver w z n, _, ⟨h1, c, h2, h3, h4⟩ => by
    obtain ⟨c', k1, k2, k3⟩ := ha.own i c h2
    exact ⟨h1, c', k1, by omega, fun e => by rw [k3 (by omega)]; exact h4 (by omega)⟩
  | .vb _ _ _ _ _ _, _, ⟨h1, h2, h3, h3', a', c', h4, h5, h6⟩ => ⟨(ha.blk _ h1).1, h2, h3, h3', a', c', h4, h5, by rw [(ha.blk _ h1).2]; exact h6⟩
  | .ep _ _ _ _, _, ⟨a, n, c, h1, h2⟩ => ⟨a, n, c, SV.den_mono ha h1, h2⟩

theorem SV.dens_mono {β β' : Env} {L L' : Nat → Option Kd} (ha : Agree β β' L L') {s : SV} {vs : List Value} (h : s.dens β L vs) : s.dens β' L' vs := by
  cases s with
  | arr t n l => exact ⟨h.1, h.2.imp fun _ _ => t.has_mono ha.rd⟩
  | _ => exact let ⟨v, h1, h2⟩ := h; ⟨v, h1, SV.den_mono ha h2⟩
theorem DenL.mono {β β' : Env} {L L' : Nat → Option Kd} (ha : Agree β β' L L') {l : List SV} {vs : List Value} (h : DenL β L l vs) : DenL β' L' l vs := h.imp fun _ _ => SV.dens_mono ha
theorem SV.dens_length {β : Env} {L : Nat → Option Kd} {s : SV} {vs : List Value} (h : s.dens β L vs) : vs.length = s.w := by
  cases s with
  | arr t n l => rw [hasL_length h.2, h.1]; rfl
  | _ => obtain ⟨v, rfl, _⟩ := h; rfl
theorem SV.dens_one {β : Env} {L : Nat → Option Kd} {s : SV} {vs : List Value} (h : s.dens β L vs) : ∀ v ∈ vs, v.oneCell' = true := by
  cases s with
  | arr t n l => exact hasL_one h.2
  | _ => obtain ⟨v, rfl, h⟩ := h; intro u hu; simp at hu; subst hu; exact SV.den_oneCell h
theorem SV.dens_of {β : Env} {L : Nat → Option Kd} {s : SV} {v : Value} (h : s.den β L v) : s.dens β L [v] := by
  cases s with
  | arr t n l => exact h.elim
  | _ => exact ⟨v, rfl, h⟩
theorem SV.den_of {β : Env} {L : Nat → Option Kd} {s : SV} {vs : List Value} (h : s.dens β L vs) (hs : ∀ t n l, s ≠ .arr t n l) : ∃ v, vs = [v] ∧ s.den β L v := by
  cases s with
  | arr t n l => exact absurd rfl (hs t n l)
  | _ => exact h
theorem DenL.oneCells {β : Env} {L : Nat → Option Kd} {l : List SV} {vs : List Value} (h : DenL β L l vs) : ∀ v ∈ vs, v.oneCell' = true := by
  induction h with
  | nil => simp
  | cons h _ ih =>
    intro v hv
    rcases List.mem_append.1 hv with hv | hv
    · exact SV.dens_one h v hv
    · exact ih v hv
/-- how many cells a list of descriptions takes -/
def wL : List SV → Nat
  | [] => 0
  | s :: l => s.w + wL l
theorem DenL.length {β : Env} {L : Nat → Option Kd} {l : List SV} {vs : List Value} (h : DenL β L l vs) : vs.length = wL l := by
  induction h with
  | nil => rfl
  | cons h _ ih => simp [wL, SV.dens_length h, ih]
theorem DenL.nil {β : Env} {L : Nat → Option Kd} : DenL β L [] [] := HasL.nil
theorem DenL.cons1 {β : Env} {L : Nat → Option Kd} {s : SV} {v : Value} {l : List SV} {vs : List Value} (h : s.den β L v) (t : DenL β L l vs) : DenL β L (s :: l) (v :: vs) := HasL.cons (SV.dens_of h) t

theorem VV.den_mono {β β' : Env} {L L' : Nat → Option Kd} (ha : Agree β β' L L') {s : VV} {v : Value} (h : s.den β L v) : s.den β' L' v := by
  cases s with
  | sc s => exact SV.den_mono ha h
  | agg l => obtain ⟨cs, rfl, h⟩ := h; exact ⟨cs, rfl, h.mono ha⟩
theorem LV.den_mono {β β' : Env} {L L' : Nat → Option Kd} (ha : Agree β β' L L') {s : LV} {v : Value} (h : s.den β L v) : s.den β' L' v := by
  cases s with
  | one x => exact VV.den_mono ha h
  | tup l => obtain ⟨cs, rfl, h⟩ := h; exact ⟨cs, rfl, h.imp fun _ _ => VV.den_mono ha⟩
  | junk => trivial

/-- a closed value's description -/
def SV.ofVal : Value → Option SV
  | .int k n => some (.int k (.lit n))
  | .bool b => some (.bool (.lit b))
  | .agg _ | .tuple _ => none
  | x => some (.con x)
def optAll {α β : Type} (f : α → Option β) : List α → Option (List β)
  | [] => some []
  | x :: l => match f x, optAll f l with
    | some y, some m => some (y :: m)
    | _, _ => none
def LV.ofVal : Value → LV
  | .agg cs => match optAll SV.ofVal cs.toList with
    | some l => .one (.agg l)
    | none => .junk
  | .tuple cs => if cs.isEmpty then .tup [] else .junk
  | x => match SV.ofVal x with
    | some s => .one (.sc s)
    | none => .junk

theorem SV.ofVal_den {β : Env} {L : Nat → Option Kd} {v : Value} {s : SV} (h : SV.ofVal v = some s) : s.den β L v := by
  cases v <;> simp [SV.ofVal] at h <;> subst h <;> simp [SV.den, SI.val, SB.val, Value.oneCell']

theorem optAll_all2 {α β : Type} {f : α → Option β} {R : β → α → Prop} (hf : ∀ x y, f x = some y → R y x) : ∀ {l : List α} {m : List β}, optAll f l = some m → All2 R m l
  | [], m, h => by simp [optAll] at h; subst h; exact .nil
  | x :: l, m, h => by
    simp only [optAll] at h
    split at h
    · rename_i y m' h1 h2
      simp at h; subst h
      exact .cons (hf _ _ h1) (optAll_all2 hf h2)
    · simp at h
theorem denL_of_all2 {β : Env} {L : Nat → Option Kd} {l : List SV} {vs : List Value} (h : All2 (SV.den β L) l vs) : DenL β L l vs := by
  induction h with
  | nil => exact .nil
  | cons h _ ih => exact DenL.cons1 h ih

theorem LV.ofVal_den {β : Env} {L : Nat → Option Kd} (v : Value) : (LV.ofVal v).den β L v := by
  cases v with
  | agg cs =>
    simp only [LV.ofVal]
    split
    · rename_i l h
      exact ⟨cs.toList, by simp, denL_of_all2 (optAll_all2 (fun _ _ => SV.ofVal_den) h)⟩
    · trivial
  | tuple cs =>
    simp only [LV.ofVal]
    split
    · rename_i h
      have : cs = #[] := by simpa using h
      subst this
      exact ⟨[], rfl, .nil⟩
    · trivial
  | _ => simp [LV.ofVal, SV.ofVal, LV.den, VV.den, SV.den, SI.val, SB.val, Value.oneCell']

/-! ### Items and states -/
inductive Item where
  | blk (cells : List SV) (elem : TypeId)
  | own (ver : Nat) (t : Ty) (l : List t.D)
  | gone (ver : Nat)
def Item.kd : Item → Kd
  | .blk _ _ => .blk
  | .own v _ _ | .gone v => .own v
abbrev Hp := List (Option Item)
def kd (hp : Hp) (i : Nat) : Option Kd :=
  match hp[i]? with
  | some (some x) => some x.kd
  | _ => none
structure St where
  fr : List LV
  hp : Hp

theorem kd_some {hp : Hp} {i : Nat} {k : Kd} (h : kd hp i = some k) : ∃ x, hp[i]? = some (some x) ∧ x.kd = k := by
  unfold kd at h; split at h
  · rename_i x hx; simp at h; exact ⟨x, hx, h⟩
  · cases h
theorem kd_of {hp : Hp} {i : Nat} {x : Item} (h : hp[i]? = some (some x)) : kd hp i = some x.kd := by unfold kd; rw [h]

/-- the block that an item holds -/
def Owns (β : Env) (x : Item) (i b : Nat) : Prop :=
  match x with
  | .blk _ _ => b = β.b i
  | .own _ _ _ => ∃ a n c, β.h i = .slice (some a) n c ∧ 0 < c ∧ a.block = b
  | .gone _ => False
def Owned (hp : Hp) (β : Env) (b : Nat) : Prop := ∃ i x, hp[i]? = some (some x) ∧ Owns β x i b

/-- a row of values lies at a place -/
def HoldsAt (w : World) (a : Addr) (vs : List Value) : Prop := ∀ i u, vs[i]? = some u → w.cell? (a.add i) = some u

/-- nothing is frozen among so many cells -/
def FzOk (fz : Nat × Nat) (n : Nat) : Prop := fz.1 = fz.2 ∨ n ≤ fz.1
theorem FzOk.not {fz : Nat × Nat} {n off : Nat} (h : FzOk fz n) (ho : off < n) : ¬ (fz.1 ≤ off ∧ off < fz.2) := by unfold FzOk at h; omega

def OwnOk (β : Env) (w : World) (h : Value) (t : Ty) (l : List t.D) : Prop :=
  ∃ a n c, h = .slice a n c ∧ n = l.length ∧ n ≤ c ∧ (a = none → c = 0) ∧
    (0 < c → ∃ (a0 : Addr) (pre vss rest : List Value) (elem : TypeId) (fz : Nat × Nat), a = some a0 ∧ a0.spot = none ∧ w.heap[a0.block]? = some (.cells (pre ++ (vss ++ rest)).toArray elem fz) ∧
      pre.length = a0.off ∧ HasL (t.has β true) l vss ∧ (c - n) * t.w ≤ rest.length ∧ FzOk fz (pre ++ (vss ++ rest)).length)

def ItemOk (β : Env) (L : Nat → Option Kd) (w : World) (i : Nat) : Item → Prop
  | .blk cells elem => ∃ (c : List Value) (fz : Nat × Nat), w.heap[β.b i]? = some (.cells c.toArray elem fz) ∧ FzOk fz c.length ∧ DenL β L cells c
  | .own _ t l => OwnOk β w (β.h i) t l
  | .gone _ => True

/-- what a slice reads as -/
def ReadsAs (β : Env) (pm : Bool) (w : World) (v : Value) (t : Ty) (l : List t.D) : Prop :=
  ∃ a n c, v = .slice a n c ∧ n = l.length ∧ n ≤ c ∧ (a = none → c = 0) ∧ (0 < n → ∃ (a0 : Addr) (vss : List Value), a = some a0 ∧ a0.spot = none ∧ HasL (t.has β pm) l vss ∧ HoldsAt w a0 vss)
def inBlock : Value → Nat → Prop
  | .slice (some a) n _, b => 0 < n ∧ a.block = b
  | _, _ => False

theorem add_block (a : Addr) (n : Nat) : (a.add n).block = a.block := by unfold Addr.add; split <;> rfl
theorem HoldsAt.of {w w' : World} {a : Addr} {vs : List Value} (h : HoldsAt w a vs) (hs : vs ≠ [] → w'.heap[a.block]? = w.heap[a.block]?) : HoldsAt w' a vs := by
  intro i u hu
  have h1 := h i u hu
  have hne : vs ≠ [] := fun e => by subst e; simp at hu
  unfold World.cell? at h1 ⊢
  rw [add_block] at h1 ⊢
  rw [hs hne]; exact h1
theorem HoldsAt.lt {w : World} {a : Addr} {vs : List Value} (h : HoldsAt w a vs) (hne : vs ≠ []) : a.block < w.heap.size := by
  cases vs with
  | nil => exact absurd rfl hne
  | cons v vs =>
    have := h 0 v (by simp)
    unfold World.cell? at this
    rw [add_block] at this
    split at this
    · rename_i h1; exact (Array.getElem?_eq_some_iff.1 h1).1
    · cases this

theorem ReadsAs.of {β : Env} {pm : Bool} {w w' : World} {v : Value} {t : Ty} {l : List t.D} (h : ReadsAs β pm w v t l) (hs : ∀ b, inBlock v b → b < w.heap.size → w'.heap[b]? = w.heap[b]?) : ReadsAs β pm w' v t l := by
  obtain ⟨a, n, c, rfl, hn, hc, hz, hr⟩ := h
  refine ⟨a, n, c, rfl, hn, hc, hz, fun h0 => ?_⟩
  obtain ⟨a0, vss, rfl, h1, h2, h3⟩ := hr h0
  exact ⟨a0, vss, rfl, h1, h2, h3.of fun hne => hs _ ⟨h0, rfl⟩ (h3.lt hne)⟩
theorem ReadsAs.mono {β β' : Env} (hm : ∀ pm v t l, β.rd pm v t l → β'.rd pm v t l) {pm : Bool} {w : World} {v : Value} {t : Ty} {l : List t.D} (h : ReadsAs β pm w v t l) : ReadsAs β' pm w v t l := by
  obtain ⟨a, n, c, rfl, hn, hc, hz, hr⟩ := h
  refine ⟨a, n, c, rfl, hn, hc, hz, fun h0 => ?_⟩
  obtain ⟨a0, vss, rfl, h1, h2, h3⟩ := hr h0
  exact ⟨a0, vss, rfl, h1, h2.imp fun _ _ => t.has_mono hm, h3⟩

/-- what is known of the blocks; W: the world as the function began -/
structure HRel (W : World) (hp₀ : Hp) (β₀ β : Env) (hp : Hp) (w : World) : Prop where
  items : ∀ i x, hp[i]? = some (some x) → ItemOk β (kd hp) w i x
  inj : ∀ i j x y b, hp[i]? = some (some x) → hp[j]? = some (some y) → Owns β x i b → Owns β y j b → i = j
  first : Agree β₀ β (kd hp₀) (kd hp)
  own : ∀ i x b, hp[i]? = some (some x) → Owns β x i b → W.heap.size ≤ b ∨ ∃ y, hp₀[i]? = some (some y) ∧ Owns β₀ y i b
  os : w.os = W.os
  output : w.output = W.output
  size : W.heap.size ≤ w.heap.size
  keep : ∀ b, b < W.heap.size → ¬ Owned hp₀ β₀ b → w.heap[b]? = W.heap[b]?
  reads : ∀ pm v t l, β.rd pm v t l → ReadsAs β pm w v t l ∧ ∀ b, inBlock v b → b < w.heap.size ∧ ¬ Owned hp β b
  from_ : ∀ pm v t l b, β.rd pm v t l → inBlock v b → W.heap.size ≤ b ∨ ∃ pm' v' t' l', (pm = true → pm' = true) ∧ β₀.rd pm' v' t' l' ∧ inBlock v' b

structure Rel (W : World) (hp₀ : Hp) (β₀ β : Env) (st : St) (a : Act) (w : World) : Prop where
  defers : a.defers = []
  fr : All2 (LV.den β (kd st.hp)) st.fr a.tmps.toList
  heap : HRel W hp₀ β₀ β st.hp w

/-! ### Laws of items -/
/-- an item at a place -/
def setAt : Hp → Nat → Item → Hp
  | [], 0, b => [some b]
  | [], n + 1, b => none :: setAt [] n b
  | _ :: l, 0, b => some b :: l
  | x :: l, n + 1, b => x :: setAt l n b

theorem setAt_same : ∀ (hp : Hp) (i : Nat) (b : Item), (setAt hp i b)[i]? = some (some b)
  | [], 0, _ => rfl
  | [], n + 1, b => by simp [setAt, setAt_same [] n b]
  | _ :: _, 0, _ => rfl
  | _ :: l, n + 1, b => by simp [setAt, setAt_same l n b]
theorem setAt_nil : ∀ (i : Nat) (b : Item) (j : Nat) (x : Item), j ≠ i → (setAt [] i b)[j]? ≠ some (some x)
  | 0, b, 0, _, h => absurd rfl h
  | 0, b, j + 1, _, _ => by simp [setAt]
  | n + 1, b, 0, _, _ => by simp [setAt]
  | n + 1, b, j + 1, x, h => by
    have := setAt_nil n b j x (by omega)
    simpa [setAt] using this
theorem setAt_other : ∀ (hp : Hp) (i : Nat) (b : Item) (j : Nat) (x : Item), j ≠ i → ((setAt hp i b)[j]? = some (some x) ↔ hp[j]? = some (some x))
  | [], i, b, j, x, h => ⟨fun hh => absurd hh (setAt_nil i b j x h), fun hh => by simp at hh⟩
  | _ :: _, 0, _, 0, _, h => absurd rfl h
  | _ :: _, 0, _, j + 1, _, _ => by simp [setAt]
  | _ :: _, n + 1, _, 0, _, _ => by simp [setAt]
  | _ :: l, n + 1, b, j + 1, x, h => by
    have := setAt_other l n b j x (by omega)
    simpa [setAt] using this
theorem setAt_length : ∀ (hp : Hp) (b : Item), setAt hp hp.length b = hp ++ [some b]
  | [], _ => rfl
  | _ :: l, b => by simp [setAt, setAt_length l b]
theorem kd_setAt (hp : Hp) (i : Nat) (x : Item) (j : Nat) : kd (setAt hp i x) j = if j = i then some x.kd else kd hp j := by
  split
  · rename_i h; subst h; exact kd_of (setAt_same hp j x)
  · rename_i h
    unfold kd
    split
    · rename_i y hy
      rw [(setAt_other hp i x j y h).1 hy]
    · rename_i hn
      split
      · rename_i y hy; exact absurd ((setAt_other hp i x j y h).2 hy) (hn y)
      · rfl

section
variable {W : World} {hp₀ : Hp} {β₀ β : Env} {hp : Hp} {w : World}

theorem Owns.congr {β β' : Env} {x : Item} {i b : Nat} (hb : β'.b i = β.b i) (hh : β'.h i = β.h i) : Owns β' x i b ↔ Owns β x i b := by
  cases x <;> simp only [Owns, hb, hh]
theorem OwnOk.of {β β' : Env} {w w' : World} {h : Value} {t : Ty} {l : List t.D} (hm : ∀ pm v t l, β.rd pm v t l → β'.rd pm v t l) (hk : OwnOk β w h t l) (hw : ∀ a n c, h = .slice (some a) n c → 0 < c → w'.heap[a.block]? = w.heap[a.block]?) : OwnOk β' w' h t l := by
  obtain ⟨a, n, c, rfl, h1, h2, h3, h4⟩ := hk
  refine ⟨a, n, c, rfl, h1, h2, h3, fun h0 => ?_⟩
  obtain ⟨a0, pre, vss, rest, elem, fz, rfl, k1, k2, k3, k4, k5⟩ := h4 h0
  exact ⟨a0, pre, vss, rest, elem, fz, rfl, k1, by rw [hw _ _ _ rfl h0]; exact k2, k3, k4.imp fun _ _ => t.has_mono hm, k5⟩
theorem ItemOk.of {β β' : Env} {L L' : Nat → Option Kd} {w w' : World} {i : Nat} {x : Item} (ha : Agree β β' L L') (hb : β'.b i = β.b i) (hh : β'.h i = β.h i) (h : ItemOk β L w i x) (hw : ∀ b, Owns β x i b → w'.heap[b]? = w.heap[b]?) : ItemOk β' L' w' i x := by
  cases x with
  | blk cells elem =>
    obtain ⟨c, fz, h1, h2, h3⟩ := h
    exact ⟨c, fz, by rw [hb, hw _ rfl]; exact h1, h2, h3.mono ha⟩
  | own v t l =>
    show OwnOk β' w' (β'.h i) t l
    rw [hh]
    exact OwnOk.of ha.rd h fun a n c e h0 => hw _ ⟨a, n, c, e, h0, rfl⟩
  | gone v => trivial

theorem OwnOk.lt {β : Env} {w : World} {h : Value} {t : Ty} {l : List t.D} (hk : OwnOk β w h t l) {a : Addr} {n c : Nat} (e : h = .slice (some a) n c) (h0 : 0 < c) : a.block < w.heap.size := by
  obtain ⟨a', n', c', rfl, _, _, _, h4⟩ := hk
  simp at e; obtain ⟨rfl, rfl, rfl⟩ := e
  obtain ⟨a0, _, _, _, _, _, e, _, k, _⟩ := h4 h0
  simp at e; subst e
  exact (Array.getElem?_eq_some_iff.1 k).1
theorem ItemOk.lt {β : Env} {L : Nat → Option Kd} {w : World} {i : Nat} {x : Item} (h : ItemOk β L w i x) {b : Nat} (ho : Owns β x i b) : b < w.heap.size := by
  cases x with
  | blk cells elem =>
    obtain ⟨c, fz, h1, _⟩ := h
    have ho' : b = β.b i := ho
    subst ho'
    exact (Array.getElem?_eq_some_iff.1 h1).1
  | own v t l =>
    obtain ⟨a, n, c, e, h0, rfl⟩ := ho
    exact OwnOk.lt h e h0
  | gone v => exact ho.elim

theorem HRel.lt (h : HRel W hp₀ β₀ β hp w) {b : Nat} (ho : Owned hp β b) : b < w.heap.size := by
  obtain ⟨i, x, hi, ho⟩ := ho
  exact (h.items i x hi).lt ho

/-- an item more -/
theorem HRel.add (h : HRel W hp₀ β₀ β hp w) {id : Nat} (hid : kd hp id = none) {x : Item} {β' : Env} {w' : World}
    (hb : ∀ j, j ≠ id → β'.b j = β.b j) (hh : ∀ j, j ≠ id → β'.h j = β.h j) (hrd : β'.rd = β.rd) (hs : w.heap.size ≤ w'.heap.size) (hos : w'.os = w.os) (hout : w'.output = w.output)
    (hold : ∀ b, b < w.heap.size → w'.heap[b]? = w.heap[b]?) (hown : ∀ b, Owns β' x id b → w.heap.size ≤ b) (hit : Agree β β' (kd hp) (kd (setAt hp id x)) → ItemOk β' (kd (setAt hp id x)) w' id x) :
    HRel W hp₀ β₀ β' (setAt hp id x) w' ∧ Agree β β' (kd hp) (kd (setAt hp id x)) := by
  have hne : ∀ {i k}, kd hp i = some k → i ≠ id := fun hi e => by subst e; rw [hid] at hi; cases hi
  have hne' : ∀ {i y}, hp[i]? = some (some y) → i ≠ id := fun hi => hne (kd_of hi)
  have hag : Agree β β' (kd hp) (kd (setAt hp id x)) := by
    refine ⟨fun i hi => ⟨by rw [kd_setAt, if_neg (hne hi)]; exact hi, hb i (hne hi)⟩, fun i c hi => ⟨c, by rw [kd_setAt, if_neg (hne hi)]; exact hi, Nat.le_refl _, fun _ => hh i (hne hi)⟩, fun pm v t l hr => by rw [hrd]; exact hr⟩
  have hget : ∀ {i y}, (setAt hp id x)[i]? = some (some y) → (i = id ∧ y = x) ∨ (i ≠ id ∧ hp[i]? = some (some y)) := by
    intro i y hi
    by_cases e : i = id
    · subst e; rw [setAt_same] at hi; simp at hi; exact .inl ⟨rfl, hi.symm⟩
    · exact .inr ⟨e, (setAt_other hp id x i y e).1 hi⟩
  have howned : ∀ {b}, Owned (setAt hp id x) β' b → w.heap.size ≤ b ∨ Owned hp β b := by
    rintro b ⟨i, y, hi, ho⟩
    rcases hget hi with ⟨rfl, rfl⟩ | ⟨e, hi'⟩
    · exact .inl (hown b ho)
    · exact .inr ⟨i, y, hi', (Owns.congr (hb i e) (hh i e)).1 ho⟩
  refine ⟨⟨?_, ?_, h.first.trans hag, ?_, hos.trans h.os, hout.trans h.output, Nat.le_trans h.size hs, ?_, ?_, ?_⟩, hag⟩
  · intro i y hi
    rcases hget hi with ⟨rfl, rfl⟩ | ⟨e, hi'⟩
    · exact hit hag
    · exact (h.items i y hi').of hag (hb i e) (hh i e) fun b ho => hold b ((h.items i y hi').lt ho)
  · intro i j y z b hi hj h1 h2
    rcases hget hi with ⟨rfl, rfl⟩ | ⟨ei, hi'⟩ <;> rcases hget hj with ⟨e, rfl⟩ | ⟨ej, hj'⟩
    · exact e.symm
    · have k1 := hown b h1
      have k2 := (h.items j z hj').lt ((Owns.congr (hb j ej) (hh j ej)).1 h2)
      omega
    · subst e
      have k1 := hown b h2
      have k2 := (h.items i y hi').lt ((Owns.congr (hb i ei) (hh i ei)).1 h1)
      omega
    · exact h.inj i j y z b hi' hj' ((Owns.congr (hb i ei) (hh i ei)).1 h1) ((Owns.congr (hb j ej) (hh j ej)).1 h2)
  · intro i y b hi ho
    rcases hget hi with ⟨rfl, rfl⟩ | ⟨e, hi'⟩
    · exact .inl (Nat.le_trans h.size (hown b ho))
    · exact h.own i y b hi' ((Owns.congr (hb i e) (hh i e)).1 ho)
  · intro b hb' hne
    rw [hold b (by have := h.size; omega)]
    exact h.keep b hb' hne
  · intro pm v t l hr
    rw [hrd] at hr
    obtain ⟨h1, h2⟩ := h.reads pm v t l hr
    refine ⟨(h1.of fun b hb' hl => hold b hl).mono fun pm v t l hr => by rw [hrd]; exact hr, fun b hb' => ⟨Nat.lt_of_lt_of_le (h2 b hb').1 hs, fun ho => ?_⟩⟩
    rcases howned ho with k | k
    · have := (h2 b hb').1; omega
    · exact (h2 b hb').2 k
  · intro pm v t l b hr hb'
    rw [hrd] at hr
    exact h.from_ pm v t l b hr hb'

/-- an item that turns into another one -/
theorem HRel.upd (h : HRel W hp₀ β₀ β hp w) {i : Nat} {x x' : Item} (hi : hp[i]? = some (some x)) {β' : Env} {w' : World}
    (hb : β'.b = β.b) (hh : ∀ j, j ≠ i → β'.h j = β.h j) (hrd : β'.rd = β.rd)
    (hkd : (x.kd = .blk ∧ x'.kd = .blk) ∨ ∃ c c', x.kd = .own c ∧ x'.kd = .own c' ∧ c ≤ c' ∧ (c = c' → β'.h i = β.h i))
    (hs : w.heap.size ≤ w'.heap.size) (hos : w'.os = w.os) (hout : w'.output = w.output)
    (hold : ∀ b, b < w.heap.size → ¬ Owns β x i b → w'.heap[b]? = w.heap[b]?) (hown : ∀ b, Owns β' x' i b → Owns β x i b ∨ w.heap.size ≤ b)
    (hit : Agree β β' (kd hp) (kd (hp.set i (some x'))) → ItemOk β' (kd (hp.set i (some x'))) w' i x') :
    HRel W hp₀ β₀ β' (hp.set i (some x')) w' ∧ Agree β β' (kd hp) (kd (hp.set i (some x'))) := by
  have hil : i < hp.length := (List.getElem?_eq_some_iff.1 hi).1
  have hself : (hp.set i (some x'))[i]? = some (some x') := List.getElem?_set_self hil
  have hother : ∀ j, j ≠ i → (hp.set i (some x'))[j]? = hp[j]? := fun j hj => List.getElem?_set_ne (Ne.symm hj)
  have hkds : kd (hp.set i (some x')) i = some x'.kd := kd_of hself
  have hkdo : ∀ j, j ≠ i → kd (hp.set i (some x')) j = kd hp j := fun j hj => by unfold kd; rw [hother j hj]
  have hag : Agree β β' (kd hp) (kd (hp.set i (some x'))) := by
    refine ⟨fun j hj => ?_, fun j c hj => ?_, fun pm v t l hr => by rw [hrd]; exact hr⟩
    · by_cases e : j = i
      · subst e
        rw [kd_of hi] at hj; simp at hj
        rcases hkd with ⟨_, k⟩ | ⟨c, c', k, _⟩
        · exact ⟨by rw [hkds, k], by rw [hb]⟩
        · rw [hj] at k; cases k
      · exact ⟨by rw [hkdo j e]; exact hj, by rw [hb]⟩
    · by_cases e : j = i
      · subst e
        rw [kd_of hi] at hj; simp at hj
        rcases hkd with ⟨k, _⟩ | ⟨c1, c', k, k1, k2, k3⟩
        · rw [hj] at k; cases k
        · rw [hj] at k; simp at k; subst k
          exact ⟨c', by rw [hkds, k1], k2, k3⟩
      · exact ⟨c, by rw [hkdo j e]; exact hj, Nat.le_refl _, fun _ => hh j e⟩
  have hget : ∀ {j y}, (hp.set i (some x'))[j]? = some (some y) → (j = i ∧ y = x') ∨ (j ≠ i ∧ hp[j]? = some (some y)) := by
    intro j y hj
    by_cases e : j = i
    · subst e; rw [hself] at hj; simp at hj; exact .inl ⟨rfl, hj.symm⟩
    · exact .inr ⟨e, by rw [hother j e] at hj; exact hj⟩
  have hcongr : ∀ {j y b}, j ≠ i → (Owns β' y j b ↔ Owns β y j b) := fun e => Owns.congr (by rw [hb]) (hh _ e)
  have hx := h.items i x hi
  have hnot : ∀ {j y b}, j ≠ i → hp[j]? = some (some y) → Owns β y j b → ¬ Owns β x i b := fun e hj h1 h2 => e (h.inj _ _ _ _ _ hj hi h1 h2)
  have howned : ∀ {b}, Owned (hp.set i (some x')) β' b → w.heap.size ≤ b ∨ Owned hp β b := by
    rintro b ⟨j, y, hj, ho⟩
    rcases hget hj with ⟨rfl, rfl⟩ | ⟨e, hj'⟩
    · rcases hown b ho with k | k
      · exact .inr ⟨_, x, hi, k⟩
      · exact .inl k
    · exact .inr ⟨j, y, hj', (hcongr e).1 ho⟩
  refine ⟨⟨?_, ?_, h.first.trans hag, ?_, hos.trans h.os, hout.trans h.output, Nat.le_trans h.size hs, ?_, ?_, ?_⟩, hag⟩
  · intro j y hj
    rcases hget hj with ⟨rfl, rfl⟩ | ⟨e, hj'⟩
    · exact hit hag
    · exact (h.items j y hj').of hag (by rw [hb]) (hh j e) fun b ho => hold b ((h.items j y hj').lt ho) (hnot e hj' ho)
  · intro j k y z b hj hk h1 h2
    rcases hget hj with ⟨ej, rfl⟩ | ⟨ej, hj'⟩ <;> rcases hget hk with ⟨ek, rfl⟩ | ⟨ek, hk'⟩
    · rw [ej, ek]
    · subst ej
      have k2 := (hcongr ek).1 h2
      rcases hown b h1 with k | k
      · exact absurd k (hnot ek hk' k2)
      · have := (h.items _ z hk').lt k2; omega
    · subst ek
      have k1 := (hcongr ej).1 h1
      rcases hown b h2 with k | k
      · exact absurd k (hnot ej hj' k1)
      · have := (h.items _ y hj').lt k1; omega
    · exact h.inj j k y z b hj' hk' ((hcongr ej).1 h1) ((hcongr ek).1 h2)
  · intro j y b hj ho
    rcases hget hj with ⟨rfl, rfl⟩ | ⟨e, hj'⟩
    · rcases hown b ho with k | k
      · exact h.own _ x b hi k
      · exact .inl (Nat.le_trans h.size k)
    · exact h.own j y b hj' ((hcongr e).1 ho)
  · intro b hb' hne
    rw [hold b (by have := h.size; omega) fun ho => ?_]
    · exact h.keep b hb' hne
    · rcases h.own i x b hi ho with k | ⟨y, k⟩
      · omega
      · exact hne ⟨i, y, k⟩
  · intro pm v t l hr
    rw [hrd] at hr
    obtain ⟨h1, h2⟩ := h.reads pm v t l hr
    refine ⟨(h1.of fun b hb' hl => hold b hl fun ho => (h2 b hb').2 ⟨i, x, hi, ho⟩).mono fun pm v t l hr => by rw [hrd]; exact hr, fun b hb' => ⟨Nat.lt_of_lt_of_le (h2 b hb').1 hs, fun ho => ?_⟩⟩
    rcases howned ho with k | k
    · have := (h2 b hb').1; omega
    · exact (h2 b hb').2 k
  · intro pm v t l b hr hb'
    rw [hrd] at hr
    exact h.from_ pm v t l b hr hb'

theorem HRel.drew (h : HRel W hp₀ β₀ β hp w) (n : Nat) (tp : Tape) : HRel W hp₀ β₀ β hp { w with drawn := n, tape := tp } :=
  ⟨h.items, h.inj, h.first, h.own, h.os, h.output, h.size, h.keep, h.reads, h.from_⟩

/-- one more slice that is only read -/
def Env.addRd (β : Env) (pm : Bool) (v : Value) (t : Ty) (l : List t.D) : Env := ⟨β.b, β.h, fun pm' v' t' l' => β.rd pm' v' t' l' ∨ (pm' = pm ∧ v' = v ∧ ∃ e : t = t', e ▸ l = l')⟩
theorem HRel.addRd (h : HRel W hp₀ β₀ β hp w) {pm : Bool} {v : Value} {t : Ty} {l : List t.D} (hr : ReadsAs β pm w v t l)
    (hb : ∀ b, inBlock v b → b < w.heap.size ∧ ¬ Owned hp β b ∧ (W.heap.size ≤ b ∨ ∃ pm' v' t' l', (pm = true → pm' = true) ∧ β₀.rd pm' v' t' l' ∧ inBlock v' b)) :
    HRel W hp₀ β₀ (β.addRd pm v t l) hp w ∧ Agree β (β.addRd pm v t l) (kd hp) (kd hp) ∧ (β.addRd pm v t l).rd pm v t l := by
  have hm : ∀ pm' v' t' l', β.rd pm' v' t' l' → (β.addRd pm v t l).rd pm' v' t' l' := fun _ _ _ _ h => .inl h
  have hag : Agree β (β.addRd pm v t l) (kd hp) (kd hp) := ⟨fun i hi => ⟨hi, rfl⟩, fun i c hi => ⟨c, hi, Nat.le_refl _, fun _ => rfl⟩, hm⟩
  have hoc : ∀ {x i b}, Owns (β.addRd pm v t l) x i b ↔ Owns β x i b := Owns.congr rfl rfl
  have hod : ∀ {b}, Owned hp (β.addRd pm v t l) b ↔ Owned hp β b := ⟨fun ⟨i, x, h1, h2⟩ => ⟨i, x, h1, hoc.1 h2⟩, fun ⟨i, x, h1, h2⟩ => ⟨i, x, h1, hoc.2 h2⟩⟩
  refine ⟨⟨fun i x hi => (h.items i x hi).of hag rfl rfl fun _ _ => rfl, fun i j x y b hi hj h1 h2 => h.inj i j x y b hi hj (hoc.1 h1) (hoc.1 h2), h.first.trans hag, fun i x b hi ho => h.own i x b hi (hoc.1 ho), h.os, h.output, h.size, h.keep, ?_, ?_⟩, hag, .inr ⟨rfl, rfl, rfl, rfl⟩⟩
  · rintro pm' v' t' l' (hv | ⟨rfl, rfl, rfl, rfl⟩)
    · obtain ⟨h1, h2⟩ := h.reads pm' v' t' l' hv
      exact ⟨h1.mono hm, fun b hb' => ⟨(h2 b hb').1, fun ho => (h2 b hb').2 (hod.1 ho)⟩⟩
    · exact ⟨hr.mono hm, fun b hb' => ⟨(hb b hb').1, fun ho => (hb b hb').2.1 (hod.1 ho)⟩⟩
  · rintro pm' v' t' l' b (hv | ⟨rfl, rfl, rfl, rfl⟩) hbl
    · exact h.from_ pm' v' t' l' b hv hbl
    · exact (hb b hbl).2.2
end

end Go.Ev
