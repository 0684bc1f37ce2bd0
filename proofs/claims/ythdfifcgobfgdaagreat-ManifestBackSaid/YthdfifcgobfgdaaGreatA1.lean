/- What the laws lean on, part 1: a reader of code, plain facts, and what each function gives; no conditions. -/
import Derived.Tactics
import Derived.Laws.World
import Derived.Laws.Rows
import Derived.Laws.Cells
import Derived.Laws.Small
import Derived.Laws.StructEq
import Derived.ChangeKeysEq
import Derived.Laws.BitsLemmas
import Derived.Laws.NewFold
section
set_option linter.unusedVariables false
set_option linter.unusedSimpArgs false
namespace Go.Ev
open Go
inductive All2 {α β : Type} (R : α → β → Prop) : List α → List β → Prop where
  | nil : All2 R [] []
  | cons {a b l m} (h : R a b) (t : All2 R l m) : All2 R (a :: l) (b :: m)
section
variable {α β : Type} {R S : α → β → Prop}
theorem All2.length {l : List α} {m : List β} (h : All2 R l m) : l.length = m.length := by
  induction h with
  | nil => rfl
  | cons _ _ ih => simp [ih]
theorem All2.imp {l : List α} {m : List β} (h : All2 R l m) (f : ∀ a b, R a b → S a b) : All2 S l m := by
  induction h with
  | nil => exact .nil
  | cons h _ ih => exact .cons (f _ _ h) ih
theorem All2.imp_mem {l : List α} {m : List β} (h : All2 R l m) (f : ∀ a b, a ∈ l → R a b → S a b) : All2 S l m := by
  induction h with
  | nil => exact .nil
  | cons h _ ih => exact .cons (f _ _ (by simp) h) (ih fun a b ha => f a b (by simp [ha]))
theorem All2.get {l : List α} {m : List β} (h : All2 R l m) : ∀ {i : Nat} {a : α}, l[i]? = some a → ∃ b, m[i]? = some b ∧ R a b := by
  induction h with
  | nil => intro i a h; simp at h
  | cons h _ ih =>
    intro i a hi
    cases i with
    | zero => simp at hi; subst hi; exact ⟨_, by simp, h⟩
    | succ i => simp at hi; obtain ⟨b, hb, hr⟩ := ih hi; exact ⟨b, by simpa using hb, hr⟩
theorem All2.set {l : List α} {m : List β} (h : All2 R l m) : ∀ (i : Nat) {a : α} {b : β}, R a b → All2 R (l.set i a) (m.set i b) := by
  induction h with
  | nil => intro i a b _; exact .nil
  | cons h t ih =>
    intro i a b hr
    cases i with
    | zero => exact .cons hr t
    | succ i => exact .cons h (ih i hr)
theorem All2.append {l l' : List α} {m m' : List β} (h : All2 R l m) (h' : All2 R l' m') : All2 R (l ++ l') (m ++ m') := by
  induction h with
  | nil => exact h'
  | cons h _ ih => exact .cons h ih
theorem All2.of_map {γ : Type} (f : γ → α) (g : γ → β) (l : List γ) (h : ∀ x ∈ l, R (f x) (g x)) : All2 R (l.map f) (l.map g) := by
  induction l with
  | nil => exact .nil
  | cons x l ih => exact .cons (h x (by simp)) (ih fun y hy => h y (by simp [hy]))
theorem All2.map_left {γ : Type} {T : γ → β → Prop} {f : α → γ} {l : List α} {m : List β} (h : All2 R l m) (hf : ∀ a b, R a b → T (f a) b) : All2 T (l.map f) m := by
  induction h with
  | nil => exact .nil
  | cons h _ ih => exact .cons (hf _ _ h) ih
end
/-- a row of values that falls into parts, one for each of a list -/
inductive HasL {α : Type} (R : α → List Value → Prop) : List α → List Value → Prop where
  | nil : HasL R [] []
  | cons {x l vs ws} (h : R x vs) (t : HasL R l ws) : HasL R (x :: l) (vs ++ ws)
section
variable {α : Type} {R S : α → List Value → Prop}
theorem HasL.imp_mem {l : List α} {vs : List Value} (h : HasL R l vs) (f : ∀ x vs, x ∈ l → R x vs → S x vs) : HasL S l vs := by
  induction h with
  | nil => exact .nil
  | cons h _ ih => exact .cons (f _ _ (by simp) h) (ih fun x vs hx => f x vs (by simp [hx]))
theorem HasL.imp {l : List α} {vs : List Value} (h : HasL R l vs) (f : ∀ x vs, R x vs → S x vs) : HasL S l vs := h.imp_mem fun x vs _ => f x vs
theorem HasL.append {l m : List α} {vs ws : List Value} (h : HasL R l vs) (h' : HasL R m ws) : HasL R (l ++ m) (vs ++ ws) := by
  induction h with
  | nil => exact h'
  | cons h _ ih => rw [List.cons_append, List.append_assoc]; exact .cons h ih
theorem HasL.one {x : α} {vs : List Value} (h : R x vs) : HasL R [x] vs := by have := HasL.cons h .nil; simpa using this
theorem HasL.of_one {x : α} {vs : List Value} (h : HasL R [x] vs) : R x vs := by
  cases h with
  | cons h t => cases t; simpa using h
theorem HasL.split : ∀ {l m : List α} {vs : List Value}, HasL R (l ++ m) vs → ∃ v1 v2, vs = v1 ++ v2 ∧ HasL R l v1 ∧ HasL R m v2
  | [], m, vs, h => ⟨[], vs, rfl, .nil, h⟩
  | x :: l, m, _, .cons (vs := vs) h t => by
    obtain ⟨v1, v2, rfl, h1, h2⟩ := HasL.split t
    exact ⟨vs ++ v1, v2, by simp, .cons h h1, h2⟩
theorem HasL.length {k : Nat} (hk : ∀ x vs, R x vs → vs.length = k) {l : List α} {vs : List Value} (h : HasL R l vs) : vs.length = l.length * k := by
  induction h with
  | nil => simp
  | cons h _ ih => rw [List.length_append, hk _ _ h, ih, List.length_cons, Nat.succ_mul]; omega
theorem HasL.get {l : List α} {vs : List Value} (h : HasL R l vs) {i : Nat} {x : α} (hi : l[i]? = some x) :
    ∃ a u b, vs = a ++ (u ++ b) ∧ R x u ∧ HasL R (l.take i) a ∧ HasL R (l.drop (i + 1)) b := by
  have hl : i < l.length := (List.getElem?_eq_some_iff.1 hi).1
  have hx : l[i] = x := (List.getElem?_eq_some_iff.1 hi).2
  have e : l = l.take i ++ (x :: l.drop (i + 1)) := by rw [← hx, List.getElem_cons_drop, List.take_append_drop]
  rw [e] at h
  obtain ⟨v1, v2, rfl, h1, h2⟩ := HasL.split h
  cases h2 with
  | cons h3 h4 => exact ⟨v1, _, _, rfl, h3, h1, h4⟩
theorem HasL.of_get {l : List α} {i : Nat} {x : α} (hi : i < l.length) {a u b : List Value} (h : R x u) (ha : HasL R (l.take i) a) (hb : HasL R (l.drop (i + 1)) b) : HasL R (l.set i x) (a ++ (u ++ b)) := by
  rw [List.set_eq_take_append_cons_drop, if_pos hi]
  exact ha.append (.cons h hb)
end
/-- the shape of an element -/
inductive Ty where
  | int (k : IntKind)
  | bool
  | flt
  | str
  | sl (t : Ty)
  | pair (a b : Ty)
  | arr (t : Ty) (n : Nat)
  deriving DecidableEq
/-- what an element of a shape is -/
@[reducible] def Ty.D : Ty → Type
  | .int _ => Int
  | .bool => Bool
  | .flt => Nat
  | .str => List Int
  | .sl t => List t.D
  | .pair a b => a.D × b.D
  | .arr t _ => List t.D
def Ty.z : (t : Ty) → t.D
  | .int _ => (0 : Int)
  | .bool => false
  | .flt => (0 : Nat)
  | .str => ([] : List Int)
  | .sl _ => []
  | .pair a b => (a.z, b.z)
  | .arr t n => List.replicate n t.z
/-- how many cells it takes -/
def Ty.w : Ty → Nat
  | .int _ | .bool | .flt | .str | .sl _ => 1
  | .pair a b => a.w + b.w
  | .arr t n => n * t.w
/-- a string of bytes -/
def strOf (l : List Int) : ByteArray := ⟨(l.map fun n => UInt8.ofNat n.toNat).toArray⟩
/-- what stands open: where the blocks lie, the own slices' headers, what is only read (for good or for now) -/
structure Env where
  b : Nat → Nat
  h : Nat → Value
  rd : Bool → Value → (t : Ty) → List t.D → Prop
instance : CoeFun Env (fun _ => Nat → Nat) := ⟨Env.b⟩
def RdOk (β : Env) (pm : Bool) (v : Value) (t : Ty) (l : List t.D) : Prop := β.rd true v t l ∨ (pm = false ∧ β.rd false v t l) ∨ (v = .slice none 0 0 ∧ l = [])
def Ty.has (β : Env) (pm : Bool) : (t : Ty) → t.D → List Value → Prop
  | .int k, n, vs => vs = [.int k n]
  | .bool, b, vs => vs = [.bool b]
  | .flt, n, vs => vs = [.float .f64 n]
  | .str, l, vs => vs = [.string (strOf l)]
  | .sl t, l, vs => ∃ v, vs = [v] ∧ v.oneCell' = true ∧ RdOk β pm v t l
  | .pair a b, x, vs => ∃ u w, vs = u ++ w ∧ a.has β pm x.1 u ∧ b.has β pm x.2 w
  | .arr t n, l, vs => l.length = n ∧ HasL (t.has β pm) l vs
theorem Ty.has_length {β : Env} {pm : Bool} : ∀ (t : Ty) {x : t.D} {vs : List Value}, t.has β pm x vs → vs.length = t.w
  | .int _, _, _, h => by simp only [Ty.has] at h; subst h; rfl
  | .bool, _, _, h => by simp only [Ty.has] at h; subst h; rfl
  | .flt, _, _, h => by simp only [Ty.has] at h; subst h; rfl
  | .str, _, _, h => by simp only [Ty.has] at h; subst h; rfl
  | .sl _, _, _, h => by simp only [Ty.has] at h; obtain ⟨v, rfl, _⟩ := h; rfl
  | .pair a b, _, _, h => by
    simp only [Ty.has] at h; obtain ⟨u, w, rfl, h1, h2⟩ := h
    simp [Ty.w, a.has_length h1, b.has_length h2]
  | .arr t n, _, _, h => by
    simp only [Ty.has] at h; obtain ⟨h1, h2⟩ := h
    rw [h2.length fun _ _ => t.has_length, h1]; rfl
theorem Ty.has_one {β : Env} {pm : Bool} : ∀ (t : Ty) {x : t.D} {vs : List Value}, t.has β pm x vs → ∀ v ∈ vs, v.oneCell' = true
  | .int _, _, _, h => by simp only [Ty.has] at h; subst h; simp [Value.oneCell']
  | .bool, _, _, h => by simp only [Ty.has] at h; subst h; simp [Value.oneCell']
  | .flt, _, _, h => by simp only [Ty.has] at h; subst h; simp [Value.oneCell']
  | .str, _, _, h => by simp only [Ty.has] at h; subst h; simp [Value.oneCell']
  | .sl _, _, _, h => by simp only [Ty.has] at h; obtain ⟨v, rfl, h, _⟩ := h; simpa using h
  | .pair a b, _, _, h => by
    simp only [Ty.has] at h; obtain ⟨u, w, rfl, h1, h2⟩ := h
    intro v hv
    rcases List.mem_append.1 hv with hv | hv
    · exact a.has_one h1 v hv
    · exact b.has_one h2 v hv
  | .arr t n, _, vs, h => by
    simp only [Ty.has] at h; obtain ⟨_, h2⟩ := h
    have key : ∀ {l : List t.D} {vs : List Value}, HasL (t.has β pm) l vs → ∀ v ∈ vs, v.oneCell' = true := by
      intro l vs h
      induction h with
      | nil => simp
      | cons h _ ih =>
        intro v hv
        rcases List.mem_append.1 hv with hv | hv
        · exact t.has_one h v hv
        · exact ih v hv
    exact key h2
theorem hasL_one {β : Env} {pm : Bool} {t : Ty} {l : List t.D} {vs : List Value} (h : HasL (t.has β pm) l vs) : ∀ v ∈ vs, v.oneCell' = true := by
  induction h with
  | nil => simp
  | cons h _ ih =>
    intro v hv
    rcases List.mem_append.1 hv with hv | hv
    · exact t.has_one h v hv
    · exact ih v hv
theorem hasL_length {β : Env} {pm : Bool} {t : Ty} {l : List t.D} {vs : List Value} (h : HasL (t.has β pm) l vs) : vs.length = l.length * t.w := h.length fun _ _ => t.has_length
inductive SI where
  | lit (n : Int)
  | sym (n : Int)
def SI.val : SI → Int
  | .lit n => n
  | .sym n => n
inductive SB where
  | lit (b : Bool)
  | sym (b : Bool)
def SB.val : SB → Bool
  | .lit b => b
  | .sym b => b
/-- what is known of the value of one cell (or, arr, of a row of cells) -/
inductive SV where
  | int (k : IntKind) (n : SI)
  | bool (b : SB)
  | flt (n : Nat)
  | str (l : List Int)
  | ptr (b off : Nat)
  /-- to one of n parts of a block, each of so many cells -/
  | ptrx (b base stride n : Nat) (z : Int)
  /-- of cells of a block -/
  | slice (b off len cap : Nat)
  | con (v : Value)
  | junk
  /-- a row of n elements -/
  | arr (t : Ty) (n : Nat) (l : List t.D)
  /-- a slice that is only read; pm: for good; nn: it is not nil -/
  | rd (pm nn : Bool) (t : Ty) (l : List t.D)
  /-- an own slice's header -/
  | sl (i ver : Nat)
  /-- n elements of an own slice, from z on -/
  | vw (i ver w : Nat) (z n : Int)
  /-- n elements of a row of m that lies in a block, from z on -/
  | vb (b o : Nat) (t : Ty) (m : Nat) (z n : Int)
  /-- to a cell of an element of a slice -/
  | ep (s : SV) (w : Nat) (z : Int) (f : Nat)
inductive VV where
  | sc (s : SV)
  | agg (l : List SV)
inductive LV where
  | one (x : VV)
  | tup (l : List VV)
  | junk
/-- kinds of items: a block; an own slice, and how often it has changed its place -/
inductive Kd where
  | blk
  | own (c : Nat)
  deriving DecidableEq
/-- n elements of what a header is of, from z on -/
def SubOf (h : Value) (w : Nat) (z n : Int) (v : Value) : Prop :=
  ∃ a m c a' c', h = .slice a m c ∧ 0 ≤ z ∧ 0 ≤ n ∧ z + n ≤ m ∧ v = .slice a' n.toNat c' ∧ n.toNat ≤ c' ∧ (a' = none → c' = 0) ∧ (0 < n → ∃ a0, a = some a0 ∧ a' = some (a0.add (z.toNat * w)))
def notNil : Value → Prop
  | .slice a _ _ => a ≠ none
  | _ => False
def SV.den (β : Env) (L : Nat → Option Kd) : SV → Value → Prop
  | .int k i, v => v = .int k i.val
  | .bool b, v => v = .bool b.val
  | .flt n, v => v = .float .f64 n
  | .str l, v => v = .string (strOf l)
  | .ptr b o, v => L b = some .blk ∧ v = .pointer (some ⟨β.b b, o, none⟩)
  | .ptrx b base stride n z, v => L b = some .blk ∧ z.toNat < n ∧ v = .pointer (some ⟨β.b b, base + z.toNat * stride, none⟩)
  | .slice b o l c, v => L b = some .blk ∧ v = .slice (some ⟨β.b b, o, none⟩) l c
  | .con c, v => c.oneCell' = true ∧ v = c
  | .junk, v => v.oneCell' = true
  | .arr _ _ _, _ => False
  | .rd pm nn t l, v => v.oneCell' = true ∧ (nn = true → notNil v) ∧ RdOk β pm v t l
  | .sl i ver, v => v.oneCell' = true ∧ ∃ c, L i = some (.own c) ∧ ver ≤ c ∧ (ver = c → v = β.h i)
  | .vw i ver w z n, v => v.oneCell' = true ∧ ∃ c, L i = some (.own c) ∧ ver ≤ c ∧ (ver = c → SubOf (β.h i) w z n v)
  | .vb b o t m z n, v => L b = some .blk ∧ 0 ≤ z ∧ 0 ≤ n ∧ z + n ≤ m ∧ ∃ a' c', v = .slice a' n.toNat c' ∧ n.toNat ≤ c' ∧ (a' = none → c' = 0) ∧ (0 < n → a' = some ((⟨β.b b, o, none⟩ : Addr).add (z.toNat * t.w)))
  | .ep s w z f, v => ∃ a n c, s.den β L (.slice (some a) n c) ∧ 0 ≤ z ∧ z < n ∧ v = .pointer (some (a.add (z.toNat * w + f)))
/-- which row of values -/
def SV.dens (β : Env) (L : Nat → Option Kd) : SV → List Value → Prop
  | .arr t n l, vs => l.length = n ∧ HasL (t.has β true) l vs
  | s, vs => ∃ v, vs = [v] ∧ s.den β L v
def SV.w : SV → Nat
  | .arr t n _ => n * t.w
  | _ => 1
abbrev DenL (β : Env) (L : Nat → Option Kd) : List SV → List Value → Prop := HasL (SV.dens β L)
def VV.den (β : Env) (L : Nat → Option Kd) : VV → Value → Prop
  | .sc s, v => s.den β L v
  | .agg l, v => ∃ cs : List Value, v = .agg cs.toArray ∧ DenL β L l cs
def LV.den (β : Env) (L : Nat → Option Kd) : LV → Value → Prop
  | .one x, v => x.den β L v
  | .tup l, v => ∃ vs : List Value, v = .tuple vs.toArray ∧ All2 (VV.den β L) l vs
  | .junk, _ => True
/-- what held goes on to hold -/
structure Agree (β β' : Env) (L L' : Nat → Option Kd) : Prop where
  blk : ∀ i, L i = some .blk → L' i = some .blk ∧ β'.b i = β.b i
  own : ∀ i c, L i = some (.own c) → ∃ c', L' i = some (.own c') ∧ c ≤ c' ∧ (c = c' → β'.h i = β.h i)
  rd : ∀ pm v t l, β.rd pm v t l → β'.rd pm v t l
theorem Agree.refl (β : Env) (L : Nat → Option Kd) : Agree β β L L := ⟨fun _ h => ⟨h, rfl⟩, fun _ c h => ⟨c, h, Nat.le_refl _, fun _ => rfl⟩, fun _ _ _ _ h => h⟩
theorem Agree.trans {β β' β'' : Env} {L L' L'' : Nat → Option Kd} (h : Agree β β' L L') (h' : Agree β' β'' L' L'') : Agree β β'' L L'' := by
  refine ⟨fun i hi => ⟨(h'.blk i (h.blk i hi).1).1, (h'.blk i (h.blk i hi).1).2.trans (h.blk i hi).2⟩, fun i c hi => ?_, fun pm v t l hr => h'.rd pm v t l (h.rd pm v t l hr)⟩
  obtain ⟨c1, h1, h2, h3⟩ := h.own i c hi
  obtain ⟨c2, h4, h5, h6⟩ := h'.own i c1 h1
  exact ⟨c2, h4, by omega, fun e => (h6 (by omega)).trans (h3 (by omega))⟩
theorem Agree.of {β : Env} {L L' : Nat → Option Kd} (h : ∀ i k, L i = some k → L' i = some k) : Agree β β L L' :=
  ⟨fun i hi => ⟨h i _ hi, rfl⟩, fun i c hi => ⟨c, h i _ hi, Nat.le_refl _, fun _ => rfl⟩, fun _ _ _ _ h => h⟩
theorem RdOk.mono {β β' : Env} (hr : ∀ pm v t l, β.rd pm v t l → β'.rd pm v t l) {pm : Bool} {v : Value} {t : Ty} {l : List t.D} (h : RdOk β pm v t l) : RdOk β' pm v t l :=
  h.imp (hr _ _ _ _) (Or.imp (fun ⟨a, b⟩ => ⟨a, hr _ _ _ _ b⟩) id)
theorem Ty.has_mono {β β' : Env} (hr : ∀ pm v t l, β.rd pm v t l → β'.rd pm v t l) {pm : Bool} : ∀ (t : Ty) {x : t.D} {vs : List Value}, t.has β pm x vs → t.has β' pm x vs
  | .int _, _, _, h => h
  | .bool, _, _, h => h
  | .flt, _, _, h => h
  | .str, _, _, h => h
  | .sl _, _, _, ⟨v, h1, h2, h3⟩ => ⟨v, h1, h2, h3.mono hr⟩
  | .pair a b, _, _, ⟨u, w, h, h1, h2⟩ => ⟨u, w, h, a.has_mono hr h1, b.has_mono hr h2⟩
  | .arr t _, _, _, ⟨h1, h2⟩ => ⟨h1, h2.imp fun _ _ => t.has_mono hr⟩
theorem SV.den_oneCell {β : Env} {L : Nat → Option Kd} {s : SV} {v : Value} (h : s.den β L v) : v.oneCell' = true := by
  cases s <;> simp only [SV.den] at h
  · subst h; rfl
  · subst h; rfl
  · subst h; rfl
  · subst h; rfl
  · obtain ⟨_, rfl⟩ := h; rfl
  · obtain ⟨_, _, rfl⟩ := h; rfl
  · obtain ⟨_, rfl⟩ := h; rfl
  · obtain ⟨h, rfl⟩ := h; exact h
  · exact h
  · exact h.1
  · exact h.1
  · exact h.1
  · obtain ⟨_, _, _, _, _, _, rfl, _⟩ := h; rfl
  · obtain ⟨_, _, _, _, _, _, rfl⟩ := h; rfl
theorem SV.den_mono {β β' : Env} {L L' : Nat → Option Kd} (ha : Agree β β' L L') : ∀ {s : SV} {v : Value}, s.den β L v → s.den β' L' v
  | .int _ _, _, h => h
  | .bool _, _, h => h
  | .flt _, _, h => h
  | .str _, _, h => h
  | .ptr _ _, _, ⟨h1, h2⟩ => ⟨(ha.blk _ h1).1, by rw [(ha.blk _ h1).2]; exact h2⟩
  | .ptrx _ _ _ _ _, _, ⟨h1, h2, h3⟩ => ⟨(ha.blk _ h1).1, h2, by rw [(ha.blk _ h1).2]; exact h3⟩
  | .slice _ _ _ _, _, ⟨h1, h2⟩ => ⟨(ha.blk _ h1).1, by rw [(ha.blk _ h1).2]; exact h2⟩
  | .con _, _, h => h
  | .junk, _, h => h
  | .rd _ _ _ _, _, ⟨h1, h2, h3⟩ => ⟨h1, h2, h3.mono ha.rd⟩
  | .sl i ver, _, ⟨h1, c, h2, h3, h4⟩ => by
    obtain ⟨c', k1, k2, k3⟩ := ha.own i c h2
    exact ⟨h1, c', k1, by omega, fun e => (h4 (by omega)).trans (k3 (by omega)).symm⟩
  | .vw i ver w z n, _, ⟨h1, c, h2, h3, h4⟩ => by
    obtain ⟨c', k1, k2, k3⟩ := ha.own i c h2
    exact ⟨h1, c', k1, by omega, fun e => by rw [k3 (by omega)]; exact h4 (by omega)⟩
  | .vb _ _ _ _ _ _, _, ⟨h1, h2, h3, h3', a', c', h4, h5, h6⟩ => ⟨(ha.blk _ h1).1, h2, h3, h3', a', c', h4, h5, by rw [(ha.blk _ h1).2]; exact h6⟩
  | .ep _ _ _ _, _, ⟨a, n, c, h1, h2⟩ => ⟨a, n, c, SV.den_mono ha h1, h2⟩
theorem SV.dens_mono {β β' : Env} {L L' : Nat → Option Kd} (ha : Agree β β' L L') {s : SV} {vs : List Value} (h : s.dens β L vs) : s.dens β' L' vs := by
  cases s with
  | arr t n l => exact ⟨h.1, h.2.imp fun _ _ => t.has_mono ha.rd⟩
  | _ => exact let ⟨v, h1, h2⟩ := h; ⟨v, h1, SV.den_mono ha h2⟩
theorem DenL.mono {β β' : Env} {L L' : Nat → Option Kd} (ha : Agree β β' L L') {l : List SV} {vs : List Value} (h : DenL β L l vs) : DenL β' L' l vs := h.imp fun _ _ => SV.dens_mono ha
theorem SV.dens_length {β : Env} {L : Nat → Option Kd} {s : SV} {vs : List Value} (h : s.dens β L vs) : vs.length = s.w := by
  cases s with
  | arr t n l => rw [hasL_length h.2, h.1]; rfl
  | _ => obtain ⟨v, rfl, _⟩ := h; rfl
theorem SV.dens_one {β : Env} {L : Nat → Option Kd} {s : SV} {vs : List Value} (h : s.dens β L vs) : ∀ v ∈ vs, v.oneCell' = true := by
  cases s with
  | arr t n l => exact hasL_one h.2
  | _ => obtain ⟨v, rfl, h⟩ := h; intro u hu; simp at hu; subst hu; exact SV.den_oneCell h
theorem SV.dens_of {β : Env} {L : Nat → Option Kd} {s : SV} {v : Value} (h : s.den β L v) : s.dens β L [v] := by
  cases s with
  | arr t n l => exact h.elim
  | _ => exact ⟨v, rfl, h⟩
theorem SV.den_of {β : Env} {L : Nat → Option Kd} {s : SV} {vs : List Value} (h : s.dens β L vs) (hs : ∀ t n l, s ≠ .arr t n l) : ∃ v, vs = [v] ∧ s.den β L v := by
  cases s with
  | arr t n l => exact absurd rfl (hs t n l)
  | _ => exact h
theorem DenL.oneCells {β : Env} {L : Nat → Option Kd} {l : List SV} {vs : List Value} (h : DenL β L l vs) : ∀ v ∈ vs, v.oneCell' = true := by
  induction h with
  | nil => simp
  | cons h _ ih =>
    intro v hv
    rcases List.mem_append.1 hv with hv | hv
    · exact SV.dens_one h v hv
    · exact ih v hv
/-- how many cells a list of descriptions takes -/
def wL : List SV → Nat
  | [] => 0
  | s :: l => s.w + wL l
theorem DenL.length {β : Env} {L : Nat → Option Kd} {l : List SV} {vs : List Value} (h : DenL β L l vs) : vs.length = wL l := by
  induction h with
  | nil => rfl
  | cons h _ ih => simp [wL, SV.dens_length h, ih]
theorem DenL.nil {β : Env} {L : Nat → Option Kd} : DenL β L [] [] := HasL.nil
theorem DenL.cons1 {β : Env} {L : Nat → Option Kd} {s : SV} {v : Value} {l : List SV} {vs : List Value} (h : s.den β L v) (t : DenL β L l vs) : DenL β L (s :: l) (v :: vs) := HasL.cons (SV.dens_of h) t
theorem VV.den_mono {β β' : Env} {L L' : Nat → Option Kd} (ha : Agree β β' L L') {s : VV} {v : Value} (h : s.den β L v) : s.den β' L' v := by
  cases s with
  | sc s => exact SV.den_mono ha h
  | agg l => obtain ⟨cs, rfl, h⟩ := h; exact ⟨cs, rfl, h.mono ha⟩
theorem LV.den_mono {β β' : Env} {L L' : Nat → Option Kd} (ha : Agree β β' L L') {s : LV} {v : Value} (h : s.den β L v) : s.den β' L' v := by
  cases s with
  | one x => exact VV.den_mono ha h
  | tup l => obtain ⟨cs, rfl, h⟩ := h; exact ⟨cs, rfl, h.imp fun _ _ => VV.den_mono ha⟩
  | junk => trivial
/-- a closed value's description -/
def SV.ofVal : Value → Option SV
  | .int k n => some (.int k (.lit n))
  | .bool b => some (.bool (.lit b))
  | .agg _ | .tuple _ => none
  | x => some (.con x)
def optAll {α β : Type} (f : α → Option β) : List α → Option (List β)
  | [] => some []
  | x :: l => match f x, optAll f l with
    | some y, some m => some (y :: m)
    | _, _ => none
def LV.ofVal : Value → LV
  | .agg cs => match optAll SV.ofVal cs.toList with
    | some l => .one (.agg l)
    | none => .junk
  | .tuple cs => if cs.isEmpty then .tup [] else .junk
  | x => match SV.ofVal x with
    | some s => .one (.sc s)
    | none => .junk
theorem SV.ofVal_den {β : Env} {L : Nat → Option Kd} {v : Value} {s : SV} (h : SV.ofVal v = some s) : s.den β L v := by
  cases v <;> simp [SV.ofVal] at h <;> subst h <;> simp [SV.den, SI.val, SB.val, Value.oneCell']
theorem optAll_all2 {α β : Type} {f : α → Option β} {R : β → α → Prop} (hf : ∀ x y, f x = some y → R y x) : ∀ {l : List α} {m : List β}, optAll f l = some m → All2 R m l
  | [], m, h => by simp [optAll] at h; subst h; exact .nil
  | x :: l, m, h => by
    simp only [optAll] at h
    split at h
    · rename_i y m' h1 h2
      simp at h; subst h
      exact .cons (hf _ _ h1) (optAll_all2 hf h2)
    · simp at h
theorem denL_of_all2 {β : Env} {L : Nat → Option Kd} {l : List SV} {vs : List Value} (h : All2 (SV.den β L) l vs) : DenL β L l vs := by
  induction h with
  | nil => exact .nil
  | cons h _ ih => exact DenL.cons1 h ih
theorem LV.ofVal_den {β : Env} {L : Nat → Option Kd} (v : Value) : (LV.ofVal v).den β L v := by
  cases v with
  | agg cs =>
    simp only [LV.ofVal]
    split
    · rename_i l h
      exact ⟨cs.toList, by simp, denL_of_all2 (optAll_all2 (fun _ _ => SV.ofVal_den) h)⟩
    · trivial
  | tuple cs =>
    simp only [LV.ofVal]
    split
    · rename_i h
      have : cs = #[] := by simpa using h
      subst this
      exact ⟨[], rfl, .nil⟩
    · trivial
  | _ => simp [LV.ofVal, SV.ofVal, LV.den, VV.den, SV.den, SI.val, SB.val, Value.oneCell']
inductive Item where
  | blk (cells : List SV) (elem : TypeId)
  | own (ver : Nat) (t : Ty) (l : List t.D)
  | gone (ver : Nat)
def Item.kd : Item → Kd
  | .blk _ _ => .blk
  | .own v _ _ | .gone v => .own v
abbrev Hp := List (Option Item)
def kd (hp : Hp) (i : Nat) : Option Kd :=
  match hp[i]? with
  | some (some x) => some x.kd
  | _ => none
structure St where
  fr : List LV
  hp : Hp
theorem kd_some {hp : Hp} {i : Nat} {k : Kd} (h : kd hp i = some k) : ∃ x, hp[i]? = some (some x) ∧ x.kd = k := by
  unfold kd at h; split at h
  · rename_i x hx; simp at h; exact ⟨x, hx, h⟩
  · cases h
theorem kd_of {hp : Hp} {i : Nat} {x : Item} (h : hp[i]? = some (some x)) : kd hp i = some x.kd := by unfold kd; rw [h]
/-- the block that an item holds -/
def Owns (β : Env) (x : Item) (i b : Nat) : Prop :=
  match x with
  | .blk _ _ => b = β.b i
  | .own _ _ _ => ∃ a n c, β.h i = .slice (some a) n c ∧ 0 < c ∧ a.block = b
  | .gone _ => False
def Owned (hp : Hp) (β : Env) (b : Nat) : Prop := ∃ i x, hp[i]? = some (some x) ∧ Owns β x i b
/-- a row of values lies at a place -/
def HoldsAt (w : World) (a : Addr) (vs : List Value) : Prop := ∀ i u, vs[i]? = some u → w.cell? (a.add i) = some u
/-- nothing is frozen among so many cells -/
def FzOk (fz : Nat × Nat) (n : Nat) : Prop := fz.1 = fz.2 ∨ n ≤ fz.1
theorem FzOk.not {fz : Nat × Nat} {n off : Nat} (h : FzOk fz n) (ho : off < n) : ¬ (fz.1 ≤ off ∧ off < fz.2) := by unfold FzOk at h; omega
def OwnOk (β : Env) (w : World) (h : Value) (t : Ty) (l : List t.D) : Prop :=
  ∃ a n c, h = .slice a n c ∧ n = l.length ∧ n ≤ c ∧ (a = none → c = 0) ∧
    (0 < c → ∃ (a0 : Addr) (pre vss rest : List Value) (elem : TypeId) (fz : Nat × Nat), a = some a0 ∧ a0.spot = none ∧ w.heap[a0.block]? = some (.cells (pre ++ (vss ++ rest)).toArray elem fz) ∧
      pre.length = a0.off ∧ HasL (t.has β true) l vss ∧ (c - n) * t.w ≤ rest.length ∧ FzOk fz (pre ++ (vss ++ rest)).length)
def ItemOk (β : Env) (L : Nat → Option Kd) (w : World) (i : Nat) : Item → Prop
  | .blk cells elem => ∃ (c : List Value) (fz : Nat × Nat), w.heap[β.b i]? = some (.cells c.toArray elem fz) ∧ FzOk fz c.length ∧ DenL β L cells c
  | .own _ t l => OwnOk β w (β.h i) t l
  | .gone _ => True
/-- what a slice reads as -/
def ReadsAs (β : Env) (pm : Bool) (w : World) (v : Value) (t : Ty) (l : List t.D) : Prop :=
  ∃ a n c, v = .slice a n c ∧ n = l.length ∧ n ≤ c ∧ (a = none → c = 0) ∧ (0 < n → ∃ (a0 : Addr) (vss : List Value), a = some a0 ∧ a0.spot = none ∧ HasL (t.has β pm) l vss ∧ HoldsAt w a0 vss)
def inBlock : Value → Nat → Prop
  | .slice (some a) n _, b => 0 < n ∧ a.block = b
  | _, _ => False
theorem add_block (a : Addr) (n : Nat) : (a.add n).block = a.block := by unfold Addr.add; split <;> rfl
theorem HoldsAt.of {w w' : World} {a : Addr} {vs : List Value} (h : HoldsAt w a vs) (hs : vs ≠ [] → w'.heap[a.block]? = w.heap[a.block]?) : HoldsAt w' a vs := by
  intro i u hu
  have h1 := h i u hu
  have hne : vs ≠ [] := fun e => by subst e; simp at hu
  unfold World.cell? at h1 ⊢
  rw [add_block] at h1 ⊢
  rw [hs hne]; exact h1
theorem HoldsAt.lt {w : World} {a : Addr} {vs : List Value} (h : HoldsAt w a vs) (hne : vs ≠ []) : a.block < w.heap.size := by
  cases vs with
  | nil => exact absurd rfl hne
  | cons v vs =>
    have := h 0 v (by simp)
    unfold World.cell? at this
    rw [add_block] at this
    split at this
    · rename_i h1; exact (Array.getElem?_eq_some_iff.1 h1).1
    · cases this
theorem ReadsAs.of {β : Env} {pm : Bool} {w w' : World} {v : Value} {t : Ty} {l : List t.D} (h : ReadsAs β pm w v t l) (hs : ∀ b, inBlock v b → b < w.heap.size → w'.heap[b]? = w.heap[b]?) : ReadsAs β pm w' v t l := by
  obtain ⟨a, n, c, rfl, hn, hc, hz, hr⟩ := h
  refine ⟨a, n, c, rfl, hn, hc, hz, fun h0 => ?_⟩
  obtain ⟨a0, vss, rfl, h1, h2, h3⟩ := hr h0
  exact ⟨a0, vss, rfl, h1, h2, h3.of fun hne => hs _ ⟨h0, rfl⟩ (h3.lt hne)⟩
theorem ReadsAs.mono {β β' : Env} (hm : ∀ pm v t l, β.rd pm v t l → β'.rd pm v t l) {pm : Bool} {w : World} {v : Value} {t : Ty} {l : List t.D} (h : ReadsAs β pm w v t l) : ReadsAs β' pm w v t l := by
  obtain ⟨a, n, c, rfl, hn, hc, hz, hr⟩ := h
  refine ⟨a, n, c, rfl, hn, hc, hz, fun h0 => ?_⟩
  obtain ⟨a0, vss, rfl, h1, h2, h3⟩ := hr h0
  exact ⟨a0, vss, rfl, h1, h2.imp fun _ _ => t.has_mono hm, h3⟩
/-- what is known of the blocks; W: the world as the function began -/
structure HRel (W : World) (hp₀ : Hp) (β₀ β : Env) (hp : Hp) (w : World) : Prop where
  items : ∀ i x, hp[i]? = some (some x) → ItemOk β (kd hp) w i x
  inj : ∀ i j x y b, hp[i]? = some (some x) → hp[j]? = some (some y) → Owns β x i b → Owns β y j b → i = j
  first : Agree β₀ β (kd hp₀) (kd hp)
  own : ∀ i x b, hp[i]? = some (some x) → Owns β x i b → W.heap.size ≤ b ∨ ∃ y, hp₀[i]? = some (some y) ∧ Owns β₀ y i b
  os : w.os = W.os
  output : w.output = W.output
  size : W.heap.size ≤ w.heap.size
  keep : ∀ b, b < W.heap.size → ¬ Owned hp₀ β₀ b → w.heap[b]? = W.heap[b]?
  reads : ∀ pm v t l, β.rd pm v t l → ReadsAs β pm w v t l ∧ ∀ b, inBlock v b → b < w.heap.size ∧ ¬ Owned hp β b
  from_ : ∀ pm v t l b, β.rd pm v t l → inBlock v b → W.heap.size ≤ b ∨ ∃ pm' v' t' l', (pm = true → pm' = true) ∧ β₀.rd pm' v' t' l' ∧ inBlock v' b
structure Rel (W : World) (hp₀ : Hp) (β₀ β : Env) (st : St) (a : Act) (w : World) : Prop where
  defers : a.defers = []
  fr : All2 (LV.den β (kd st.hp)) st.fr a.tmps.toList
  heap : HRel W hp₀ β₀ β st.hp w
/-- an item at a place -/
def setAt : Hp → Nat → Item → Hp
  | [], 0, b => [some b]
  | [], n + 1, b => none :: setAt [] n b
  | _ :: l, 0, b => some b :: l
  | x :: l, n + 1, b => x :: setAt l n b
theorem setAt_same : ∀ (hp : Hp) (i : Nat) (b : Item), (setAt hp i b)[i]? = some (some b)
  | [], 0, _ => rfl
  | [], n + 1, b => by simp [setAt, setAt_same [] n b]
  | _ :: _, 0, _ => rfl
  | _ :: l, n + 1, b => by simp [setAt, setAt_same l n b]
theorem setAt_nil : ∀ (i : Nat) (b : Item) (j : Nat) (x : Item), j ≠ i → (setAt [] i b)[j]? ≠ some (some x)
  | 0, b, 0, _, h => absurd rfl h
  | 0, b, j + 1, _, _ => by simp [setAt]
  | n + 1, b, 0, _, _ => by simp [setAt]
  | n + 1, b, j + 1, x, h => by
    have := setAt_nil n b j x (by omega)
    simpa [setAt] using this
theorem setAt_other : ∀ (hp : Hp) (i : Nat) (b : Item) (j : Nat) (x : Item), j ≠ i → ((setAt hp i b)[j]? = some (some x) ↔ hp[j]? = some (some x))
  | [], i, b, j, x, h => ⟨fun hh => absurd hh (setAt_nil i b j x h), fun hh => by simp at hh⟩
  | _ :: _, 0, _, 0, _, h => absurd rfl h
  | _ :: _, 0, _, j + 1, _, _ => by simp [setAt]
  | _ :: _, n + 1, _, 0, _, _ => by simp [setAt]
  | _ :: l, n + 1, b, j + 1, x, h => by
    have := setAt_other l n b j x (by omega)
    simpa [setAt] using this
theorem kd_setAt (hp : Hp) (i : Nat) (x : Item) (j : Nat) : kd (setAt hp i x) j = if j = i then some x.kd else kd hp j := by
  split
  · rename_i h; subst h; exact kd_of (setAt_same hp j x)
  · rename_i h
    unfold kd
    split
    · rename_i y hy
      rw [(setAt_other hp i x j y h).1 hy]
    · rename_i hn
      split
      · rename_i y hy; exact absurd ((setAt_other hp i x j y h).2 hy) (hn y)
      · rfl
section
variable {W : World} {hp₀ : Hp} {β₀ β : Env} {hp : Hp} {w : World}
theorem Owns.congr {β β' : Env} {x : Item} {i b : Nat} (hb : β'.b i = β.b i) (hh : β'.h i = β.h i) : Owns β' x i b ↔ Owns β x i b := by
  cases x <;> simp only [Owns, hb, hh]
theorem OwnOk.of {β β' : Env} {w w' : World} {h : Value} {t : Ty} {l : List t.D} (hm : ∀ pm v t l, β.rd pm v t l → β'.rd pm v t l) (hk : OwnOk β w h t l) (hw : ∀ a n c, h = .slice (some a) n c → 0 < c → w'.heap[a.block]? = w.heap[a.block]?) : OwnOk β' w' h t l := by
  obtain ⟨a, n, c, rfl, h1, h2, h3, h4⟩ := hk
  refine ⟨a, n, c, rfl, h1, h2, h3, fun h0 => ?_⟩
  obtain ⟨a0, pre, vss, rest, elem, fz, rfl, k1, k2, k3, k4, k5⟩ := h4 h0
  exact ⟨a0, pre, vss, rest, elem, fz, rfl, k1, by rw [hw _ _ _ rfl h0]; exact k2, k3, k4.imp fun _ _ => t.has_mono hm, k5⟩
theorem ItemOk.of {β β' : Env} {L L' : Nat → Option Kd} {w w' : World} {i : Nat} {x : Item} (ha : Agree β β' L L') (hb : β'.b i = β.b i) (hh : β'.h i = β.h i) (h : ItemOk β L w i x) (hw : ∀ b, Owns β x i b → w'.heap[b]? = w.heap[b]?) : ItemOk β' L' w' i x := by
  cases x with
  | blk cells elem =>
    obtain ⟨c, fz, h1, h2, h3⟩ := h
    exact ⟨c, fz, by rw [hb, hw _ rfl]; exact h1, h2, h3.mono ha⟩
  | own v t l =>
    show OwnOk β' w' (β'.h i) t l
    rw [hh]
    exact OwnOk.of ha.rd h fun a n c e h0 => hw _ ⟨a, n, c, e, h0, rfl⟩
  | gone v => trivial
theorem OwnOk.lt {β : Env} {w : World} {h : Value} {t : Ty} {l : List t.D} (hk : OwnOk β w h t l) {a : Addr} {n c : Nat} (e : h = .slice (some a) n c) (h0 : 0 < c) : a.block < w.heap.size := by
  obtain ⟨a', n', c', rfl, _, _, _, h4⟩ := hk
  simp at e; obtain ⟨rfl, rfl, rfl⟩ := e
  obtain ⟨a0, _, _, _, _, _, e, _, k, _⟩ := h4 h0
  simp at e; subst e
  exact (Array.getElem?_eq_some_iff.1 k).1
theorem ItemOk.lt {β : Env} {L : Nat → Option Kd} {w : World} {i : Nat} {x : Item} (h : ItemOk β L w i x) {b : Nat} (ho : Owns β x i b) : b < w.heap.size := by
  cases x with
  | blk cells elem =>
    obtain ⟨c, fz, h1, _⟩ := h
    have ho' : b = β.b i := ho
    subst ho'
    exact (Array.getElem?_eq_some_iff.1 h1).1
  | own v t l =>
    obtain ⟨a, n, c, e, h0, rfl⟩ := ho
    exact OwnOk.lt h e h0
  | gone v => exact ho.elim
theorem HRel.lt (h : HRel W hp₀ β₀ β hp w) {b : Nat} (ho : Owned hp β b) : b < w.heap.size := by
  obtain ⟨i, x, hi, ho⟩ := ho
  exact (h.items i x hi).lt ho
/-- an item more -/
theorem HRel.add (h : HRel W hp₀ β₀ β hp w) {id : Nat} (hid : kd hp id = none) {x : Item} {β' : Env} {w' : World}
    (hb : ∀ j, j ≠ id → β'.b j = β.b j) (hh : ∀ j, j ≠ id → β'.h j = β.h j) (hrd : β'.rd = β.rd) (hs : w.heap.size ≤ w'.heap.size) (hos : w'.os = w.os) (hout : w'.output = w.output)
    (hold : ∀ b, b < w.heap.size → w'.heap[b]? = w.heap[b]?) (hown : ∀ b, Owns β' x id b → w.heap.size ≤ b) (hit : Agree β β' (kd hp) (kd (setAt hp id x)) → ItemOk β' (kd (setAt hp id x)) w' id x) :
    HRel W hp₀ β₀ β' (setAt hp id x) w' ∧ Agree β β' (kd hp) (kd (setAt hp id x)) := by
  have hne : ∀ {i k}, kd hp i = some k → i ≠ id := fun hi e => by subst e; rw [hid] at hi; cases hi
  have hne' : ∀ {i y}, hp[i]? = some (some y) → i ≠ id := fun hi => hne (kd_of hi)
  have hag : Agree β β' (kd hp) (kd (setAt hp id x)) := by
    refine ⟨fun i hi => ⟨by rw [kd_setAt, if_neg (hne hi)]; exact hi, hb i (hne hi)⟩, fun i c hi => ⟨c, by rw [kd_setAt, if_neg (hne hi)]; exact hi, Nat.le_refl _, fun _ => hh i (hne hi)⟩, fun pm v t l hr => by rw [hrd]; exact hr⟩
  have hget : ∀ {i y}, (setAt hp id x)[i]? = some (some y) → (i = id ∧ y = x) ∨ (i ≠ id ∧ hp[i]? = some (some y)) := by
    intro i y hi
    by_cases e : i = id
    · subst e; rw [setAt_same] at hi; simp at hi; exact .inl ⟨rfl, hi.symm⟩
    · exact .inr ⟨e, (setAt_other hp id x i y e).1 hi⟩
  have howned : ∀ {b}, Owned (setAt hp id x) β' b → w.heap.size ≤ b ∨ Owned hp β b := by
    rintro b ⟨i, y, hi, ho⟩
    rcases hget hi with ⟨rfl, rfl⟩ | ⟨e, hi'⟩
    · exact .inl (hown b ho)
    · exact .inr ⟨i, y, hi', (Owns.congr (hb i e) (hh i e)).1 ho⟩
  refine ⟨⟨?_, ?_, h.first.trans hag, ?_, hos.trans h.os, hout.trans h.output, Nat.le_trans h.size hs, ?_, ?_, ?_⟩, hag⟩
  · intro i y hi
    rcases hget hi with ⟨rfl, rfl⟩ | ⟨e, hi'⟩
    · exact hit hag
    · exact (h.items i y hi').of hag (hb i e) (hh i e) fun b ho => hold b ((h.items i y hi').lt ho)
  · intro i j y z b hi hj h1 h2
    rcases hget hi with ⟨rfl, rfl⟩ | ⟨ei, hi'⟩ <;> rcases hget hj with ⟨e, rfl⟩ | ⟨ej, hj'⟩
    · exact e.symm
    · have k1 := hown b h1
      have k2 := (h.items j z hj').lt ((Owns.congr (hb j ej) (hh j ej)).1 h2)
      omega
    · subst e
      have k1 := hown b h2
      have k2 := (h.items i y hi').lt ((Owns.congr (hb i ei) (hh i ei)).1 h1)
      omega
    · exact h.inj i j y z b hi' hj' ((Owns.congr (hb i ei) (hh i ei)).1 h1) ((Owns.congr (hb j ej) (hh j ej)).1 h2)
  · intro i y b hi ho
    rcases hget hi with ⟨rfl, rfl⟩ | ⟨e, hi'⟩
    · exact .inl (Nat.le_trans h.size (hown b ho))
    · exact h.own i y b hi' ((Owns.congr (hb i e) (hh i e)).1 ho)
  · intro b hb' hne
    rw [hold b (by have := h.size; omega)]
    exact h.keep b hb' hne
  · intro pm v t l hr
    rw [hrd] at hr
    obtain ⟨h1, h2⟩ := h.reads pm v t l hr
    refine ⟨(h1.of fun b hb' hl => hold b hl).mono fun pm v t l hr => by rw [hrd]; exact hr, fun b hb' => ⟨Nat.lt_of_lt_of_le (h2 b hb').1 hs, fun ho => ?_⟩⟩
    rcases howned ho with k | k
    · have := (h2 b hb').1; omega
    · exact (h2 b hb').2 k
  · intro pm v t l b hr hb'
    rw [hrd] at hr
    exact h.from_ pm v t l b hr hb'
/-- an item that turns into another one -/
theorem HRel.upd (h : HRel W hp₀ β₀ β hp w) {i : Nat} {x x' : Item} (hi : hp[i]? = some (some x)) {β' : Env} {w' : World}
    (hb : β'.b = β.b) (hh : ∀ j, j ≠ i → β'.h j = β.h j) (hrd : β'.rd = β.rd)
    (hkd : (x.kd = .blk ∧ x'.kd = .blk) ∨ ∃ c c', x.kd = .own c ∧ x'.kd = .own c' ∧ c ≤ c' ∧ (c = c' → β'.h i = β.h i))
    (hs : w.heap.size ≤ w'.heap.size) (hos : w'.os = w.os) (hout : w'.output = w.output)
    (hold : ∀ b, b < w.heap.size → ¬ Owns β x i b → w'.heap[b]? = w.heap[b]?) (hown : ∀ b, Owns β' x' i b → Owns β x i b ∨ w.heap.size ≤ b)
    (hit : Agree β β' (kd hp) (kd (hp.set i (some x'))) → ItemOk β' (kd (hp.set i (some x'))) w' i x') :
    HRel W hp₀ β₀ β' (hp.set i (some x')) w' ∧ Agree β β' (kd hp) (kd (hp.set i (some x'))) := by
  have hil : i < hp.length := (List.getElem?_eq_some_iff.1 hi).1
  have hself : (hp.set i (some x'))[i]? = some (some x') := List.getElem?_set_self hil
  have hother : ∀ j, j ≠ i → (hp.set i (some x'))[j]? = hp[j]? := fun j hj => List.getElem?_set_ne (Ne.symm hj)
  have hkds : kd (hp.set i (some x')) i = some x'.kd := kd_of hself
  have hkdo : ∀ j, j ≠ i → kd (hp.set i (some x')) j = kd hp j := fun j hj => by unfold kd; rw [hother j hj]
  have hag : Agree β β' (kd hp) (kd (hp.set i (some x'))) := by
    refine ⟨fun j hj => ?_, fun j c hj => ?_, fun pm v t l hr => by rw [hrd]; exact hr⟩
    · by_cases e : j = i
      · subst e
        rw [kd_of hi] at hj; simp at hj
        rcases hkd with ⟨_, k⟩ | ⟨c, c', k, _⟩
        · exact ⟨by rw [hkds, k], by rw [hb]⟩
        · rw [hj] at k; cases k
      · exact ⟨by rw [hkdo j e]; exact hj, by rw [hb]⟩
    · by_cases e : j = i
      · subst e
        rw [kd_of hi] at hj; simp at hj
        rcases hkd with ⟨k, _⟩ | ⟨c1, c', k, k1, k2, k3⟩
        · rw [hj] at k; cases k
        · rw [hj] at k; simp at k; subst k
          exact ⟨c', by rw [hkds, k1], k2, k3⟩
      · exact ⟨c, by rw [hkdo j e]; exact hj, Nat.le_refl _, fun _ => hh j e⟩
  have hget : ∀ {j y}, (hp.set i (some x'))[j]? = some (some y) → (j = i ∧ y = x') ∨ (j ≠ i ∧ hp[j]? = some (some y)) := by
    intro j y hj
    by_cases e : j = i
    · subst e; rw [hself] at hj; simp at hj; exact .inl ⟨rfl, hj.symm⟩
    · exact .inr ⟨e, by rw [hother j e] at hj; exact hj⟩
  have hcongr : ∀ {j y b}, j ≠ i → (Owns β' y j b ↔ Owns β y j b) := fun e => Owns.congr (by rw [hb]) (hh _ e)
  have hx := h.items i x hi
  have hnot : ∀ {j y b}, j ≠ i → hp[j]? = some (some y) → Owns β y j b → ¬ Owns β x i b := fun e hj h1 h2 => e (h.inj _ _ _ _ _ hj hi h1 h2)
  have howned : ∀ {b}, Owned (hp.set i (some x')) β' b → w.heap.size ≤ b ∨ Owned hp β b := by
    rintro b ⟨j, y, hj, ho⟩
    rcases hget hj with ⟨rfl, rfl⟩ | ⟨e, hj'⟩
    · rcases hown b ho with k | k
      · exact .inr ⟨_, x, hi, k⟩
      · exact .inl k
    · exact .inr ⟨j, y, hj', (hcongr e).1 ho⟩
  refine ⟨⟨?_, ?_, h.first.trans hag, ?_, hos.trans h.os, hout.trans h.output, Nat.le_trans h.size hs, ?_, ?_, ?_⟩, hag⟩
  · intro j y hj
    rcases hget hj with ⟨rfl, rfl⟩ | ⟨e, hj'⟩
    · exact hit hag
    · exact (h.items j y hj').of hag (by rw [hb]) (hh j e) fun b ho => hold b ((h.items j y hj').lt ho) (hnot e hj' ho)
  · intro j k y z b hj hk h1 h2
    rcases hget hj with ⟨ej, rfl⟩ | ⟨ej, hj'⟩ <;> rcases hget hk with ⟨ek, rfl⟩ | ⟨ek, hk'⟩
    · rw [ej, ek]
    · subst ej
      have k2 := (hcongr ek).1 h2
      rcases hown b h1 with k | k
      · exact absurd k (hnot ek hk' k2)
      · have := (h.items _ z hk').lt k2; omega
    · subst ek
      have k1 := (hcongr ej).1 h1
      rcases hown b h2 with k | k
      · exact absurd k (hnot ej hj' k1)
      · have := (h.items _ y hj').lt k1; omega
    · exact h.inj j k y z b hj' hk' ((hcongr ej).1 h1) ((hcongr ek).1 h2)
  · intro j y b hj ho
    rcases hget hj with ⟨rfl, rfl⟩ | ⟨e, hj'⟩
    · rcases hown b ho with k | k
      · exact h.own _ x b hi k
      · exact .inl (Nat.le_trans h.size k)
    · exact h.own j y b hj' ((hcongr e).1 ho)
  · intro b hb' hne
    rw [hold b (by have := h.size; omega) fun ho => ?_]
    · exact h.keep b hb' hne
    · rcases h.own i x b hi ho with k | ⟨y, k⟩
      · omega
      · exact hne ⟨i, y, k⟩
  · intro pm v t l hr
    rw [hrd] at hr
    obtain ⟨h1, h2⟩ := h.reads pm v t l hr
    refine ⟨(h1.of fun b hb' hl => hold b hl fun ho => (h2 b hb').2 ⟨i, x, hi, ho⟩).mono fun pm v t l hr => by rw [hrd]; exact hr, fun b hb' => ⟨Nat.lt_of_lt_of_le (h2 b hb').1 hs, fun ho => ?_⟩⟩
    rcases howned ho with k | k
    · have := (h2 b hb').1; omega
    · exact (h2 b hb').2 k
  · intro pm v t l b hr hb'
    rw [hrd] at hr
    exact h.from_ pm v t l b hr hb'
theorem HRel.drew (h : HRel W hp₀ β₀ β hp w) (n : Nat) (tp : Tape) : HRel W hp₀ β₀ β hp { w with drawn := n, tape := tp } :=
  ⟨h.items, h.inj, h.first, h.own, h.os, h.output, h.size, h.keep, h.reads, h.from_⟩
/-- one more slice that is only read -/
def Env.addRd (β : Env) (pm : Bool) (v : Value) (t : Ty) (l : List t.D) : Env := ⟨β.b, β.h, fun pm' v' t' l' => β.rd pm' v' t' l' ∨ (pm' = pm ∧ v' = v ∧ ∃ e : t = t', e ▸ l = l')⟩
theorem HRel.addRd (h : HRel W hp₀ β₀ β hp w) {pm : Bool} {v : Value} {t : Ty} {l : List t.D} (hr : ReadsAs β pm w v t l)
    (hb : ∀ b, inBlock v b → b < w.heap.size ∧ ¬ Owned hp β b ∧ (W.heap.size ≤ b ∨ ∃ pm' v' t' l', (pm = true → pm' = true) ∧ β₀.rd pm' v' t' l' ∧ inBlock v' b)) :
    HRel W hp₀ β₀ (β.addRd pm v t l) hp w ∧ Agree β (β.addRd pm v t l) (kd hp) (kd hp) ∧ (β.addRd pm v t l).rd pm v t l := by
  have hm : ∀ pm' v' t' l', β.rd pm' v' t' l' → (β.addRd pm v t l).rd pm' v' t' l' := fun _ _ _ _ h => .inl h
  have hag : Agree β (β.addRd pm v t l) (kd hp) (kd hp) := ⟨fun i hi => ⟨hi, rfl⟩, fun i c hi => ⟨c, hi, Nat.le_refl _, fun _ => rfl⟩, hm⟩
  have hoc : ∀ {x i b}, Owns (β.addRd pm v t l) x i b ↔ Owns β x i b := Owns.congr rfl rfl
  have hod : ∀ {b}, Owned hp (β.addRd pm v t l) b ↔ Owned hp β b := ⟨fun ⟨i, x, h1, h2⟩ => ⟨i, x, h1, hoc.1 h2⟩, fun ⟨i, x, h1, h2⟩ => ⟨i, x, h1, hoc.2 h2⟩⟩
  refine ⟨⟨fun i x hi => (h.items i x hi).of hag rfl rfl fun _ _ => rfl, fun i j x y b hi hj h1 h2 => h.inj i j x y b hi hj (hoc.1 h1) (hoc.1 h2), h.first.trans hag, fun i x b hi ho => h.own i x b hi (hoc.1 ho), h.os, h.output, h.size, h.keep, ?_, ?_⟩, hag, .inr ⟨rfl, rfl, rfl, rfl⟩⟩
  · rintro pm' v' t' l' (hv | ⟨rfl, rfl, rfl, rfl⟩)
    · obtain ⟨h1, h2⟩ := h.reads pm' v' t' l' hv
      exact ⟨h1.mono hm, fun b hb' => ⟨(h2 b hb').1, fun ho => (h2 b hb').2 (hod.1 ho)⟩⟩
    · exact ⟨hr.mono hm, fun b hb' => ⟨(hb b hb').1, fun ho => (hb b hb').2.1 (hod.1 ho)⟩⟩
  · rintro pm' v' t' l' b (hv | ⟨rfl, rfl, rfl, rfl⟩) hbl
    · exact h.from_ pm' v' t' l' b hv hbl
    · exact (hb b hbl).2.2
end
end Go.Ev
end

section
set_option linter.unusedVariables false
set_option linter.unusedSimpArgs false
namespace Go.Ev
open Go
inductive Ask (α : Type) where
  | ret (a : α)
  | get (i : Nat) (k : Option Item → Ask α)
def itemAt (hp : Hp) (i : Nat) : Option Item := match hp[i]? with | some (some x) => some x | _ => none
def Ask.val {α : Type} (hp : Hp) : Ask α → α
  | .ret a => a
  | .get i k => (k (itemAt hp i)).val hp
def Ask.log {α : Type} (hp : Hp) : Ask α → List Nat
  | .ret _ => []
  | .get i k => i :: (k (itemAt hp i)).log hp
def Ask.bind {α β : Type} : Ask α → (α → Ask β) → Ask β
  | .ret a, f => f a
  | .get i k, f => .get i fun x => (k x).bind f
def Ask.map {α β : Type} (f : α → β) (a : Ask α) : Ask β := a.bind fun x => .ret (f x)
theorem Ask.val_bind {α β : Type} (hp : Hp) : ∀ (a : Ask α) (f : α → Ask β), (a.bind f).val hp = (f (a.val hp)).val hp
  | .ret _, _ => rfl
  | .get i k, f => Ask.val_bind hp (k (itemAt hp i)) f
theorem Ask.val_map {α β : Type} (hp : Hp) (a : Ask α) (f : α → β) : (a.map f).val hp = f (a.val hp) := Ask.val_bind hp a _
theorem Ask.local_ {α : Type} {hp hp2 : Hp} : ∀ (a : Ask α), (∀ i ∈ a.log hp, itemAt hp2 i = itemAt hp i) → a.val hp2 = a.val hp ∧ a.log hp2 = a.log hp
  | .ret _, _ => ⟨rfl, rfl⟩
  | .get i k, h => by
    have h0 : itemAt hp2 i = itemAt hp i := h i (by simp [Ask.log])
    have := Ask.local_ (hp := hp) (hp2 := hp2) (k (itemAt hp i)) fun j hj => h j (by simp [Ask.log, hj])
    simp only [Ask.val, Ask.log, h0]
    exact ⟨this.1, by rw [this.2]⟩
theorem itemAt_some {hp : Hp} {i : Nat} {x : Item} (h : itemAt hp i = some x) : hp[i]? = some (some x) := by
  unfold itemAt at h; split at h
  · rename_i y hy; simp at h; subst h; exact hy
  · cases h
theorem itemAt_of {hp : Hp} {i : Nat} {x : Item} (h : hp[i]? = some (some x)) : itemAt hp i = some x := by unfold itemAt; rw [h]
/-- no slice in it -/
def Ty.flat : Ty → Bool
  | .int _ | .bool | .flt | .str => true
  | .sl _ => false
  | .pair a b => a.flat && b.flat
  | .arr t _ => t.flat
theorem Ty.has_pm {β : Env} {pm pm' : Bool} : ∀ (t : Ty) {x : t.D} {vs : List Value}, t.flat = true → t.has β pm x vs → t.has β pm' x vs
  | .int _, _, _, _, h => h
  | .bool, _, _, _, h => h
  | .flt, _, _, _, h => h
  | .str, _, _, _, h => h
  | .sl _, _, _, hf, _ => by cases hf
  | .pair a b, _, _, hf, h => by
    simp only [Ty.flat, Bool.and_eq_true] at hf
    obtain ⟨u, w, h, h1, h2⟩ := h
    exact ⟨u, w, h, a.has_pm hf.1 h1, b.has_pm hf.2 h2⟩
  | .arr t _, _, _, hf, ⟨h1, h2⟩ => ⟨h1, h2.imp fun _ _ => t.has_pm hf⟩
theorem RdOk.weak {β : Env} {pm : Bool} {v : Value} {t : Ty} {l : List t.D} (h : RdOk β true v t l) : RdOk β pm v t l := by
  rcases h with h | ⟨h, _⟩ | h
  · exact .inl h
  · cases h
  · exact .inr (.inr h)
theorem Ty.has_weak {β : Env} {pm : Bool} : ∀ (t : Ty) {x : t.D} {vs : List Value}, t.has β true x vs → t.has β pm x vs
  | .int _, _, _, h => h
  | .bool, _, _, h => h
  | .flt, _, _, h => h
  | .str, _, _, h => h
  | .sl _, _, _, ⟨v, h1, h2, h3⟩ => ⟨v, h1, h2, h3.weak⟩
  | .pair a b, _, _, ⟨u, w, h, h1, h2⟩ => ⟨u, w, h, a.has_weak h1, b.has_weak h2⟩
  | .arr t _, _, _, ⟨h1, h2⟩ => ⟨h1, h2.imp fun _ _ => t.has_weak⟩
/-- an element's cells -/
def Ty.svs (pm : Bool) : (t : Ty) → t.D → List SV
  | .int k, n => [.int k (.sym n)]
  | .bool, b => [.bool (.sym b)]
  | .flt, n => [.flt n]
  | .str, l => [.str l]
  | .sl t, l => [.rd pm false t l]
  | .pair a b, x => a.svs pm x.1 ++ b.svs pm x.2
  | .arr t n, l => if pm || t.flat then [.arr t n l] else List.replicate (n * t.w) .junk
theorem denL_junk {β : Env} {L : Nat → Option Kd} : ∀ {vs : List Value} {n : Nat}, vs.length = n → (∀ v ∈ vs, v.oneCell' = true) → DenL β L (List.replicate n .junk) vs
  | [], _, h, _ => by simp at h; subst h; exact .nil
  | v :: vs, n, h, h1 => by
    cases n with
    | zero => simp at h
    | succ n =>
      rw [List.replicate_succ]
      exact DenL.cons1 (h1 v (by simp)) (denL_junk (by simpa using h) fun u hu => h1 u (by simp [hu]))
theorem Ty.svs_ok {β : Env} {L : Nat → Option Kd} {pm : Bool} : ∀ (t : Ty) {x : t.D} {vs : List Value}, t.has β pm x vs → DenL β L (t.svs pm x) vs
  | .int _, _, _, h => by simp only [Ty.has] at h; subst h; exact DenL.cons1 rfl .nil
  | .bool, _, _, h => by simp only [Ty.has] at h; subst h; exact DenL.cons1 rfl .nil
  | .flt, _, _, h => by simp only [Ty.has] at h; subst h; exact DenL.cons1 rfl .nil
  | .str, _, _, h => by simp only [Ty.has] at h; subst h; exact DenL.cons1 rfl .nil
  | .sl _, _, _, h => by
    simp only [Ty.has] at h; obtain ⟨v, rfl, h1, h2⟩ := h
    exact DenL.cons1 ⟨h1, fun h => by (cases h), h2⟩ .nil
  | .pair a b, _, _, h => by
    simp only [Ty.has] at h; obtain ⟨u, w, rfl, h1, h2⟩ := h
    exact (a.svs_ok h1).append (b.svs_ok h2)
  | .arr t n, x, vs, h => by
    have hall := h
    simp only [Ty.has] at h; obtain ⟨h1, h2⟩ := h
    simp only [Ty.svs]
    split
    · rename_i hp
      refine HasL.one (R := SV.dens β L) ⟨h1, ?_⟩
      cases pm with
      | true => exact h2
      | false => exact h2.imp fun _ _ => t.has_pm (by simpa using hp)
    · exact denL_junk (Ty.has_length _ hall) (Ty.has_one _ hall)
/-- a list of cells, cut at a place -/
def cutL : List SV → Nat → Option (List SV × List SV)
  | l, 0 => some ([], l)
  | [], _ + 1 => none
  | .arr t n x :: r, k + 1 =>
    if n * t.w ≤ k + 1 then (cutL r (k + 1 - n * t.w)).map fun p => (.arr t n x :: p.1, p.2)
    else if t.w ≠ 0 ∧ (k + 1) % t.w = 0 then some ([.arr t ((k + 1) / t.w) (x.take ((k + 1) / t.w))], .arr t (n - (k + 1) / t.w) (x.drop ((k + 1) / t.w)) :: r)
    else none
  | s :: r, k + 1 => (cutL r k).map fun p => (s :: p.1, p.2)
theorem hasL_take {β : Env} {t : Ty} {pm : Bool} {l : List t.D} {vs : List Value} (h : HasL (t.has β pm) l vs) (j : Nat) : ∃ v1 v2, vs = v1 ++ v2 ∧ HasL (t.has β pm) (l.take j) v1 ∧ HasL (t.has β pm) (l.drop j) v2 := by
  rw [← List.take_append_drop j l] at h
  exact h.split
theorem cutL_ok {β : Env} {L : Nat → Option Kd} : ∀ (l : List SV) (k : Nat) {a b : List SV} {vs : List Value}, cutL l k = some (a, b) → DenL β L l vs →
    ∃ va vb, vs = va ++ vb ∧ va.length = k ∧ DenL β L a va ∧ DenL β L b vb
  | l, 0, a, b, vs, h, hd => by
    have : cutL l 0 = some ([], l) := by cases l <;> rfl
    rw [this] at h; simp at h; obtain ⟨rfl, rfl⟩ := h
    exact ⟨[], vs, rfl, rfl, .nil, hd⟩
  | [], k + 1, a, b, vs, h, _ => by simp [cutL] at h
  | s :: r, k + 1, a, b, vs, h, hd => by
    have plain : (∀ t n l, s ≠ .arr t n l) → ∃ va vb, vs = va ++ vb ∧ va.length = k + 1 ∧ DenL β L a va ∧ DenL β L b vb := by
      intro hs
      have h' : (cutL r k).map (fun p => (s :: p.1, p.2)) = some (a, b) := by
        cases s with
        | arr t n l => exact absurd rfl (hs t n l)
        | _ => exact h
      obtain ⟨⟨a', b'⟩, h1, h2⟩ := Option.map_eq_some_iff.1 h'
      simp at h2; obtain ⟨rfl, rfl⟩ := h2
      cases hd with
      | cons h3 h4 =>
        obtain ⟨v, rfl, h5⟩ := SV.den_of h3 hs
        obtain ⟨va, vb, rfl, e, h6, h7⟩ := cutL_ok r k h1 h4
        exact ⟨v :: va, vb, rfl, by simp [e], DenL.cons1 h5 h6, h7⟩
    cases s with
    | arr t n x =>
      simp only [cutL] at h
      cases hd with
      | cons h3 h4 =>
        rename_i us ws
        have hul := SV.dens_length h3
        simp only [SV.w] at hul
        split at h
        · rename_i hle
          obtain ⟨⟨a', b'⟩, h1, h2⟩ := Option.map_eq_some_iff.1 h
          simp at h2; obtain ⟨rfl, rfl⟩ := h2
          obtain ⟨va, vb, rfl, e, h6, h7⟩ := cutL_ok r (k + 1 - n * t.w) h1 h4
          exact ⟨us ++ va, vb, by simp, by simp [hul, e]; omega, .cons h3 h6, h7⟩
        · rename_i hlt
          split at h
          · rename_i hw
            simp at h; obtain ⟨rfl, rfl⟩ := h
            obtain ⟨h5, h6⟩ := h3
            obtain ⟨v1, v2, rfl, h7, h8⟩ := hasL_take h6 ((k + 1) / t.w)
            have hdiv : (k + 1) / t.w * t.w = k + 1 := Nat.div_mul_cancel (Nat.dvd_of_mod_eq_zero hw.2)
            have hlt2 : (k + 1) / t.w < n := Nat.lt_of_not_le fun hle => hlt (by
              have := Nat.mul_le_mul_right t.w hle
              omega)
            have hl1 : (x.take ((k + 1) / t.w)).length = (k + 1) / t.w := by simp; omega
            refine ⟨v1, v2 ++ ws, by simp, by rw [hasL_length h7, hl1, hdiv], HasL.one (R := SV.dens β L) ⟨hl1, h7⟩, .cons (R := SV.dens β L) ⟨by simp; omega, h8⟩ h4⟩
          · simp at h
    | _ => exact plain (by intros; simp)
/-- m cells from a place on -/
def subL (l : List SV) (off m : Nat) : Option (List SV) :=
  match cutL l off with
  | some (_, b) => (cutL b m).map (·.1)
  | none => none
theorem subL_ok {β : Env} {L : Nat → Option Kd} {l : List SV} {off m : Nat} {s : List SV} {vs : List Value} (h : subL l off m = some s) (hd : DenL β L l vs) :
    ∃ pre mid post, vs = pre ++ (mid ++ post) ∧ pre.length = off ∧ mid.length = m ∧ DenL β L s mid := by
  unfold subL at h; split at h
  · rename_i a b hc
    obtain ⟨⟨x, y⟩, h1, rfl⟩ := Option.map_eq_some_iff.1 h
    obtain ⟨va, vb, rfl, e1, h2, h3⟩ := cutL_ok _ _ hc hd
    obtain ⟨vc, ve, rfl, e2, h4, h5⟩ := cutL_ok _ _ h1 h3
    exact ⟨va, vc, ve, rfl, e1, e2, h4⟩
  · cases h
/-- the description of one cell -/
def elemL : List SV → Nat → Option SV
  | [], _ => none
  | .arr t n x :: r, off =>
    if off < n * t.w then
      (if t.w = 1 then match t.svs true (x.getD off t.z) with | [.arr _ _ _] => none | [s] => some s | _ => none
       else if (t.svs true (x.getD (off / t.w) t.z)).all (fun s => match s with | .arr _ _ _ => false | _ => true) then (t.svs true (x.getD (off / t.w) t.z))[off % t.w]? else none)
    else elemL r (off - n * t.w)
  | s :: _, 0 => some s
  | _ :: r, off + 1 => elemL r off
theorem hasL_elem {β : Env} {t : Ty} {pm : Bool} {l : List t.D} {vs : List Value} (h : HasL (t.has β pm) l vs) {j : Nat} (hj : j < l.length) :
    ∃ a u b, vs = a ++ (u ++ b) ∧ a.length = j * t.w ∧ t.has β pm (l.getD j t.z) u ∧ HasL (t.has β pm) (l.take j) a ∧ HasL (t.has β pm) (l.drop (j + 1)) b := by
  have e : l[j]? = some (l.getD j t.z) := by simp [List.getD, hj]
  obtain ⟨a, u, b, rfl, h1, h2, h3⟩ := h.get e
  exact ⟨a, u, b, rfl, by rw [hasL_length h2, List.length_take, Nat.min_eq_left (Nat.le_of_lt hj)], h1, h2, h3⟩
theorem denL_plain_get {β : Env} {L : Nat → Option Kd} : ∀ {l : List SV} {vs : List Value} {i : Nat} {s : SV}, l.all (fun s => match s with | .arr _ _ _ => false | _ => true) = true → DenL β L l vs → l[i]? = some s → ∃ v, vs[i]? = some v ∧ s.den β L v
  | [], _, _, _, _, _, h => by simp at h
  | x :: l, _, i, s, ha, .cons h1 h2, h => by
    simp only [List.all_cons, Bool.and_eq_true] at ha
    obtain ⟨v, rfl, hv⟩ := SV.den_of h1 (fun t n l e => by subst e; simp at ha)
    cases i with
    | zero => simp at h; subst h; exact ⟨v, by simp, hv⟩
    | succ i =>
      simp at h
      obtain ⟨u, h3, h4⟩ := denL_plain_get ha.2 h2 h
      exact ⟨u, by simpa using h3, h4⟩
theorem elemL_ok {β : Env} {L : Nat → Option Kd} : ∀ (l : List SV) (off : Nat) {s : SV} {vs : List Value}, elemL l off = some s → DenL β L l vs → ∃ v, vs[off]? = some v ∧ s.den β L v
  | [], _, _, _, h, _ => by simp [elemL] at h
  | x :: r, off, s, vs, h, hd => by
    have plain : (∀ t n l, x ≠ .arr t n l) → ∃ v, vs[off]? = some v ∧ s.den β L v := by
      intro hs
      cases hd with
      | cons h1 h2 =>
        obtain ⟨v, rfl, h3⟩ := SV.den_of h1 hs
        cases off with
        | zero =>
          have : s = x := by
            cases x with
            | arr t n l => exact absurd rfl (hs t n l)
            | _ => simp [elemL] at h; exact h.symm
          subst this
          exact ⟨v, rfl, h3⟩
        | succ off =>
          have : elemL r off = some s := by
            cases x with
            | arr t n l => exact absurd rfl (hs t n l)
            | _ => exact h
          obtain ⟨u, h4, h5⟩ := elemL_ok r off this h2
          exact ⟨u, by simpa using h4, h5⟩
    cases x with
    | arr t n x =>
      have h' : (if off < n * t.w then
      (if t.w = 1 then match t.svs true (x.getD off t.z) with | [.arr _ _ _] => none | [s] => some s | _ => none
       else if (t.svs true (x.getD (off / t.w) t.z)).all (fun s => match s with | .arr _ _ _ => false | _ => true) then (t.svs true (x.getD (off / t.w) t.z))[off % t.w]? else none)
    else elemL r (off - n * t.w)) = some s := by
        cases off <;> exact h
      clear h
      cases hd with
      | cons h1 h2 =>
        rename_i us ws
        have hul := SV.dens_length h1
        simp only [SV.w] at hul
        obtain ⟨h3, h4⟩ := h1
        split at h'
        · rename_i hlt
          split at h'
          · rename_i hw
            have hj : off < x.length := by rw [h3]; rw [hw] at hlt; omega
            obtain ⟨a, u, b, rfl, e1, h5, _⟩ := hasL_elem h4 hj
            have h6 := t.svs_ok (L := L) h5
            rw [hw, Nat.mul_one] at e1
            split at h'
            · cases h'
            · rename_i s' _ hse
              simp at h'; subst h'
              rw [hse] at h6
              obtain ⟨v, rfl, h7⟩ := SV.den_of (HasL.of_one h6) (by assumption)
              exact ⟨v, by rw [← e1]; simp, h7⟩
            · cases h'
          · split at h'
            · rename_i hw hall
              have hpos : 0 < t.w := by rcases Nat.eq_zero_or_pos t.w with e | e
                                        · rw [e] at hlt; omega
                                        · exact e
              have hj : off / t.w < x.length := by rw [h3]; exact (Nat.div_lt_iff_lt_mul hpos).2 hlt
              obtain ⟨a, u, b, rfl, e1, h5, _⟩ := hasL_elem h4 hj
              obtain ⟨v, h7, h8⟩ := denL_plain_get hall (t.svs_ok (L := L) h5) h'
              refine ⟨v, ?_, h8⟩
              have hm : off = a.length + off % t.w := by rw [e1, Nat.mul_comm]; exact (Nat.div_add_mod off t.w).symm
              have hlt' := (List.getElem?_eq_some_iff.1 h7).1
              rw [hm, List.append_assoc, List.getElem?_append_right (by omega), Nat.add_sub_cancel_left, List.append_assoc, List.getElem?_append_left hlt']
              exact h7
            · cases h'
        · rename_i hge
          obtain ⟨v, h5, h6⟩ := elemL_ok r (off - n * t.w) h' h2
          exact ⟨v, by rw [List.getElem?_append_right (by omega), hul]; exact h5, h6⟩
    | _ => exact plain (by intros; simp)
/-- parts of the same width, each read -/
def readN {α : Type} (f : List SV → Option α) (w : Nat) : Nat → List SV → Option (List α)
  | 0, [] => some []
  | 0, _ :: _ => none
  | n + 1, l => match cutL l w with
    | some (a, b) => match f a, readN f w n b with
      | some x, some m => some (x :: m)
      | _, _ => none
    | none => none
theorem readN_ok {β : Env} {L : Nat → Option Kd} {α : Type} {R : α → List Value → Prop} {f : List SV → Option α} {w : Nat} (hf : ∀ a x vs, f a = some x → DenL β L a vs → R x vs) :
    ∀ (n : Nat) {l : List SV} {m : List α} {vs : List Value}, readN f w n l = some m → DenL β L l vs → HasL R m vs ∧ m.length = n
  | 0, [], m, vs, h, hd => by simp [readN] at h; subst h; cases hd; exact ⟨.nil, rfl⟩
  | 0, _ :: _, _, _, h, _ => by simp [readN] at h
  | n + 1, l, m, vs, h, hd => by
    simp only [readN] at h
    split at h
    · rename_i a b hc
      split at h
      · rename_i x m' h1 h2
        simp at h; subst h
        obtain ⟨va, vb, rfl, _, h3, h4⟩ := cutL_ok _ _ hc hd
        obtain ⟨h5, h6⟩ := readN_ok hf n h2 h4
        exact ⟨.cons (hf _ _ _ h1 h3) h5, by simp [h6]⟩
      · cases h
    · cases h
def strInts (s : ByteArray) : List Int := s.data.toList.map fun x => (x.toNat : Int)
theorem strOf_strInts (s : ByteArray) : strOf (strInts s) = s := by
  unfold strOf strInts
  rw [List.map_map]
  have : ((fun n : Int => UInt8.ofNat n.toNat) ∘ fun x : UInt8 => (x.toNat : Int)) = id := by
    funext x; simp
  rw [this]
  simp
theorem strOf_size (l : List Int) : (strOf l).size = l.length := by unfold strOf; show Array.size _ = _; simp
/-- the element that cells stand for; pm: what its slices read as must hold for good -/
def Ty.read (pm : Bool) : (t : Ty) → List SV → Option t.D
  | .int k, l => match l with
    | [.int k' n] => if k' = k then some n.val else none
    | _ => none
  | .bool, l => match l with
    | [.bool b] => some b.val
    | _ => none
  | .flt, l => match l with
    | [.flt n] => some n
    | _ => none
  | .str, l => match l with
    | [.str s] => some s
    | [.con (.string s)] => some (strInts s)
    | _ => none
  | .sl t, l => match l with
    | [.rd pm' _ t' m] => if h : t' = t then (if pm' || !pm then some (h ▸ m) else none) else none
    | [.con (.slice none 0 0)] => some []
    | _ => none
  | .pair a b, l => match cutL l a.w with
    | some (x, y) => match a.read pm x, b.read pm y with
      | some u, some v => some (u, v)
      | _, _ => none
    | none => none
  | .arr t n, l => match l with
    | [.arr t' n' m] => if h : t' = t then (if n' = n then some (h ▸ m) else none) else none
    | l => readN (t.read pm) t.w n l
theorem Ty.read_ok {β : Env} {L : Nat → Option Kd} {pm : Bool} : ∀ (t : Ty) {l : List SV} {x : t.D} {vs : List Value}, t.read pm l = some x → DenL β L l vs → t.has β pm x vs
  | .int k, l, x, vs, h, hd => by
    simp only [Ty.read] at h
    split at h
    · split at h
      · rename_i hk; simp at h; subst h hk
        obtain ⟨v, rfl, rfl⟩ := HasL.of_one hd; rfl
      · cases h
    · cases h
  | .bool, l, x, vs, h, hd => by
    simp only [Ty.read] at h
    split at h
    · simp at h; subst h
      obtain ⟨v, rfl, rfl⟩ := HasL.of_one hd; rfl
    · cases h
  | .flt, l, x, vs, h, hd => by
    simp only [Ty.read] at h
    split at h
    · simp at h; subst h
      obtain ⟨v, rfl, rfl⟩ := HasL.of_one hd; rfl
    · cases h
  | .str, l, x, vs, h, hd => by
    simp only [Ty.read] at h
    split at h
    · simp at h; subst h
      obtain ⟨v, rfl, rfl⟩ := HasL.of_one hd; rfl
    · simp at h; subst h
      obtain ⟨v, rfl, _, rfl⟩ := HasL.of_one hd
      simp only [Ty.has]; rw [strOf_strInts]
    · cases h
  | .sl t, l, x, vs, h, hd => by
    simp only [Ty.read] at h
    split at h
    · rename_i pm' nn t' m
      split at h
      · rename_i ht; subst ht
        split at h
        · rename_i hp; simp at h; subst h
          obtain ⟨v, rfl, h1, _, h2⟩ := HasL.of_one hd
          refine ⟨v, rfl, h1, ?_⟩
          cases pm'
          · simp at hp; subst hp; exact h2
          · exact h2.weak
        · cases h
      · cases h
    · simp at h; subst h
      obtain ⟨v, rfl, h1, rfl⟩ := HasL.of_one hd
      exact ⟨_, rfl, h1, .inr (.inr ⟨rfl, rfl⟩)⟩
    · cases h
  | .pair a b, l, x, vs, h, hd => by
    simp only [Ty.read] at h
    split at h
    · rename_i u w hc
      split at h
      · rename_i x1 x2 h1 h2
        simp at h; subst h
        obtain ⟨va, vb, rfl, _, h3, h4⟩ := cutL_ok _ _ hc hd
        exact ⟨va, vb, rfl, a.read_ok h1 h3, b.read_ok h2 h4⟩
      · cases h
    · cases h
  | .arr t n, l, x, vs, h, hd => by
    simp only [Ty.read] at h
    split at h
    · rename_i t' n' m
      split at h
      · rename_i ht; subst ht
        split at h
        · rename_i hn; simp at h; subst h hn
          obtain ⟨h1, h2⟩ := HasL.of_one hd
          exact ⟨h1, h2.imp fun _ _ => t'.has_weak⟩
        · cases h
      · cases h
    · obtain ⟨h1, h2⟩ := readN_ok (R := t.has β pm) (fun a x vs h hd => t.read_ok h hd) n h hd
      exact ⟨h2, h1⟩
/-- new cells in the place of others -/
def cutput (l : List SV) (off : Nat) (new : List SV) : Option (List SV) :=
  match cutL l off with
  | some (a, b) => (cutL b (wL new)).map fun p => a ++ new ++ p.2
  | none => none
def putL : List SV → Nat → List SV → Option (List SV)
  | [], off, new => cutput [] off new
  | .arr t n x :: r, off, new =>
    if n * t.w ≤ off then (putL r (off - n * t.w) new).map (.arr t n x :: ·)
    else match (if t.w ≠ 0 ∧ off % t.w = 0 ∧ wL new = t.w then t.read true new else none) with
      | some y => some (.arr t n (x.set (off / t.w) y) :: r)
      | none => cutput (.arr t n x :: r) off new
  | s :: r, 0, new => cutput (s :: r) 0 new
  | s :: r, off + 1, new => (putL r off new).map (s :: ·)
def PutOk (β : Env) (L : Nat → Option Kd) (l l' : List SV) (off : Nat) (new : List SV) : Prop :=
  ∀ vs ws, DenL β L l vs → DenL β L new ws → ∃ pre old post, vs = pre ++ (old ++ post) ∧ pre.length = off ∧ old.length = ws.length ∧ DenL β L l' (pre ++ (ws ++ post))
theorem cutput_ok {β : Env} {L : Nat → Option Kd} {l l' : List SV} {off : Nat} {new : List SV} (h : cutput l off new = some l') : PutOk β L l l' off new := by
  intro vs ws hd hn
  unfold cutput at h; split at h
  · rename_i a b hc
    obtain ⟨⟨x, y⟩, h1, rfl⟩ := Option.map_eq_some_iff.1 h
    obtain ⟨va, vb, rfl, e1, h2, h3⟩ := cutL_ok _ _ hc hd
    obtain ⟨vc, ve, rfl, e2, h4, h5⟩ := cutL_ok _ _ h1 h3
    refine ⟨va, vc, ve, rfl, e1, by rw [e2, hn.length], ?_⟩
    rw [List.append_assoc]
    exact h2.append (hn.append h5)
  · cases h
theorem putL_ok {β : Env} {L : Nat → Option Kd} : ∀ (l : List SV) (off : Nat) {new l' : List SV}, putL l off new = some l' → PutOk β L l l' off new
  | [], off, new, l', h => cutput_ok h
  | s :: r, off, new, l', h => by
    have plain : (∀ t n l, s ≠ .arr t n l) → PutOk β L (s :: r) l' off new := by
      intro hs
      cases off with
      | zero =>
        refine cutput_ok ?_
        cases s with
        | arr t n l => exact absurd rfl (hs t n l)
        | _ => exact h
      | succ off =>
        have h' : (putL r off new).map (s :: ·) = some l' := by
          cases s with
          | arr t n l => exact absurd rfl (hs t n l)
          | _ => exact h
        obtain ⟨r', h1, rfl⟩ := Option.map_eq_some_iff.1 h'
        intro vs ws hd hn
        cases hd with
        | cons h2 h3 =>
          obtain ⟨v, rfl, h4⟩ := SV.den_of h2 hs
          obtain ⟨pre, old, post, rfl, e1, e2, h5⟩ := putL_ok r off h1 _ _ h3 hn
          exact ⟨v :: pre, old, post, rfl, by simp [e1], e2, DenL.cons1 h4 h5⟩
    cases s with
    | arr t n x =>
      have h' : (if n * t.w ≤ off then (putL r (off - n * t.w) new).map (.arr t n x :: ·)
        else match (if t.w ≠ 0 ∧ off % t.w = 0 ∧ wL new = t.w then t.read true new else none) with
          | some y => some (.arr t n (x.set (off / t.w) y) :: r)
          | none => cutput (.arr t n x :: r) off new) = some l' := by
        cases off <;> exact h
      clear h
      split at h'
      · rename_i hle
        obtain ⟨r', h1, rfl⟩ := Option.map_eq_some_iff.1 h'
        intro vs ws hd hn
        cases hd with
        | cons h2 h3 =>
          rename_i us vs
          have hul := SV.dens_length h2
          simp only [SV.w] at hul
          obtain ⟨pre, old, post, rfl, e1, e2, h5⟩ := putL_ok r _ h1 _ _ h3 hn
          refine ⟨us ++ pre, old, post, by simp, by simp [hul, e1]; omega, e2, ?_⟩
          rw [List.append_assoc]
          exact .cons h2 h5
      · rename_i hlt
        split at h'
        · rename_i y hy
          split at hy
          · rename_i hw
            simp at h'; subst h'
            intro vs ws hd hn
            cases hd with
            | cons h2 h3 =>
              rename_i us vs
              obtain ⟨h4, h5⟩ := h2
              have hj : off / t.w < x.length := by
                rw [h4]
                exact (Nat.div_lt_iff_lt_mul (by omega)).2 (by omega)
              obtain ⟨a, u, b, rfl, e1, h6, h7, h8⟩ := hasL_elem h5 hj
              have hy' := t.read_ok hy hn
              refine ⟨a, u, b ++ vs, by simp, ?_, by rw [t.has_length h6, t.has_length hy'], ?_⟩
              · rw [e1]; exact Nat.div_mul_cancel (Nat.dvd_of_mod_eq_zero hw.2.1)
              · have h9 : HasL (t.has β true) (x.set (off / t.w) y) (a ++ (ws ++ b)) := HasL.of_get hj hy' h7 h8
                have h10 := HasL.cons (R := SV.dens β L) (x := .arr t n (x.set (off / t.w) y)) ⟨by simpa using h4, h9⟩ h3
                simpa using h10
          · cases hy
        · exact cutput_ok h'
    | _ => exact plain (by intros; simp)
theorem addr_add (b off k : Nat) : (⟨b, off, none⟩ : Addr).add k = ⟨b, off + k, none⟩ := by
  unfold Addr.add; split
  · rename_i e; subst e; simp
  · rfl
theorem add_add {a : Addr} (h : a.spot = none) (i j : Nat) : (a.add i).add j = a.add (i + j) := by
  obtain ⟨b, o, s⟩ := a
  simp at h; subst h
  rw [addr_add, addr_add, addr_add, Nat.add_assoc]
theorem add_spot {a : Addr} (h : a.spot = none) (i : Nat) : (a.add i).spot = none := by
  obtain ⟨b, o, s⟩ := a
  simp at h; subst h
  rw [addr_add]
theorem HoldsAt.mid {w : World} {a : Addr} (hs : a.spot = none) {pre mid post : List Value} (h : HoldsAt w a (pre ++ (mid ++ post))) : HoldsAt w (a.add pre.length) mid := by
  intro i u hu
  rw [add_add hs]
  refine h _ u ?_
  rw [List.getElem?_append_right (by omega), Nat.add_sub_cancel_left, List.getElem?_append_left (List.getElem?_eq_some_iff.1 hu).1]
  exact hu
theorem holdsAt_cells {w : World} {b : Nat} {pre mid post : List Value} {elem : TypeId} {fz : Nat × Nat} (h : w.heap[b]? = some (.cells (pre ++ (mid ++ post)).toArray elem fz)) : HoldsAt w ⟨b, pre.length, none⟩ mid := by
  intro i u hu
  rw [addr_add]
  simp only [World.cell?, h]
  have hlt := (List.getElem?_eq_some_iff.1 hu).1
  simp only [Option.isSome_none, Bool.false_eq_true, if_false, List.getElem?_toArray]
  rw [List.getElem?_append_right (by omega), Nat.add_sub_cancel_left, List.getElem?_append_left hlt]
  exact hu
theorem run_loadRow {P : Program} {w : World} {a : Addr} {vs : List Value} (h : HoldsAt w a vs) : (loadCells a vs.length).run P w = .ok vs.toArray w :=
  run_loadCells_list w a vs h
theorem run_storeRow {P : Program} {a : Addr} (hs : a.spot = none) {elem : TypeId} {fz : Nat × Nat} : ∀ (ws : List Value) (k : Nat) (pre old post : List Value) (w : World), w.heap[a.block]? = some (.cells (pre ++ (old ++ post)).toArray elem fz) → pre.length = a.off + k → old.length = ws.length →
    (∀ v ∈ ws, v.oneCell' = true) → (∀ off, pre.length ≤ off → off < pre.length + ws.length → ¬ (fz.1 ≤ off ∧ off < fz.2)) →
    ∃ w', (storeCells a ws k).run P w = .ok () w' ∧ w'.heap[a.block]? = some (.cells (pre ++ (ws ++ post)).toArray elem fz) ∧ (∀ b, b ≠ a.block → w'.heap[b]? = w.heap[b]?) ∧ w'.heap.size = w.heap.size ∧ w'.os = w.os ∧ w'.output = w.output
  | [], k, pre, old, post, w, h, _, hl, _, _ => by
    have : old = [] := List.eq_nil_of_length_eq_zero (by simpa using hl)
    subst this
    exact ⟨w, rfl, h, fun _ _ => rfl, rfl, rfl, rfl⟩
  | v :: ws, k, pre, old, post, w, h, hp, hl, h1, hf => by
    cases old with
    | nil => simp at hl
    | cons o old =>
      obtain ⟨b, of, s⟩ := a
      simp at hs; subst hs
      simp only at h hp hl ⊢
      have hadd : (⟨b, of, none⟩ : Addr).add k = ⟨b, pre.length, none⟩ := by rw [addr_add]; congr 1; exact hp.symm
      have hc : w.cell? ⟨b, pre.length, none⟩ = some o := by
        simp only [World.cell?, h]
        simp
      have hfz : w.frozen? ⟨b, pre.length, none⟩ = false := by
        simp only [World.frozen?, h]
        have := hf pre.length (Nat.le_refl _) (by simp)
        simpa using this
      have hset : (w.setCell ⟨b, pre.length, none⟩ v).heap[b]? = some (.cells ((pre ++ [v]) ++ (old ++ post)).toArray elem fz) := by
        simp only [World.setCell, Array.getElem?_modify, h]
        simp
      obtain ⟨w', e1, e2, e3, e4, e5, e6⟩ := run_storeRow (P := P) (a := ⟨b, of, none⟩) rfl (elem := elem) (fz := fz) ws (k + 1) (pre ++ [v]) old post (w.setCell ⟨b, pre.length, none⟩ v) hset (by simp; omega) (by simpa using hl) (fun u hu => h1 u (by simp [hu]))
        (fun off k1 k2 => hf off (by simp at k1; omega) (by simp at k2 ⊢; omega))
      refine ⟨w', ?_, by simpa using e2, fun c hc' => ?_, ?_, ?_, ?_⟩
      · simp only [storeCells, Sem.run_bind, hadd, run_store P w _ v _ (h1 v (by simp)), hc, hfz]
        simpa using e1
      · rw [e3 c hc']; exact heap_setCell_other w _ c v hc'
      · rw [e4]; simp
      · rw [e5]; rfl
      · rw [e6]; rfl
end Go.Ev
end

section
set_option linter.unusedVariables false
set_option linter.unusedSimpArgs false
namespace Go.Ev
open Go
def map2 (f : Int → Int → Int) : SI → SI → SI
  | .lit a, .lit b => .lit (f a b)
  | a, b => .sym (f a.val b.val)
def map2B (f : Int → Int → Bool) : SI → SI → SB
  | .lit a, .lit b => .lit (f a b)
  | a, b => .sym (f a.val b.val)
@[simp] theorem map2_val (f : Int → Int → Int) (a b : SI) : (map2 f a b).val = f a.val b.val := by cases a <;> cases b <;> rfl
@[simp] theorem map2B_val (f : Int → Int → Bool) (a b : SI) : (map2B f a b).val = f a.val b.val := by cases a <;> cases b <;> rfl
def bitAnd (k : IntKind) (x y : Int) : Int := k.wrap (BitVec.ofInt k.bits x &&& BitVec.ofInt k.bits y).toNat
def bitOr (k : IntKind) (x y : Int) : Int := k.wrap (BitVec.ofInt k.bits x ||| BitVec.ofInt k.bits y).toNat
def bitXor (k : IntKind) (x y : Int) : Int := k.wrap (BitVec.ofInt k.bits x ^^^ BitVec.ofInt k.bits y).toNat
def bitAndNot (k : IntKind) (x y : Int) : Int := k.wrap (BitVec.ofInt k.bits x &&& ~~~BitVec.ofInt k.bits y).toNat
def shl (k : IntKind) (x y : Int) : Int := k.wrap (x * 2 ^ (min y.toNat k.bits))
def shr (k : IntKind) (x y : Int) : Int := x.fdiv (2 ^ (min y.toNat k.bits))
/-- an operation on two numbers: what it asks, what it gives -/
def intEv (op : BinOp) (k : IntKind) (a : SI) (b : SI) : Option (Option Prop × SV) :=
  match op with
  | .add => some (none, .int k (map2 (fun x y => k.wrap (x + y)) a b))
  | .sub => some (none, .int k (map2 (fun x y => k.wrap (x - y)) a b))
  | .mul => some (none, .int k (map2 (fun x y => k.wrap (x * y)) a b))
  | .quo => match b with
    | .lit y => if y = 0 then none else some (none, .int k (map2 (fun x y => k.wrap (x.tdiv y)) a b))
    | .sym y => some (some (y ≠ 0), .int k (map2 (fun x y => k.wrap (x.tdiv y)) a b))
  | .rem => match b with
    | .lit y => if y = 0 then none else some (none, .int k (map2 (fun x y => x.tmod y) a b))
    | .sym y => some (some (y ≠ 0), .int k (map2 (fun x y => x.tmod y) a b))
  | .and => some (none, .int k (map2 (bitAnd k) a b))
  | .or => some (none, .int k (map2 (bitOr k) a b))
  | .xor => some (none, .int k (map2 (bitXor k) a b))
  | .andNot => some (none, .int k (map2 (bitAndNot k) a b))
  | .eql => some (none, .bool (map2B (fun x y => x == y) a b))
  | .neq => some (none, .bool (map2B (fun x y => x != y) a b))
  | .lss => some (none, .bool (map2B (fun x y => decide (x < y)) a b))
  | .leq => some (none, .bool (map2B (fun x y => decide (x ≤ y)) a b))
  | .gtr => some (none, .bool (map2B (fun x y => decide (x > y)) a b))
  | .geq => some (none, .bool (map2B (fun x y => decide (x ≥ y)) a b))
  | _ => none
def shiftEv (f : Int → Int → Int) (k : IntKind) (a b : SI) : Option (Option Prop × SV) :=
  match b with
  | .lit y => if y < 0 then none else some (none, .int k (map2 f a b))
  | .sym y => some (some (0 ≤ y), .int k (map2 f a b))
def binEv (P : Program) (op : BinOp) (t : TypeId) : SV → SV → Option (Option Prop × SV)
  | .int k a, .int k' b =>
    match op with
    | .shl => shiftEv (shl k) k a b
    | .shr => shiftEv (shr k) k a b
    | _ => if k = k' then intEv op k a b else none
  | .bool a, .bool b =>
    match op, P.underlying t with
    | .eql, some .bool => some (none, .bool (match a, b with | .lit x, .lit y => .lit (x == y) | a, b => .sym (a.val == b.val)))
    | .neq, some .bool => some (none, .bool (match a, b with | .lit x, .lit y => .lit (!(x == y)) | a, b => .sym (!(a.val == b.val))))
    | _, _ => none
  | .ptr _ _, .con (.pointer none) =>
    match op, P.underlying t with
    | .eql, some (.pointer _) => some (none, .bool (.lit false))
    | .neq, some (.pointer _) => some (none, .bool (.lit true))
    | _, _ => none
  | .con (.pointer none), .con (.pointer none) =>
    match op, P.underlying t with
    | .eql, some (.pointer _) => some (none, .bool (.lit true))
    | .neq, some (.pointer _) => some (none, .bool (.lit false))
    | _, _ => none
  | .slice _ _ _ _, .con (.slice none _ _) =>
    match op, P.underlying t with
    | .eql, some (.slice _) => some (none, .bool (.lit false))
    | .neq, some (.slice _) => some (none, .bool (.lit true))
    | _, _ => none
  | .con (.slice none _ _), .con (.slice none _ _) =>
    match op, P.underlying t with
    | .eql, some (.slice _) => some (none, .bool (.lit true))
    | .neq, some (.slice _) => some (none, .bool (.lit false))
    | _, _ => none
  | _, _ => none
def needs : Option Prop → Prop
  | none => True
  | some p => p
theorem eqGuard_plain {P : Program} {w : World} {op : BinOp} {t : TypeId} {x y : Operand} {a b : Value}
    (ha : ∀ c, a ≠ .agg c) (hi : a ≠ .nilIface) : (eqGuard op t x y a b).run P w = .ok () w := by
  unfold eqGuard
  cases op <;> first
    | rfl
    | (cases a <;> first
        | (exact absurd rfl (ha _))
        | (exact absurd rfl hi)
        | (cases b <;> rfl))
theorem run_equal_of {P : Program} {w : World} {t : TypeId} {x y : Value} {b : Bool} (h : ∀ d, (Op.equalIn (d + 1) t x y).run P w = .ok b w) : (Op.equal t x y).run P w = .ok b w := h 9999
section
variable {P : Program} {w : World} {t : TypeId}
theorem eq_bool {a b : Bool} (hu : P.underlying t = some .bool) : (Op.equal t (.bool a) (.bool b)).run P w = .ok (a == b) w :=
  run_equal_of fun d => by simp [Op.equalIn, run_underlying hu]
theorem eq_ptr_nil {e : TypeId} {p : Addr} (hu : P.underlying t = some (.pointer e)) : (Op.equal t (.pointer (some p)) (.pointer none)).run P w = .ok false w :=
  run_equal_of fun d => by simp [Op.equalIn, run_underlying hu]
theorem eq_nil_nil {e : TypeId} (hu : P.underlying t = some (.pointer e)) : (Op.equal t (.pointer none) (.pointer none)).run P w = .ok true w :=
  run_equal_of fun d => by simp [Op.equalIn, run_underlying hu]
theorem eq_slice_nil {e : TypeId} {p : Addr} {l c l' c' : Nat} (hu : P.underlying t = some (.slice e)) : (Op.equal t (.slice (some p) l c) (.slice none l' c')).run P w = .ok false w :=
  run_equal_of fun d => by simp [Op.equalIn, run_underlying hu]
theorem eq_nils {e : TypeId} {l c l' c' : Nat} (hu : P.underlying t = some (.slice e)) : (Op.equal t (.slice none l c) (.slice none l' c')).run P w = .ok true w :=
  run_equal_of fun d => by simp [Op.equalIn, run_underlying hu]
theorem eql_run {x y : Value} {b : Bool} (hx : binOp .eql t x y = (do pure (.bool (← Op.equal t x y)))) (h : (Op.equal t x y).run P w = .ok b w) : (binOp .eql t x y).run P w = .ok (.bool b) w := by
  rw [hx, Sem.run_bind, h]; rfl
theorem neq_run {x y : Value} {b : Bool} (hx : binOp .neq t x y = (do pure (.bool (!(← Op.equal t x y))))) (h : (Op.equal t x y).run P w = .ok b w) : (binOp .neq t x y).run P w = .ok (.bool (!b)) w := by
  rw [hx, Sem.run_bind, h]; rfl
end
theorem int_ok {P : Program} {w : World} {op : BinOp} {t : TypeId} {k : IntKind} {a b : SI} {β : Env} {L : Nat → Option Kd} {q : Option Prop} {s : SV}
    (h : intEv op k a b = some (q, s)) (hq : needs q) :
    ∃ v, (binOp op t (.int k a.val) (.int k b.val)).run P w = .ok v w ∧ s.den β L v := by
  cases op <;> simp only [intEv] at h <;> try (simp at h; done)
  case quo =>
    cases b with
    | lit y => simp only at h; split at h
               · simp at h
               · rename_i hy; simp at h; obtain ⟨_, rfl⟩ := h
                 exact ⟨_, by simp [binOp, Op.intDiv, SI.val, hy]; rfl, by simp only [SV.den, map2_val]; rfl⟩
    | sym y => simp at h; obtain ⟨rfl, rfl⟩ := h
               have hy : ¬ y = 0 := hq
               exact ⟨_, by simp [binOp, Op.intDiv, SI.val, hy]; rfl, by simp only [SV.den, map2_val]; rfl⟩
  case rem =>
    cases b with
    | lit y => simp only at h; split at h
               · simp at h
               · rename_i hy; simp at h; obtain ⟨_, rfl⟩ := h
                 exact ⟨_, by simp [binOp, Op.intDiv, SI.val, hy]; rfl, by simp only [SV.den, map2_val]; rfl⟩
    | sym y => simp at h; obtain ⟨rfl, rfl⟩ := h
               have hy : ¬ y = 0 := hq
               exact ⟨_, by simp [binOp, Op.intDiv, SI.val, hy]; rfl, by simp only [SV.den, map2_val]; rfl⟩
  all_goals
    simp at h; obtain ⟨_, rfl⟩ := h
    exact ⟨_, by simp [binOp, Op.intArith, Op.intBits, Op.intCmp]; rfl, by simp [SV.den, bitAnd, bitOr, bitXor, bitAndNot]⟩
theorem shift_ok {P : Program} {w : World} {op : BinOp} {t : TypeId} {k k' : IntKind} {a b : SI} {β : Env} {L : Nat → Option Kd} {q : Option Prop} {s : SV} {f : Int → Int → Int}
    (hop : (op = .shl ∧ f = shl k) ∨ (op = .shr ∧ f = shr k)) (h : shiftEv f k a b = some (q, s)) (hq : needs q) :
    ∃ v, (binOp op t (.int k a.val) (.int k' b.val)).run P w = .ok v w ∧ s.den β L v := by
  have key : 0 ≤ b.val → ∃ v, (binOp op t (.int k a.val) (.int k' b.val)).run P w = .ok v w ∧ (SV.int k (map2 f a b)).den β L v := by
    intro hb
    have hb' : ¬ b.val < 0 := by omega
    rcases hop with ⟨rfl, rfl⟩ | ⟨rfl, rfl⟩
    · exact ⟨_, by simp [binOp, Op.shift, hb']; rfl, by simp [SV.den, shl]⟩
    · exact ⟨_, by simp [binOp, Op.shift, hb']; rfl, by simp [SV.den, shr]⟩
  cases b with
  | lit y =>
    simp only [shiftEv] at h
    split at h
    · simp at h
    · simp at h; obtain ⟨_, rfl⟩ := h; exact key (by simp only [SI.val]; omega)
  | sym y =>
    simp only [shiftEv] at h
    simp at h; obtain ⟨rfl, rfl⟩ := h
    exact key hq
theorem bin_ok {P : Program} {w : World} {op : BinOp} {t : TypeId} {ox oy : Operand} {x y : SV} {xv yv : Value} {β : Env} {L : Nat → Option Kd} {q : Option Prop} {s : SV}
    (h : binEv P op t x y = some (q, s)) (hq : needs q) (hx : x.den β L xv) (hy : y.den β L yv) :
    ∃ v, (do eqGuard op t ox oy xv yv; binOp op t xv yv : Sem Value).run P w = .ok v w ∧ s.den β L v := by
  unfold binEv at h
  split at h
  · -- numbers
    rename_i k a k' b
    simp only [SV.den] at hx hy
    subst hx hy
    simp only [Sem.run_bind, eqGuard_plain (P := P) (w := w) (op := op) (t := t) (x := ox) (y := oy) (a := .int k a.val) (b := .int k' b.val) (by simp) (by simp), Result.andThen_ok]
    split at h
    · exact shift_ok (.inl ⟨rfl, rfl⟩) h hq
    · exact shift_ok (.inr ⟨rfl, rfl⟩) h hq
    · split at h
      · rename_i hk; subst hk; exact int_ok h hq
      · simp at h
  · rename_i a b
    simp only [SV.den] at hx hy
    subst hx hy
    simp only [Sem.run_bind, eqGuard_plain (P := P) (w := w) (op := op) (t := t) (x := ox) (y := oy) (a := .bool a.val) (b := .bool b.val) (by simp) (by simp), Result.andThen_ok]
    split at h
    · rename_i hu
      simp at h; obtain ⟨_, rfl⟩ := h
      exact ⟨.bool (a.val == b.val), eql_run rfl (eq_bool hu), by cases a <;> cases b <;> rfl⟩
    · rename_i hu
      simp at h; obtain ⟨_, rfl⟩ := h
      exact ⟨.bool (!(a.val == b.val)), neq_run rfl (eq_bool hu), by cases a <;> cases b <;> rfl⟩
    · simp at h
  · rename_i b o
    simp only [SV.den] at hx hy
    obtain ⟨_, rfl⟩ := hx
    obtain ⟨_, rfl⟩ := hy
    simp only [Sem.run_bind, eqGuard_plain (P := P) (w := w) (op := op) (t := t) (x := ox) (y := oy) (a := .pointer (some ⟨β b, o, none⟩)) (b := .pointer none) (by simp) (by simp), Result.andThen_ok]
    split at h
    · rename_i hu
      simp at h; obtain ⟨_, rfl⟩ := h
      exact ⟨.bool false, eql_run rfl (eq_ptr_nil hu), rfl⟩
    · rename_i hu
      simp at h; obtain ⟨_, rfl⟩ := h
      exact ⟨.bool true, neq_run rfl (eq_ptr_nil hu), rfl⟩
    · simp at h
  · simp only [SV.den] at hx hy
    obtain ⟨_, rfl⟩ := hx
    obtain ⟨_, rfl⟩ := hy
    simp only [Sem.run_bind, eqGuard_plain (P := P) (w := w) (op := op) (t := t) (x := ox) (y := oy) (a := .pointer none) (b := .pointer none) (by simp) (by simp), Result.andThen_ok]
    split at h
    · rename_i hu
      simp at h; obtain ⟨_, rfl⟩ := h
      exact ⟨.bool true, eql_run rfl (eq_nil_nil hu), rfl⟩
    · rename_i hu
      simp at h; obtain ⟨_, rfl⟩ := h
      exact ⟨.bool false, neq_run rfl (eq_nil_nil hu), rfl⟩
    · simp at h
  · rename_i b o l c l' c'
    simp only [SV.den] at hx hy
    obtain ⟨_, rfl⟩ := hx
    obtain ⟨_, rfl⟩ := hy
    simp only [Sem.run_bind, eqGuard_plain (P := P) (w := w) (op := op) (t := t) (x := ox) (y := oy) (a := .slice (some ⟨β b, o, none⟩) l c) (b := .slice none l' c') (by simp) (by simp), Result.andThen_ok]
    split at h
    · rename_i hu
      simp at h; obtain ⟨_, rfl⟩ := h
      exact ⟨.bool false, eql_run rfl (eq_slice_nil hu), rfl⟩
    · rename_i hu
      simp at h; obtain ⟨_, rfl⟩ := h
      exact ⟨.bool true, neq_run rfl (eq_slice_nil hu), rfl⟩
    · simp at h
  · rename_i l c l' c'
    simp only [SV.den] at hx hy
    obtain ⟨_, rfl⟩ := hx
    obtain ⟨_, rfl⟩ := hy
    simp only [Sem.run_bind, eqGuard_plain (P := P) (w := w) (op := op) (t := t) (x := ox) (y := oy) (a := .slice none l c) (b := .slice none l' c') (by simp) (by simp), Result.andThen_ok]
    split at h
    · rename_i hu
      simp at h; obtain ⟨_, rfl⟩ := h
      exact ⟨.bool true, eql_run rfl (eq_nils hu), rfl⟩
    · rename_i hu
      simp at h; obtain ⟨_, rfl⟩ := h
      exact ⟨.bool false, neq_run rfl (eq_nils hu), rfl⟩
    · simp at h
  · simp at h
def strEq (l m : List Int) : Bool := (strOf l).toList == (strOf m).toList
/-- a string's bytes -/
def strOfS : SV → Option (List Int)
  | .str l => some l
  | .con (.string s) => some (strInts s)
  | _ => none
theorem strOfS_den {β : Env} {L : Nat → Option Kd} {s : SV} {l : List Int} {v : Value} (h : strOfS s = some l) (hd : s.den β L v) : v = .string (strOf l) := by
  unfold strOfS at h; split at h
  · simp at h; subst h; exact hd
  · simp at h; subst h
    obtain ⟨_, rfl⟩ := hd
    rw [strOf_strInts]
  · cases h
def strEv (op : BinOp) (l m : List Int) : Option SV :=
  match op with
  | .eql => some (.bool (.sym (strEq l m)))
  | .neq => some (.bool (.sym (!strEq l m)))
  | _ => none
/-- both have item i: as a block; as an own slice (its versions there, and here); it was made of nil there -/
structure JC where
  blk : Nat → Bool
  own : Nat → Option (Nat × Nat × Nat)
  nl : Nat → Bool
  nr : Nat → Bool
def joinRow (b : Bool) (J : JC) : SV → SV → Option SV
  | .arr t n l, .arr t' n' l' => if h : t' = t then (if n = n' then some (.arr t n (bif b then l else h ▸ l')) else none) else none
  | _, _ => none
def joinS (b : Bool) (J : JC) : SV → SV → SV
  | .int k x, .int k' y => if k = k' then
      match x, y with
      | .lit x, .lit y => if x = y then .int k (.lit x) else .int k (.sym (bif b then x else y))
      | x, y => .int k (.sym (bif b then x.val else y.val))
    else .junk
  | .bool x, .bool y => match x, y with
    | .lit x, .lit y => if x = y then .bool (.lit x) else .bool (.sym (bif b then x else y))
    | x, y => .bool (.sym (bif b then x.val else y.val))
  | .flt x, .flt y => .flt (bif b then x else y)
  | .str x, .str y => .str (bif b then x else y)
  | .str x, .con (.string y) => .str (bif b then x else strInts y)
  | .con (.string x), .str y => .str (bif b then strInts x else y)
  | .con (.string x), .con (.string y) => if x.data = y.data then .con (.string x) else .str (bif b then strInts x else strInts y)
  | .ptr i o, .ptr i' o' => if i = i' ∧ o = o' ∧ J.blk i = true then .ptr i o else .junk
  | .slice i o l c, .slice i' o' l' c' => if i = i' ∧ o = o' ∧ l = l' ∧ c = c' ∧ J.blk i = true then .slice i o l c else .junk
  | .con (.pointer none), .con (.pointer none) => .con (.pointer none)
  | .con (.slice none l c), .con (.slice none l' c') => if l = l' ∧ c = c' then .con (.slice none l c) else .junk
  | .con .nilIface, .con .nilIface => .con .nilIface
  | .con .nilFunc, .con .nilFunc => .con .nilFunc
  | .rd pm nn t l, .rd pm' nn' t' l' => if h : t' = t then .rd (pm && pm') (nn && nn') t (bif b then l else h ▸ l') else .junk
  | .rd pm _ t l, .con (.slice none 0 0) => .rd pm false t (bif b then l else [])
  | .con (.slice none 0 0), .rd pm _ t l => .rd pm false t (bif b then [] else l)
  | .sl i v, .sl i' v' => if i = i' then match J.own i with
      | some (vx, vy, vz) => if v = vx ∧ v' = vy then .sl i vz else .junk
      | none => .junk
    else .junk
  | .con (.slice none 0 0), .sl i v => match J.own i with
      | some (_, vy, vz) => if J.nl i = true ∧ v = vy then .sl i vz else .junk
      | none => .junk
  | .sl i v, .con (.slice none 0 0) => match J.own i with
      | some (vx, _, vz) => if J.nr i = true ∧ v = vx then .sl i vz else .junk
      | none => .junk
  | .vw i v w z n, .vw i' v' w' z' n' => if i = i' ∧ w = w' then match J.own i with
      | some (vx, vy, vz) => if v = vx ∧ v' = vy then .vw i vz w (bif b then z else z') (bif b then n else n') else .junk
      | none => .junk
    else .junk
  | .vb i o t m z n, .vb i' o' t' m' z' n' => if i = i' ∧ o = o' ∧ t = t' ∧ m = m' ∧ J.blk i = true then .vb i o t m (bif b then z else z') (bif b then n else n') else .junk
  | _, _ => .junk
def joinL (b : Bool) (J : JC) : List SV → List SV → Option (List SV)
  | [], [] => some []
  | x :: l, y :: r => match x, y with
    | .arr t n a, y => match joinRow b J (.arr t n a) y with
      | some z => (joinL b J l r).map (z :: ·)
      | none => none
    | _, .arr _ _ _ => none
    | x, y => (joinL b J l r).map (joinS b J x y :: ·)
  | _, _ => none
def joinW (b : Bool) (J : JC) : VV → VV → Option VV
  | .sc x, .sc y => some (.sc (joinS b J x y))
  | .agg l, .agg r => (joinL b J l r).map .agg
  | _, _ => none
def joinT (b : Bool) (J : JC) : List VV → List VV → Option (List VV)
  | [], [] => some []
  | x :: l, y :: r => match joinW b J x y, joinT b J l r with
    | some z, some m => some (z :: m)
    | _, _ => none
  | _, _ => none
def joinV (b : Bool) (J : JC) : LV → LV → LV
  | .one x, .one y => match joinW b J x y with
    | some z => .one z
    | none => .junk
  | .tup l, .tup r => match joinT b J l r with
    | some z => .tup z
    | none => .junk
  | _, _ => .junk
/-- the left one is there -/
structure JLeft (J : JC) (β : Env) (L₁ L : Nat → Option Kd) : Prop where
  blk : ∀ i, J.blk i = true → L₁ i = some .blk → L i = some .blk
  own : ∀ i x y z, J.own i = some (x, y, z) → L₁ i = some (.own x) ∧ L i = some (.own z)
  nil : ∀ i, J.nl i = true → β.h i = .slice none 0 0
structure JRight (J : JC) (β : Env) (L₁ L : Nat → Option Kd) : Prop where
  blk : ∀ i, J.blk i = true → L₁ i = some .blk → L i = some .blk
  own : ∀ i x y z, J.own i = some (x, y, z) → L₁ i = some (.own y) ∧ L i = some (.own z)
  nil : ∀ i, J.nr i = true → β.h i = .slice none 0 0
theorem joinS_left {J : JC} {β : Env} {L₁ L : Nat → Option Kd} (hJ : JLeft J β L₁ L) {x y : SV} {v : Value} (h : x.den β L₁ v) : (joinS true J x y).den β L v := by
  have h1 := SV.den_oneCell h
  unfold joinS
  split
  · split
    · rename_i hk; subst hk
      split
      · split <;> exact h
      · exact h
    · exact h1
  · split
    · split <;> exact h
    · exact h
  · exact h
  · exact h
  · exact h
  · obtain ⟨_, rfl⟩ := h
    simp only [SV.den, cond_true, strOf_strInts]
  · obtain ⟨_, rfl⟩ := h
    split
    · exact ⟨rfl, rfl⟩
    · simp only [SV.den, cond_true, strOf_strInts]
  · split
    · rename_i e; exact ⟨hJ.blk _ e.2.2 h.1, h.2⟩
    · exact h1
  · split
    · rename_i e; exact ⟨hJ.blk _ e.2.2.2.2 h.1, h.2⟩
    · exact h1
  · exact h
  · split
    · exact h
    · exact h1
  · exact h
  · exact h
  · split
    · rename_i e
      subst e
      obtain ⟨k1, k2, k3⟩ := h
      refine ⟨k1, fun hn => k2 (by simp at hn; exact hn.1), ?_⟩
      rcases k3 with k | ⟨rfl, k⟩ | k
      · exact .inl k
      · exact .inr (.inl ⟨rfl, k⟩)
      · exact .inr (.inr k)
    · exact h1
  · obtain ⟨k1, k2, k3⟩ := h
    exact ⟨k1, fun hn => (by cases hn), k3⟩
  · obtain ⟨_, rfl⟩ := h
    exact ⟨rfl, fun hn => (by cases hn), .inr (.inr ⟨rfl, rfl⟩)⟩
  · split
    · rename_i e; subst e
      split
      · rename_i vx vy vz ho
        split
        · rename_i e; obtain ⟨rfl, rfl⟩ := e
          obtain ⟨k1, c, k2, k3, k4⟩ := h
          obtain ⟨m1, m2⟩ := hJ.own _ _ _ _ ho
          rw [m1] at k2; simp at k2
          exact ⟨k1, vz, m2, Nat.le_refl _, fun _ => k4 k2⟩
        · exact h1
      · exact h1
    · exact h1
  · split
    · rename_i vx vy vz ho
      split
      · rename_i e
        obtain ⟨m1, m2⟩ := hJ.own _ _ _ _ ho
        obtain ⟨_, rfl⟩ := h
        exact ⟨rfl, vz, m2, Nat.le_refl _, fun _ => (hJ.nil _ e.1).symm⟩
      · exact h1
    · exact h1
  · split
    · rename_i vx vy vz ho
      split
      · rename_i e; obtain ⟨_, rfl⟩ := e
        obtain ⟨k1, c, k2, k3, k4⟩ := h
        obtain ⟨m1, m2⟩ := hJ.own _ _ _ _ ho
        rw [m1] at k2; simp at k2
        exact ⟨k1, vz, m2, Nat.le_refl _, fun _ => k4 k2⟩
      · exact h1
    · exact h1
  · split
    · rename_i e; obtain ⟨rfl, rfl⟩ := e
      split
      · rename_i vx vy vz ho
        split
        · rename_i e; obtain ⟨rfl, rfl⟩ := e
          obtain ⟨k1, c, k2, k3, k4⟩ := h
          obtain ⟨m1, m2⟩ := hJ.own _ _ _ _ ho
          rw [m1] at k2; simp at k2
          exact ⟨k1, vz, m2, Nat.le_refl _, fun _ => k4 k2⟩
        · exact h1
      · exact h1
    · exact h1
  · split
    · rename_i e
      obtain ⟨k1, k2⟩ := h
      exact ⟨hJ.blk _ e.2.2.2.2 k1, k2⟩
    · exact h1
  · exact h1
theorem joinS_right {J : JC} {β : Env} {L₁ L : Nat → Option Kd} (hJ : JRight J β L₁ L) {x y : SV} {v : Value} (h : y.den β L₁ v) : (joinS false J x y).den β L v := by
  have h1 := SV.den_oneCell h
  unfold joinS
  split
  · split
    · rename_i hk; subst hk
      split
      · split
        · rename_i e; subst e; exact h
        · exact h
      · exact h
    · exact h1
  · split
    · split
      · rename_i e; subst e; exact h
      · exact h
    · exact h
  · exact h
  · exact h
  · obtain ⟨_, rfl⟩ := h
    simp only [SV.den, cond_false, strOf_strInts]
  · exact h
  · obtain ⟨_, rfl⟩ := h
    split
    · rename_i e; exact ⟨rfl, by congr 1; exact congrArg ByteArray.mk e.symm⟩
    · simp only [SV.den, cond_false, strOf_strInts]
  · split
    · rename_i e; obtain ⟨rfl, rfl, e⟩ := e; exact ⟨hJ.blk _ e h.1, h.2⟩
    · exact h1
  · split
    · rename_i e; obtain ⟨rfl, rfl, rfl, rfl, e⟩ := e; exact ⟨hJ.blk _ e h.1, h.2⟩
    · exact h1
  · exact h
  · split
    · rename_i e; obtain ⟨rfl, rfl⟩ := e; exact h
    · exact h1
  · exact h
  · exact h
  · split
    · rename_i e
      subst e
      obtain ⟨k1, k2, k3⟩ := h
      refine ⟨k1, fun hn => k2 (by simp at hn; exact hn.2), ?_⟩
      rcases k3 with k | ⟨rfl, k⟩ | k
      · exact .inl k
      · exact .inr (.inl ⟨by simp, k⟩)
      · exact .inr (.inr k)
    · exact h1
  · obtain ⟨_, rfl⟩ := h
    exact ⟨rfl, fun hn => (by cases hn), .inr (.inr ⟨rfl, rfl⟩)⟩
  · obtain ⟨k1, k2, k3⟩ := h
    exact ⟨k1, fun hn => (by cases hn), k3⟩
  · split
    · rename_i e; subst e
      split
      · rename_i vx vy vz ho
        split
        · rename_i e; obtain ⟨rfl, rfl⟩ := e
          obtain ⟨k1, c, k2, k3, k4⟩ := h
          obtain ⟨m1, m2⟩ := hJ.own _ _ _ _ ho
          rw [m1] at k2; simp at k2
          exact ⟨k1, vz, m2, Nat.le_refl _, fun _ => k4 k2⟩
        · exact h1
      · exact h1
    · exact h1
  · split
    · rename_i vx vy vz ho
      split
      · rename_i e; obtain ⟨_, rfl⟩ := e
        obtain ⟨k1, c, k2, k3, k4⟩ := h
        obtain ⟨m1, m2⟩ := hJ.own _ _ _ _ ho
        rw [m1] at k2; simp at k2
        exact ⟨k1, vz, m2, Nat.le_refl _, fun _ => k4 k2⟩
      · exact h1
    · exact h1
  · split
    · rename_i vx vy vz ho
      split
      · rename_i e
        obtain ⟨m1, m2⟩ := hJ.own _ _ _ _ ho
        obtain ⟨_, rfl⟩ := h
        exact ⟨rfl, vz, m2, Nat.le_refl _, fun _ => (hJ.nil _ e.1).symm⟩
      · exact h1
    · exact h1
  · split
    · rename_i e; obtain ⟨rfl, rfl⟩ := e
      split
      · rename_i vx vy vz ho
        split
        · rename_i e; obtain ⟨rfl, rfl⟩ := e
          obtain ⟨k1, c, k2, k3, k4⟩ := h
          obtain ⟨m1, m2⟩ := hJ.own _ _ _ _ ho
          rw [m1] at k2; simp at k2
          exact ⟨k1, vz, m2, Nat.le_refl _, fun _ => k4 k2⟩
        · exact h1
      · exact h1
    · exact h1
  · split
    · rename_i e; obtain ⟨rfl, rfl, rfl, rfl, e⟩ := e
      obtain ⟨k1, k2⟩ := h
      exact ⟨hJ.blk _ e k1, k2⟩
    · exact h1
  · exact h1
theorem joinRow_left {J : JC} {β : Env} {L₁ L : Nat → Option Kd} {x y z : SV} {vs : List Value} (hz : joinRow true J x y = some z) (h : x.dens β L₁ vs) : z.dens β L vs := by
  unfold joinRow at hz; split at hz
  · split at hz
    · split at hz
      · simp at hz; subst hz; exact h
      · cases hz
    · cases hz
  · cases hz
theorem joinRow_right {J : JC} {β : Env} {L₁ L : Nat → Option Kd} {x y z : SV} {vs : List Value} (hz : joinRow false J x y = some z) (h : y.dens β L₁ vs) : z.dens β L vs := by
  unfold joinRow at hz; split at hz
  · split at hz
    · rename_i e; subst e
      split at hz
      · rename_i e; subst e; simp at hz; subst hz; exact h
      · cases hz
    · cases hz
  · cases hz
theorem joinL_left {J : JC} {β : Env} {L₁ L : Nat → Option Kd} (hJ : JLeft J β L₁ L) : ∀ {l r z : List SV} {cs : List Value}, joinL true J l r = some z → DenL β L₁ l cs → DenL β L z cs
  | [], [], z, cs, h, hd => by simp [joinL] at h; subst h; cases hd; exact .nil
  | x :: l, y :: r, z, cs, h, hd => by
    simp only [joinL] at h
    cases hd with
    | cons h1 h2 =>
      split at h
      · split at h
        · rename_i z' hz
          obtain ⟨z'', hz', rfl⟩ := Option.map_eq_some_iff.1 h
          exact .cons (joinRow_left hz h1) (joinL_left hJ hz' h2)
        · cases h
      · cases h
      · rename_i hx hy
        obtain ⟨z'', hz', rfl⟩ := Option.map_eq_some_iff.1 h
        obtain ⟨v, rfl, h3⟩ := SV.den_of h1 (fun t n l e => hx t n l e)
        exact DenL.cons1 (joinS_left hJ h3) (joinL_left hJ hz' h2)
  | [], _ :: _, _, _, h, _ => by simp [joinL] at h
  | _ :: _, [], _, _, h, _ => by simp [joinL] at h
theorem joinL_right {J : JC} {β : Env} {L₁ L : Nat → Option Kd} (hJ : JRight J β L₁ L) : ∀ {l r z : List SV} {cs : List Value}, joinL false J l r = some z → DenL β L₁ r cs → DenL β L z cs
  | [], [], z, cs, h, hd => by simp [joinL] at h; subst h; cases hd; exact .nil
  | x :: l, y :: r, z, cs, h, hd => by
    simp only [joinL] at h
    cases hd with
    | cons h1 h2 =>
      split at h
      · split at h
        · rename_i z' hz
          obtain ⟨z'', hz', rfl⟩ := Option.map_eq_some_iff.1 h
          exact .cons (joinRow_right hz h1) (joinL_right hJ hz' h2)
        · cases h
      · cases h
      · rename_i hx hy
        obtain ⟨z'', hz', rfl⟩ := Option.map_eq_some_iff.1 h
        obtain ⟨v, rfl, h3⟩ := SV.den_of h1 (fun t n l e => hy t n l e)
        exact DenL.cons1 (joinS_right hJ h3) (joinL_right hJ hz' h2)
  | [], _ :: _, _, _, h, _ => by simp [joinL] at h
  | _ :: _, [], _, _, h, _ => by simp [joinL] at h
theorem joinW_left {J : JC} {β : Env} {L₁ L : Nat → Option Kd} (hJ : JLeft J β L₁ L) {x y z : VV} {v : Value} (hz : joinW true J x y = some z) (h : x.den β L₁ v) : z.den β L v := by
  unfold joinW at hz
  split at hz
  · simp at hz; subst hz
    exact joinS_left (L₁ := L₁) hJ h
  · obtain ⟨z', hz', rfl⟩ := Option.map_eq_some_iff.1 hz
    obtain ⟨cs, rfl, hd⟩ := h
    exact ⟨cs, rfl, joinL_left hJ hz' hd⟩
  · simp at hz
theorem joinT_left {J : JC} {β : Env} {L₁ L : Nat → Option Kd} (hJ : JLeft J β L₁ L) : ∀ {l r z : List VV} {cs : List Value}, joinT true J l r = some z → All2 (VV.den β L₁) l cs → All2 (VV.den β L) z cs
  | [], [], z, cs, h, hd => by simp [joinT] at h; subst h; cases hd; exact .nil
  | x :: l, y :: r, z, cs, h, hd => by
    simp only [joinT] at h
    split at h
    · rename_i z' m h1 h2
      simp at h; subst h
      cases hd with
      | cons h3 h4 => exact .cons (joinW_left hJ h1 h3) (joinT_left hJ h2 h4)
    · simp at h
  | [], _ :: _, _, _, h, _ => by simp [joinT] at h
  | _ :: _, [], _, _, h, _ => by simp [joinT] at h
theorem joinV_left {J : JC} {β : Env} {L₁ L : Nat → Option Kd} (hJ : JLeft J β L₁ L) {x y : LV} {v : Value} (h : x.den β L₁ v) : (joinV true J x y).den β L v := by
  unfold joinV
  split
  · split
    · rename_i z hz; exact joinW_left hJ hz h
    · trivial
  · split
    · rename_i z hz
      obtain ⟨cs, rfl, hd⟩ := h
      exact ⟨cs, rfl, joinT_left hJ hz hd⟩
    · trivial
  · trivial
theorem joinW_right {J : JC} {β : Env} {L₁ L : Nat → Option Kd} (hJ : JRight J β L₁ L) {x y z : VV} {v : Value} (hz : joinW false J x y = some z) (h : y.den β L₁ v) : z.den β L v := by
  unfold joinW at hz
  split at hz
  · simp at hz; subst hz
    exact joinS_right (L₁ := L₁) hJ h
  · obtain ⟨z', hz', rfl⟩ := Option.map_eq_some_iff.1 hz
    obtain ⟨cs, rfl, hd⟩ := h
    exact ⟨cs, rfl, joinL_right hJ hz' hd⟩
  · simp at hz
theorem joinT_right {J : JC} {β : Env} {L₁ L : Nat → Option Kd} (hJ : JRight J β L₁ L) : ∀ {l r z : List VV} {cs : List Value}, joinT false J l r = some z → All2 (VV.den β L₁) r cs → All2 (VV.den β L) z cs
  | [], [], z, cs, h, hd => by simp [joinT] at h; subst h; cases hd; exact .nil
  | x :: l, y :: r, z, cs, h, hd => by
    simp only [joinT] at h
    split at h
    · rename_i z' m h1 h2
      simp at h; subst h
      cases hd with
      | cons h3 h4 => exact .cons (joinW_right hJ h1 h3) (joinT_right hJ h2 h4)
    · simp at h
  | [], _ :: _, _, _, h, _ => by simp [joinT] at h
  | _ :: _, [], _, _, h, _ => by simp [joinT] at h
theorem joinV_right {J : JC} {β : Env} {L₁ L : Nat → Option Kd} (hJ : JRight J β L₁ L) {x y : LV} {v : Value} (h : y.den β L₁ v) : (joinV false J x y).den β L v := by
  unfold joinV
  split
  · split
    · rename_i z hz; exact joinW_right hJ hz h
    · trivial
  · split
    · rename_i z hz
      obtain ⟨cs, rfl, hd⟩ := h
      exact ⟨cs, rfl, joinT_right hJ hz hd⟩
    · trivial
  · trivial
end Go.Ev
end

section
set_option linter.unusedVariables false
set_option linter.unusedSimpArgs false
namespace Go.Ev
open Go
def optNat : SI → Option Nat
  | .lit n => if 0 ≤ n then some n.toNat else none
  | .sym _ => none
theorem optNat_val {i : SI} {n : Nat} (h : optNat i = some n) : i.val = n := by
  cases i with
  | lit k => simp only [optNat] at h; split at h
             · simp at h; simp only [SI.val]; omega
             · cases h
  | sym k => cases h
def litNat (x : LV) : Option (IntKind × Nat) :=
  match x with
  | .one (.sc (.int k n)) => (optNat n).map (k, ·)
  | _ => none
theorem litNat_den {β : Env} {L : Nat → Option Kd} {x : LV} {k : IntKind} {i : Nat} {v : Value} (h : litNat x = some (k, i)) (hd : x.den β L v) : v = .int k i := by
  unfold litNat at h
  split at h
  · rename_i k' n
    obtain ⟨m, h1, h2⟩ := Option.map_eq_some_iff.1 h
    simp at h2; obtain ⟨rfl, rfl⟩ := h2
    have e : v = .int k' n.val := hd
    rw [e, optNat_val h1]
  · cases h
/-- a number, written out or not -/
def anyInt (x : LV) : Option (IntKind × Int) :=
  match x with
  | .one (.sc (.int k n)) => some (k, n.val)
  | _ => none
theorem anyInt_den {β : Env} {L : Nat → Option Kd} {x : LV} {k : IntKind} {i : Int} {v : Value} (h : anyInt x = some (k, i)) (hd : x.den β L v) : v = .int k i := by
  unfold anyInt at h
  split at h
  · simp at h; obtain ⟨rfl, rfl⟩ := h; exact hd
  · simp at h
def opSc : LV → Option SV
  | .one (.sc s) => some s
  | _ => none
theorem opSc_den {β : Env} {L : Nat → Option Kd} {x : LV} {s : SV} {v : Value} (h : opSc x = some s) (hd : x.den β L v) : s.den β L v := by
  unfold opSc at h; split at h
  · simp at h; subst h; exact hd
  · simp at h
theorem map_some {α β : Type} {f : α → β} {x : Option α} {y : β} (h : x.map f = some y) : ∃ a, x = some a ∧ f a = y := Option.map_eq_some_iff.1 h
/-- the cells of a value -/
def cellsOf : LV → Option (List SV)
  | .one (.sc s) => some [s]
  | .one (.agg l) => some l
  | _ => none
theorem oneCell_cells {v : Value} (h : v.oneCell' = true) : v.cells = #[v] := by cases v <;> first | rfl | cases h
theorem cellsOf_den {β : Env} {L : Nat → Option Kd} {x : LV} {l : List SV} {v : Value} (h : cellsOf x = some l) (hd : x.den β L v) : ∃ vs : List Value, v.cells = vs.toArray ∧ DenL β L l vs := by
  unfold cellsOf at h
  split at h
  · rename_i s
    simp at h; subst h
    exact ⟨[v], oneCell_cells (SV.den_oneCell hd), HasL.one (SV.dens_of hd)⟩
  · simp at h; subst h
    obtain ⟨cs, rfl, h⟩ := hd
    exact ⟨cs, rfl, h⟩
  · cases h
def aggType (P : Program) (t : TypeId) : Option Bool :=
  match P.underlying t with
  | some (.struct _) | some (.array _ _) => some true
  | some _ => some false
  | none => none
def sizeT (P : Program) (t : TypeId) : Option Nat := (P.info? t).map (·.size)
def bytesT (P : Program) (t : TypeId) : Option Nat := (P.info? t).map (·.bytes)
theorem run_isAgg {P : Program} {t : TypeId} {b : Bool} {w : World} (h : aggType P t = some b) : (isAgg t).run P w = .ok b w := by
  unfold aggType at h
  unfold isAgg underlying
  cases hu : P.underlying t with
  | none => simp [hu] at h
  | some d =>
    rw [hu] at h
    cases d <;> simp at h <;> subst h <;> simp [hu]
theorem run_sizeOf {P : Program} {t : TypeId} {n : Nat} {w : World} (h : sizeT P t = some n) : (sizeOf t).run P w = .ok n w := by
  unfold sizeT at h
  unfold sizeOf typeInfo
  cases hi : P.info? t with
  | none => simp [hi] at h
  | some i => simp [hi] at h; subst h; simp [hi]
def fieldsT (P : Program) (t : TypeId) : Option (List Field) :=
  match P.underlying t with
  | some (.struct fs) => some fs.toList
  | _ => none
def arrayT (P : Program) (t : TypeId) : Option (Nat × TypeId) :=
  match P.underlying t with
  | some (.array n e) => some (n, e)
  | _ => none
def sliceT (P : Program) (t : TypeId) : Option TypeId :=
  match P.underlying t with
  | some (.slice e) => some e
  | _ => none
theorem fieldsT_eq {P : Program} {t : TypeId} {fs : List Field} (h : fieldsT P t = some fs) : P.underlying t = some (.struct fs.toArray) := by
  unfold fieldsT at h; split at h
  · rename_i f hu; simp at h; subst h; simpa using hu
  · simp at h
theorem arrayT_eq {P : Program} {t e : TypeId} {n : Nat} (h : arrayT P t = some (n, e)) : P.underlying t = some (.array n e) := by
  unfold arrayT at h; split at h
  · rename_i f hu; simp at h; obtain ⟨rfl, rfl⟩ := h; simpa using hu
  · simp at h
theorem sliceT_eq {P : Program} {t e : TypeId} (h : sliceT P t = some e) : P.underlying t = some (.slice e) := by
  unfold sliceT at h; split at h
  · rename_i f hu; simp at h; subst h; simpa using hu
  · simp at h
/-- the shape of a type's elements -/
def tyOf (P : Program) : Nat → TypeId → Option Ty
  | 0, _ => none
  | f + 1, t => match P.underlying t with
    | some (.int k) => some (.int k)
    | some .bool => some .bool
    | some (.float .f64) => some .flt
    | some .string => some .str
    | some (.slice e) => (tyOf P f e).map .sl
    | some (.array n e) => (tyOf P f e).map (.arr · n)
    | some (.struct fs) => match optAll (fun fd : Field => tyOf P f fd.type) fs.toList with
      | some (x :: l) => some (l.foldr (fun a (g : Ty → Ty) b => .pair b (g a)) id x)
      | _ => none
    | _ => none
/-- which cells of a type are rows of numbers -/
def layout (P : Program) : Nat → TypeId → Option (List (Option (IntKind × Nat)))
  | 0, _ => none
  | f + 1, t => match P.underlying t with
    | some (.array n e) => (match P.underlying e with
      | some (.int k) => if 32 < n then some [some (k, n)] else some (List.replicate n none)
      | _ => (layout P f e).map fun l => (List.replicate n l).flatten)
    | some (.struct fs) => (optAll (fun fd : Field => layout P f fd.type) fs.toList).map List.flatten
    | some _ => some [none]
    | none => none
def isZero (k : IntKind) : Value → Bool
  | .int k' n => k' == k && n == 0
  | _ => false
def zeroBy : List (Option (IntKind × Nat)) → List Value → Option (List SV)
  | [], [] => some []
  | none :: r, v :: vs => match SV.ofVal v, zeroBy r vs with
    | some s, some l => some (s :: l)
    | _, _ => none
  | some (k, n) :: r, vs => if (vs.take n).length = n ∧ (vs.take n).all (isZero k) = true then (zeroBy r (vs.drop n)).map (SV.arr (.int k) n (List.replicate n (0 : Int)) :: ·) else none
  | _, _ => none
theorem zeros_has {β : Env} {k : IntKind} : ∀ {vs : List Value} {n : Nat}, vs.length = n → vs.all (isZero k) = true → HasL ((Ty.int k).has β true) (List.replicate n (0 : Int)) vs
  | [], _, h, _ => by simp at h; subst h; exact .nil
  | v :: vs, n, h, ha => by
    cases n with
    | zero => simp at h
    | succ n =>
      simp only [List.all_cons, Bool.and_eq_true] at ha
      have hv : v = .int k 0 := by
        unfold isZero at ha
        split at ha
        · simp at ha; rw [ha.1.1, ha.1.2]
        · simp at ha
      rw [List.replicate_succ]
      exact HasL.cons (vs := [v]) (by rw [hv]; rfl) (zeros_has (by simpa using h) ha.2)
theorem zeroBy_ok {β : Env} {L : Nat → Option Kd} : ∀ (lay : List (Option (IntKind × Nat))) (vs : List Value) {l : List SV}, zeroBy lay vs = some l → DenL β L l vs
  | [], [], _, h => by simp [zeroBy] at h; subst h; exact .nil
  | [], _ :: _, _, h => by simp [zeroBy] at h
  | none :: r, [], _, h => by simp [zeroBy] at h
  | none :: r, v :: vs, l, h => by
    simp only [zeroBy] at h
    split at h
    · rename_i s l' h1 h2
      simp at h; subst h
      exact DenL.cons1 (SV.ofVal_den h1) (zeroBy_ok r vs h2)
    · cases h
  | some (k, n) :: r, vs, l, h => by
    simp only [zeroBy] at h
    split at h
    · rename_i hc
      obtain ⟨l', h1, rfl⟩ := map_some h
      have := HasL.cons (R := SV.dens β L) (x := .arr (.int k) n (List.replicate n (0 : Int))) (vs := vs.take n) ⟨by simp, zeros_has hc.1 hc.2⟩ (zeroBy_ok r (vs.drop n) h1)
      rwa [List.take_append_drop] at this
    · cases h
def zeroT (P : Program) (t : TypeId) : Option (List SV) :=
  match P.info? t, layout P 8 t with
  | some i, some lay => match i.zero with
    | some z => zeroBy lay z.cells.toList
    | none => none
  | _, _ => none
theorem run_zero {P : Program} {t : TypeId} {l : List SV} {w : World} {β : Env} {L : Nat → Option Kd} (h : zeroT P t = some l) :
    ∃ z : Value, (zeroValue t).run P w = .ok z w ∧ DenL β L l z.cells.toList := by
  unfold zeroT at h
  unfold zeroValue typeInfo
  split at h
  · rename_i i lay hi _
    split at h
    · rename_i z hz
      exact ⟨z, by simp [hi, hz], zeroBy_ok _ _ h⟩
    · cases h
  · cases h
/-- a part of a list of cells, as a value of a type -/
def partEv (P : Program) (t : TypeId) (l : List SV) (off : Nat) : Option VV :=
  match aggType P t, sizeT P t with
  | some true, some n => (subL l off n).map .agg
  | some false, some _ => (elemL l off).map .sc
  | _, _ => none
theorem run_part {P : Program} {w : World} {β : Env} {L : Nat → Option Kd} {t : TypeId} {l : List SV} {cs : List Value} {off : Nat} {x : VV} (hd : DenL β L l cs) (hx : partEv P t l off = some x) :
    ∃ v, (part t cs.toArray off).run P w = .ok v w ∧ x.den β L v := by
  unfold partEv at hx
  unfold part
  split at hx
  · rename_i k ha hn
    obtain ⟨s, hs, rfl⟩ := map_some hx
    obtain ⟨pre, mid, post, rfl, e1, e2, h3⟩ := subL_ok hs hd
    simp only [Sem.run_bind, run_isAgg ha, Result.andThen_ok, if_true, run_sizeOf hn]
    refine ⟨.agg mid.toArray, ?_, mid, rfl, h3⟩
    have : ((pre ++ (mid ++ post)).toArray.extract off (off + k)) = mid.toArray := by
      apply Array.ext'
      subst e1 e2
      simp
    rw [this]; rfl
  · rename_i k ha hn
    obtain ⟨s, hs, rfl⟩ := map_some hx
    obtain ⟨v, hv, hr⟩ := elemL_ok _ _ hs hd
    refine ⟨v, ?_, hr⟩
    have : cs.toArray[off]? = some v := by simpa using hv
    simp only [Sem.run_bind, run_isAgg ha, Result.andThen_ok]
    simp [this]
  · simp at hx
theorem run_loadPart {P : Program} {w : World} {β : Env} {L : Nat → Option Kd} {t : TypeId} {l : List SV} {vs : List Value} {off : Nat} {x : VV} {a : Addr} (hs : a.spot = none) (hh : HoldsAt w a vs) (hd : DenL β L l vs) (hx : partEv P t l off = some x) :
    ∃ v, (loadVar t (a.add off)).run P w = .ok v w ∧ x.den β L v := by
  unfold partEv at hx
  unfold loadVar
  split at hx
  · rename_i k ha hn
    obtain ⟨s, hs', rfl⟩ := map_some hx
    obtain ⟨pre, mid, post, rfl, e1, e2, h3⟩ := subL_ok hs' hd
    simp only [Sem.run_bind, run_isAgg ha, Result.andThen_ok, if_true, run_sizeOf hn]
    have h4 := run_loadRow (P := P) (HoldsAt.mid hs hh)
    rw [e1, e2] at h4
    rw [h4]
    exact ⟨_, rfl, mid, rfl, h3⟩
  · rename_i k ha hn
    obtain ⟨s, hs', rfl⟩ := map_some hx
    obtain ⟨v, hv, hr⟩ := elemL_ok _ _ hs' hd
    refine ⟨v, ?_, hr⟩
    simp only [Sem.run_bind, run_isAgg ha, Result.andThen_ok]
    simp [hh _ _ hv]
  · simp at hx
/-- where the parts of a literal stand -/
def placesT (P : Program) (t : TypeId) : Option (Nat → Option (Nat × Nat)) :=
  match P.underlying t with
  | some (.struct fs) => (optAll (fun f => (sizeT P f.type).map (f.offset, ·)) fs.toList).map fun l i => l[i]?
  | some (.array _ e) => (sizeT P e).map fun s i => some (i * s, s)
  | _ => none
def fillEv (place : Nat → Option (Nat × Nat)) : List SV → List (Nat × LV) → Option (List SV)
  | cells, [] => some cells
  | cells, (i, x) :: rest =>
    match place i, cellsOf x with
    | some (off, size), some l => if wL l = size then match putL cells off l with
        | some c => fillEv place c rest
        | none => none
      else none
    | _, _ => none
theorem fold_put : ∀ (ys pre old post : List Value), old.length = ys.length → ∀ (k off : Nat), pre.length = off + k →
    (ys.zipIdx k).foldl (fun (cs : Array Value) (p : Value × Nat) => cs.setIfInBounds (off + p.2) p.1) (pre ++ (old ++ post)).toArray = (pre ++ (ys ++ post)).toArray
  | [], pre, old, post, hl, k, off, _ => by
    have : old = [] := List.eq_nil_of_length_eq_zero (by simpa using hl)
    subst this; rfl
  | y :: ys, pre, o :: old, post, hl, k, off, hp => by
    have h1 : (pre ++ (o :: old ++ post)).toArray.setIfInBounds (off + k) y = ((pre ++ [y]) ++ (old ++ post)).toArray := by
      rw [← hp]
      simp
    rw [List.zipIdx_cons, List.foldl_cons, h1, fold_put ys (pre ++ [y]) old post (by simpa using hl) (k + 1) off (by simp; omega)]
    simp
  | _ :: _, _, [], _, hl, _, _, _ => by simp at hl
theorem fill_ok {β : Env} {L : Nat → Option Kd} {place : Nat → Option (Nat × Nat)} :
    ∀ (parts : List (Nat × LV)) (vparts : List (Nat × Value)) (cells : List SV) (cs : List Value) (l : List SV),
      DenL β L cells cs → All2 (fun (p : Nat × LV) (r : Nat × Value) => p.1 = r.1 ∧ p.2.den β L r.2) parts vparts → fillEv place cells parts = some l →
      ∃ c : List Value, Instr.fill place cs.toArray vparts = some c.toArray ∧ DenL β L l c
  | [], vparts, cells, cs, l, hc, hp, h => by
    cases hp
    simp [fillEv] at h; subst h
    exact ⟨cs, rfl, hc⟩
  | (i, x) :: rest, _, cells, cs, l, hc, .cons (b := (i', y)) (m := rs) h1 h2, h => by
    obtain ⟨e, hd⟩ := h1
    simp only at e hd; subst e
    simp only [fillEv] at h
    split at h
    · rename_i off size l' hpl hx
      split at h
      · rename_i hw
        split at h
        · rename_i c' hput
          obtain ⟨ys, hys, hdy⟩ := cellsOf_den hx hd
          obtain ⟨pre, old, post, rfl, e1, e2, h3⟩ := putL_ok _ _ hput _ _ hc hdy
          obtain ⟨c, h4, h5⟩ := fill_ok rest rs c' _ l h3 h2 h
          refine ⟨c, ?_, h5⟩
          simp only [Instr.fill, hpl, hys]
          have hyl : ys.length = size := by rw [hdy.length, hw]
          rw [if_neg (by simp; omega), ← h4]
          congr 1
          have := fold_put ys pre old post e2 0 off (by omega)
          rw [← this, ← Array.foldl_toList]
          simp
        · cases h
      · cases h
    · cases h
theorem run_mapM_places {P : Program} {w : World} : ∀ (fs : List Field) (l : List (Nat × Nat)), optAll (fun f => (sizeT P f.type).map (f.offset, ·)) fs = some l →
    (fs.mapM (fun f => do pure (f.offset, ← sizeOf f.type) : Field → Sem (Nat × Nat))).run P w = .ok l w
  | [], l, h => by simp [optAll] at h; subst h; simp
  | f :: fs, l, h => by
    simp only [optAll] at h
    split at h
    · rename_i y l' h1 h2
      simp at h; subst h
      obtain ⟨s, hs, rfl⟩ := map_some h1
      have := run_mapM_places (P := P) (w := w) fs l' h2
      simp only [List.mapM_cons, Sem.run_bind, run_sizeOf hs, Result.andThen_ok, Sem.run_pure, this]
    · simp at h
def eqAll {α : Type} (f : α → Option Bool) : List α → Option Bool
  | [] => some true
  | x :: l => match f x, eqAll f l with
    | some a, some b => some (a && b)
    | _, _ => none
/-- two rows of numbers -/
def rowEq (P : Program) (n : Nat) (e : TypeId) : List SV → List SV → Option Bool
  | [.arr (.int k) n1 x], [.arr (.int k') n2 y] => match P.underlying e with
    | some (.int _) => if k = k' ∧ n1 = n ∧ n2 = n ∧ aggType P e = some false ∧ sizeT P e = some 1 then some (decide ((x : List Int) = y)) else none
    | _ => none
  | _, _ => none
def eqEv (P : Program) : Nat → TypeId → VV → VV → Option Bool
  | 0, _, _, _ => none
  | d + 1, t, x, y => match x, y with
    | .sc (.int k a), .sc (.int k' b) => (match P.underlying t with
      | some (.int _) => if k = k' then some (a.val == b.val) else none
      | _ => none)
    | .sc (.bool a), .sc (.bool b) => (match P.underlying t with
      | some .bool => some (a.val == b.val)
      | _ => none)
    | .agg l, .agg r => (match P.underlying t with
      | some (.struct fs) => if P.stoodInHeld t = false then
          eqAll (fun f : Field => if f.name = "_" then none else match partEv P f.type l f.offset, partEv P f.type r f.offset with
            | some a, some b => eqEv P d f.type a b
            | _, _ => none) fs.toList
        else none
      | some (.array n e) => match rowEq P n e l r with
        | some b => some b
        | none => match sizeT P e with
          | some s => eqAll (fun i => match partEv P e l (i * s), partEv P e r (i * s) with
              | some a, some b => eqEv P d e a b
              | _, _ => none) (List.range n)
          | none => none
      | _ => none)
    | _, _ => none
theorem sizeT_cells {P : Program} {t : TypeId} {n : Nat} (h : sizeT P t = some n) : P.cellsOf t = n := by
  unfold sizeT at h; unfold Program.cellsOf; rw [h]; rfl
theorem sizeT_info {P : Program} {t : TypeId} {n : Nat} (h : sizeT P t = some n) : ∃ i, P.info? t = some i := by
  unfold sizeT at h; cases hi : P.info? t with
  | none => simp [hi] at h
  | some i => exact ⟨i, rfl⟩
theorem ints_has {β : Env} {k : IntKind} {pm : Bool} : ∀ {l : List Int} {vs : List Value}, HasL ((Ty.int k).has β pm) l vs → vs = l.map (.int k)
  | [], _, h => by cases h; rfl
  | x :: l, _, .cons (vs := vs) h t => by
    have e : vs = [.int k x] := h
    rw [e, ints_has t]; rfl
theorem all_range_eq {x y : List Int} {n : Nat} (hx : x.length = n) (hy : y.length = n) : (List.range n).all (fun i => x.getD i 0 == y.getD i 0) = decide (x = y) := by
  rw [Bool.eq_iff_iff]
  simp only [List.all_eq_true, List.mem_range, beq_iff_eq, decide_eq_true_eq]
  constructor
  · intro h
    apply List.ext_getElem (by omega)
    intro i h1 h2
    have := h i (by omega)
    simpa [List.getD, h1, h2] using this
  · intro h; subst h; intro i _; rfl
theorem rowEq_ok {P : Program} {w : World} {β : Env} {L : Nat → Option Kd} {n d : Nat} {e : TypeId} {l r : List SV} {b : Bool} (h : rowEq P n e l r = some b) {xs ys : List Value} (hx : DenL β L l xs) (hy : DenL β L r ys) :
    (Op.eqItems (d + 1) e (P.cellsOf e) xs.toArray ys.toArray (List.range n)).run P w = .ok b w := by
  unfold rowEq at h
  split at h
  · rename_i k n1 x k' n2 y
    split at h
    · rename_i k0 hu
      split at h
      · rename_i hc
        obtain ⟨rfl, rfl, rfl, ha, hs⟩ := hc
        simp at h; subst h
        obtain ⟨hx1, hx2⟩ := HasL.of_one hx
        obtain ⟨hy1, hy2⟩ := HasL.of_one hy
        have ex := ints_has hx2
        have ey := ints_has hy2
        subst ex ey
        rw [← all_range_eq hx1 hy1, sizeT_cells hs]
        have key : ∀ (fl : List Nat), (∀ i ∈ fl, i < n2) → (Op.eqItems (d + 1) e 1 (x.map (Value.int k)).toArray (y.map (Value.int k)).toArray fl).run P w = .ok (fl.all fun i => x.getD i 0 == y.getD i 0) w := by
          intro fl
          induction fl with
          | nil => intro _; simp [Op.eqItems]
          | cons i fl ih =>
            intro hi
            have hi0 := hi i (by simp)
            have hp : ∀ (z : List Int), z.length = n2 → (part e (z.map (Value.int k)).toArray i).run P w = .ok (.int k (z.getD i 0)) w := by
              intro z hz
              unfold part
              simp only [Sem.run_bind, run_isAgg ha, Result.andThen_ok]
              have hlt : i < z.length := by omega
              simp [List.getD, hlt]
            simp only [Op.eqItems, Sem.run_bind, Nat.mul_one, hp x hx1, hp y hy1, Result.andThen_ok, Op.equalIn, run_underlying hu, if_true, Sem.run_pure, List.all_cons]
            cases hb : (x.getD i 0 == y.getD i 0)
            · simp
            · simpa using ih fun j hj => hi j (by simp [hj])
        exact key _ fun i hi => by simpa using hi
      · cases h
    · cases h
  · cases h
theorem eqEv_ok {P : Program} {w : World} {β : Env} {L : Nat → Option Kd} : ∀ (d : Nat) (t : TypeId) (x y : VV) (b : Bool), eqEv P d t x y = some b →
    ∀ (xv yv : Value), x.den β L xv → y.den β L yv → ∀ k, (Op.equalIn (k + 1 + d) t xv yv).run P w = .ok b w
  | 0, _, _, _, _, h => by simp [eqEv] at h
  | d + 1, t, x, y, b, h => by
    intro xv yv hx hy k
    simp only [eqEv] at h
    split at h
    · rename_i k1 a k2 c
      have e1 : xv = .int k1 a.val := hx
      have e2 : yv = .int k2 c.val := hy
      subst e1 e2
      split at h
      · rename_i hu
        split at h
        · rename_i hkk
          subst hkk
          simp at h; subst h
          show (Op.equalIn (k + 1 + d + 1) t _ _).run P w = _
          simp [Op.equalIn, run_underlying hu]
        · simp at h
      · simp at h
    · rename_i a c
      have e1 : xv = .bool a.val := hx
      have e2 : yv = .bool c.val := hy
      subst e1 e2
      split at h
      · rename_i hu
        simp at h; subst h
        show (Op.equalIn (k + 1 + d + 1) t _ _).run P w = _
        simp [Op.equalIn, run_underlying hu]
      · simp at h
    · rename_i l r
      obtain ⟨xs, rfl, hxs⟩ := hx
      obtain ⟨ys, rfl, hys⟩ := hy
      show (Op.equalIn (k + 1 + d + 1) t _ _).run P w = _
      split at h
      · rename_i fs hu
        split at h
        · rename_i hst
          have hfo : P.fieldsOf t = fs := by unfold Program.fieldsOf; rw [hu]
          rw [run_equalIn_struct w (k + 1 + d) t _ _ (by rw [hfo]; exact hu) hst, hfo]
          clear hu hst hfo
          generalize fs.toList = fl at h
          induction fl generalizing b with
          | nil => simp [eqAll] at h; subst h; simp [Op.eqFields]
          | cons f fl ih =>
            simp only [eqAll] at h
            split at h
            · rename_i a c ha hc
              simp at h; subst h
              split at ha
              · simp at ha
              · rename_i hnm
                split at ha
                · rename_i p1 p2 hp1 hp2
                  obtain ⟨v1, e1, e2⟩ := run_part (P := P) (w := w) hxs hp1
                  obtain ⟨v2, e3, e4⟩ := run_part (P := P) (w := w) hys hp2
                  have := eqEv_ok (w := w) d f.type p1 p2 a ha v1 v2 e2 e4 k
                  simp only [Op.eqFields, ne_eq, hnm, not_false_eq_true, if_true, Sem.run_bind, e1, e3, this, Result.andThen_ok]
                  cases a
                  · simp
                  · simpa using ih c hc
                · simp at ha
            · simp at h
        · simp at h
      · rename_i n e hu
        split at h
        · rename_i b' hrow
          simp at h; subst h
          have hi : ∃ i, P.info? e = some i := by
            unfold rowEq at hrow
            split at hrow
            · split at hrow
              · split at hrow
                · rename_i hc; exact sizeT_info hc.2.2.2.2
                · cases hrow
              · cases hrow
            · cases hrow
          obtain ⟨i, hi⟩ := hi
          rw [run_equalIn_array w (k + 1 + d) _ _ hu hi]
          rw [show k + 1 + d = k + d + 1 from by omega]
          exact rowEq_ok hrow hxs hys
        · split at h
          · rename_i s hs
            obtain ⟨i, hi⟩ := sizeT_info hs
            rw [run_equalIn_array w (k + 1 + d) _ _ hu hi, sizeT_cells hs]
            generalize List.range n = fl at h
            induction fl generalizing b with
            | nil => simp [eqAll] at h; subst h; simp [Op.eqItems]
            | cons j fl ih =>
              simp only [eqAll] at h
              split at h
              · rename_i a c ha hc
                simp at h; subst h
                split at ha
                · rename_i p1 p2 hp1 hp2
                  obtain ⟨v1, e1, e2⟩ := run_part (P := P) (w := w) hxs hp1
                  obtain ⟨v2, e3, e4⟩ := run_part (P := P) (w := w) hys hp2
                  have := eqEv_ok (w := w) d e p1 p2 a ha v1 v2 e2 e4 k
                  simp only [Op.eqItems, Sem.run_bind, e1, e3, this, Result.andThen_ok]
                  cases a
                  · simp
                  · simpa using ih c hc
                · simp at ha
              · simp at h
          · simp at h
      · simp at h
    · simp at h
/-- an operation on two values -/
def binLV (P : Program) (op : BinOp) (t : TypeId) (x y : LV) : Option (Option Prop × SV) :=
  match opSc x, opSc y with
  | some a, some b => (match strOfS a, strOfS b with
    | some l, some m => (strEv op l m).map fun s => (none, s)
    | _, _ => binEv P op t a b)
  | _, _ => match x, y with
    | .one (.agg l), .one (.agg r) => if P.eqGuardType P.depth t = false then
        match op with
        | .eql => (eqEv P 12 t (.agg l) (.agg r)).map fun b => (none, .bool (.sym b))
        | .neq => (eqEv P 12 t (.agg l) (.agg r)).map fun b => (none, .bool (.sym (!b)))
        | _ => none
      else none
    | _, _ => none
theorem binLV_ok {P : Program} {w : World} {op : BinOp} {t : TypeId} {ox oy : Operand} {x y : LV} {xv yv : Value} {β : Env} {L : Nat → Option Kd} {q : Option Prop} {s : SV}
    (h : binLV P op t x y = some (q, s)) (hq : needs q) (hx : x.den β L xv) (hy : y.den β L yv) :
    ∃ v, (do eqGuard op t ox oy xv yv; binOp op t xv yv : Sem Value).run P w = .ok v w ∧ s.den β L v := by
  unfold binLV at h
  split at h
  · rename_i a b ha hb
    split at h
    · rename_i l m hl hm
      obtain ⟨r, hr, he⟩ := map_some h
      simp at he; obtain ⟨_, rfl⟩ := he
      have e1 := strOfS_den hl (opSc_den ha hx)
      have e2 := strOfS_den hm (opSc_den hb hy)
      subst e1 e2
      rw [Sem.run_bind, eqGuard_plain (by simp) (by simp)]
      cases op <;> simp [strEv] at hr <;> subst hr
      · exact ⟨.bool (strEq l m), by simp [binOp, Op.stringOp, strEq], rfl⟩
      · exact ⟨.bool (!strEq l m), by simp [binOp, Op.stringOp, strEq], rfl⟩
    · exact bin_ok h hq (opSc_den ha hx) (opSc_den hb hy)
  · split at h
    · rename_i l r _
      split at h
      · rename_i hg
        have hx' : (VV.agg l).den β L xv := hx
        have hy' : (VV.agg r).den β L yv := hy
        obtain ⟨xs, rfl, hxs⟩ := hx
        obtain ⟨ys, rfl, hys⟩ := hy
        split at h
        · obtain ⟨b, hb, he⟩ := Option.map_eq_some_iff.1 h
          simp at he; obtain ⟨_, rfl⟩ := he
          have := eqEv_ok (w := w) 12 t _ _ b hb _ _ hx' hy' 9987
          refine ⟨.bool b, ?_, rfl⟩
          rw [Sem.run_bind, run_eqGuard_agg w .eql t ox oy _ _ hg]
          simp only [Result.andThen_ok, run_eql_struct, this]
        · obtain ⟨b, hb, he⟩ := Option.map_eq_some_iff.1 h
          simp at he; obtain ⟨_, rfl⟩ := he
          have := eqEv_ok (w := w) 12 t _ _ b hb _ _ hx' hy' 9987
          refine ⟨.bool (!b), ?_, rfl⟩
          rw [Sem.run_bind, run_eqGuard_agg w .neq t ox oy _ _ hg]
          simp only [Result.andThen_ok, run_neq_struct, this]
        · simp at h
      · simp at h
    · simp at h
end Go.Ev
end

section
set_option linter.unusedVariables false
set_option linter.unusedSimpArgs false
namespace Go.Ev
open Go
def intOf (k : IntKind) : SV → Option Int
  | .int k' n => if k' = k then some n.val else none
  | _ => none
def boolOf : SV → Option Bool
  | .bool b => some b.val
  | _ => none
def selS (z : Int) (col : List SV) : SV :=
  match col with
  | .int k _ :: _ => match optAll (intOf k) col with
    | some l => .int k (.sym (l.getD z.toNat 0))
    | none => .junk
  | .bool _ :: _ => match optAll boolOf col with
    | some l => .bool (.sym (l.getD z.toNat false))
    | none => .junk
  | _ => .junk
theorem optAll_get {α β : Type} {f : α → Option β} : ∀ {l : List α} {m : List β}, optAll f l = some m → ∀ {i : Nat} {a : α}, l[i]? = some a → ∃ b, m[i]? = some b ∧ f a = some b
  | [], m, h, i, a, hi => by simp at hi
  | x :: l, m, h, i, a, hi => by
    simp only [optAll] at h
    split at h
    · rename_i y m' h1 h2
      simp at h; subst h
      cases i with
      | zero => simp at hi; subst hi; exact ⟨y, by simp, h1⟩
      | succ i => simp at hi; obtain ⟨b, hb, hf⟩ := optAll_get h2 hi; exact ⟨b, by simpa using hb, hf⟩
    · simp at h
theorem selS_ok {β : Env} {L : Nat → Option Kd} {z : Int} {col : List SV} {s : SV} {v : Value} (hs : col[z.toNat]? = some s) (h : s.den β L v) : (selS z col).den β L v := by
  have h1 := SV.den_oneCell h
  unfold selS
  split
  · rename_i k n rest
    split
    · rename_i l hl
      obtain ⟨b, hb, hf⟩ := optAll_get hl hs
      unfold intOf at hf
      split at hf
      · split at hf
        · rename_i hk; subst hk
          simp at hf; subst hf
          have e : v = .int _ _ := h
          show v = .int _ (l.getD z.toNat 0)
          rw [e, List.getD_eq_getElem?_getD, hb]; rfl
        · simp at hf
      · simp at hf
    · exact h1
  · rename_i n rest
    split
    · rename_i l hl
      obtain ⟨b, hb, hf⟩ := optAll_get hl hs
      unfold boolOf at hf
      split at hf
      · simp at hf; subst hf
        have e : v = .bool _ := h
        show v = .bool (l.getD z.toNat false)
        rw [e, List.getD_eq_getElem?_getD, hb]; rfl
      · simp at hf
    · exact h1
  · exact h1
def noRow (l : List SV) : Bool := l.all fun s => match s with | .arr _ _ _ => false | _ => true
def scOf : VV → Option SV
  | .sc s => some s
  | _ => none
def aggOf (n : Nat) : VV → Option (List SV)
  | .agg l => if l.length = n ∧ noRow l = true then some l else none
  | _ => none
def selV (z : Int) : List VV → Option VV
  | [] => none
  | .sc s :: l => (optAll scOf (.sc s :: l)).map fun col => .sc (selS z col)
  | .agg r :: l => (optAll (aggOf r.length) (.agg r :: l)).map fun rows => .agg ((List.range r.length).map fun c => selS z (rows.map (·.getD c .junk)))
theorem denL_noRow {β : Env} {L : Nat → Option Kd} : ∀ {l : List SV} {vs : List Value}, noRow l = true → DenL β L l vs → All2 (SV.den β L) l vs
  | [], _, _, h => by cases h; exact .nil
  | s :: l, _, hn, .cons h1 h2 => by
    simp only [noRow, List.all_cons, Bool.and_eq_true] at hn
    obtain ⟨v, rfl, hv⟩ := SV.den_of h1 (fun t n l e => by subst e; simp at hn)
    exact .cons hv (denL_noRow hn.2 h2)
theorem selV_ok {β : Env} {L : Nat → Option Kd} {z : Int} {items : List VV} {x y : VV} {v : Value} (hs : items[z.toNat]? = some x) (h : x.den β L v) (hy : selV z items = some y) : y.den β L v := by
  unfold selV at hy
  split at hy
  · simp at hy
  · obtain ⟨col, hc, rfl⟩ := map_some hy
    obtain ⟨s, h1, h2⟩ := optAll_get hc hs
    unfold scOf at h2
    split at h2
    · simp at h2; subst h2; exact selS_ok h1 h
    · simp at h2
  · rename_i r l
    obtain ⟨rows, hc, rfl⟩ := map_some hy
    obtain ⟨s, h1, h2⟩ := optAll_get hc hs
    unfold aggOf at h2
    split at h2
    · rename_i s
      split at h2
      · rename_i hlen
        simp at h2; subst h2
        obtain ⟨cs, rfl, hd⟩ := h
        refine ⟨cs, rfl, denL_of_all2 ?_⟩
        have key : ∀ (s : List SV) (cs : List Value) (k : Nat) (g : Nat → SV), All2 (SV.den β L) s cs → (∀ i a, s[i]? = some a → ∀ v, a.den β L v → (g (k + i)).den β L v) →
            All2 (SV.den β L) ((List.range' k s.length).map g) cs := by
          intro s
          induction s with
          | nil => intro cs k g hd _; cases hd; exact .nil
          | cons a s ih =>
            intro cs k g hd hg
            cases hd with
            | cons h3 h4 =>
              simp only [List.length_cons, List.range'_succ, List.map_cons]
              refine .cons (by have := hg 0 a (by simp) _ h3; simpa using this) (ih _ (k + 1) g h4 fun i b hb v hv => ?_)
              have := hg (i + 1) b (by simpa using hb) v hv
              rwa [show k + 1 + i = k + (i + 1) from by omega]
        rw [List.range_eq_range', ← hlen.1]
        refine key s cs 0 _ (denL_noRow hlen.2 hd) fun i a ha v hv => ?_
        rw [Nat.zero_add]
        refine selS_ok (s := a) ?_ hv
        simp [h1, ha]
      · simp at h2
    · simp at h2
/-- parts of a row of cells -/
def partsEv (P : Program) (t : TypeId) (l : List SV) (base stride n : Nat) : Option (List VV) := optAll (fun j => partEv P t l (base + j * stride)) (List.range n)
theorem partsEv_get {P : Program} {t : TypeId} {l : List SV} {base stride n : Nat} {items : List VV} (h : partsEv P t l base stride n = some items) {j : Nat} (hj : j < n) :
    ∃ x, items[j]? = some x ∧ partEv P t l (base + j * stride) = some x := by
  obtain ⟨x, h1, h2⟩ := optAll_get h (i := j) (a := j) (by simp [hj])
  exact ⟨x, h1, h2⟩
/-- the row that begins at a place -/
def rowAt : List SV → Nat → Option SV
  | [], _ => none
  | .arr t n l :: r, off => if off = 0 then some (.arr t n l) else if n * t.w ≤ off then rowAt r (off - n * t.w) else none
  | _ :: _, 0 => none
  | _ :: r, off + 1 => rowAt r off
theorem rowAt_ok {β : Env} {L : Nat → Option Kd} : ∀ (l : List SV) (off : Nat) {t : Ty} {n : Nat} {x : List t.D} {vs : List Value}, rowAt l off = some (.arr t n x) → DenL β L l vs →
    ∃ pre mid post, vs = pre ++ (mid ++ post) ∧ pre.length = off ∧ x.length = n ∧ HasL (t.has β true) x mid
  | [], _, _, _, _, _, h, _ => by simp [rowAt] at h
  | s :: r, off, t, n, x, vs, h, hd => by
    have plain : (∀ t n l, s ≠ .arr t n l) → ∃ pre mid post, vs = pre ++ (mid ++ post) ∧ pre.length = off ∧ x.length = n ∧ HasL (t.has β true) x mid := by
      intro hs
      cases hd with
      | cons h1 h2 =>
        obtain ⟨v, rfl, _⟩ := SV.den_of h1 hs
        cases off with
        | zero =>
          exfalso
          cases s with
          | arr t n l => exact absurd rfl (hs t n l)
          | _ => simp [rowAt] at h
        | succ off =>
          have h' : rowAt r off = some (.arr t n x) := by
            cases s with
            | arr t n l => exact absurd rfl (hs t n l)
            | _ => exact h
          obtain ⟨pre, mid, post, rfl, e, h3⟩ := rowAt_ok r off h' h2
          exact ⟨v :: pre, mid, post, rfl, by simp [e], h3⟩
    cases s with
    | arr t' n' l' =>
      have h' : (if off = 0 then some (.arr t' n' l') else if n' * t'.w ≤ off then rowAt r (off - n' * t'.w) else none) = some (SV.arr t n x) := by cases off <;> exact h
      cases hd with
      | cons h1 h2 =>
        rename_i us ws
        split at h'
        · rename_i e0; simp at h'; obtain ⟨rfl, rfl, e⟩ := h'
          simp at e; subst e
          exact ⟨[], us, ws, rfl, by simp [e0], h1.1, h1.2⟩
        · split at h'
          · obtain ⟨pre, mid, post, rfl, e, h3⟩ := rowAt_ok r _ h' h2
            have hul := SV.dens_length h1
            simp only [SV.w] at hul
            exact ⟨us ++ pre, mid, post, by simp, by simp [hul, e]; omega, h3⟩
          · cases h'
    | _ => exact plain (by intros; simp)
/-- what a slice reads as, and whether for good -/
def contAs (t : Ty) : SV → Ask (Option (Bool × List t.D))
  | .rd pm _ t' l => .ret (if h : t' = t then some (pm, h ▸ l) else none)
  | .con (.slice none 0 0) => .ret (some (true, []))
  | .sl i ver => .get i fun x => .ret (match x with
    | some (.own ver' t' l) => if h : t' = t then (if ver = ver' then some (true, h ▸ l) else none) else none
    | _ => none)
  | .vw i ver w z n => .get i fun x => .ret (match x with
    | some (.own ver' t' l) => if h : t' = t then (if ver = ver' ∧ w = t.w then some (true, ((h ▸ l : List t.D).drop z.toNat).take n.toNat) else none) else none
    | _ => none)
  | .vb b o t' m z n => .get b fun x => .ret (match x with
    | some (.blk cells _) => match rowAt cells o with
      | some (.arr t'' n' l) => if h : t'' = t then (if t' = t ∧ n' = m then some (true, ((h ▸ l : List t.D).drop z.toNat).take n.toNat) else none) else none
      | _ => none
    | _ => none)
  | .slice b o len cap => .get b fun x => .ret (match x with
    | some (.blk cells _) => match (if len ≤ cap then subL cells o (len * t.w) else none) with
      | some s => (readN (t.read true) t.w len s).map fun l => (true, l)
      | none => none
    | _ => none)
  | _ => .ret none
theorem ReadsAs.weak {β : Env} {pm : Bool} {w : World} {v : Value} {t : Ty} {l : List t.D} (h : ReadsAs β true w v t l) : ReadsAs β pm w v t l := by
  obtain ⟨a, n, c, rfl, hn, hc, hz, hr⟩ := h
  refine ⟨a, n, c, rfl, hn, hc, hz, fun h0 => ?_⟩
  obtain ⟨a0, vss, rfl, h1, h2, h3⟩ := hr h0
  exact ⟨a0, vss, rfl, h1, h2.imp fun _ _ => t.has_weak, h3⟩
theorem readsAs_nil {β : Env} {pm : Bool} {w : World} {t : Ty} : ReadsAs β pm w (.slice none 0 0) t [] := ⟨none, 0, 0, rfl, rfl, Nat.le_refl _, fun _ => rfl, fun h => absurd h (by simp)⟩
theorem OwnOk.reads {β : Env} {w : World} {h : Value} {t : Ty} {l : List t.D} (hk : OwnOk β w h t l) : ReadsAs β true w h t l := by
  obtain ⟨a, n, c, rfl, h1, h2, h3, h4⟩ := hk
  refine ⟨a, n, c, rfl, h1, h2, h3, fun h0 => ?_⟩
  obtain ⟨a0, pre, vss, rest, elem, fz, rfl, k1, k2, k3, k4, k5⟩ := h4 (by omega)
  refine ⟨a0, vss, rfl, k1, k4, ?_⟩
  have := holdsAt_cells k2
  obtain ⟨b, o, s⟩ := a0
  simp at k1 k3; subst k1 k3
  exact this
theorem ReadsAs.sub {β : Env} {pm : Bool} {w : World} {h v : Value} {t : Ty} {l : List t.D} {z n : Int} (hk : ReadsAs β pm w h t l) (hs : SubOf h t.w z n v) : ReadsAs β pm w v t ((l.drop z.toNat).take n.toNat) := by
  obtain ⟨a, m, c, rfl, hm, hc, _, hr⟩ := hk
  obtain ⟨a1, m1, c1, a', c', e, z0, n0, hle, rfl, hc', hz, ha⟩ := hs
  simp at e; obtain ⟨rfl, rfl, rfl⟩ := e
  have hlen : ((l.drop z.toNat).take n.toNat).length = n.toNat := by simp; omega
  refine ⟨a', n.toNat, c', rfl, hlen.symm, hc', hz, fun h0 => ?_⟩
  obtain ⟨a0, e1, rfl⟩ := ha (by omega)
  obtain ⟨a2, vss, e2, h1, h2, h3⟩ := hr (by omega)
  subst e1; simp at e2; subst e2
  obtain ⟨v1, v2, rfl, k1, k2⟩ := hasL_take h2 z.toNat
  obtain ⟨v3, v4, rfl, k3, k4⟩ := hasL_take k2 n.toNat
  refine ⟨_, v3, rfl, add_spot h1 _, k3, ?_⟩
  have := HoldsAt.mid h1 h3
  rwa [hasL_length k1, List.length_take, Nat.min_eq_left (by omega)] at this
theorem ReadsAs.len {β : Env} {pm : Bool} {w : World} {v : Value} {t : Ty} {l : List t.D} (h : ReadsAs β pm w v t l) : ∃ a c, v = .slice a l.length c := by
  obtain ⟨a, n, c, rfl, rfl, _⟩ := h; exact ⟨a, c, rfl⟩
section
variable {W : World} {hp₀ : Hp} {β₀ β : Env} {hp : Hp} {w : World}
theorem HRel.rdOk (h : HRel W hp₀ β₀ β hp w) {pm : Bool} {v : Value} {t : Ty} {l : List t.D} (hr : RdOk β pm v t l) : ReadsAs β pm w v t l ∧ ∀ b, inBlock v b → b < w.heap.size ∧ ¬ Owned hp β b := by
  rcases hr with hr | ⟨rfl, hr⟩ | ⟨rfl, rfl⟩
  · exact ⟨(h.reads _ _ _ _ hr).1.weak, (h.reads _ _ _ _ hr).2⟩
  · exact h.reads _ _ _ _ hr
  · exact ⟨readsAs_nil, fun b hb => hb.elim⟩
/-- an own slice that a reference is good for -/
theorem HRel.ownOf (h : HRel W hp₀ β₀ β hp w) {i ver : Nat} {t : Ty} {l : List t.D} (hi : hp[i]? = some (some (.own ver t l))) {p : Value → Prop} (hd : ∃ c, kd hp i = some (.own c) ∧ ver ≤ c ∧ (ver = c → p (β.h i))) :
    OwnOk β w (β.h i) t l ∧ p (β.h i) := by
  obtain ⟨c, h1, h2, h3⟩ := hd
  rw [kd_of hi] at h1; simp [Item.kd] at h1
  exact ⟨h.items _ _ hi, h3 h1⟩
theorem contAs_ok (h : HRel W hp₀ β₀ β hp w) {t : Ty} {s : SV} {pm : Bool} {l : List t.D} {v : Value} (hc : (contAs t s).val hp = some (pm, l)) (hd : s.den β (kd hp) v) : ReadsAs β pm w v t l := by
  unfold contAs at hc
  split at hc
  · simp only [Ask.val] at hc
    split at hc
    · rename_i e; subst e; simp at hc; obtain ⟨rfl, rfl⟩ := hc
      exact (h.rdOk hd.2.2).1
    · cases hc
  · simp only [Ask.val] at hc
    simp at hc; obtain ⟨rfl, rfl⟩ := hc
    obtain ⟨_, rfl⟩ := hd
    exact readsAs_nil
  · rename_i i ver
    simp only [Ask.val] at hc
    split at hc
    · rename_i ver' t' l' hi
      split at hc
      · rename_i e; subst e
        split at hc
        · rename_i e; subst e
          simp at hc; obtain ⟨rfl, rfl⟩ := hc
          obtain ⟨_, hd⟩ := hd
          obtain ⟨h1, rfl⟩ := h.ownOf (p := fun x => v = x) (itemAt_some hi) hd
          exact h1.reads
        · cases hc
      · cases hc
    · cases hc
  · rename_i i ver w' z n
    simp only [Ask.val] at hc
    split at hc
    · rename_i ver' t' l' hi
      split at hc
      · rename_i e; subst e
        split at hc
        · rename_i e; obtain ⟨rfl, rfl⟩ := e
          simp at hc; obtain ⟨rfl, rfl⟩ := hc
          obtain ⟨_, hd⟩ := hd
          obtain ⟨h1, h2⟩ := h.ownOf (p := fun x => SubOf x t'.w z n v) (itemAt_some hi) hd
          exact h1.reads.sub h2
        · cases hc
      · cases hc
    · cases hc
  · rename_i b o t' m z n
    simp only [Ask.val] at hc
    split at hc
    · rename_i cells elem hi
      split at hc
      · rename_i t'' n' l' hrow
        split at hc
        · rename_i e; subst e
          split at hc
          · rename_i e; obtain ⟨rfl, rfl⟩ := e
            simp at hc; obtain ⟨rfl, rfl⟩ := hc
            obtain ⟨hb, z0, n0, zn, a', c', rfl, hc', hz, ha⟩ := hd
            obtain ⟨cs, fz, h1, h2, h3⟩ := h.items _ _ (itemAt_some hi)
            obtain ⟨pre, mid, post, rfl, e1, e2, h4⟩ := rowAt_ok _ _ hrow h3
            subst e1 e2
            have hbase : ReadsAs β true w (.slice (some ⟨β b, pre.length, none⟩) l'.length l'.length) t' l' := ⟨_, _, _, rfl, rfl, Nat.le_refl _, (fun e => by cases e), fun _ => ⟨_, mid, rfl, rfl, h4, holdsAt_cells h1⟩⟩
            exact hbase.sub ⟨_, _, _, _, _, rfl, z0, n0, zn, rfl, hc', hz, fun h0 => ⟨_, rfl, ha h0⟩⟩
          · cases hc
        · cases hc
      · cases hc
    · cases hc
  · rename_i b o len cap
    simp only [Ask.val] at hc
    split at hc
    · rename_i cells elem hi
      split at hc
      · rename_i s hs
        obtain ⟨l', hl, he⟩ := map_some hc
        simp at he; obtain ⟨rfl, rfl⟩ := he
        split at hs
        · rename_i hlc
          obtain ⟨_, rfl⟩ := hd
          obtain ⟨cs, fz, h1, h2, h3⟩ := h.items _ _ (itemAt_some hi)
          obtain ⟨pre, mid, post, rfl, e1, e2, h4⟩ := subL_ok hs h3
          obtain ⟨h5, h6⟩ := readN_ok (R := t.has β true) (fun a x vs h hd => t.read_ok h hd) _ hl h4
          subst e1
          exact ⟨_, _, _, rfl, h6.symm, hlc, (fun e => by cases e), fun _ => ⟨_, mid, rfl, rfl, h5, holdsAt_cells h1⟩⟩
        · cases hs
      · cases hc
    · cases hc
  · simp [Ask.val] at hc
end
end Go.Ev
end

section
set_option linter.unusedVariables false
set_option linter.unusedSimpArgs false
namespace Go.Ev
open Go
/-- what is asked, the value, the items that turn or come -/
abbrev Stp := Option (Option Prop × LV × List (Nat × Item))
def applyD : List (Nat × Item) → Hp → Hp
  | [], hp => hp
  | (i, x) :: d, hp => applyD d (setAt hp i x)
def wrapI (k : IntKind) : SI → SI
  | .lit x => .lit (k.wrap x)
  | .sym x => .sym (k.wrap x)
theorem wrapI_val (k : IntKind) (n : SI) : (wrapI k n).val = k.wrap n.val := by cases n <;> rfl
def unEv (op : UnOp) : SV → Option SV
  | .int k n => match op with
    | .neg => some (.int k (map2 (fun x y => k.wrap (x - y)) (.lit 0) n))
    | .xor => some (.int k (map2 (bitXor k) (.lit (if k.signed then -1 else k.max)) n))
    | _ => none
  | .bool b => match op with
    | .not => some (.bool (match b with | .lit x => .lit (!x) | .sym x => .sym (!x)))
    | _ => none
  | _ => none
/-- the shape of a slice's elements -/
def contTy : SV → Ask (Option Ty)
  | .rd _ _ t _ => .ret (some t)
  | .sl i _ => .get i fun x => .ret (match x with | some (.own _ t _) => some t | _ => none)
  | .vw i _ _ _ _ => .get i fun x => .ret (match x with | some (.own _ t _) => some t | _ => none)
  | .vb _ _ t _ _ _ => .ret (some t)
  | _ => .ret none
/-- shape and content -/
def contOf (s : SV) : Ask (Option (Bool × (t : Ty) × List t.D)) :=
  (contTy s).bind fun o => match o with
    | some t => (contAs t s).map fun c => c.map fun p => (p.1, ⟨t, p.2⟩)
    | none => .ret none
/-- the element type fits the shape -/
def fits (P : Program) (e : TypeId) (t : Ty) : Bool := decide (tyOf P 8 e = some t) && decide (sizeT P e = some t.w)
def boundEv (d : Int) : Option LV → Option Int
  | none => some d
  | some x => (anyInt x).map (·.2)
def slicePart (len cap : Nat) (lo hi mx : Option LV) : Option (Nat × Nat × Nat) :=
  match mx with
  | some _ => none
  | none =>
    let h : Option Nat := match hi with
      | none => some len
      | some x => match litNat x with
        | some (_, h) => if h ≤ cap then some h else none
        | none => none
    match h with
    | none => none
    | some h => match lo with
      | none => some (0, h, cap)
      | some x => match litNat x with
        | some (_, l) => if l ≤ h then some (l, h, cap) else none
        | none => none
/-- a part of a slice -/
def subS (w : Nat) (x y : Int) : SV → Option SV
  | .rd pm _ t l => some (.rd pm false t ((l.drop x.toNat).take (y - x).toNat))
  | .sl i ver => some (.vw i ver w x (y - x))
  | .vw i ver w z _ => some (.vw i ver w (z + x) (y - x))
  | .vb b o t m z _ => some (.vb b o t m (z + x) (y - x))
  | _ => none
def trivJ : JC := ⟨fun _ => true, fun _ => none, fun _ => false, fun _ => false⟩
/-- a value loaded -/
def loadEv (P : Program) (t : TypeId) : SV → Ask Stp
  | .ptr b off => .get b fun x => .ret (match x with
    | some (.blk cells _) => (partEv P t cells off).map fun x => (none, .one x, [])
    | _ => none)
  | .ptrx b base stride n z => .get b fun x => .ret (match x with
    | some (.blk cells _) => match partsEv P t cells base stride n with
      | some items => (selV z items).map fun x => (none, .one x, [])
      | none => none
    | _ => none)
  | .ep s w z f => (contOf s).map fun c => match c with
    | some (pm, ⟨ty, l⟩) => if w = ty.w then
        (match arrayT P t with
         | some (n, e) => if fits P e ty = true ∧ tyOf P 8 t ≠ some ty ∧ f = 0 ∧ (pm || ty.flat) = true ∧ aggType P t = some true ∧ sizeT P t = some (n * ty.w) then some (some (z.toNat + n ≤ l.length), .one (.agg [.arr ty n ((l.drop z.toNat).take n)]), [])
             else (partEv P t (ty.svs pm (l.getD z.toNat ty.z)) f).map fun x => (none, .one x, [])
         | none => (partEv P t (ty.svs pm (l.getD z.toNat ty.z)) f).map fun x => (none, .one x, []))
      else none
    | none => none
  | _ => .ret none
/-- an element with new cells in it -/
def newElem (t : Ty) (x : t.D) (f : Nat) (l : List SV) : Option t.D :=
  if f = 0 ∧ wL l = t.w then t.read true l else match putL (t.svs true x) f l with
    | some c => t.read true c
    | none => none
def setRowAt : List SV → Nat → SV → Option (List SV)
  | [], _, _ => none
  | .arr t n l :: r, off, s => if off = 0 then some (s :: r) else if n * t.w ≤ off then (setRowAt r (off - n * t.w) s).map (.arr t n l :: ·) else none
  | _ :: _, 0, _ => none
  | x :: r, off + 1, s => (setRowAt r off s).map (x :: ·)
def storeEv (P : Program) (t : TypeId) (a : SV) (l : List SV) : Ask Stp :=
  if sizeT P t = some (wL l) then
    match a with
    | .ptr b off => .get b fun x => .ret (match x with
      | some (.blk cells elem) => (putL cells off l).map fun c => (none, .tup [], [(b, .blk c elem)])
      | _ => none)
    | .ep (.sl i ver) w z f => .get i fun x => .ret (match x with
      | some (.own ver' ty m) => if ver = ver' ∧ w = ty.w then (newElem ty (m.getD z.toNat ty.z) f l).map fun y => (none, .tup [], [(i, .own ver' ty (m.set z.toNat y))]) else none
      | _ => none)
    | .ep (.vw i ver w' z' _) w z f => .get i fun x => .ret (match x with
      | some (.own ver' ty m) => if ver = ver' ∧ w = ty.w ∧ w' = ty.w then (newElem ty (m.getD (z'.toNat + z.toNat) ty.z) f l).map fun y => (none, .tup [], [(i, .own ver' ty (m.set (z'.toNat + z.toNat) y))]) else none
      | _ => none)
    | .ep (.vb b o ty n z' _) w z f => .get b fun x => .ret (match x with
      | some (.blk cells elem) => match rowAt cells o with
        | some (.arr ty' n' m) => if ty' = ty ∧ n' = n ∧ w = ty'.w then match newElem ty' (m.getD (z'.toNat + z.toNat) ty'.z) f l with
            | some y => (setRowAt cells o (.arr ty' n' (m.set (z'.toNat + z.toNat) y))).map fun c => (none, .tup [], [(b, .blk c elem)])
            | none => none
          else none
        | _ => none
      | _ => none)
    | _ => .ret none
  else .ret none
/-- an element's address -/
def idxAddrEv (P : Program) (t : TypeId) (x : SV) (i : LV) : Ask Stp :=
  match x, arrayT P t, sliceT P t with
  | .ptr b off, some (n, e), _ => match sizeT P e with
    | some s => match litNat i with
      | some (_, j) => .ret (if j < n then some (none, .one (.sc (.ptr b (off + j * s))), []) else none)
      | none => match anyInt i with
        | some (_, z) => .get b fun y => .ret (match y with
          | some (.blk cells _) => match rowAt cells off with
            | some (.arr ty n' _) => if n' = n ∧ s = ty.w then some (some (0 ≤ z ∧ z < n), .one (.sc (.ep (.vb b off ty n 0 n) s z 0)), []) else none
            | _ => some (some (0 ≤ z ∧ z < n), .one (.sc (.ptrx b off s n z)), [])
          | _ => none)
        | none => .ret none
    | none => .ret none
  | .slice b off len _, none, some e => .ret (match sizeT P e with
    | some s => match litNat i with
      | some (_, j) => if j < len then some (none, .one (.sc (.ptr b (off + j * s))), []) else none
      | none => match anyInt i with
        | some (_, z) => some (some (0 ≤ z ∧ z < len), .one (.sc (.ptrx b off s len z)), [])
        | none => none
    | none => none)
  | x, none, some e => (contOf x).map fun c => match c, sizeT P e, anyInt i with
    | some (_, ⟨ty, l⟩), some s, some (_, z) => if s = ty.w then some (some (0 ≤ z ∧ z < l.length), .one (.sc (.ep x s z 0)), []) else none
    | _, _, _ => none
  | _, _, _ => .ret none
def idxEv (P : Program) (t : TypeId) (x i : LV) : Option (Option Prop × VV) :=
  match x, arrayT P t with
  | .one (.agg l), some (n, e) => match sizeT P e with
    | some s => match litNat i with
      | some (_, j) => if j < n then (partEv P e l (j * s)).map fun x => (none, x) else none
      | none => match anyInt i with
        | some (_, z) => match l with
          | [.arr ty n' m] => if n' = n ∧ s = ty.w then (partEv P e (ty.svs true (m.getD z.toNat ty.z)) 0).map fun x => (some (0 ≤ z ∧ z < n), x) else none
          | _ => match partsEv P e l 0 s n with
            | some items => (selV z items).map fun x => (some (0 ≤ z ∧ z < n), x)
            | none => none
        | none => none
    | none => none
  | .one (.sc s), none => match P.underlying t, strOfS s, anyInt i with
    | some .string, some l, some (_, z) => some (some (0 ≤ z ∧ z < l.length ∧ 0 ≤ l.getD z.toNat 0 ∧ l.getD z.toNat 0 < 256), .sc (.int .u8 (.sym (l.getD z.toNat 0))))
    | _, _, _ => none
  | _, _ => none
def convEv (P : Program) (id : Nat) (src dst : TypeId) (x : SV) : Ask Stp :=
  match P.underlying src, P.underlying dst with
  | some _, some (.int k) => .ret (match x with
    | .int _ n => some (none, .one (.sc (.int k (wrapI k n))), [])
    | _ => none)
  | some (.slice e), some .string => match P.underlying e with
    | some (.int .u8) => (contAs (.int .u8) x).map fun c => c.map fun c => (none, .one (.sc (.str c.2)), [])
    | _ => .ret none
  | some .string, some .string => .ret (match strOfS x with
    | some l => some (none, .one (.sc (.str l)), [])
    | none => none)
  | some .string, some (.slice e) => .ret (match P.underlying e, strOfS x with
    | some (.int .u8), some l => if sizeT P e = some 1 then some (none, .one (.sc (.sl id 0)), [(id, .own 0 (.int .u8) (l.map fun n => ((UInt8.ofNat n.toNat).toNat : Int)))]) else none
    | _, _ => none)
  | some (.slice _), some (.slice e) => match x with
    | .sl i ver => if src = dst then match P.underlying e with
        | some (.int .u8) => .get i fun y => .ret (match y with
          | some (.own ver' (.int .u8) l) => if ver = ver' ∧ l ≠ [] then some (none, .one (.sc (.sl i ver)), [(i, .own ver' (.int .u8) l)]) else none
          | _ => none)
        | _ => .ret none
      else .ret none
    | _ => .ret none
  | _, _ => .ret none
def nilCmp (P : Program) (op : BinOp) (t : TypeId) (x y : LV) : Option Bool :=
  match op, x, y, sliceT P t with
  | .eql, .one (.sc (.rd pm true ty l)), .one (.sc (.con (.slice none _ _))), some _ => some false
  | .neq, .one (.sc (.rd pm true ty l)), .one (.sc (.con (.slice none _ _))), some _ => some true
  | _, _, _, _ => none
def opEv (P : Program) (id : Nat) (e : Operand → LV) : Op → Ask Stp
  | .move x | .assign x => .ret (some (none, e x, []))
  | .pick c a b => .ret (match e c with
    | .one (.sc (.bool (.lit t))) => some (none, if t then e a else e b, [])
    | .one (.sc (.bool (.sym t))) => match e a, e b with
      | .one x, .one y => some (none, joinV t trivJ (.one x) (.one y), [])
      | .one x, _ => some (some (t = true), .one x, [])
      | _, .one y => some (some (t = false), .one y, [])
      | _, _ => none
    | _ => none)
  | .alloc t => .ret ((zeroT P t).map fun l => (none, .one (.sc (.ptr id 0)), [(id, .blk l t)]))
  | .box t x => .ret ((cellsOf (e x)).map fun l => (none, .one (.sc (.ptr id 0)), [(id, .blk l t)]))
  | .build t parts => .ret (match zeroT P t, placesT P t with
    | some z, some place => (fillEv place z (parts.toList.map fun p => (p.1, e p.2))).map fun l => (none, .one (.agg l), [])
    | _, _ => none)
  | .buildSlice t len parts => .ret (match sliceT P t with
    | some el => match sizeT P el, zeroT P el with
      | some s, some z => if len * s ≤ 16777216 ∧ wL z = s ∧ 0 < s then match fillEv (fun i => some (i * s, s)) ((List.replicate len z).flatten) (parts.toList.map fun p => (p.1, e p.2)) with
          | some l => match tyOf P 8 el with
            | some ty => if ty.w = s then match readN (ty.read true) ty.w len l with
                | some xs => some (none, .one (.sc (.sl id 0)), [(id, .own 0 ty xs)])
                | none => some (none, .one (.sc (.slice id 0 len len)), [(id, .blk l el)])
              else none
            | none => some (none, .one (.sc (.slice id 0 len len)), [(id, .blk l el)])
          | none => none
        else none
      | _, _ => none
    | none => none)
  | .load t a => match opSc (e a) with
    | some a => loadEv P t a
    | none => .ret none
  | .store t a x => match opSc (e a), cellsOf (e x) with
    | some a, some l => storeEv P t a l
    | _, _ => .ret none
  | .nilCheck x => .ret (match e x with
    | .one (.sc (.ptr b off)) => some (none, .one (.sc (.ptr b off)), [])
    | .one (.sc (.ep s w z f)) => some (none, .one (.sc (.ep s w z f)), [])
    | _ => none)
  | .binOp op t x y _ => .ret (match nilCmp P op t (e x) (e y) with
    | some b => some (none, .one (.sc (.bool (.lit b))), [])
    | none => (binLV P op t (e x) (e y)).map fun r => (r.1, .one (.sc r.2), []))
  | .unOp op _ x => .ret (match opSc (e x) with
    | some a => (unEv op a).map fun r => (none, .one (.sc r), [])
    | none => none)
  | .convert src dst x => match opSc (e x) with
    | some a => convEv P id src dst a
    | none => .ret none
  | .sliceToArrayPointer t x => match opSc (e x), arrayT P t with
    | some (.slice b off len _), some (n, _) => .ret (if n ≤ len then some (none, .one (.sc (.ptr b off)), []) else none)
    | some s, some (n, el) => (contOf s).map fun c => match c with
      | some (_, ⟨ty, l⟩) => if 0 < n ∧ sizeT P el = some ty.w then some (some (n ≤ l.length), .one (.sc (.ep s ty.w 0 0)), []) else none
      | none => none
    | _, _ => .ret none
  | .slice t x lo hi mx => match opSc (e x), arrayT P t, sliceT P t with
    | some (.ptr b off), some (n, el), _ => .get b fun y => .ret (match y, sizeT P el with
      | some (.blk cells _), some s => match rowAt cells off with
        | some (.arr ty n' _) => (match mx, boundEv 0 (lo.map e), boundEv n (hi.map e) with
          | none, some x, some y => if n' = n ∧ s = ty.w then some (some (0 ≤ x ∧ x ≤ y ∧ y ≤ n), .one (.sc (.vb b off ty n x (y - x))), []) else none
          | _, _, _ => none)
        | _ => (slicePart n n (lo.map e) (hi.map e) (mx.map e)).map fun r => (none, .one (.sc (.slice b (if r.2.2 = r.1 then off else off + r.1 * s) (r.2.1 - r.1) (r.2.2 - r.1))), [])
      | _, _ => none)
    | some (.slice b off len cap), none, some el => .ret (match slicePart len cap (lo.map e) (hi.map e) (mx.map e), sizeT P el with
      | some (l, h, m), some s => some (none, .one (.sc (.slice b (if m = l then off else off + l * s) (h - l) (m - l))), [])
      | _, _ => none)
    | some s, none, some el => (contOf s).map fun c => match c, sizeT P el with
      | some (_, ⟨ty, l⟩), some sz => (match mx, boundEv 0 (lo.map e), boundEv l.length (hi.map e) with
        | none, some x, some y => if sz = ty.w then (subS sz x y s).map fun r => (some (0 ≤ x ∧ x ≤ y ∧ y ≤ l.length), .one (.sc r), []) else none
        | _, _, _ => none)
      | _, _ => none
    | _, _, _ => .ret none
  | .fieldAddr s x f => .ret (match opSc (e x), fieldsT P s with
    | some a, some fs => match fs[f]? with
      | some fd => match sizeT P fd.type with
        | some n => if n = 0 then none else match a with
          | .ptr b off => some (none, .one (.sc (.ptr b (off + fd.offset))), [])
          | .ep s w z f0 => some (none, .one (.sc (.ep s w z (f0 + fd.offset))), [])
          | _ => none
        | none => none
      | none => none
    | _, _ => none)
  | .field s x f => .ret (match e x, fieldsT P s with
    | .one (.agg l), some fs => match fs[f]? with
      | some fd => (partEv P fd.type l fd.offset).map fun x => (none, .one x, [])
      | none => none
    | _, _ => none)
  | .indexAddr t x i => match opSc (e x) with
    | some a => idxAddrEv P t a (e i)
    | none => .ret none
  | .index t x i => .ret ((idxEv P t (e x) (e i)).map fun r => (r.1, .one r.2, []))
  | .extract x i => .ret (match e x with
    | .tup l => (l[i]?).map fun x => (none, .one x, [])
    | _ => none)
  | .makeSlice t n c => .ret (match sliceT P t, anyInt (e n), anyInt (e c) with
    | some el, some (_, n), some (_, c) => match tyOf P 8 el, sizeT P el, zeroT P el, bytesT P el with
      | some ty, some s, some z, some by_ => if s = ty.w ∧ 0 < s ∧ wL z = s then match ty.read true z with
          | some z => some (some (c = n ∧ 0 ≤ n ∧ by_ * n ≤ 2 ^ 46 ∧ n ≤ 2 ^ 46), .one (.sc (.sl id 0)), [(id, .own 0 ty (List.replicate n.toNat z))])
          | none => none
        else none
      | _, _, _, _ => none
    | _, _, _ => none)
  | _ => .ret none
/-- what an operation without a call does -/
def OpOk (P : Program) (o : Oper) (st : St) (q : Option Prop) (v : LV) (d : List (Nat × Item)) : Prop :=
  needs q → ∀ (W : World) (hp₀ : Hp) (β₀ β : Env) (a : Act) (w : World), Rel W hp₀ β₀ β st a w →
    ∃ (β' : Env) (w' : World) (r : Next) (val : Value), (execOp a.eval o).run P w = .ok r w' ∧ (r = .value val ∨ (r = .skip ∧ val = undef)) ∧ v.den β' (kd (applyD d st.hp)) val ∧
      HRel W hp₀ β₀ β' (applyD d st.hp) w' ∧ Agree β β' (kd st.hp) (kd (applyD d st.hp))
theorem OpOk.pure {P : Program} {o : Oper} {st : St} {q : Option Prop} {v : LV}
    (h : needs q → ∀ (W : World) (hp₀ : Hp) (β₀ β : Env) (a : Act) (w : World), Rel W hp₀ β₀ β st a w →
      ∃ val : Value, (execOp a.eval o).run P w = .ok (.value val) w ∧ v.den β (kd st.hp) val) : OpOk P o st q v [] :=
  fun hq W hp₀ β₀ β a w hr => let ⟨val, h1, h2⟩ := h hq W hp₀ β₀ β a w hr; ⟨β, w, _, val, h1, .inl rfl, h2, hr.heap, Agree.refl _ _⟩
def ev (st : St) : Operand → LV
  | .tmp t => st.fr.getD t .junk
  | .const v => LV.ofVal v
  | .func f => .one (.sc (.con (.func (.func f) #[] #[])))
  | .global _ => .junk
theorem ev_den {W : World} {hp₀ : Hp} {β₀ β : Env} {st : St} {a : Act} {w : World} (h : Rel W hp₀ β₀ β st a w) (x : Operand) : (ev st x).den β (kd st.hp) (a.eval x) := by
  cases x with
  | tmp t =>
    simp only [ev, Act.eval]
    cases hs : st.fr[t]? with
    | none => simp [List.getD, hs, LV.den]
    | some y =>
      obtain ⟨v, hv, hr⟩ := h.fr.get hs
      have e : a.tmps.getD t undef = v := by
        have : a.tmps[t]? = some v := by simpa using hv
        simp [Array.getD_eq_getD_getElem?, this]
      rw [e]
      simpa [List.getD, hs] using hr
  | const v => exact LV.ofVal_den v
  | func f => exact ⟨rfl, rfl⟩
  | global g => trivial
end Go.Ev
end

section
set_option linter.unusedVariables false
set_option linter.unusedSimpArgs false
namespace Go.Ev
open Go
theorem setAt_set : ∀ {hp : Hp} {i : Nat} {x : Item}, i < hp.length → setAt hp i x = hp.set i (some x)
  | [], _, _, h => by simp at h
  | _ :: _, 0, _, _ => rfl
  | _ :: l, i + 1, x, h => by simp only [setAt, List.set_cons_succ]; rw [setAt_set (by simpa using h)]
theorem setAt_at {hp : Hp} {i : Nat} {x y : Item} (h : hp[i]? = some (some y)) : setAt hp i x = hp.set i (some x) := setAt_set (List.getElem?_eq_some_iff.1 h).1
section
variable {W : World} {hp₀ : Hp} {β₀ β : Env} {hp : Hp} {w : World}
theorem HRel.newBlk (h : HRel W hp₀ β₀ β hp w) {id : Nat} (hid : kd hp id = none) {cells : List SV} {c : List Value} (t : TypeId) (hc : DenL β (kd hp) cells c) :
    ∃ β', HRel W hp₀ β₀ β' (setAt hp id (.blk cells t)) (w.alloc (.cells c.toArray t)) ∧ Agree β β' (kd hp) (kd (setAt hp id (.blk cells t))) ∧ β'.b id = w.heap.size := by
  have hb : (⟨fun j => if j = id then w.heap.size else β.b j, β.h, β.rd⟩ : Env).b id = w.heap.size := if_pos rfl
  obtain ⟨h1, h2⟩ := h.add hid (x := .blk cells t) (β' := ⟨fun j => if j = id then w.heap.size else β.b j, β.h, β.rd⟩) (w' := w.alloc (.cells c.toArray t)) (fun j hj => if_neg hj) (fun j _ => rfl) rfl (by simp) rfl rfl
    (fun b hb => heap_alloc_old w _ b hb) (fun b ho => by
      have ho' : b = if id = id then w.heap.size else β.b id := ho
      rw [if_pos rfl] at ho'; omega)
    fun hag => ⟨c, (0, 0), by rw [hb]; exact heap_alloc_new w _, .inl rfl, hc.mono hag⟩
  exact ⟨_, h1, h2, hb⟩
theorem HRel.newOwn (h : HRel W hp₀ β₀ β hp w) {id : Nat} (hid : kd hp id = none) {v : Value} {ver : Nat} {t : Ty} {l : List t.D} {w' : World} (hs : w.heap.size ≤ w'.heap.size) (hos : w'.os = w.os) (hout : w'.output = w.output)
    (hold : ∀ b, b < w.heap.size → w'.heap[b]? = w.heap[b]?) (hv : OwnOk β w' v t l) (hblk : ∀ a n c, v = .slice (some a) n c → 0 < c → w.heap.size ≤ a.block) :
    ∃ β', HRel W hp₀ β₀ β' (setAt hp id (.own ver t l)) w' ∧ Agree β β' (kd hp) (kd (setAt hp id (.own ver t l))) ∧ β'.h id = v := by
  have hb : (⟨β.b, fun j => if j = id then v else β.h j, β.rd⟩ : Env).h id = v := if_pos rfl
  obtain ⟨h1, h2⟩ := h.add hid (x := .own ver t l) (β' := ⟨β.b, fun j => if j = id then v else β.h j, β.rd⟩) (w' := w') (fun j hj => rfl) (fun j hj => if_neg hj) rfl hs hos hout hold
    (fun b ho => by
      obtain ⟨a, n, c, e, h0, rfl⟩ := ho
      rw [hb] at e
      exact hblk a n c e h0)
    fun hag => by show OwnOk _ w' _ t l; rw [hb]; exact hv.of hag.rd fun _ _ _ _ _ => rfl
  exact ⟨_, h1, h2, hb⟩
/-- an own slice that changes -/
theorem HRel.updOwn (h : HRel W hp₀ β₀ β hp w) {i : Nat} {ver ver' : Nat} {t : Ty} {l l' : List t.D} (hi : hp[i]? = some (some (.own ver t l))) {v : Value} {w' : World} (hver : ver < ver' ∨ (ver = ver' ∧ v = β.h i))
    (hs : w.heap.size ≤ w'.heap.size) (hos : w'.os = w.os) (hout : w'.output = w.output)
    (hold : ∀ b, b < w.heap.size → ¬ Owns β (.own ver t l) i b → w'.heap[b]? = w.heap[b]?) (hv : OwnOk β w' v t l')
    (hblk : ∀ a n c, v = .slice (some a) n c → 0 < c → Owns β (.own ver t l) i a.block ∨ w.heap.size ≤ a.block) :
    ∃ β', HRel W hp₀ β₀ β' (setAt hp i (.own ver' t l')) w' ∧ Agree β β' (kd hp) (kd (setAt hp i (.own ver' t l'))) ∧ β'.h i = v := by
  have hb : (⟨β.b, fun j => if j = i then v else β.h j, β.rd⟩ : Env).h i = v := if_pos rfl
  rw [setAt_at hi]
  obtain ⟨h1, h2⟩ := h.upd hi (x' := .own ver' t l') (β' := ⟨β.b, fun j => if j = i then v else β.h j, β.rd⟩) (w' := w') rfl (fun j hj => if_neg hj) rfl
    (.inr ⟨ver, ver', rfl, rfl, by omega, fun e => by rw [hb]; rcases hver with k | ⟨_, k⟩
                                                      · omega
                                                      · exact k⟩) hs hos hout hold
    (fun b ho => by
      obtain ⟨a, n, c, e, h0, rfl⟩ := ho
      rw [hb] at e
      exact hblk a n c e h0)
    fun hag => by show OwnOk _ w' _ t l'; rw [hb]; exact hv.of hag.rd fun _ _ _ _ _ => rfl
  exact ⟨_, h1, h2, hb⟩
/-- a block that changes -/
theorem HRel.updBlk (h : HRel W hp₀ β₀ β hp w) {i : Nat} {cells cells' : List SV} {elem : TypeId} (hi : hp[i]? = some (some (.blk cells elem))) {w' : World}
    (hs : w.heap.size ≤ w'.heap.size) (hos : w'.os = w.os) (hout : w'.output = w.output) (hold : ∀ b, b ≠ β.b i → w'.heap[b]? = w.heap[b]?)
    {c : List Value} {fz : Nat × Nat} (hc : w'.heap[β.b i]? = some (.cells c.toArray elem fz)) (hfz : FzOk fz c.length) (hd : DenL β (kd hp) cells' c) :
    HRel W hp₀ β₀ β (setAt hp i (.blk cells' elem)) w' ∧ Agree β β (kd hp) (kd (setAt hp i (.blk cells' elem))) := by
  rw [setAt_at hi]
  exact h.upd hi (x' := .blk cells' elem) rfl (fun _ _ => rfl) rfl (.inl ⟨rfl, rfl⟩) hs hos hout (fun b _ ho => hold b ho) (fun b ho => .inl ho) fun hag => ⟨c, fz, hc, hfz, hd.mono hag⟩
theorem HRel.blkAt (h : HRel W hp₀ β₀ β hp w) {i : Nat} {cells : List SV} {elem : TypeId} (hi : hp[i]? = some (some (.blk cells elem))) :
    ∃ (c : List Value) (fz : Nat × Nat), w.heap[β.b i]? = some (.cells c.toArray elem fz) ∧ FzOk fz c.length ∧ DenL β (kd hp) cells c ∧ HoldsAt w ⟨β.b i, 0, none⟩ c := by
  obtain ⟨c, fz, h1, h2, h3⟩ := h.items i _ hi
  refine ⟨c, fz, h1, h2, h3, ?_⟩
  have := holdsAt_cells (w := w) (b := β.b i) (pre := []) (mid := c) (post := []) (elem := elem) (fz := fz) (by simpa using h1)
  exact this
/-- cells stored into a block -/
theorem HRel.storeBlk {P : Program} (h : HRel W hp₀ β₀ β hp w) {i off : Nat} {cells cells' new : List SV} {elem : TypeId} (hi : hp[i]? = some (some (.blk cells elem))) (hp' : PutOk β (kd hp) cells cells' off new) {ws : List Value} (hn : DenL β (kd hp) new ws) :
    ∃ w', (storeCells ⟨β.b i, off, none⟩ ws).run P w = .ok () w' ∧ HRel W hp₀ β₀ β (setAt hp i (.blk cells' elem)) w' ∧ Agree β β (kd hp) (kd (setAt hp i (.blk cells' elem))) := by
  obtain ⟨c, fz, h1, h2, h3, _⟩ := h.blkAt hi
  obtain ⟨pre, old, post, rfl, e1, e2, h4⟩ := hp' _ _ h3 hn
  obtain ⟨w', k1, k2, k3, k4, k5, k6⟩ := run_storeRow (P := P) (a := ⟨β.b i, off, none⟩) rfl (elem := elem) (fz := fz) ws 0 pre old post w h1 (by simpa using e1) e2 hn.oneCells
    (fun o k1 k2 => h2.not (by simp; omega))
  obtain ⟨m1, m2⟩ := h.updBlk hi (cells' := cells') (w' := w') (by omega) k5 k6 k3 k2 (by
    have : (pre ++ (ws ++ post)).length = (pre ++ (old ++ post)).length := by simp [e2]
    rw [this]; exact h2) h4
  exact ⟨w', k1, m1, m2⟩
theorem run_storeVar {P : Program} {t : TypeId} {a : Addr} {v : Value} {ws : List Value} {n : Nat} {w' : World} (hs : sizeT P t = some n) (hv : v.cells = ws.toArray) (hl : ws.length = n) (hr : (storeCells a ws).run P w = .ok () w') :
    (storeVar t a v).run P w = .ok () w' := by
  unfold storeVar
  rw [hv]
  simp only [Sem.run_bind, run_sizeOf hs, Result.andThen_ok]
  simpa [hl] using hr
theorem contOf_ok (h : HRel W hp₀ β₀ β hp w) {s : SV} {pm : Bool} {t : Ty} {l : List t.D} {v : Value} (hc : (contOf s).val hp = some (pm, ⟨t, l⟩)) (hd : s.den β (kd hp) v) : ReadsAs β pm w v t l := by
  unfold contOf at hc
  rw [Ask.val_bind] at hc
  split at hc
  · rename_i t' _
    rw [Ask.val_map] at hc
    obtain ⟨⟨pm', l'⟩, h1, h2⟩ := map_some hc
    simp at h2; obtain ⟨rfl, rfl, h2⟩ := h2
    simp at h2; subst h2
    exact contAs_ok h h1 hd
  · cases hc
theorem ep_reads (h : HRel W hp₀ β₀ β hp w) {s : SV} {pm : Bool} {t : Ty} {l : List t.D} {wd : Nat} {z : Int} {f : Nat} {v : Value} (hc : (contOf s).val hp = some (pm, ⟨t, l⟩)) (hd : (SV.ep s wd z f).den β (kd hp) v) :
    ∃ a vss, v = .pointer (some (a.add (z.toNat * wd + f))) ∧ a.spot = none ∧ HasL (t.has β pm) l vss ∧ HoldsAt w a vss ∧ 0 ≤ z ∧ z.toNat < l.length := by
  obtain ⟨a, n, c, h1, h2, h3, rfl⟩ := hd
  obtain ⟨a', n', c', e, hn, _, _, hr⟩ := contOf_ok h hc h1
  simp at e; obtain ⟨rfl, rfl, rfl⟩ := e
  obtain ⟨a0, vss, e, k1, k2, k3⟩ := hr (by omega)
  simp at e; subst e
  exact ⟨a, vss, rfl, k1, k2, k3, h2, by omega⟩
end
section
variable {P : Program} {st : St} {o : Oper} {q : Option Prop} {v : LV} {d : List (Nat × Item)}
theorem run_slicePart {P : Program} {w : World} {β : Env} {L : Nat → Option Kd} {isS : Bool} {len cap : Nat} {lo hi mx : Option LV} {lov hiv mxv : Option Value} {r : Nat × Nat × Nat}
    (h : slicePart len cap lo hi mx = some r)
    (hlo : ∀ x, lo = some x → ∃ y, lov = some y ∧ x.den β L y) (hlo' : lo = none → lov = none)
    (hhi : ∀ x, hi = some x → ∃ y, hiv = some y ∧ x.den β L y) (hhi' : hi = none → hiv = none)
    (hmx' : mx = none → mxv = none) :
    (Instr.sliceBounds isS len cap lov hiv mxv).run P w = .ok r w := by
  unfold slicePart at h
  cases mx with
  | some x => simp at h
  | none =>
    simp only at h
    obtain rfl := hmx' rfl
    have hbound : ∀ (x : LV) (y : Value) (k : IntKind) (i c : Nat) (code : BoundsCode), litNat x = some (k, i) → x.den β L y → i ≤ c → (Instr.sliceBound y c code).run P w = .ok i w := by
      intro x y k i c code hl hd hle
      have := litNat_den hl hd
      subst this
      have h1 : (0 : Int) ≤ i ∧ (i : Int) ≤ c := by omega
      simp [Instr.sliceBound, asIntOf, h1]
    unfold Instr.sliceBounds
    cases hi with
    | none =>
      obtain rfl := hhi' rfl
      simp only at h
      cases lo with
      | none =>
        obtain rfl := hlo' rfl
        simp at h; subst h
        simp
      | some x =>
        obtain ⟨y, rfl, hd⟩ := hlo x rfl
        simp only at h
        cases hl : litNat x with
        | none => simp [hl] at h
        | some p =>
          obtain ⟨k, i⟩ := p
          simp only [hl] at h
          split at h
          · rename_i hle
            simp at h; subst h
            simp [hbound x y k i len _ hl hd hle]
          · simp at h
    | some z =>
      obtain ⟨u, rfl, hdz⟩ := hhi z rfl
      simp only at h
      cases hlz : litNat z with
      | none => simp [hlz] at h
      | some p =>
        obtain ⟨kz, iz⟩ := p
        simp only [hlz] at h
        split at h
        · simp at h
        · rename_i hh hle
          split at hle
          · rename_i hle2
            simp at hle; subst hle
            cases lo with
            | none =>
              obtain rfl := hlo' rfl
              simp at h; subst h
              simp [hbound z u kz iz cap _ hlz hdz hle2]
            | some x =>
              obtain ⟨y, rfl, hd⟩ := hlo x rfl
              simp only at h
              cases hl : litNat x with
              | none => simp [hl] at h
              | some p =>
                obtain ⟨k, i⟩ := p
                simp only [hl] at h
                split at h
                · rename_i hle
                  simp at h; subst h
                  simp [hbound z u kz iz cap _ hlz hdz hle2, hbound x y k i iz _ hl hd hle]
                · simp at h
          · simp at hle
theorem run_sliceSym {P : Program} {W : World} {hp₀ : Hp} {β₀ β : Env} {st : St} {a : Act} {w : World} (hr : Rel W hp₀ β₀ β st a w) {isS : Bool} {lo hi : Option Operand} {n c : Nat} {x y : Int}
    (hlo : boundEv 0 (lo.map (ev st)) = some x) (hhi : boundEv n (hi.map (ev st)) = some y) (h0 : 0 ≤ x) (h1 : x ≤ y) (h2 : y ≤ n) (hc : n ≤ c) :
    (Instr.sliceBounds isS n c (lo.map a.eval) (hi.map a.eval) none).run P w = .ok (x.toNat, y.toNat, c) w := by
  have hbnd : ∀ (z : Operand) (m : Int) (c : Nat) (code : BoundsCode), (anyInt (ev st z)).map (·.2) = some m → 0 ≤ m → m ≤ c → (Instr.sliceBound (a.eval z) c code).run P w = .ok m.toNat w := by
    intro z m c code hz h0 h1
    obtain ⟨⟨k', n'⟩, hz1, rfl⟩ := map_some hz
    have := anyInt_den hz1 (ev_den hr z)
    rw [this]
    simp [Instr.sliceBound, asIntOf, h0, h1]
  have hy : ∀ z, hi = some z → ∀ code, (Instr.sliceBound (a.eval z) c code).run P w = .ok y.toNat w := fun z hz code => by
    subst hz
    exact hbnd z y c _ (by simpa [boundEv] using hhi) (by omega) (by omega)
  have hx : ∀ z, lo = some z → ∀ code, (Instr.sliceBound (a.eval z) y.toNat code).run P w = .ok x.toNat w := fun z hz code => by
    subst hz
    exact hbnd z x _ _ (by simpa [boundEv] using hlo) h0 (by omega)
  have hy0 : hi = none → y.toNat = n := fun h => by
    subst h
    have : (n : Int) = y := by simpa [boundEv] using hhi
    omega
  have hx0 : lo = none → x.toNat = 0 := fun h => by
    subst h
    have : (0 : Int) = x := by simpa [boundEv] using hlo
    omega
  unfold Instr.sliceBounds
  cases hi with
  | none =>
    have e1 := hy0 rfl
    cases lo with
    | none => have e2 := hx0 rfl; simp [e1, e2]
    | some z => have e2 := hx z rfl; rw [e1] at e2; simp [e1, e2]
  | some z' =>
    have e1 := hy z' rfl
    cases lo with
    | none => have e2 := hx0 rfl; simp [e1, e2]
    | some z => have e2 := hx z rfl; simp [e1, e2]
theorem opOk_new {id : Nat} {cells : List SV} {t : TypeId} {mk : Act → Sem Value} (hop : ∀ a : Act, execOp a.eval o = (do pure (.value (← mk a))))
    (h : ∀ W hp₀ β₀ β a w, Rel W hp₀ β₀ β st a w → ∃ c : List Value, DenL β (kd st.hp) cells c ∧ (mk a).run P w = .ok (.pointer (some ⟨w.heap.size, 0, none⟩)) (w.alloc (.cells c.toArray t))) (hid : kd st.hp id = none) :
    OpOk P o st none (.one (.sc (.ptr id 0))) [(id, .blk cells t)] := by
  intro _ W hp₀ β₀ β a w hr
  obtain ⟨c, hd, hrun⟩ := h W hp₀ β₀ β a w hr
  obtain ⟨β', h1, h2, h3⟩ := hr.heap.newBlk hid t hd
  refine ⟨β', _, _, .pointer (some ⟨w.heap.size, 0, none⟩), ?_, .inl rfl, ?_, h1, h2⟩
  · rw [hop, Sem.run_bind, hrun]; rfl
  · refine ⟨?_, by rw [h3]⟩
    show kd (setAt st.hp id (.blk cells t)) id = some .blk
    rw [kd_setAt, if_pos rfl]; rfl
end
end Go.Ev
end

section
set_option linter.unusedVariables false
set_option linter.unusedSimpArgs false
namespace Go.Ev
open Go
section
variable {P : Program} {st : St} {o : Oper} {q : Option Prop} {v : LV} {d : List (Nat × Item)}
theorem hasL_mid {β : Env} {t : Ty} {pm : Bool} {l : List t.D} {vs : List Value} (h : HasL (t.has β pm) l vs) {j n : Nat} (hj : j + n ≤ l.length) :
    ∃ pre mid post, vs = pre ++ (mid ++ post) ∧ pre.length = j * t.w ∧ mid.length = n * t.w ∧ HasL (t.has β pm) ((l.drop j).take n) mid := by
  obtain ⟨v1, v2, rfl, k1, k2⟩ := hasL_take h j
  obtain ⟨v3, v4, rfl, k3, k4⟩ := hasL_take k2 n
  refine ⟨v1, v3, v4, rfl, ?_, ?_, k3⟩
  · rw [hasL_length k1, List.length_take, Nat.min_eq_left (by omega)]
  · rw [hasL_length k3, List.length_take, List.length_drop, Nat.min_eq_left (by omega)]
theorem load_ok {t : TypeId} {x : Operand} {s : SV} (ho : o.op = .load t x) (hx : opSc (ev st x) = some s) (h : (loadEv P t s).val st.hp = some (q, v, d)) : OpOk P o st q v d := by
  have key : ∀ {v : LV}, (needs q → ∀ (W : World) (hp₀ : Hp) (β₀ β : Env) (a : Act) (w : World), Rel W hp₀ β₀ β st a w → s.den β (kd st.hp) (a.eval x) →
      ∃ (ad : Addr) (val : Value), a.eval x = .pointer (some ad) ∧ (loadVar t ad).run P w = .ok val w ∧ v.den β (kd st.hp) val) → OpOk P o st q v [] := by
    intro v hk
    refine OpOk.pure fun hq W hp₀ β₀ β a w hr => ?_
    obtain ⟨ad, val, e, h1, h2⟩ := hk hq W hp₀ β₀ β a w hr (opSc_den hx (ev_den hr x))
    exact ⟨val, by simp [execOp, ho, Instr.loadAt, e, Instr.sureAddr, h1], h2⟩
  unfold loadEv at h
  split at h
  · rename_i b off
    simp only [Ask.val] at h
    split at h
    · rename_i cells elem hb
      obtain ⟨y, hy, he⟩ := map_some h
      simp at he; obtain ⟨rfl, rfl, rfl⟩ := he
      refine key fun _ W hp₀ β₀ β a w hr hd => ?_
      obtain ⟨_, e⟩ := hd
      obtain ⟨c, fz, _, _, h3, h4⟩ := hr.heap.blkAt (itemAt_some hb)
      obtain ⟨val, h5, h6⟩ := run_loadPart (P := P) rfl h4 h3 hy
      rw [addr_add, Nat.zero_add] at h5
      exact ⟨_, val, e, h5, h6⟩
    · cases h
  · rename_i b base stride n z
    simp only [Ask.val] at h
    split at h
    · rename_i cells elem hb
      split at h
      · rename_i items hit
        obtain ⟨y, hy, he⟩ := map_some h
        simp at he; obtain ⟨rfl, rfl, rfl⟩ := he
        refine key fun _ W hp₀ β₀ β a w hr hd => ?_
        obtain ⟨_, hz, e⟩ := hd
        obtain ⟨c, fz, _, _, h3, h4⟩ := hr.heap.blkAt (itemAt_some hb)
        obtain ⟨it, hi1, hi2⟩ := partsEv_get hit hz
        obtain ⟨val, h5, h6⟩ := run_loadPart (P := P) rfl h4 h3 hi2
        rw [addr_add, Nat.zero_add] at h5
        exact ⟨_, val, e, h5, selV_ok hi1 h6 hy⟩
      · cases h
    · cases h
  · rename_i s' wd z f
    rw [Ask.val_map] at h
    split at h
    · rename_i pm ty l hc
      split at h
      · rename_i hw; subst hw
        have hpart : ∀ {y : VV}, partEv P t (ty.svs pm (l.getD z.toNat ty.z)) f = some y → OpOk P o st q (.one y) [] := by
          intro y hy
          refine key fun _ W hp₀ β₀ β a w hr hd => ?_
          obtain ⟨ad, vss, e, k1, k2, k3, k4, k5⟩ := ep_reads hr.heap hc hd
          obtain ⟨pre, u, post, rfl, e1, h5, _⟩ := hasL_elem k2 k5
          have h6 := HoldsAt.mid k1 k3
          obtain ⟨val, h7, h8⟩ := run_loadPart (P := P) (add_spot k1 _) h6 (ty.svs_ok (L := kd st.hp) h5) hy
          rw [add_add k1, e1] at h7
          exact ⟨_, val, e, h7, h8⟩
        split at h
        · rename_i n el harr
          split at h
          · rename_i hcond
            obtain ⟨_, _, rfl, hpm, hag, hsz⟩ := hcond
            simp at h; obtain ⟨rfl, rfl, rfl⟩ := h
            refine key fun hq W hp₀ β₀ β a w hr hd => ?_
            have hq' : z.toNat + n ≤ l.length := hq
            obtain ⟨ad, vss, e, k1, k2, k3, k4, k5⟩ := ep_reads hr.heap hc hd
            obtain ⟨pre, mid, post, rfl, e1, e2, h5'⟩ := hasL_mid k2 hq'
            have h5 : HasL (ty.has β true) ((l.drop z.toNat).take n) mid := by
              cases pm with
              | true => exact h5'
              | false => exact h5'.imp fun _ _ => ty.has_pm (by simpa using hpm)
            have h6 := HoldsAt.mid k1 k3
            refine ⟨_, .agg mid.toArray, e, ?_, mid, rfl, HasL.one (R := SV.dens β (kd st.hp)) ⟨by simp; omega, h5⟩⟩
            unfold loadVar
            simp only [Sem.run_bind, run_isAgg hag, Result.andThen_ok, if_true, run_sizeOf hsz, Nat.add_zero]
            have h7 := run_loadRow (P := P) h6
            rw [e1, e2] at h7
            rw [h7]; rfl
          · obtain ⟨y, hy, he⟩ := map_some h
            simp at he; obtain ⟨rfl, rfl, rfl⟩ := he
            exact hpart hy
        · obtain ⟨y, hy, he⟩ := map_some h
          simp at he; obtain ⟨rfl, rfl, rfl⟩ := he
          exact hpart hy
      · cases h
    · cases h
  · simp [Ask.val] at h
theorem newElem_ok {β : Env} {L : Nat → Option Kd} {t : Ty} {x y : t.D} {f : Nat} {l : List SV} (h : newElem t x f l = some y) {u ws : List Value} (hx : t.has β true x u) (hn : DenL β L l ws) :
    ∃ pre old post, u = pre ++ (old ++ post) ∧ pre.length = f ∧ old.length = ws.length ∧ t.has β true y (pre ++ (ws ++ post)) := by
  unfold newElem at h
  split at h
  · rename_i hc
    obtain ⟨rfl, hw⟩ := hc
    refine ⟨[], u, [], by simp, rfl, by rw [t.has_length hx, hn.length, hw], ?_⟩
    simpa using t.read_ok h hn
  · split at h
    · rename_i c hput
      obtain ⟨pre, old, post, rfl, e1, e2, h3⟩ := putL_ok _ _ hput _ _ (t.svs_ok hx) hn
      exact ⟨pre, old, post, rfl, e1, e2, t.read_ok h h3⟩
    · cases h
theorem setRowAt_ok {β : Env} {L : Nat → Option Kd} : ∀ (l : List SV) (off : Nat) {t : Ty} {n : Nat} {x y : List t.D} {l' : List SV} {vs : List Value}, rowAt l off = some (.arr t n x) → setRowAt l off (.arr t n y) = some l' → DenL β L l vs → y.length = n →
    ∃ pre mid post, vs = pre ++ (mid ++ post) ∧ pre.length = off ∧ x.length = n ∧ HasL (t.has β true) x mid ∧ ∀ mid', HasL (t.has β true) y mid' → DenL β L l' (pre ++ (mid' ++ post))
  | [], _, _, _, _, _, _, _, h, _, _, _ => by simp [rowAt] at h
  | s :: r, off, t, n, x, y, l', vs, h, hset, hd, hy => by
    have plain : (∀ t n l, s ≠ .arr t n l) → ∃ pre mid post, vs = pre ++ (mid ++ post) ∧ pre.length = off ∧ x.length = n ∧ HasL (t.has β true) x mid ∧ ∀ mid', HasL (t.has β true) y mid' → DenL β L l' (pre ++ (mid' ++ post)) := by
      intro hs
      cases hd with
      | cons h1 h2 =>
        obtain ⟨v, rfl, hv⟩ := SV.den_of h1 hs
        cases off with
        | zero =>
          exfalso
          cases s with
          | arr t n l => exact absurd rfl (hs t n l)
          | _ => simp [rowAt] at h
        | succ off =>
          have h' : rowAt r off = some (.arr t n x) := by
            cases s with
            | arr t n l => exact absurd rfl (hs t n l)
            | _ => exact h
          have hs' : (setRowAt r off (.arr t n y)).map (s :: ·) = some l' := by
            cases s with
            | arr t n l => exact absurd rfl (hs t n l)
            | _ => exact hset
          obtain ⟨r', hr', rfl⟩ := map_some hs'
          obtain ⟨pre, mid, post, rfl, e, h3, h4, h5⟩ := setRowAt_ok r off h' hr' h2 hy
          exact ⟨v :: pre, mid, post, rfl, by simp [e], h3, h4, fun mid' hm => DenL.cons1 hv (h5 mid' hm)⟩
    cases s with
    | arr t' n' l0 =>
      have h' : (if off = 0 then some (.arr t' n' l0) else if n' * t'.w ≤ off then rowAt r (off - n' * t'.w) else none) = some (SV.arr t n x) := by cases off <;> exact h
      have hs' : (if off = 0 then some (SV.arr t n y :: r) else if n' * t'.w ≤ off then (setRowAt r (off - n' * t'.w) (.arr t n y)).map (.arr t' n' l0 :: ·) else none) = some l' := by cases off <;> exact hset
      cases hd with
      | cons h1 h2 =>
        rename_i us ws
        split at h'
        · rename_i e0
          rw [if_pos e0] at hs'
          simp at h'; obtain ⟨rfl, rfl, e⟩ := h'
          simp at e; subst e
          simp at hs'; subst hs'
          exact ⟨[], us, ws, rfl, by simp [e0], h1.1, h1.2, fun mid' hm => by simpa using HasL.cons (R := SV.dens β L) (x := .arr t' n' y) (vs := mid') ⟨hy, hm⟩ h2⟩
        · rename_i e0
          rw [if_neg e0] at hs'
          split at h'
          · rename_i hle
            rw [if_pos hle] at hs'
            obtain ⟨r', hr', rfl⟩ := map_some hs'
            obtain ⟨pre, mid, post, rfl, e, h3, h4, h5⟩ := setRowAt_ok r _ h' hr' h2 hy
            have hul := SV.dens_length h1
            simp only [SV.w] at hul
            refine ⟨us ++ pre, mid, post, by simp, by simp [hul, e]; omega, h3, h4, fun mid' hm => ?_⟩
            rw [List.append_assoc]
            exact .cons h1 (h5 mid' hm)
          · cases h'
    | _ => exact plain (by intros; simp)
/-- an element of an own slice stored into -/
theorem HRel.storeOwn {P : Program} {W : World} {hp₀ : Hp} {β₀ β : Env} {hp : Hp} {w : World} (h : HRel W hp₀ β₀ β hp w) {i ver : Nat} {t : Ty} {m : List t.D} (hi : hp[i]? = some (some (.own ver t m)))
    {a0 : Addr} {n c : Nat} (he : β.h i = .slice (some a0) n c) {j f : Nat} (hj : j < m.length) {l : List SV} {y : t.D} (hy : newElem t (m.getD j t.z) f l = some y) {ws : List Value} (hn : DenL β (kd hp) l ws) :
    ∃ w' β', (storeCells (a0.add (j * t.w + f)) ws).run P w = .ok () w' ∧ HRel W hp₀ β₀ β' (setAt hp i (.own ver t (m.set j y))) w' ∧ Agree β β' (kd hp) (kd (setAt hp i (.own ver t (m.set j y)))) := by
  have hit : OwnOk β w (β.h i) t m := h.items _ _ hi
  obtain ⟨a, n', c', e, hn1, hn2, _, h4⟩ := hit
  rw [he] at e; simp at e; obtain ⟨rfl, rfl, rfl⟩ := e
  obtain ⟨a1, pre, vss, rest, elem, fz, e, k1, k2, k3, k4, k5, k6⟩ := h4 (by omega)
  simp at e; subst e
  obtain ⟨pa, u, pb, rfl, e1, h6, h7, h8⟩ := hasL_elem k4 hj
  obtain ⟨p1, old, p2, rfl, e2, e3, h9⟩ := newElem_ok hy h6 hn
  have hlenu : old.length = ws.length := e3
  obtain ⟨w', r1, r2, r3, r4, r5, r6⟩ := run_storeRow (P := P) (a := a0.add (j * t.w + f)) (add_spot k1 _) (elem := elem) (fz := fz) ws 0 (pre ++ pa ++ p1) old (p2 ++ pb ++ rest) w
    (by rw [add_block, k2]; simp) (by
      obtain ⟨b0, o0, s0⟩ := a0
      simp at k1 k3; subst k1
      rw [addr_add]; simp [k3, e1, e2] <;> omega) hlenu hn.oneCells (fun off q1 q2 => k6.not (by simp at q2 ⊢; omega))
  rw [add_block] at r2 r3
  have hset : HasL (t.has β true) (m.set j y) (pa ++ ((p1 ++ (ws ++ p2)) ++ pb)) := HasL.of_get hj h9 h7 h8
  obtain ⟨β', s1, s2, s3⟩ := h.updOwn hi (ver' := ver) (l' := m.set j y) (v := β.h i) (w' := w') (.inr ⟨rfl, rfl⟩) (by omega) r5 r6 (fun b hb hno => by
      refine r3 b fun e => hno ?_
      subst e
      exact ⟨a0, n, c, he, by omega, rfl⟩)
    (by
      rw [he]
      refine ⟨some a0, n, c, rfl, by simpa using hn1, hn2, by simp, fun _ => ⟨a0, pre, pa ++ ((p1 ++ (ws ++ p2)) ++ pb), rest, elem, fz, rfl, k1, ?_, k3, hset, k5, ?_⟩⟩
      · rw [r2]; simp
      · have : (pre ++ (pa ++ (p1 ++ (ws ++ p2) ++ pb) ++ rest)).length = (pre ++ (pa ++ (p1 ++ (old ++ p2) ++ pb) ++ rest)).length := by simp [hlenu]
        rw [this]; exact k6)
    (fun a n c e h0 => .inl ⟨a, n, c, e, h0, rfl⟩)
  exact ⟨w', β', r1, s1, s2⟩
theorem store_ok {t : TypeId} {x y : Operand} {s : SV} {l : List SV} (ho : o.op = .store t x y) (hx : opSc (ev st x) = some s) (hl : cellsOf (ev st y) = some l) (h : (storeEv P t s l).val st.hp = some (q, v, d)) : OpOk P o st q v d := by
  unfold storeEv at h
  split at h
  rotate_left
  · simp [Ask.val] at h
  rename_i hsz
  have key : ∀ {d : List (Nat × Item)}, (needs q → ∀ (W : World) (hp₀ : Hp) (β₀ β : Env) (a : Act) (w : World), Rel W hp₀ β₀ β st a w → s.den β (kd st.hp) (a.eval x) → ∀ ws, DenL β (kd st.hp) l ws →
      ∃ (ad : Addr) (w' : World) (β' : Env), a.eval x = .pointer (some ad) ∧ (storeCells ad ws).run P w = .ok () w' ∧ HRel W hp₀ β₀ β' (applyD d st.hp) w' ∧ Agree β β' (kd st.hp) (kd (applyD d st.hp))) → OpOk P o st q (.tup []) d := by
    intro d hk hq W hp₀ β₀ β a w hr
    obtain ⟨ws, hws, hdw⟩ := cellsOf_den hl (ev_den hr y)
    obtain ⟨ad, w', β', e, h1, h2, h3⟩ := hk hq W hp₀ β₀ β a w hr (opSc_den hx (ev_den hr x)) ws hdw
    refine ⟨β', w', .skip, undef, ?_, .inr ⟨rfl, rfl⟩, ⟨[], rfl, .nil⟩, h2, h3⟩
    have := run_storeVar hsz hws hdw.length h1
    simp [execOp, ho, Instr.storeAt, e, Instr.sureAddr, this]
  split at h
  · rename_i b off
    simp only [Ask.val] at h
    split at h
    · rename_i cells elem hb
      obtain ⟨c, hc, he⟩ := map_some h
      simp at he; obtain ⟨rfl, rfl, rfl⟩ := he
      refine key fun _ W hp₀ β₀ β a w hr hd ws hw => ?_
      obtain ⟨_, e⟩ := hd
      obtain ⟨w', h1, h2, h3⟩ := hr.heap.storeBlk (P := P) (itemAt_some hb) (putL_ok _ _ hc) hw
      exact ⟨_, w', β, e, h1, h2, h3⟩
    · cases h
  · rename_i i ver wd z f
    simp only [Ask.val] at h
    split at h
    · rename_i ver' ty m hi
      split at h
      · rename_i hc
        obtain ⟨rfl, rfl⟩ := hc
        obtain ⟨y', hy', he⟩ := map_some h
        simp at he; obtain ⟨rfl, rfl, rfl⟩ := he
        refine key fun _ W hp₀ β₀ β a w hr hd ws hw => ?_
        obtain ⟨ad, n, c, h1, h2, h3, e⟩ := hd
        obtain ⟨hok, hh⟩ := hr.heap.ownOf (p := fun v => Value.slice (some ad) n c = v) (itemAt_some hi) h1.2
        obtain ⟨_, n', _, e', hn', _⟩ := hok
        rw [← hh] at e'; simp at e'
        obtain ⟨w', β', r1, r2, r3⟩ := hr.heap.storeOwn (P := P) (itemAt_some hi) hh.symm (j := z.toNat) (by omega) hy' hw
        exact ⟨_, w', β', e, r1, r2, r3⟩
      · cases h
    · cases h
  · rename_i i ver w' z' n' wd z f
    simp only [Ask.val] at h
    split at h
    · rename_i ver' ty m hi
      split at h
      · rename_i hc
        obtain ⟨rfl, rfl, rfl⟩ := hc
        obtain ⟨y', hy', he⟩ := map_some h
        simp at he; obtain ⟨rfl, rfl, rfl⟩ := he
        refine key fun _ W hp₀ β₀ β a w hr hd ws hw => ?_
        obtain ⟨ad, n, c, h1, h2, h3, e⟩ := hd
        obtain ⟨hok, hh⟩ := hr.heap.ownOf (p := fun v => SubOf v ty.w z' n' (Value.slice (some ad) n c)) (itemAt_some hi) h1.2
        obtain ⟨a1, m1, c1, a2, c2, e1, z0, n0, hle, e2, _, _, hadr⟩ := hh
        simp at e2; obtain ⟨rfl, rfl, rfl⟩ := e2
        obtain ⟨a3, rfl, e3⟩ := hadr (by omega)
        simp at e3; subst e3
        obtain ⟨_, m2, _, e', hn', _, _, hrest⟩ := hok
        rw [e1] at e'; simp at e'
        obtain ⟨rfl, rfl, rfl⟩ := e'
        have hjlt : z'.toNat + z.toNat < m.length := by
          clear hrest hadr h1
          omega
        obtain ⟨a4, _, _, _, _, _, e4, hsp, _⟩ := hrest (by omega)
        simp at e4; subst e4
        obtain ⟨w', β', r1, r2, r3⟩ := hr.heap.storeOwn (P := P) (itemAt_some hi) e1 (j := z'.toNat + z.toNat) hjlt hy' hw
        refine ⟨_, w', β', e, ?_, r2, r3⟩
        rw [add_add hsp, ← Nat.add_assoc, ← Nat.add_mul]
        exact r1
      · cases h
    · cases h
  · rename_i b o' ty n z' n' wd z f
    simp only [Ask.val] at h
    split at h
    · rename_i cells elem hb
      split at h
      · rename_i ty' n0 m hrow
        split at h
        · rename_i hc
          obtain ⟨rfl, rfl, rfl⟩ := hc
          split at h
          · rename_i y' hy'
            obtain ⟨cells', hc', he⟩ := map_some h
            simp at he; obtain ⟨rfl, rfl, rfl⟩ := he
            refine key fun _ W hp₀ β₀ β a w hr hd ws hw => ?_
            obtain ⟨ad, nn, c, h1, h2, h3, e⟩ := hd
            obtain ⟨_, z0, n0', zn, a', c'', e1, _, _, hadr⟩ := h1
            simp at e1; obtain ⟨rfl, rfl, rfl⟩ := e1
            have e2 := hadr (by omega)
            simp at e2; subst e2
            obtain ⟨cs, fz, g1, g2, g3, _⟩ := hr.heap.blkAt (itemAt_some hb)
            have hml : m.length = n0 := by
              obtain ⟨_, _, _, _, _, hh, _⟩ := rowAt_ok _ _ hrow g3; exact hh
            obtain ⟨pre, mid, post, rfl, e3, _, h6, h7⟩ := setRowAt_ok _ _ hrow hc' g3 (by simpa using hml)
            obtain ⟨pa, u, pb, rfl, e4, h8, h9, h10⟩ := hasL_elem h6 (j := z'.toNat + z.toNat) (by omega)
            obtain ⟨p1, old, p2, rfl, e5, e6, h11⟩ := newElem_ok hy' h8 hw
            have hset : HasL (ty'.has β true) (m.set (z'.toNat + z.toNat) y') (pa ++ ((p1 ++ (ws ++ p2)) ++ pb)) := HasL.of_get (by omega) h11 h9 h10
            obtain ⟨w', r1, r2, r3, r4, r5, r6⟩ := run_storeRow (P := P) (a := ⟨β.b b, o' + ((z'.toNat + z.toNat) * ty'.w + f), none⟩) rfl (elem := elem) (fz := fz) ws 0 (pre ++ pa ++ p1) old (p2 ++ pb ++ post) w
              (by rw [g1]; simp) (by simp [e3, e4, e5] <;> omega) e6 hw.oneCells (fun off q1 q2 => g2.not (by simp at q2 ⊢; omega))
            obtain ⟨s1, s2⟩ := hr.heap.updBlk (itemAt_some hb) (cells' := cells') (w' := w') (by omega) r5 r6 r3 (c := pre ++ ((pa ++ ((p1 ++ (ws ++ p2)) ++ pb)) ++ post)) (fz := fz)
              (by rw [r2]; simp) (by
                have : (pre ++ ((pa ++ ((p1 ++ (ws ++ p2)) ++ pb)) ++ post)).length = (pre ++ ((pa ++ ((p1 ++ (old ++ p2)) ++ pb)) ++ post)).length := by simp [e6]
                rw [this]; exact g2) (h7 _ hset)
            refine ⟨_, w', β, e, ?_, s1, s2⟩
            rw [addr_add, addr_add]
            have : o' + z'.toNat * ty'.w + (z.toNat * ty'.w + f) = o' + ((z'.toNat + z.toNat) * ty'.w + f) := by rw [Nat.add_mul]; omega
            rw [this]; exact r1
          · cases h
        · cases h
      · cases h
    · cases h
  · simp [Ask.val] at h
end
end Go.Ev
end

section
set_option linter.unusedVariables false
set_option linter.unusedSimpArgs false
namespace Go.Ev
open Go
section
variable {P : Program} {st : St} {o : Oper} {q : Option Prop} {v : LV} {d : List (Nat × Item)}
theorem contOf_ty {hp : Hp} {s : SV} {c : Bool × (t : Ty) × List t.D} (h : (contOf s).val hp = some c) : (contTy s).val hp = some c.2.1 := by
  unfold contOf at h
  rw [Ask.val_bind] at h
  split at h
  · rename_i t ht
    rw [Ask.val_map] at h
    obtain ⟨⟨pm', l'⟩, h1, h2⟩ := map_some h
    subst h2; exact ht
  · cases h
theorem idxAddr_ok {t : TypeId} {x i : Operand} {s : SV} (ho : o.op = .indexAddr t x i) (hx : opSc (ev st x) = some s) (h : (idxAddrEv P t s (ev st i)).val st.hp = some (q, v, d)) : OpOk P o st q v d := by
  unfold idxAddrEv at h
  split at h
  · rename_i b off n e harr
    have hu := arrayT_eq harr
    split at h
    · rename_i sz hs
      split at h
      · rename_i k j hi
        simp only [Ask.val] at h
        split at h
        · rename_i hj
          simp at h; obtain ⟨rfl, rfl, rfl⟩ := h
          refine OpOk.pure fun hq W hp₀ β₀ β a w hr => ?_
          have ei := litNat_den hi (ev_den hr i)
          obtain ⟨hb, ex⟩ := opSc_den hx (ev_den hr x)
          refine ⟨.pointer (some ⟨β.b b, off + j * sz, none⟩), ?_, hb, rfl⟩
          have hb : (0 : Int) ≤ j ∧ (j : Int) < n := by omega
          simp [execOp, ho, ex, ei, Instr.indexAt, asIntOf, underlying, hu, Instr.sureAddr, hb, run_sizeOf hs, addr_add]
          omega
        · cases h
      · split at h
        · rename_i k z hi
          simp only [Ask.val] at h
          have hrun : ∀ {W : World} {hp₀ : Hp} {β₀ β : Env} {a : Act} {w : World}, Rel W hp₀ β₀ β st a w → 0 ≤ z ∧ z < (n : Int) → (execOp a.eval o).run P w = .ok (.value (.pointer (some ⟨β.b b, off + z.toNat * sz, none⟩))) w := by
            intro W hp₀ β₀ β a w hr hb
            have ei := anyInt_den hi (ev_den hr i)
            obtain ⟨_, ex⟩ := opSc_den hx (ev_den hr x)
            simp [execOp, ho, ex, ei, Instr.indexAt, asIntOf, underlying, hu, Instr.sureAddr, hb, run_sizeOf hs, addr_add]
          split at h
          · rename_i cells elem hb
            split at h
            · rename_i ty n' l hrow
              split at h
              · rename_i hc
                obtain ⟨rfl, rfl⟩ := hc
                simp at h; obtain ⟨rfl, rfl, rfl⟩ := h
                refine OpOk.pure fun hq W hp₀ β₀ β a w hr => ?_
                have hb : 0 ≤ z ∧ z < (n' : Int) := hq
                obtain ⟨hb2, _⟩ := opSc_den hx (ev_den hr x)
                refine ⟨_, hrun hr hb, ⟨β.b b, off, none⟩, n', n', ⟨hb2, by omega, by omega, by omega, _, _, rfl, Nat.le_refl _, (fun e => by cases e), fun _ => by simp [addr_add]⟩, hb.1, hb.2, by rw [addr_add, Nat.add_zero]⟩
              · cases h
            · simp at h; obtain ⟨rfl, rfl, rfl⟩ := h
              refine OpOk.pure fun hq W hp₀ β₀ β a w hr => ?_
              have hb : 0 ≤ z ∧ z < (n : Int) := hq
              obtain ⟨hb2, _⟩ := opSc_den hx (ev_den hr x)
              exact ⟨_, hrun hr hb, hb2, by omega, rfl⟩
          · cases h
        · simp [Ask.val] at h
    · simp [Ask.val] at h
  · rename_i b off len cap e harr hsl
    have hu := sliceT_eq hsl
    simp only [Ask.val] at h
    split at h
    · rename_i sz hs
      split at h
      · rename_i k j hi
        split at h
        · rename_i hj
          simp at h; obtain ⟨rfl, rfl, rfl⟩ := h
          refine OpOk.pure fun hq W hp₀ β₀ β a w hr => ?_
          have ei := litNat_den hi (ev_den hr i)
          obtain ⟨hb, ex⟩ := opSc_den hx (ev_den hr x)
          refine ⟨.pointer (some ⟨β.b b, off + j * sz, none⟩), ?_, hb, rfl⟩
          have hb : (0 : Int) ≤ j ∧ (j : Int) < len := by omega
          simp [execOp, ho, ex, ei, Instr.indexAt, asIntOf, underlying, hu, Instr.sureAddr, hb, run_sizeOf hs, addr_add]
          omega
        · cases h
      · split at h
        · rename_i k z hi
          simp at h; obtain ⟨rfl, rfl, rfl⟩ := h
          refine OpOk.pure fun hq W hp₀ β₀ β a w hr => ?_
          have hb : 0 ≤ z ∧ z < (len : Int) := hq
          have ei := anyInt_den hi (ev_den hr i)
          obtain ⟨hb2, ex⟩ := opSc_den hx (ev_den hr x)
          refine ⟨.pointer (some ⟨β.b b, off + z.toNat * sz, none⟩), ?_, hb2, by omega, rfl⟩
          simp [execOp, ho, ex, ei, Instr.indexAt, asIntOf, underlying, hu, Instr.sureAddr, hb, run_sizeOf hs, addr_add]
        · cases h
    · cases h
  · rename_i harr hsl
    have hu := sliceT_eq hsl
    rw [Ask.val_map] at h
    split at h
    · rename_i pm ty l sz k z hc hs hi
      split at h
      · rename_i hw; subst hw
        simp at h; obtain ⟨rfl, rfl, rfl⟩ := h
        refine OpOk.pure fun hq W hp₀ β₀ β a w hr => ?_
        have hb : 0 ≤ z ∧ z < (l.length : Int) := hq
        have ei := anyInt_den hi (ev_den hr i)
        have hd := opSc_den hx (ev_den hr x)
        obtain ⟨a', n', c', ex, hn, _, _, hrest⟩ := contOf_ok hr.heap hc hd
        obtain ⟨a0, _, rfl, _⟩ := hrest (by omega)
        refine ⟨.pointer (some (a0.add (z.toNat * ty.w))), ?_, a0, n', c', by rw [← ex]; exact hd, hb.1, by omega, by rw [Nat.add_zero]⟩
        have hb' : 0 ≤ z ∧ z < (n' : Int) := by omega
        simp [execOp, ho, ex, ei, Instr.indexAt, asIntOf, underlying, hu, Instr.sureAddr, hb', run_sizeOf hs]
      · cases h
    · cases h
  · simp [Ask.val] at h
theorem idx_ok {t : TypeId} {x i : Operand} {y : VV} (ho : o.op = .index t x i) (h : idxEv P t (ev st x) (ev st i) = some (q, y)) : OpOk P o st q (.one y) [] := by
  unfold idxEv at h
  split at h
  · rename_i l n e hx harr
    have hu := arrayT_eq harr
    split at h
    · rename_i sz hs
      split at h
      · rename_i k j hi
        split at h
        · rename_i hj
          obtain ⟨y', hy, he⟩ := map_some h
          simp at he; obtain ⟨rfl, rfl⟩ := he
          refine OpOk.pure fun hq W hp₀ β₀ β a w hr => ?_
          have ei := litNat_den hi (ev_den hr i)
          have hd := ev_den hr x; rw [hx] at hd
          obtain ⟨cs, ex, hd⟩ := hd
          obtain ⟨val, h1, h2⟩ := run_part (P := P) (w := w) hd hy
          refine ⟨val, ?_, h2⟩
          have hb : (0 : Int) ≤ j ∧ (j : Int) < n := by omega
          simp [execOp, ho, ex, ei, Instr.index, asIntOf, underlying, hu, hb, run_sizeOf hs, h1]
          omega
        · cases h
      · split at h
        · rename_i k z hi
          split at h
          · rename_i ty n' m
            split at h
            · rename_i hc
              obtain ⟨rfl, rfl⟩ := hc
              obtain ⟨y', hy, he⟩ := map_some h
              simp at he; obtain ⟨rfl, rfl⟩ := he
              refine OpOk.pure fun hq W hp₀ β₀ β a w hr => ?_
              have hb : 0 ≤ z ∧ z < (n' : Int) := hq
              have ei := anyInt_den hi (ev_den hr i)
              have hd := ev_den hr x; rw [hx] at hd
              obtain ⟨cs, ex, hd⟩ := hd
              obtain ⟨h1, h2⟩ := HasL.of_one hd
              obtain ⟨pa, u, pb, rfl, e1, h3, _⟩ := hasL_elem h2 (j := z.toNat) (by omega)
              have hpart : ∃ val, (part e (pa ++ (u ++ pb)).toArray (z.toNat * ty.w)).run P w = .ok val w ∧ y'.den β (kd st.hp) val := by
                obtain ⟨val, h4, h5⟩ := run_part (P := P) (w := w) (ty.svs_ok (L := kd st.hp) h3) hy
                refine ⟨val, ?_, h5⟩
                have hul := ty.has_length h3
                have hu0 : ∀ m, m ≤ u.length → (u.toArray.extract 0 m) = ((pa ++ (u ++ pb)).toArray.extract (z.toNat * ty.w) (z.toNat * ty.w + m)) := by
                  intro m hm
                  apply Array.ext'
                  simp only [Array.toList_extract, List.extract_eq_take_drop, Nat.sub_zero, List.drop_zero, Nat.add_sub_cancel_left]
                  rw [← e1, List.drop_left, List.take_append_of_le_length hm]
                unfold part at h4 ⊢
                unfold partEv at hy
                split at hy
                · rename_i kk ha hn
                  obtain ⟨s, hs', _⟩ := map_some hy
                  obtain ⟨p1, p2, p3, e2, e3, e4, _⟩ := subL_ok hs' (ty.svs_ok (L := kd st.hp) h3)
                  simp only [Sem.run_bind, run_isAgg ha, Result.andThen_ok, if_true, run_sizeOf hn, Nat.zero_add] at h4 ⊢
                  rw [← hu0 kk (by rw [e2]; simp; omega)]
                  exact h4
                · rename_i kk ha hn
                  obtain ⟨s, hs', _⟩ := map_some hy
                  obtain ⟨vv, hvv, _⟩ := elemL_ok _ _ hs' (ty.svs_ok (L := kd st.hp) h3)
                  simp only [Sem.run_bind, run_isAgg ha, Result.andThen_ok] at h4 ⊢
                  have e5 : (pa ++ (u ++ pb)).toArray[z.toNat * ty.w]? = u.toArray[0]? := by
                    have hlt := (List.getElem?_eq_some_iff.1 hvv).1
                    simp only [List.getElem?_toArray]
                    rw [← e1, List.getElem?_append_right (Nat.le_refl _), Nat.sub_self, List.getElem?_append_left hlt]
                  rw [e5]; exact h4
                · cases hy
              obtain ⟨val, h4, h5⟩ := hpart
              refine ⟨val, ?_, h5⟩
              simp [execOp, ho, ex, ei, Instr.index, asIntOf, underlying, hu, hb, run_sizeOf hs, h4]
            · cases h
          · split at h
            · rename_i items hit
              obtain ⟨y', hy, he⟩ := map_some h
              simp at he; obtain ⟨rfl, rfl⟩ := he
              refine OpOk.pure fun hq W hp₀ β₀ β a w hr => ?_
              have hb : 0 ≤ z ∧ z < (n : Int) := hq
              have ei := anyInt_den hi (ev_den hr i)
              have hd := ev_den hr x; rw [hx] at hd
              obtain ⟨cs, ex, hd⟩ := hd
              obtain ⟨it, hi1, hi2⟩ := partsEv_get hit (j := z.toNat) (by omega)
              rw [Nat.zero_add] at hi2
              obtain ⟨val, h1, h2⟩ := run_part (P := P) (w := w) hd hi2
              refine ⟨val, ?_, selV_ok hi1 h2 hy⟩
              simp [execOp, ho, ex, ei, Instr.index, asIntOf, underlying, hu, hb, run_sizeOf hs, h1]
            · cases h
        · cases h
    · cases h
  · rename_i sv hx harr
    split at h
    · rename_i l k z hu hs hi
      simp only [Option.some.injEq, Prod.mk.injEq] at h
      obtain ⟨rfl, rfl⟩ := h
      refine OpOk.pure fun hq W hp₀ β₀ β a w hr => ?_
      obtain ⟨h0, h1, h2, h3⟩ : 0 ≤ z ∧ z < (l.length : Int) ∧ 0 ≤ l.getD z.toNat 0 ∧ l.getD z.toNat 0 < 256 := hq
      have ei := anyInt_den hi (ev_den hr i)
      have hd := ev_den hr x; rw [hx] at hd
      have ex := strOfS_den hs hd
      obtain ⟨j, rfl⟩ := Int.eq_ofNat_of_zero_le h0
      simp only [Int.toNat_natCast] at h2 h3 ⊢
      have hj : j < l.length := by omega
      have hg : l.getD j 0 = l[j] := by rw [List.getD_eq_getElem?_getD, List.getElem?_eq_getElem hj]; rfl
      have hb : (strOf l)[j]? = some (UInt8.ofNat (l.getD j 0).toNat) := by
        have hsz : j < (strOf l).size := by show j < (strOf l).data.size; simp [strOf, hj]
        rw [getElem?_pos (strOf l) j hsz]
        congr 1
        show (strOf l).data[j]'hsz = _
        rw [hg]
        simp [strOf]
      have hval : (((UInt8.ofNat (l.getD j 0).toNat).toNat : Nat) : Int) = l.getD j 0 := by
        rw [UInt8.toNat_ofNat']
        omega
      refine ⟨.int .u8 (l.getD j 0), ?_, rfl⟩
      clear h2 h3 hg hd
      generalize l.getD j 0 = c at *
      generalize UInt8.ofNat c.toNat = b at *
      simp [execOp, ho, ex, ei, Instr.index, asIntOf, underlying, hu, hb, hval]
    · cases h
  · cases h
theorem run_bytesToString {w : World} {β : Env} {pm : Bool} {l : List Int} {v : Value} (h : ReadsAs β pm w v (.int .u8) l) : (Conv.bytesToString v).run P w = .ok (.string (strOf l)) w := by
  obtain ⟨a, n, c, rfl, hn, _, _, hr⟩ := h
  have key : ∀ (l : List Int) (acc : ByteArray), (forIn (l.map (Value.int .u8)) acc (fun c r => (match c with
      | .int .u8 n => Pure.pure (ForInStep.yield (r.push (UInt8.ofNat n.toNat)))
      | _ => do stuck "bytesToString: byte expected"; Pure.pure (ForInStep.yield r) : Sem (ForInStep ByteArray)))).run P w = .ok ⟨acc.data ++ (l.map fun n => UInt8.ofNat n.toNat).toArray⟩ w := by
    intro l
    induction l with
    | nil => intro acc; simp
    | cons x l ih =>
      intro acc
      simp only [List.map_cons, List.forIn_cons, Sem.run_bind, Sem.run_pure, Result.andThen_ok]
      rw [ih]
      simp [ByteArray.push]
  unfold Conv.bytesToString
  cases a with
  | none =>
    rcases Nat.eq_zero_or_pos n with h0 | h0
    · have : l = [] := List.eq_nil_of_length_eq_zero (by omega)
      subst this
      simp; rfl
    · obtain ⟨_, _, e, _⟩ := hr h0; cases e
  | some a =>
    have hload : (loadCells a n).run P w = .ok (l.map (Value.int .u8)).toArray w := by
      rcases Nat.eq_zero_or_pos n with h0 | h0
      · have : l = [] := List.eq_nil_of_length_eq_zero (by omega)
        subst this h0
        rfl
      · obtain ⟨a0, vss, e, _, h2, h3⟩ := hr h0
        simp at e; subst e
        have := ints_has h2
        subst this
        have h4 := run_loadRow (P := P) h3
        rw [List.length_map, ← hn] at h4
        exact h4
    simp only [Sem.run_bind, hload, Result.andThen_ok]
    have := key l ByteArray.empty
    rw [List.forIn_toArray]
    have e := congrArg (fun r => Result.andThen r (fun a w' => Sem.run P (Pure.pure (Value.string a)) w')) this
    refine Eq.trans e ?_
    simp [strOf]
end
end Go.Ev
end

section
set_option linter.unusedVariables false
set_option linter.unusedSimpArgs false
namespace Go.Ev
open Go
theorem add_add' (a : Addr) (i j : Nat) : (a.add i).add j = a.add (i + j) := by
  obtain ⟨b, o, s⟩ := a
  by_cases hi : i = 0
  · subst hi
    have : (⟨b, o, s⟩ : Addr).add 0 = ⟨b, o, s⟩ := if_pos rfl
    rw [this, Nat.zero_add]
  · have : (⟨b, o, s⟩ : Addr).add i = ⟨b, o + i, none⟩ := if_neg hi
    rw [this, addr_add]
    unfold Addr.add
    rw [if_neg (by omega), Nat.add_assoc]
theorem wrap_small {n : Int} (h0 : 0 ≤ n) (h1 : n ≤ 9223372036854775807) : IntKind.i64.wrap n = n := by rw [IntKind.wrap_i64]; omega
theorem run_markStringish {P : Program} {w : World} {a : Addr} {cs : List Value} {elem : TypeId} {fz : Nat × Nat} (h : w.heap[a.block]? = some (.cells cs.toArray elem fz)) (hf : FzOk fz cs.length) :
    ∃ w' fz', (markStringish a).run P w = .ok () w' ∧ w'.heap[a.block]? = some (.cells cs.toArray elem fz') ∧ FzOk fz' cs.length ∧ (∀ b, b ≠ a.block → w'.heap[b]? = w.heap[b]?) ∧ w'.heap.size = w.heap.size ∧ w'.os = w.os ∧ w'.output = w.output := by
  have hsh : w.shape? a.block = some (elem, cs.length) := by simp [World.shape?, h]
  refine ⟨w.freeze ⟨a.block, cs.length, none⟩ 1, if fz.1 == fz.2 then (cs.length, cs.length + 1) else (min fz.1 cs.length, max fz.2 (cs.length + 1)), ?_, ?_, ?_, ?_, ?_, ?_, ?_⟩
  · simp [markStringish, hsh]
  · obtain ⟨lo, hi⟩ := fz
    simp only [World.freeze, Nat.one_ne_zero, if_false, Array.getElem?_modify, if_true, h]
    rfl
  · unfold FzOk at hf ⊢
    split
    · exact .inr (Nat.le_refl _)
    · rename_i hne
      have : fz.1 ≠ fz.2 := by simpa using hne
      right; simp only; omega
  · intro b hb
    simp only [World.freeze, Nat.one_ne_zero, if_false, Array.getElem?_modify]
    rw [if_neg (fun e => hb e.symm)]
  · simp [World.freeze]
  · simp [World.freeze]
  · simp [World.freeze]
theorem rep_flat {z : List Value} {s : Nat} (hz : z.length = s) (d : Value) : ∀ n : Nat, (List.range (n * s)).map (fun i => z.getD (i % s) d) = (List.replicate n z).flatten
  | 0 => by simp
  | n + 1 => by
    rw [Nat.succ_mul, List.range_add, List.map_append, rep_flat hz d n, List.replicate_succ', List.flatten_append]
    congr 1
    rw [List.map_map]
    simp only [List.flatten_cons, List.flatten_nil, List.append_nil]
    apply List.ext_getElem
    · simp [hz]
    · intro i h1 h2
      have hi : i < s := by simpa using h1
      simp [List.getD, Nat.add_mod, Nat.mod_eq_of_lt hi, hz, hi]
theorem denL_rep {β : Env} {L : Nat → Option Kd} {z : List SV} {zc : List Value} (h : DenL β L z zc) : ∀ n : Nat, DenL β L ((List.replicate n z).flatten) ((List.replicate n zc).flatten)
  | 0 => .nil
  | n + 1 => by simp only [List.replicate_succ, List.flatten_cons]; exact h.append (denL_rep h n)
theorem hasL_rep {α : Type} {R : α → List Value → Prop} {x : α} {zc : List Value} (h : R x zc) : ∀ n : Nat, HasL R (List.replicate n x) ((List.replicate n zc).flatten)
  | 0 => .nil
  | n + 1 => by simp only [List.replicate_succ, List.flatten_cons]; exact .cons h (hasL_rep h n)
theorem arr_range_map {z : Value} {s : Nat} (n : Nat) (hz : z.cells.size = s) : (Array.range (n * s)).map (fun i => z.cells[i % z.cells.size]!) = ((List.replicate n z.cells.toList).flatten).toArray := by
  apply Array.ext'
  rw [← rep_flat (z := z.cells.toList) (s := s) (by simpa using hz) default n, hz]
  simp only [Array.toList_map, Array.toList_range]
  apply List.map_congr_left
  intro i _
  simp [Array.getElem!_eq_getD, Array.getD_eq_getD_getElem?, List.getD]
section
variable {P : Program} {st : St} {o : Oper} {q : Option Prop} {v : LV} {d : List (Nat × Item)}
/-- an own slice in a new block -/
theorem ownOk_new {β : Env} {w : World} {b : Nat} {t : Ty} {l : List t.D} {vss rest : List Value} {elem : TypeId} {fz : Nat × Nat} {c : Nat} (hw : w.heap[b]? = some (.cells (vss ++ rest).toArray elem fz)) (hl : HasL (t.has β true) l vss)
    (hc : l.length ≤ c) (hr : (c - l.length) * t.w ≤ rest.length) (hf : FzOk fz (vss ++ rest).length) : OwnOk β w (.slice (some ⟨b, 0, none⟩) l.length c) t l :=
  ⟨_, _, _, rfl, rfl, hc, by simp, fun _ => ⟨_, [], vss, rest, elem, fz, rfl, rfl, by simpa using hw, rfl, hl, hr, by simpa using hf⟩⟩
theorem conv_ok {id : Nat} {src dst : TypeId} {x : Operand} {s : SV} (ho : o.op = .convert src dst x) (hx : opSc (ev st x) = some s) (h : (convEv P id src dst s).val st.hp = some (q, v, d)) (hid : (∃ x, (id, x) ∈ d) → kd st.hp id = none) : OpOk P o st q v d := by
  unfold convEv at h
  split at h
  · rename_i d' k hs hdst
    simp only [Ask.val] at h
    split at h
    · rename_i k' n
      simp at h; obtain ⟨rfl, rfl, rfl⟩ := h
      refine OpOk.pure fun _ W hp₀ β₀ β a w hr => ?_
      have e : a.eval x = .int k' n.val := opSc_den hx (ev_den hr x)
      refine ⟨.int k (k.wrap n.val), by simp [execOp, ho, e, convert, run_underlying hs, run_underlying hdst, Conv.intToInt], ?_⟩
      show Value.int k (k.wrap n.val) = .int k (wrapI k n).val
      rw [wrapI_val]
    · cases h
  · rename_i e hs hdst
    split at h
    · rename_i he
      rw [Ask.val_map] at h
      obtain ⟨⟨pm, l⟩, hc, he2⟩ := map_some h
      simp at he2; obtain ⟨rfl, rfl, rfl⟩ := he2
      refine OpOk.pure fun _ W hp₀ β₀ β a w hr => ?_
      have hread := contAs_ok hr.heap hc (opSc_den hx (ev_den hr x))
      have hrun := run_bytesToString (P := P) hread
      obtain ⟨aa, n, c, e1, _⟩ := hread
      refine ⟨_, ?_, rfl⟩
      rw [e1] at hrun
      simp [execOp, ho, e1, convert, run_underlying hs, run_underlying hdst, run_underlying he, hrun]
    · simp [Ask.val] at h
  · rename_i hs hdst
    simp only [Ask.val] at h
    split at h
    · rename_i l hl
      simp at h; obtain ⟨rfl, rfl, rfl⟩ := h
      refine OpOk.pure fun _ W hp₀ β₀ β a w hr => ?_
      have e := strOfS_den hl (opSc_den hx (ev_den hr x))
      exact ⟨.string (strOf l), by simp [execOp, ho, e, convert, run_underlying hs, run_underlying hdst], rfl⟩
    · cases h
  · rename_i e hs hdst
    simp only [Ask.val] at h
    split at h
    · rename_i l he hl
      split at h
      · rename_i hsz
        cases h
        have hid := hid ⟨_, by simp; rfl⟩
        intro _ W hp₀ β₀ β a w hr
        have ex := strOfS_den hl (opSc_den hx (ev_den hr x))
        let s := strOf l
        have hlen : s.size = l.length := strOf_size l
        let cap := (Question.appendCap s.size 0 e).cut (w.tape w.drawn (.appendCap s.size 0 e))
        have hcap : s.size ≤ cap := by simp [cap, Question.cut]
        let vss : List Value := (l.map fun n => ((UInt8.ofNat n.toNat).toNat : Int)).map (.int .u8)
        let rest : List Value := List.replicate (cap - s.size) (.int .u8 0)
        let w1 := w.drew.alloc (.cells (vss ++ rest).toArray e)
        have hw1 : w1.heap[w.heap.size]? = some (.cells (vss ++ rest).toArray e (0, 0)) := heap_alloc_new w.drew _
        obtain ⟨w2, fz', r1, r2, r3, r4, r5, r6, r7⟩ := run_markStringish (P := P) (a := ⟨w.heap.size, 0, none⟩) hw1 (.inl rfl)
        have hhas : HasL ((Ty.int .u8).has β true) (l.map fun n => ((UInt8.ofNat n.toNat).toNat : Int)) vss := by
          show HasL _ _ (List.map _ (List.map _ l))
          generalize (l.map fun n => ((UInt8.ofNat n.toNat).toNat : Int)) = m
          induction m with
          | nil => exact .nil
          | cons x m ih => exact HasL.cons (vs := [_]) rfl ih
        have hown := ownOk_new (c := cap) r2 hhas (by simp; omega) (by simp [rest, Ty.w]; omega) r3
        have hll : (l.map fun n => ((UInt8.ofNat n.toNat).toNat : Int)).length = s.size := by simp [hlen]
        rw [hll] at hown
        obtain ⟨β', h1, h2, h3⟩ := hr.heap.newOwn hid (ver := 0) (w' := w2) (by rw [r5]; show w.heap.size ≤ (w.drew.alloc _).heap.size; rw [World.size_alloc]; exact Nat.le_succ _) (by rw [r6]; rfl) (by rw [r7]; rfl) (fun b hb => by
          rw [r4 b (by show b ≠ w.heap.size; omega)]
          exact heap_alloc_old w.drew _ b hb) hown (fun a n c e _ => by simp at e; obtain ⟨rfl, _⟩ := e; exact Nat.le_refl _)
        refine ⟨β', w2, _, .slice (some ⟨w.heap.size, 0, none⟩) s.size cap, ?_, .inl rfl, ?_, h1, h2⟩
        · have hel : (strOf l).data.map (fun b => Value.int .u8 b.toNat) = vss.toArray := by
            apply Array.ext'
            simp [strOf, vss, List.map_map, Function.comp_def]
          have hel2 : (strOf l).data.map (fun b => Value.int .u8 b.toNat) ++ Array.replicate (cap - s.size) (Value.int .u8 0) = (vss ++ rest).toArray := by
            rw [hel]; apply Array.ext'; simp [rest]
          have hq : (Question.appendCap s.size 0 e).forced = false := rfl
          simp only [execOp, ho, ex, convert, Sem.run_bind, run_underlying hs, run_underlying hdst, run_underlying he, Result.andThen_ok, Conv.stringToBytes, run_choose_drew, hq, Bool.false_eq_true, if_false, newRow, run_newObj, Sem.run_pure]
          show ((Sem.run P (markStringish ⟨w.drew.heap.size, 0, none⟩) (w.drew.alloc (.cells ((strOf l).data.map (fun b => Value.int .u8 b.toNat) ++ Array.replicate (cap - s.size) (Value.int .u8 0)) e))).andThen _).andThen _ = _
          rw [hel2]
          show ((Sem.run P (markStringish ⟨w.heap.size, 0, none⟩) w1).andThen _).andThen _ = _
          rw [r1]; rfl
        · refine ⟨rfl, 0, ?_, Nat.le_refl _, fun _ => h3.symm⟩
          show kd (setAt st.hp id _) id = _
          rw [kd_setAt, if_pos rfl]; rfl
      · cases h
    · cases h
  · rename_i e' e hs hdst
    split at h
    · rename_i i ver
      split at h
      · rename_i hsd
        split at h
        · rename_i he
          simp only [Ask.val] at h
          split at h
          · rename_i ver' l hi
            split at h
            · rename_i hc
              obtain ⟨rfl, hne⟩ := hc
              simp at h; obtain ⟨rfl, rfl, rfl⟩ := h
              intro _ W hp₀ β₀ β a w hr
              have hd := opSc_den hx (ev_den hr x)
              obtain ⟨hok, hh⟩ := hr.heap.ownOf (p := fun v => a.eval x = v) (itemAt_some hi) hd.2
              have hok' := hok
              obtain ⟨a0, n, c, e1, hn, hnc, ha, hrest⟩ := hok
              have hc0 : 0 < c := by
                have : 0 < l.length := List.length_pos_iff.2 hne
                omega
              obtain ⟨a1, pre, vss, rest, elem, fz, rfl, k1, k2, k3, k4, k5, k6⟩ := hrest hc0
              obtain ⟨w', fz', r1, r2, r3, r4, r5, r6, r7⟩ := run_markStringish (P := P) k2 k6
              obtain ⟨β', h1, h2, h3⟩ := hr.heap.updOwn (itemAt_some hi) (ver' := ver) (l' := l) (v := β.h i) (w' := w') (.inr ⟨rfl, rfl⟩) (by omega) r6 r7 (fun b hb hno => r4 b fun e => hno (by subst e; exact ⟨a1, n, c, e1, hc0, rfl⟩))
                (by rw [e1]; exact ⟨_, n, c, rfl, hn, hnc, by simp, fun _ => ⟨a1, pre, vss, rest, elem, fz', rfl, k1, r2, k3, k4, k5, r3⟩⟩) (fun a n c e h0 => .inl ⟨a, n, c, e, h0, rfl⟩)
              refine ⟨β', w', _, a.eval x, ?_, .inl rfl, SV.den_mono h2 hd, h1, h2⟩
              rw [hh, e1]
              subst hsd
              have hee : e' = e := by rw [hs] at hdst; simpa using hdst
              subst hee
              have : a.eval x = .slice (some a1) n c := by rw [hh, e1]
              simp [execOp, ho, this, convert, run_underlying hs, run_underlying he, r1]
            · cases h
          · cases h
        · simp [Ask.val] at h
      · simp [Ask.val] at h
    · simp [Ask.val] at h
  · simp [Ask.val] at h
end
end Go.Ev
end

section
set_option linter.unusedVariables false
set_option linter.unusedSimpArgs false
namespace Go.Ev
open Go
section
variable {P : Program} {st : St} {o : Oper} {q : Option Prop} {v : LV} {d : List (Nat × Item)}
theorem litS {lo hi mx : Option Operand} {W : World} {hp₀ : Hp} {β₀ β : Env} {a : Act} {w : World} (hr : Rel W hp₀ β₀ β st a w) {isS : Bool} {n c : Nat} {r : Nat × Nat × Nat} (h : slicePart n c (lo.map (ev st)) (hi.map (ev st)) (mx.map (ev st)) = some r) :
    (Instr.sliceBounds isS n c (lo.map a.eval) (hi.map a.eval) (mx.map a.eval)).run P w = .ok r w :=
  run_slicePart (P := P) (w := w) (β := β) (L := kd st.hp) (lov := lo.map a.eval) (hiv := hi.map a.eval) (mxv := mx.map a.eval) h
    (fun y hy => by obtain ⟨z, hz, rfl⟩ := map_some hy; exact ⟨a.eval z, by simp [hz], ev_den hr z⟩) (by cases lo <;> simp)
    (fun y hy => by obtain ⟨z, hz, rfl⟩ := map_some hy; exact ⟨a.eval z, by simp [hz], ev_den hr z⟩) (by cases hi <;> simp) (by cases mx <;> simp)
theorem sliceArr_ok {t el : TypeId} {x : Operand} {lo hi mx : Option Operand} {b off n : Nat} (ho : o.op = .slice t x lo hi mx) (hx : opSc (ev st x) = some (.ptr b off)) (harr : arrayT P t = some (n, el))
    (h : ((opEv P 0 (ev st) (.slice t x lo hi mx)).val st.hp) = some (q, v, d)) : OpOk P o st q v d := by
  have hu := arrayT_eq harr
  simp only [opEv, hx, harr, Ask.val] at h
  split at h
  · rename_i cells elem sz hb hs
    split at h
    · rename_i ty n' l hrow
      split at h
      · rename_i x' y' hlo hhi
        split at h
        · rename_i hc
          obtain ⟨rfl, rfl⟩ := hc
          cases h
          refine OpOk.pure fun hq W hp₀ β₀ β a w hr => ?_
          obtain ⟨q1, q2, q3⟩ : 0 ≤ x' ∧ x' ≤ y' ∧ y' ≤ (n' : Int) := hq
          obtain ⟨hb2, ex⟩ := opSc_den hx (ev_den hr x)
          have hsb := run_sliceSym (P := P) hr (isS := false) hlo hhi q1 q2 q3 (Nat.le_refl _)
          refine ⟨.slice (some (if n' = x'.toNat then ⟨β.b b, off, none⟩ else (⟨β.b b, off, none⟩ : Addr).add (x'.toNat * ty.w))) (y'.toNat - x'.toNat) (n' - x'.toNat), ?_, hb2, q1, by omega, by omega, some (if n' = x'.toNat then ⟨β.b b, off, none⟩ else (⟨β.b b, off, none⟩ : Addr).add (x'.toNat * ty.w)), n' - x'.toNat, ?_, ?_, (fun e => by cases e), fun h0 => ?_⟩
          · simp only [execOp, ho, ex, Instr.sliceAt, underlying, Sem.run_bind, run_program, Result.andThen_ok, hu, Instr.sureAddr, Sem.run_pure, hsb, run_sizeOf hs, Option.map_none]
          · rw [show (y' - x').toNat = y'.toNat - x'.toNat from by omega]
          · omega
          · rw [if_neg (by omega)]
        · cases h
      · cases h
    · obtain ⟨r, hsp, he⟩ := map_some h
      cases he
      refine OpOk.pure fun _ W hp₀ β₀ β a w hr => ?_
      obtain ⟨hb2, ex⟩ := opSc_den hx (ev_den hr x)
      have hsb := litS (P := P) hr (isS := false) hsp
      refine ⟨.slice (some ⟨β.b b, if r.2.2 = r.1 then off else off + r.1 * sz, none⟩) (r.2.1 - r.1) (r.2.2 - r.1), ?_, hb2, rfl⟩
      simp only [execOp, ho, ex, Instr.sliceAt, underlying, Sem.run_bind, run_program, Result.andThen_ok, hu, Instr.sureAddr, Sem.run_pure, hsb, run_sizeOf hs]
      split <;> simp [addr_add]
  · cases h
theorem sub_nil {a : Option Addr} {c k : Nat} {f : Addr → Addr} (h : a = none → c = 0) : (if c = k then a else a.map f) = none → c - k = 0 := by
  intro e
  split at e
  · have := h e; omega
  · cases a with
    | none => have := h rfl; omega
    | some a => cases e
theorem HRel.addSub {W : World} {hp₀ : Hp} {β₀ β : Env} {hp : Hp} {w : World} (h : HRel W hp₀ β₀ β hp w) {pm : Bool} {u u' : Value} {t : Ty} {l l' : List t.D} (hr : β.rd pm u t l) (hread : ReadsAs β pm w u' t l') (hblk : ∀ b, inBlock u' b → inBlock u b) :
    ∃ β', HRel W hp₀ β₀ β' hp w ∧ Agree β β' (kd hp) (kd hp) ∧ β'.rd pm u' t l' := by
  obtain ⟨h1, h2, h3⟩ := h.addRd hread fun b hb => ⟨((h.reads _ _ _ _ hr).2 b (hblk b hb)).1, ((h.reads _ _ _ _ hr).2 b (hblk b hb)).2, h.from_ pm u t l b hr (hblk b hb)⟩
  exact ⟨_, h1, h2, h3⟩
theorem subS_ok {W : World} {hp₀ : Hp} {β₀ β : Env} {hp : Hp} {w : World} (h : HRel W hp₀ β₀ β hp w) {s r : SV} {pm : Bool} {t : Ty} {l : List t.D} {x y : Int} (hc : (contOf s).val hp = some (pm, ⟨t, l⟩)) (hs : subS t.w x y s = some r)
    {a : Option Addr} {n c : Nat} (hd : s.den β (kd hp) (.slice a n c)) (q1 : 0 ≤ x) (q2 : x ≤ y) (q3 : y ≤ l.length) :
    ∃ β', HRel W hp₀ β₀ β' hp w ∧ Agree β β' (kd hp) (kd hp) ∧ r.den β' (kd hp) (.slice (if c = x.toNat then a else a.map (·.add (x.toNat * t.w))) (y.toNat - x.toNat) (c - x.toNat)) := by
  have hread := contOf_ok h hc hd
  obtain ⟨a', n', c', e, hn, hnc, hz, hrest⟩ := hread
  simp at e; obtain ⟨rfl, rfl, rfl⟩ := e
  have hyx : (y - x).toNat = y.toNat - x.toNat := by omega
  unfold subS at hs
  split at hs
  · rename_i pm' nn t' l'
    simp at hs; subst hs
    have hc' : pm = pm' ∧ (⟨t, l⟩ : (t : Ty) × List t.D) = ⟨t', l'⟩ := by
      unfold contOf at hc
      rw [Ask.val_bind] at hc
      simp [contTy, Ask.val, Ask.val_map, contAs] at hc
      obtain ⟨h1, rfl, h2⟩ := hc
      exact ⟨h1.symm, by simpa using h2.symm⟩
    obtain ⟨rfl, e⟩ := hc'
    cases e
    have hsub : SubOf (.slice a n c) t.w x (y - x) (.slice (if c = x.toNat then a else a.map (·.add (x.toNat * t.w))) (y.toNat - x.toNat) (c - x.toNat)) := by
      refine ⟨_, _, _, _, _, rfl, q1, by omega, by omega, by rw [hyx], by omega, sub_nil hz, fun h0 => ?_⟩
      obtain ⟨a0, _, rfl, _⟩ := hrest (by omega)
      exact ⟨a0, rfl, by rw [if_neg (by omega)]; rfl⟩
    have hreads : ReadsAs β pm w (.slice a n c) t l := ⟨_, _, _, rfl, hn, hnc, hz, hrest⟩
    obtain ⟨_, _, hrd⟩ := hd
    have hblk : ∀ b, inBlock (Value.slice (if c = x.toNat then a else a.map (·.add (x.toNat * t.w))) (y.toNat - x.toNat) (c - x.toNat)) b → inBlock (Value.slice a n c) b := by
      intro b hb
      cases a with
      | none => split at hb <;> exact hb.elim
      | some a =>
        split at hb
        · obtain ⟨h1, h2⟩ := hb; exact ⟨by omega, h2⟩
        · obtain ⟨h1, h2⟩ := hb; exact ⟨by omega, by rw [← h2, add_block]⟩
    rcases hrd with hrd | ⟨rfl, hrd⟩ | ⟨e, rfl⟩
    · obtain ⟨β', k1, k2, k3⟩ := h.addSub hrd ((h.reads _ _ _ _ hrd).1.sub hsub) hblk
      exact ⟨β', k1, k2, rfl, fun e => (by cases e), .inl k3⟩
    · obtain ⟨β', k1, k2, k3⟩ := h.addSub hrd ((h.reads _ _ _ _ hrd).1.sub hsub) hblk
      exact ⟨β', k1, k2, rfl, fun e => (by cases e), .inr (.inl ⟨rfl, k3⟩)⟩
    · simp at e; obtain ⟨rfl, rfl, rfl⟩ := e
      refine ⟨β, h, Agree.refl _ _, rfl, fun e => (by cases e), .inr (.inr ⟨?_, by simp⟩)⟩
      have hx0 : x.toNat = 0 := by simp at q3; omega
      have hy0 : y.toNat = 0 := by simp at q3; omega
      rw [hx0, hy0]; rfl
  · rename_i i ver
    simp at hs; subst hs
    obtain ⟨k1, cc, k2, k3, k4⟩ := hd
    refine ⟨β, h, Agree.refl _ _, rfl, cc, k2, k3, fun e => ⟨a, n, c, _, _, (k4 e).symm, q1, by omega, by omega, by rw [hyx], by omega, sub_nil hz, fun h0 => ?_⟩⟩
    obtain ⟨a0, _, rfl, _⟩ := hrest (by omega)
    exact ⟨a0, rfl, by rw [if_neg (by omega)]; rfl⟩
  · rename_i i ver w' z m
    simp at hs; subst hs
    have hw : w' = t.w := by
      unfold contOf at hc
      rw [Ask.val_bind] at hc
      split at hc
      · rename_i t0 _
        rw [Ask.val_map] at hc
        obtain ⟨⟨pm', l'⟩, h1, h2⟩ := map_some hc
        simp at h2; obtain ⟨_, rfl, _⟩ := h2
        simp only [contAs, Ask.val] at h1
        split at h1
        · split at h1
          · split at h1
            · rename_i hh; exact hh.2
            · cases h1
          · cases h1
        · cases h1
      · cases hc
    subst hw
    obtain ⟨k1, cc, k2, k3, k4⟩ := hd
    refine ⟨β, h, Agree.refl _ _, rfl, cc, k2, k3, fun e => ?_⟩
    obtain ⟨a1, m1, c1, a2, c2, e1, z0, m0, hle, e2, hc2, hz2, hadr⟩ := k4 e
    simp at e2; obtain ⟨rfl, e3, rfl⟩ := e2
    refine ⟨a1, m1, c1, _, _, e1, by omega, by omega, by omega, by rw [hyx], by omega, sub_nil hz2, fun h0 => ?_⟩
    obtain ⟨a0, rfl, rfl⟩ := hadr (by omega)
    refine ⟨a0, rfl, ?_⟩
    rw [if_neg (by omega), Option.map_some, add_add', ← Nat.add_mul, show (z + x).toNat = z.toNat + x.toNat from by omega]
  · rename_i b o' t' m z k
    simp at hs; subst hs
    have ht : t' = t := by have := contOf_ty hc; simp [contTy, Ask.val] at this; exact this
    subst ht
    obtain ⟨k1, z0, m0, zm, a2, c2, e2, hc2, hz2, hadr⟩ := hd
    simp at e2; obtain ⟨rfl, e3, rfl⟩ := e2
    refine ⟨β, h, Agree.refl _ _, k1, by omega, by omega, by omega, _, _, by rw [hyx], by omega, sub_nil hz2, fun h0 => ?_⟩
    have := hadr (by omega)
    subst this
    rw [if_neg (by omega), Option.map_some, add_add', ← Nat.add_mul, show (z + x).toNat = z.toNat + x.toNat from by omega]
  · cases hs
end
end Go.Ev
end
