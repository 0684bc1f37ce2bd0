/- The reader of code: functions of plain values, known by what they give; calls that are read in place; loops by what holds at each round. -/
import Derived.Test.YtndiiabkoeblgaaEve
namespace Go.Ev
open Go

/-! ### Values of a kind -/
/-- a kind of values: how a description is read as one, and a description of each -/
structure Codec (α : Type) where
  rd : VV → Option α
  wr : α → VV
  ok : ∀ {x : VV} {a : α}, rd x = some a → ∀ {β : Nat → Nat} {L : Nat → Prop} {v : Value}, x.den β L v → (wr a).den β L v
  pl : ∀ {x : VV} {a : α}, rd x = some a → x.plain = true
  plain : ∀ a, (wr a).plain = true

def cInt (k : IntKind) : Codec Int where
  rd x := match x with
    | .sc (.int k' n) => if k' = k then some n.val else none
    | _ => none
  wr a := .sc (.int k (.sym a))
  ok := by
    intro x a h β L v hd
    split at h
    · split at h
      · rename_i hk; subst hk; simp at h; subst h; exact hd
      · simp at h
    · simp at h
  pl := by
    intro x a h
    split at h
    · rfl
    · simp at h
  plain _ := rfl

def cBool : Codec Bool where
  rd x := match x with
    | .sc (.bool b) => some b.val
    | _ => none
  wr a := .sc (.bool (.sym a))
  ok := by
    intro x a h β L v hd
    split at h
    · simp at h; subst h; exact hd
    · simp at h
  pl := by
    intro x a h
    split at h
    · rfl
    · simp at h
  plain _ := rfl

/-- the numbers of cells that are all of one kind -/
def rdInts (k : IntKind) : List SV → Option (List Int)
  | [] => some []
  | .int k' n :: l => if k' = k then (rdInts k l).map (n.val :: ·) else none
  | _ :: _ => none
def mkInts (k : IntKind) (l : List Int) : List SV := l.map fun n => .int k (.sym n)

theorem rdInts_ok {k : IntKind} {β : Nat → Nat} {L : Nat → Prop} : ∀ {l : List SV} {m : List Int} {cs : List Value}, rdInts k l = some m → All2 (SV.den β L) l cs → All2 (SV.den β L) (mkInts k m) cs
  | [], m, cs, h, hd => by simp [rdInts] at h; subst h; cases hd; exact .nil
  | .int k' n :: l, m, cs, h, hd => by
    simp only [rdInts] at h
    split at h
    · rename_i hk; subst hk
      obtain ⟨m', h1, rfl⟩ := map_some h
      cases hd with
      | cons h2 h3 => exact .cons h2 (rdInts_ok h1 h3)
    · simp at h
  | .bool _ :: _, _, _, h, _ => by simp [rdInts] at h
  | .ptr _ _ :: _, _, _, h, _ => by simp [rdInts] at h
  | .slice _ _ _ _ :: _, _, _, h, _ => by simp [rdInts] at h
  | .con _ :: _, _, _, h, _ => by simp [rdInts] at h
  | .junk :: _, _, _, h, _ => by simp [rdInts] at h

theorem rdInts_length {k : IntKind} : ∀ {l : List SV} {m : List Int}, rdInts k l = some m → m.length = l.length
  | [], m, h => by simp [rdInts] at h; subst h; rfl
  | .int k' n :: l, m, h => by
    simp only [rdInts] at h
    split at h
    · obtain ⟨m', h1, rfl⟩ := map_some h
      simp [rdInts_length h1]
    · simp at h
  | .bool _ :: _, _, h => by simp [rdInts] at h
  | .ptr _ _ :: _, _, h => by simp [rdInts] at h
  | .slice _ _ _ _ :: _, _, h => by simp [rdInts] at h
  | .con _ :: _, _, h => by simp [rdInts] at h
  | .junk :: _, _, h => by simp [rdInts] at h

theorem range_getD {l : List Int} {n : Nat} (h : l.length = n) : (List.range n).map (fun i => l.getD i 0) = l := by
  subst h
  apply List.ext_getElem
  · simp
  · intro i h1 h2
    simp at h1 ⊢
    simp [h1]

theorem rdInts_plain {k : IntKind} : ∀ {l : List SV} {m : List Int}, rdInts k l = some m → l.all SV.plain = true
  | [], m, h => rfl
  | .int k' n :: l, m, h => by
    simp only [rdInts] at h
    split at h
    · obtain ⟨m', h1, rfl⟩ := map_some h
      simp [rdInts_plain h1, SV.plain]
    · simp at h
  | .bool _ :: _, _, h => by simp [rdInts] at h
  | .ptr _ _ :: _, _, h => by simp [rdInts] at h
  | .slice _ _ _ _ :: _, _, h => by simp [rdInts] at h
  | .con _ :: _, _, h => by simp [rdInts] at h
  | .junk :: _, _, h => by simp [rdInts] at h
theorem mkInts_plain (k : IntKind) (l : List Int) : (mkInts k l).all SV.plain = true := by
  simp only [mkInts, List.all_map, List.all_eq_true]
  intro x _; rfl

/-- an array of n numbers of a kind -/
def cArr (k : IntKind) (n : Nat) : Codec (List Int) where
  rd x := match x with
    | .agg l => match rdInts k l with
      | some m => if l.length = n then some m else none
      | none => none
    | _ => none
  wr a := .agg (mkInts k ((List.range n).map fun i => a.getD i 0))
  ok := by
    intro x a h β L v hd
    split at h
    · rename_i l
      split at h
      · rename_i m hm
        split at h
        · rename_i hn
          simp at h; subst h
          obtain ⟨cs, rfl, hc⟩ := hd
          refine ⟨cs, rfl, ?_⟩
          rw [range_getD (by rw [rdInts_length hm, hn])]
          exact rdInts_ok hm hc
        · simp at h
      · simp at h
    · simp at h
  pl := by
    intro x a h
    split at h
    · rename_i l
      split at h
      · rename_i m hm; exact rdInts_plain hm
      · simp at h
    · simp at h
  plain a := mkInts_plain _ _

/-! ### Functions of plain values -/
/-- what a function of plain values gives, and what it asks -/
abbrev PureFn := List LV → Option (Option Prop × LV)

/-- answered at once -/
def AtOnce (P : Program) (f : FuncId) (args : List LV) (v : LV) : Prop :=
  ∀ (vals : List Value) (w : World), (∀ (β : Nat → Nat) (L : Nat → Prop), All2 (LV.den β L) args vals) →
    ∃ val, (callFunc f vals.toArray).run P w = .ok (.value val) w ∧ ∀ (β : Nat → Nat) (L : Nat → Prop), v.den β L val
def EntryOk (P : Program) (f : FuncId) (g : PureFn) : Prop :=
  (Enters P f ∧ ∀ args q v, g args = some (q, v) → needs q → CallsEv P f args [] fun r _ => r = v ∧ r.plain = true) ∨
  (∀ args q v, g args = some (q, v) → needs q → AtOnce P f args v)

theorem plain_of_callsEv {P : Program} {f : FuncId} {args : List LV} {v : LV} (h : CallsEv P f args [] fun r _ => r = v ∧ r.plain = true) (W : World) (m : Nat → Prop) (β₀ β : Nat → Nat) (hp : Hp) (w : World) (vals : List Value)
    (hh : HRel W m β₀ β hp w) (hv : ∀ (β' : Nat → Nat) (L : Nat → Prop), All2 (LV.den β' L) args vals) :
    Calls P f vals.toArray w fun e w' => ∃ val β', e = .returned val ∧ v.den β' (Live hp) val ∧ HRel W m β₀ β' hp w' ∧ Agree β β' (Live hp) (Live hp) := by
  have h0 : HRel w (Live []) β β [] w := ⟨fun i blk h => by simp at h, fun i j ⟨_, h⟩ => by simp at h, fun i ⟨_, h⟩ => by simp at h, fun i _ ⟨_, h⟩ => by simp at h, rfl, rfl, Nat.le_refl _, fun _ _ _ => rfl⟩
  refine (h w (Live []) β β w vals h0 (hv _ _)).mono ?_
  rintro e w' ⟨val, β', r, hp', rfl, ⟨rfl, h2⟩, h3, h4, _⟩
  have hkeep : ∀ b, b < w.heap.size → w'.heap[b]? = w.heap[b]? := fun b hb => h4.keep b hb fun i ⟨_, hi⟩ => by simp at hi
  refine ⟨val, β, rfl, LV.den_plain h2 h3, ?_, Agree.refl _ _⟩
  refine hh.trans ⟨fun i blk hi => ?_, hh.inj, fun _ hi => ⟨rfl, hi⟩, fun i h1 h2 => absurd h2 h1, h4.os, h4.output, h4.size, fun b hb _ => hkeep b hb⟩
  rw [hkeep _ (hh.lt ⟨blk, hi⟩)]
  exact hh.rows i blk hi

/-- the table of known functions -/
abbrev Tab := List (FuncId × PureFn)
def look : Tab → FuncId → Option PureFn
  | [], _ => none
  | (g, p) :: l, f => if g = f then some p else look l f
def TabOk (P : Program) : Tab → Prop
  | [] => True
  | (f, g) :: l => (EntryOk P f g ∧ ∀ args q v, g args = some (q, v) → args.all LV.plain = true) ∧ TabOk P l

def gam (t : Tab) : Gam where
  run f args hp := match look t f with
    | some g => match g args with
      | some (q, v) => some (q, v, hp)
      | none => none
    | none => none
  cls f := match look t f with
    | some _ => .pure
    | none => .eff

theorem look_ok {P : Program} : ∀ {t : Tab} {f : FuncId} {g : PureFn}, TabOk P t → look t f = some g → EntryOk P f g ∧ ∀ args q v, g args = some (q, v) → args.all LV.plain = true
  | [], _, _, _, h => by simp [look] at h
  | (f', g') :: l, f, g, ht, h => by
    simp only [look] at h
    split at h
    · rename_i e; subst e; simp at h; subst h; exact ht.1
    · exact look_ok ht.2 h

theorem gam_ok {P : Program} {t : Tab} (ht : TabOk P t) : GOk P (gam t) := by
  constructor
  · intro f args hp q v hp' h hq W m β₀ β w vals hh hargs
    simp only [gam] at h
    split at h
    · rename_i g hg
      split at h
      · rename_i q' v' he
        simp at h; obtain ⟨rfl, rfl, rfl⟩ := h
        obtain ⟨hent, h3⟩ := look_ok ht hg
        have ha := h3 _ _ _ he
        simp only [List.all_eq_true] at ha
        have hall : ∀ (β' : Nat → Nat) (L : Nat → Prop), All2 (LV.den β' L) args vals := fun β' L => hargs.imp_mem fun a b hm => LV.den_plain (ha a hm)
        rcases hent with ⟨h1, h2⟩ | h2
        · exact .inr ⟨h1, plain_of_callsEv (h2 _ _ _ he hq) W m β₀ β hp w vals hh hall⟩
        · obtain ⟨val, e1, e2⟩ := h2 _ _ _ he hq vals w hall
          exact .inl ⟨val, e1, val, β, rfl, e2 _ _, hh, Agree.refl _ _⟩
      · simp at h
    · simp at h
  · intro f args hp q v hp' h
    simp only [gam] at h
    split at h
    · split at h
      · simp at h; obtain ⟨_, _, rfl⟩ := h; exact Nat.le_refl _
      · simp at h
    · simp at h
  · intro f _ args hp q v hp' h
    simp only [gam] at h ⊢
    split at h
    · split at h
      · simp at h; obtain ⟨rfl, rfl, rfl⟩ := h; simp
      · simp at h
    · simp at h
  · intro f hc
    simp only [gam] at hc
    split at hc <;> simp at hc

/-- no functions at all -/
theorem tab_nil {P : Program} : TabOk P [] := trivial

/-! ### Results -/
structure RC (ρ : Type) where
  wr : ρ → LV
  plain : ∀ r, (wr r).plain = true
def one {α : Type} (A : Codec α) : RC α := ⟨fun a => .one (A.wr a), A.plain⟩
def two {α β : Type} (A : Codec α) (B : Codec β) : RC (α × β) := ⟨fun p => .tup [A.wr p.1, B.wr p.2], fun p => by simp [LV.plain, A.plain, B.plain]⟩
def three {α β γ : Type} (A : Codec α) (B : Codec β) (C : Codec γ) : RC (α × β × γ) := ⟨fun p => .tup [A.wr p.1, B.wr p.2.1, C.wr p.2.2], fun p => by simp [LV.plain, A.plain, B.plain, C.plain]⟩

/-! ### The makes of entries -/
def rd1 {α : Type} (A : Codec α) : LV → Option α
  | .one x => A.rd x
  | _ => none
theorem rd1_ok {α : Type} {A : Codec α} {x : LV} {a : α} (h : rd1 A x = some a) {β : Nat → Nat} {L : Nat → Prop} {v : Value} (hd : x.den β L v) : (LV.one (A.wr a)).den β L v := by
  unfold rd1 at h; split at h
  · exact A.ok h hd
  · simp at h
theorem rd1_pl {α : Type} {A : Codec α} {x : LV} {a : α} (h : rd1 A x = some a) : x.plain = true := by
  unfold rd1 at h; split at h
  · exact A.pl h
  · simp at h

def fn0 {ρ : Type} (R : RC ρ) (r : ρ) : PureFn
  | [] => some (none, R.wr r)
  | _ => none
def fn1 {α ρ : Type} (A : Codec α) (R : RC ρ) (f : α → ρ) : PureFn
  | [x] => match rd1 A x with
    | some a => some (none, R.wr (f a))
    | none => none
  | _ => none
def fn2 {α β ρ : Type} (A : Codec α) (B : Codec β) (R : RC ρ) (f : α → β → ρ) : PureFn
  | [x, y] => match rd1 A x, rd1 B y with
    | some a, some b => some (none, R.wr (f a b))
    | _, _ => none
  | _ => none
def fn3 {α β γ ρ : Type} (A : Codec α) (B : Codec β) (C : Codec γ) (R : RC ρ) (f : α → β → γ → ρ) : PureFn
  | [x, y, z] => match rd1 A x, rd1 B y, rd1 C z with
    | some a, some b, some c => some (none, R.wr (f a b c))
    | _, _, _ => none
  | _ => none
def fn4 {α β γ δ ρ : Type} (A : Codec α) (B : Codec β) (C : Codec γ) (D : Codec δ) (R : RC ρ) (f : α → β → γ → δ → ρ) : PureFn
  | [x, y, z, u] => match rd1 A x, rd1 B y, rd1 C z, rd1 D u with
    | some a, some b, some c, some d => some (none, R.wr (f a b c d))
    | _, _, _, _ => none
  | _ => none

/-- a table's row: the entry, and that its arguments are plain -/
def RowP (P : Program) (f : FuncId) (g : PureFn) : Prop := EntryOk P f g ∧ ∀ args q v, g args = some (q, v) → args.all LV.plain = true

/-- what a call of canonical arguments has to give -/
abbrev Gives (P : Program) (f : FuncId) (args : List LV) (r : LV) : Prop := CallsEv P f args [] fun r' _ => r' = r

theorem CallsEv.args {P : Program} {f : FuncId} {args args' : List LV} {R : LV → Hp → Prop} (h : CallsEv P f args' [] R) (ha : ∀ (β : Nat → Nat) (L : Nat → Prop) (vals : List Value), All2 (LV.den β L) args vals → All2 (LV.den β L) args' vals) :
    CallsEv P f args [] R := fun W m β₀ β w vals hh hv => h W m β₀ β w vals hh (ha _ _ _ hv)
theorem CallsEv.mono {P : Program} {f : FuncId} {args : List LV} {hp : Hp} {R R' : LV → Hp → Prop} (h : CallsEv P f args hp R) (hr : ∀ r hp', R r hp' → R' r hp') : CallsEv P f args hp R' :=
  fun W m β₀ β w vals hh hv => (h W m β₀ β w vals hh hv).mono fun _ _ ⟨val, β', r, hp', e, h1, h2⟩ => ⟨val, β', r, hp', e, hr _ _ h1, h2⟩

section
variable {P : Program} {f : FuncId}

theorem row0 {ρ : Type} {R : RC ρ} {r : ρ} (he : Enters P f) (h : Gives P f [] (R.wr r)) : RowP P f (fn0 R r) := by
  refine ⟨.inl ⟨he, fun args q v hg _ => ?_⟩, fun args q v hg => ?_⟩
  · unfold fn0 at hg; split at hg
    · simp at hg; obtain ⟨_, rfl⟩ := hg
      exact h.mono fun _ _ e => ⟨e, e ▸ R.plain _⟩
    · simp at hg
  · unfold fn0 at hg; split at hg
    · rfl
    · simp at hg

theorem row1 {α ρ : Type} {A : Codec α} {R : RC ρ} {g : α → ρ} (he : Enters P f) (h : ∀ a, Gives P f [.one (A.wr a)] (R.wr (g a))) : RowP P f (fn1 A R g) := by
  refine ⟨.inl ⟨he, fun args q v hg _ => ?_⟩, fun args q v hg => ?_⟩
  · unfold fn1 at hg; split at hg
    · split at hg
      · rename_i x a ha
        simp at hg; obtain ⟨_, rfl⟩ := hg
        refine ((h a).args fun β L vals hv => ?_).mono fun _ _ e => ⟨e, e ▸ R.plain _⟩
        cases hv with
        | cons h1 h2 => exact .cons (rd1_ok ha h1) h2
      · simp at hg
    · simp at hg
  · unfold fn1 at hg; split at hg
    · split at hg
      · rename_i x a ha; simp [rd1_pl ha]
      · simp at hg
    · simp at hg

theorem row2 {α β' ρ : Type} {A : Codec α} {B : Codec β'} {R : RC ρ} {g : α → β' → ρ} (he : Enters P f) (h : ∀ a b, Gives P f [.one (A.wr a), .one (B.wr b)] (R.wr (g a b))) : RowP P f (fn2 A B R g) := by
  refine ⟨.inl ⟨he, fun args q v hg _ => ?_⟩, fun args q v hg => ?_⟩
  · unfold fn2 at hg; split at hg
    · split at hg
      · rename_i x y a b ha hb
        simp at hg; obtain ⟨_, rfl⟩ := hg
        refine ((h a b).args fun β L vals hv => ?_).mono fun _ _ e => ⟨e, e ▸ R.plain _⟩
        cases hv with
        | cons h1 hv => cases hv with
          | cons h2 hv => exact .cons (rd1_ok ha h1) (.cons (rd1_ok hb h2) hv)
      · simp at hg
    · simp at hg
  · unfold fn2 at hg; split at hg
    · split at hg
      · rename_i x y a b ha hb; simp [rd1_pl ha, rd1_pl hb]
      · simp at hg
    · simp at hg

theorem row3 {α β' γ ρ : Type} {A : Codec α} {B : Codec β'} {C : Codec γ} {R : RC ρ} {g : α → β' → γ → ρ} (he : Enters P f) (h : ∀ a b c, Gives P f [.one (A.wr a), .one (B.wr b), .one (C.wr c)] (R.wr (g a b c))) : RowP P f (fn3 A B C R g) := by
  refine ⟨.inl ⟨he, fun args q v hg _ => ?_⟩, fun args q v hg => ?_⟩
  · unfold fn3 at hg; split at hg
    · split at hg
      · rename_i x y z a b c ha hb hc
        simp at hg; obtain ⟨_, rfl⟩ := hg
        refine ((h a b c).args fun β L vals hv => ?_).mono fun _ _ e => ⟨e, e ▸ R.plain _⟩
        cases hv with
        | cons h1 hv => cases hv with
          | cons h2 hv => cases hv with
            | cons h3 hv => exact .cons (rd1_ok ha h1) (.cons (rd1_ok hb h2) (.cons (rd1_ok hc h3) hv))
      · simp at hg
    · simp at hg
  · unfold fn3 at hg; split at hg
    · split at hg
      · rename_i x y z a b c ha hb hc; simp [rd1_pl ha, rd1_pl hb, rd1_pl hc]
      · simp at hg
    · simp at hg

theorem row4 {α β' γ δ ρ : Type} {A : Codec α} {B : Codec β'} {C : Codec γ} {D : Codec δ} {R : RC ρ} {g : α → β' → γ → δ → ρ} (he : Enters P f)
    (h : ∀ a b c d, Gives P f [.one (A.wr a), .one (B.wr b), .one (C.wr c), .one (D.wr d)] (R.wr (g a b c d))) : RowP P f (fn4 A B C D R g) := by
  refine ⟨.inl ⟨he, fun args q v hg _ => ?_⟩, fun args q v hg => ?_⟩
  · unfold fn4 at hg; split at hg
    · split at hg
      · rename_i x y z u a b c d ha hb hc hd
        simp at hg; obtain ⟨_, rfl⟩ := hg
        refine ((h a b c d).args fun β L vals hv => ?_).mono fun _ _ e => ⟨e, e ▸ R.plain _⟩
        cases hv with
        | cons h1 hv => cases hv with
          | cons h2 hv => cases hv with
            | cons h3 hv => cases hv with
              | cons h4 hv => exact .cons (rd1_ok ha h1) (.cons (rd1_ok hb h2) (.cons (rd1_ok hc h3) (.cons (rd1_ok hd h4) hv)))
      · simp at hg
    · simp at hg
  · unfold fn4 at hg; split at hg
    · split at hg
      · rename_i x y z u a b c d ha hb hc hd; simp [rd1_pl ha, rd1_pl hb, rd1_pl hc, rd1_pl hd]
      · simp at hg
    · simp at hg
end

/-- literal numbers are numbers -/
def SV.norm : SV → SV
  | .int k n => .int k (.sym n.val)
  | .bool b => .bool (.sym b.val)
  | s => s
def VV.norm : VV → VV
  | .sc s => .sc s.norm
  | .agg l => .agg (l.map SV.norm)
def LV.norm : LV → LV
  | .one x => .one x.norm
  | .tup l => .tup (l.map VV.norm)
  | .junk => .junk

section
variable {β : Nat → Nat} {L : Nat → Prop}
theorem SV.norm_den {s : SV} {v : Value} (h : s.den β L v) : s.norm.den β L v := by cases s <;> exact h
theorem VV.norm_den {s : VV} {v : Value} (h : s.den β L v) : s.norm.den β L v := by
  cases s with
  | sc s => exact SV.norm_den h
  | agg l =>
    obtain ⟨cs, e, hd⟩ := h
    refine ⟨cs, e, ?_⟩
    clear e
    induction hd with
    | nil => exact .nil
    | cons h _ ih => exact .cons (SV.norm_den h) ih
theorem LV.norm_den {s : LV} {v : Value} (h : s.den β L v) : s.norm.den β L v := by
  cases s with
  | one s => exact VV.norm_den h
  | tup l =>
    obtain ⟨cs, e, hd⟩ := h
    refine ⟨cs, e, ?_⟩
    clear e
    induction hd with
    | nil => exact .nil
    | cons h _ ih => exact .cons (VV.norm_den h) ih
  | junk => trivial
end

theorem CallsEv.norm {P : Program} {f : FuncId} {args : List LV} {hp : Hp} {R : LV → Hp → Prop} (h : CallsEv P f args hp fun r hp' => R r.norm hp') : CallsEv P f args hp R :=
  fun W m β₀ β w vals hh hv => (h W m β₀ β w vals hh hv).mono fun _ _ ⟨val, β', r, hp', e, h1, h2, h3⟩ => ⟨val, β', r.norm, hp', e, h1, LV.norm_den h2, h3⟩

/-- the outcome of a function: what it asks, what it gives -/
def outQ (P : Program) (G : Gam) (fn : Func) (args : List LV) : Option (Option Prop × LV) :=
  match fn.body with
  | some c => match ((exec P G [] c (entry fn args [])).ends P fn []).one with
    | some (q, ⟨[r], _⟩) => some (q, r.norm)
    | _ => none
  | none => none

theorem gives_of_outQ {P : Program} {G : Gam} (hG : GOk P G) (hmix : P.follows .mixedOrders = true) {f : FuncId} {fn : Func} (hf : P.funcs[f]? = some fn) {args : List LV} {q : Option Prop} {r : LV} (h : outQ P G fn args = some (q, r)) (hq : needs q) :
    Gives P f args r := by
  unfold outQ at h
  split at h
  · rename_i c hb
    split at h
    · rename_i q' r' hp ho
      simp at h; obtain ⟨rfl, rfl⟩ := h
      exact CallsEv.norm (call_of_ex hf hb (.of_exec hG hmix rfl) (one_sat ho hq ⟨rfl, _, rfl, rfl⟩))
    · simp at h
  · simp at h

theorem gives_of_out {P : Program} {G : Gam} (hG : GOk P G) (hmix : P.follows .mixedOrders = true) {f : FuncId} {fn : Func} (hf : P.funcs[f]? = some fn) {args : List LV} {r : LV} (h : outQ P G fn args = some (none, r)) : Gives P f args r :=
  gives_of_outQ hG hmix hf h trivial

/-- the same, of what is known of the function's code -/
theorem gives_of_ex {P : Program} {f : FuncId} {fn : Func} {c : Code} (hf : P.funcs[f]? = some fn) (hb : fn.body = some c) {args : List LV} {r : Res} (hx : Ex P [] c (entry fn args []) r) {q : Option Prop} {v x : LV} {hp : Hp}
    (h : (r.ends P fn []).one = some (q, ⟨[x], hp⟩)) (hq : needs q) (hv : x.norm = v) : Gives P f args v :=
  hv ▸ CallsEv.norm (call_of_ex hf hb hx (one_sat h hq ⟨rfl, _, rfl, rfl⟩))

/-! ### A call that is read in place -/
def addInl (P : Program) (G : Gam) (f : FuncId) (fn : Func) : Gam where
  run g args hp := if g = f then (match fn.body with
      | some c => inl P G fn c args hp
      | none => none) else G.run g args hp
  cls g := if g = f then .eff else G.cls g

theorem addInl_ok {P : Program} {G : Gam} (hG : GOk P G) (hmix : P.follows .mixedOrders = true) {f : FuncId} {fn : Func} (hf : P.funcs[f]? = some fn) (he : Enters P f) : GOk P (addInl P G f fn) := by
  constructor
  · intro g args hp q v hp' h hq W m β₀ β w vals hh hargs
    simp only [addInl] at h
    split at h
    · rename_i hgf; subst hgf
      split at h
      · rename_i c hb
        refine .inr ⟨he, ((inl_ok hG hmix hf hb h hq).1 W m β₀ β w vals hh hargs).mono ?_⟩
        rintro e w' ⟨val, β', r, hp2, rfl, ⟨rfl, rfl⟩, h3, h4, h5⟩
        exact ⟨val, β', rfl, h3, h4, h5⟩
      · simp at h
    · exact hG.calls g args hp q v hp' h hq W m β₀ β w vals hh hargs
  · intro g args hp q v hp' h
    simp only [addInl] at h
    split at h
    · split at h
      · rename_i c hb
        unfold inl at h
        split at h
        · split at h
          · rename_i hl; simp at h; obtain ⟨_, _, rfl⟩ := h; exact hl
          · simp at h
        · simp at h
      · simp at h
    · exact hG.long g args hp q v hp' h
  · intro g hc
    simp only [addInl] at hc ⊢
    split at hc
    · simp at hc
    · rename_i hne; simp only [if_neg hne]; exact hG.pures g hc
  · intro g hc
    simp only [addInl] at hc ⊢
    split at hc
    · simp at hc
    · rename_i hne; simp only [if_neg hne]; exact hG.reads g hc

/-- a table's row for a function without a body -/
theorem row_ext {P : Program} {f : FuncId} {g : PureFn} (h : ∀ args q v, g args = some (q, v) → needs q → AtOnce P f args v) (hp : ∀ args q v, g args = some (q, v) → args.all LV.plain = true) : RowP P f g :=
  ⟨.inr h, hp⟩

end Go.Ev
