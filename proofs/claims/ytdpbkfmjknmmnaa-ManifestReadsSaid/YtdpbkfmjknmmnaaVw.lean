/- A reader of code, third make: shapes of arguments and of states. -/
import Derived.Test.YtdpbkfmjknmmnaaVu
set_option linter.unusedVariables false
set_option linter.unusedSimpArgs false
namespace Go.Ev
open Go

/-- what has a shape, as data -/
structure Cod (T X : Type) where
  rd : T → Option X
  wr : X → T
  ok : ∀ {t x}, rd t = some x → t = wr x

def Cod.iso {T X Y : Type} (c : Cod T X) (f : X → Y) (g : Y → X) (h : ∀ x, g (f x) = x) : Cod T Y where
  rd t := (c.rd t).map f
  wr y := c.wr (g y)
  ok := by
    intro t y hy
    obtain ⟨x, hx, rfl⟩ := map_some hy
    rw [h]; exact c.ok hx

def sAny : Cod SV SV := ⟨some, id, fun h => by cases h; rfl⟩
def sInt (k : IntKind) : Cod SV Int where
  rd s := match s with
    | .int k' (.sym n) => if k' = k then some n else none
    | _ => none
  wr n := .int k (.sym n)
  ok := by
    intro s x h
    split at h
    · split at h
      · rename_i e; subst e; cases h; rfl
      · cases h
    · cases h
def sBool : Cod SV Bool where
  rd s := match s with
    | .bool (.sym b) => some b
    | _ => none
  wr b := .bool (.sym b)
  ok := by
    intro s x h
    split at h
    · cases h; rfl
    · cases h
def sStr : Cod SV (List Int) where
  rd s := match s with
    | .str l => some l
    | _ => none
  wr b := .str b
  ok := by
    intro s x h
    split at h
    · cases h; rfl
    · cases h
/-- bytes and the like that are only read -/
def sRd (pm nn : Bool) (t : Ty) : Cod SV (List t.D) where
  rd s := match s with
    | .rd pm' nn' t' l => if h : t' = t then (if pm' = pm ∧ nn' = nn then some (h ▸ l) else none) else none
    | _ => none
  wr l := .rd pm nn t l
  ok := by
    intro s x h
    split at h
    · split at h
      · rename_i e; subst e
        split at h
        · rename_i e; obtain ⟨rfl, rfl⟩ := e; cases h; rfl
        · cases h
      · cases h
    · cases h
/-- … whatever the flags -/
def sRd' (t : Ty) : Cod SV (Bool × Bool × List t.D) where
  rd s := match s with
    | .rd pm' nn' t' l => if h : t' = t then some (pm', nn', h ▸ l) else none
    | _ => none
  wr l := .rd l.1 l.2.1 t l.2.2
  ok := by
    intro s x h
    split at h
    · split at h
      · rename_i e; subst e; cases h; rfl
      · cases h
    · cases h
def sNil : Cod SV Unit where
  rd s := match s with
    | .con (.slice none 0 0) => some ()
    | _ => none
  wr _ := .con (.slice none 0 0)
  ok := by
    intro s x h
    split at h
    · rfl
    · cases h
def sNilP : Cod SV Unit where
  rd s := match s with
    | .con (.pointer none) => some ()
    | _ => none
  wr _ := .con (.pointer none)
  ok := by
    intro s x h
    split at h
    · rfl
    · cases h
def sJunk : Cod SV Unit where
  rd s := match s with
    | .junk => some ()
    | _ => none
  wr _ := .junk
  ok := by
    intro s x h
    split at h
    · rfl
    · cases h
def sPtr (b o : Nat) : Cod SV Unit where
  rd s := match s with
    | .ptr b' o' => if b' = b ∧ o' = o then some () else none
    | _ => none
  wr _ := .ptr b o
  ok := by
    intro s x h
    split at h
    · split at h
      · rename_i e; obtain ⟨rfl, rfl⟩ := e; rfl
      · cases h
    · cases h
def sSl (i v : Nat) : Cod SV Unit where
  rd s := match s with
    | .sl b' o' => if b' = i ∧ o' = v then some () else none
    | _ => none
  wr _ := .sl i v
  ok := by
    intro s x h
    split at h
    · split at h
      · rename_i e; obtain ⟨rfl, rfl⟩ := e; rfl
      · cases h
    · cases h
/-- a part of an own slice -/
def sVw (i v w : Nat) : Cod SV (Int × Int) where
  rd s := match s with
    | .vw b' o' w' z n => if b' = i ∧ o' = v ∧ w' = w then some (z, n) else none
    | _ => none
  wr p := .vw i v w p.1 p.2
  ok := by
    intro s x h
    split at h
    · split at h
      · rename_i e; obtain ⟨rfl, rfl, rfl⟩ := e; cases h; rfl
      · cases h
    · cases h
/-- all of a block's cells -/
def sSlice (b o l c : Nat) : Cod SV Unit where
  rd s := match s with
    | .slice b' o' l' c' => if b' = b ∧ o' = o ∧ l' = l ∧ c' = c then some () else none
    | _ => none
  wr _ := .slice b o l c
  ok := by
    intro s x h
    split at h
    · split at h
      · rename_i e; obtain ⟨rfl, rfl, rfl, rfl⟩ := e; rfl
      · cases h
    · cases h
/-- a long row -/
def sArr (t : Ty) (n : Nat) : Cod SV (List t.D) where
  rd s := match s with
    | .arr t' n' l => if h : t' = t then (if n' = n then some (h ▸ l) else none) else none
    | _ => none
  wr l := .arr t n l
  ok := by
    intro s x h
    split at h
    · split at h
      · rename_i e; subst e
        split at h
        · rename_i e; subst e; cases h; rfl
        · cases h
      · cases h
    · cases h

section
variable {T X Y Z : Type}
/-- nothing behind it -/
def lNil : Cod (List T) Unit where
  rd l := match l with
    | [] => some ()
    | _ :: _ => none
  wr _ := []
  ok := by
    intro s x h
    split at h
    · rfl
    · cases h
def lCons (a : Cod T X) (r : Cod (List T) Y) : Cod (List T) (X × Y) where
  rd l := match l with
    | [] => none
    | x :: l => match a.rd x, r.rd l with
      | some x, some y => some (x, y)
      | _, _ => none
  wr p := a.wr p.1 :: r.wr p.2
  ok := by
    intro s x h
    split at h
    · cases h
    · split at h
      · rename_i h1 h2; cases h; rw [a.ok h1, r.ok h2]
      · cases h
/-- one that bears no data -/
def lSkip (a : Cod T Unit) (r : Cod (List T) Y) : Cod (List T) Y where
  rd l := match l with
    | [] => none
    | x :: l => match a.rd x, r.rd l with
      | some _, some y => some y
      | _, _ => none
  wr p := a.wr () :: r.wr p
  ok := by
    intro s x h
    split at h
    · cases h
    · split at h
      · rename_i h1 h2; cases h; rw [a.ok h1, r.ok h2]
      · cases h
def lSkips (a : Cod T Unit) (r : Cod (List T) Y) : Nat → Cod (List T) Y
  | 0 => r
  | n + 1 => lSkip a (lSkips a r n)
end
def oInts (k : IntKind) : List SV → Option (List Int)
  | [] => some []
  | .int k' (.sym n) :: l => if k' = k then (oInts k l).map (n :: ·) else none
  | _ :: _ => none
theorem oInts_ok {k : IntKind} : ∀ {l : List SV} {m : List Int}, oInts k l = some m → l = m.map fun n => .int k (.sym n)
  | [], m, h => by cases h; rfl
  | s :: l, m, h => by
    unfold oInts at h
    split at h
    · rename_i e; cases e
    · rename_i e; injection e with e1 e2; subst e1 e2
      split at h
      · rename_i e; subst e
        obtain ⟨m', h1, rfl⟩ := map_some h
        rw [oInts_ok h1]; rfl
      · cases h
    · cases h
/-- n numbers -/
def rInts (k : IntKind) (n : Nat) : Cod (List SV) (List Int) where
  rd l := match oInts k l with
    | some m => if l.length = n then some m else none
    | none => none
  wr l := (List.range n).map fun i => .int k (.sym (l.getD i 0))
  ok := by
    intro s x h
    split at h
    · rename_i m hm
      split at h
      · rename_i hn
        cases h
        have := oInts_ok hm
        subst this
        simp only [List.length_map] at hn
        subst hn
        apply List.ext_getElem?
        intro i
        simp only [List.getElem?_map]
        rcases Nat.lt_or_ge i x.length with h1 | h1
        · rw [List.getElem?_range h1]
          simp [List.getD_eq_getElem?_getD, List.getElem?_eq_getElem h1]
        · rw [List.getElem?_eq_none h1, List.getElem?_eq_none (by simpa using h1)]
          rfl
      · cases h
    · cases h
/-- n numbers, and what lies behind them -/
def rIntsA (k : IntKind) (n : Nat) {Y : Type} (r : Cod (List SV) Y) : Cod (List SV) (List Int × Y) where
  rd l := match (rInts k n).rd (l.take n), r.rd (l.drop n) with
    | some x, some y => some (x, y)
    | _, _ => none
  wr p := (rInts k n).wr p.1 ++ r.wr p.2
  ok := by
    intro s x h
    split at h
    · rename_i h1 h2
      cases h
      rw [← (rInts k n).ok h1, ← r.ok h2, List.take_append_drop]
    · cases h

section
variable {X Y : Type}
def vOne (s : Cod SV X) : Cod LV X where
  rd x := match x with
    | .one (.sc x) => s.rd x
    | _ => none
  wr x := .one (.sc (s.wr x))
  ok := by
    intro x v h
    split at h
    · rw [s.ok h]
    · cases h
def vAgg (r : Cod (List SV) X) : Cod LV X where
  rd x := match x with
    | .one (.agg x) => r.rd x
    | _ => none
  wr x := .one (.agg (r.wr x))
  ok := by
    intro x v h
    split at h
    · rw [r.ok h]
    · cases h
def vJunk : Cod LV Unit where
  rd x := match x with
    | .junk => some ()
    | _ => none
  wr _ := .junk
  ok := by
    intro x v h
    split at h
    · rfl
    · cases h
def iBlk (e : TypeId) (r : Cod (List SV) X) : Cod (Option Item) X where
  rd x := match x with
    | some (.blk cells e') => if e' = e then r.rd cells else none
    | _ => none
  wr x := some (.blk (r.wr x) e)
  ok := by
    intro x v h
    split at h
    · split at h
      · rename_i e; subst e; rw [r.ok h]
      · cases h
    · cases h
def iOwn (ver : Nat) (t : Ty) : Cod (Option Item) (List t.D) where
  rd x := match x with
    | some (.own ver' t' l) => if h : t' = t then (if ver' = ver then some (h ▸ l) else none) else none
    | _ => none
  wr l := some (.own ver t l)
  ok := by
    intro x v h
    split at h
    · split at h
      · rename_i e; subst e
        split at h
        · rename_i e; subst e; cases h; rfl
        · cases h
      · cases h
    · cases h
def iNone : Cod (Option Item) Unit where
  rd x := match x with
    | none => some ()
    | _ => none
  wr _ := none
  ok := by
    intro x v h
    split at h
    · rfl
    · cases h
/-- a state -/
def stC (a : Cod (List LV) X) (b : Cod Hp Y) : Cod St (X × Y) where
  rd s := match a.rd s.fr, b.rd s.hp with
    | some x, some y => some (x, y)
    | _, _ => none
  wr p := ⟨a.wr p.1, b.wr p.2⟩
  ok := by
    intro s x h
    split at h
    · rename_i h1 h2
      cases h
      obtain ⟨fr, hp⟩ := s
      have e1 := a.ok h1
      have e2 := b.ok h2
      simp only at e1 e2
      subst e1 e2
      rfl
    · cases h
end

/-- junk but for some slots -/
abbrev jk (n : Nat) {Y : Type} (r : Cod (List LV) Y) : Cod (List LV) Y := lSkips vJunk r n

/-! ### A slice that may be nil -/
theorem All2.mid {α β : Type} {R : α → β → Prop} : ∀ {x : List α} {a : α} {y : List α} {vs : List β}, All2 R (x ++ a :: y) vs → ∃ u v w, vs = u ++ v :: w ∧ All2 R x u ∧ R a v ∧ All2 R y w
  | [], a, y, _, h => by
    cases h with
    | cons h t => exact ⟨[], _, _, rfl, .nil, h, t⟩
  | b :: x, a, y, _, h => by
    cases h with
    | cons h t =>
      obtain ⟨u, v, w, rfl, h1, h2, h3⟩ := All2.mid t
      exact ⟨_ :: u, v, w, rfl, .cons h h1, h2, h3⟩
theorem CallsEv.rdCases {P : Program} {f : FuncId} {x y : List LV} {pm : Bool} {t : Ty} {l : List t.D} {hp : Hp} {R : LV → Hp → Prop} (h1 : l = [] → CallsEv P f (x ++ .one (.sc (.con (.slice none 0 0))) :: y) hp R)
    (h2 : CallsEv P f (x ++ .one (.sc (.rd pm true t l)) :: y) hp R) : CallsEv P f (x ++ .one (.sc (.rd pm false t l)) :: y) hp R := by
  intro β w vals hh hargs
  obtain ⟨u, v, w', rfl, a1, a2, a3⟩ := hargs.mid
  obtain ⟨b1, _, b3⟩ := (a2 : SV.den β (kd hp) (.rd pm false t l) v)
  obtain ⟨a, n, c, rfl, hn, hc, hz, _⟩ := (hh.rdOk b3).1
  cases a with
  | none =>
    have hc0 := hz rfl
    subst hc0
    have hn0 : n = 0 := by omega
    subst hn0
    exact h1 (List.eq_nil_of_length_eq_zero hn.symm) β w _ hh (a1.append (.cons ⟨b1, rfl⟩ a3))
  | some a => exact h2 β w _ hh (a1.append (.cons ⟨b1, fun _ => by simp [notNil], b3⟩ a3))

/-! ### Loops and laws by shapes -/
def loopF {X : Type} (C : Cod St X) (m : Nat) (ks : List Wk) (F : X → Res) (st : St) : Res := match wkAll m ks st with
  | some st' => match C.rd st' with
    | some x => F x
    | none => .fail
  | none => .fail
theorem loopF_ok {P : Program} {hp : Hp} {c : Code} {X : Type} {C : Cod St X} {ks : List Wk} {F : X → Res} (h : ∀ x, Ex P hp c (C.wr x) (F x)) : ∀ st, Ex P hp c st (loopF C hp.length ks F st) := by
  intro st
  unfold loopF
  split
  · rename_i st' hk
    split
    · rename_i x hx
      exact Ex.pre ks hk (by rw [C.ok hx]; exact h x)
    · exact fun _ _ _ _ hs => hs.elim
  · exact fun _ _ _ _ hs => hs.elim
/-- a loop, its rounds known -/
theorem loopR {P : Program} (hmix : P.follows .mixedOrders = true) {tab : List (FuncId × Ent)} (htab : ∀ p ∈ tab, p.2.Ok P p.1) {LT : LTab} {fn : Func} {id : Nat} {hp : Hp} {ws : Exit → List Wk} (hL : LOk P hp LT (loopAt fn id))
    {X : Type} (μ : X → Nat) (S : X → St) (I : X → Prop) (F : X → Res) {T : X → Res} (hT : ∀ x, I x → rndT P tab LT fn id hp ws (S x) = T x)
    (hr : ∀ x R, I x → (F x).sat R → (T x).sat fun e s => (e = .normal ∧ ∃ y, s = S y ∧ I y ∧ μ y < μ x ∧ (F y).sat R) ∨ (e ≠ .normal ∧ R e s)) (x : X) (hx : I x) : Ex P hp (.loop (loopAt fn id)) (S x) (F x) :=
  Ex.loopF μ S I T F (fun x hx => hT x hx ▸ rndT_ok hmix htab hL) hr hx
theorem tab0 {P : Program} : ∀ p ∈ ([] : List (FuncId × Ent)), p.2.Ok P p.1 := fun _ h => by cases h
theorem tabC {P : Program} {f : FuncId} {e : Ent} {l : List (FuncId × Ent)} (h : e.Ok P f) (hl : ∀ p ∈ l, p.2.Ok P p.1) : ∀ p ∈ (f, e) :: l, p.2.Ok P p.1 := fun p hp => by
  rcases List.mem_cons.1 hp with rfl | hp
  · exact h
  · exact hl p hp
theorem LT0 {P : Program} {hp : Hp} {fn : Func} : ∀ p ∈ ([] : LTab), isLoop (blkAt (bodyOf fn) p.1) = true ∧ ∀ st, Ex P hp (.loop (loopAt fn p.1)) st (p.2 st) := fun _ h => by cases h
theorem LTC {P : Program} {hp : Hp} {fn : Func} {i : Nat} {f : St → Res} {l : LTab} (h1 : isLoop (blkAt (bodyOf fn) i) = true) (h2 : ∀ st, Ex P hp (.loop (loopAt fn i)) st (f st))
    (hl : ∀ p ∈ l, isLoop (blkAt (bodyOf fn) p.1) = true ∧ ∀ st, Ex P hp (.loop (loopAt fn p.1)) st (p.2 st)) : ∀ p ∈ (i, f) :: l, isLoop (blkAt (bodyOf fn) p.1) = true ∧ ∀ st, Ex P hp (.loop (loopAt fn p.1)) st (p.2 st) := fun p hp => by
  rcases List.mem_cons.1 hp with rfl | hp
  · exact ⟨h1, h2⟩
  · exact hl p hp
/-- a function's law -/
def Ent.of {X Y : Type} (tys : List (Option Ty)) (A : Cod (List LV) X) (H : Cod Hp Y) (out : X → Y → Out) : Ent := ⟨tys, fun args hp => match A.rd args, H.rd hp with
  | some x, some y => out x y
  | _, _ => .fail⟩
theorem Ent.ofOk {P : Program} {f : FuncId} (he : Enters P f) {X Y : Type} {tys : List (Option Ty)} {A : Cod (List LV) X} {H : Cod Hp Y} {out : X → Y → Out}
    (h : ∀ x y Q, (out x y).holds Q → CallsEv P f (A.wr x) (H.wr y) fun v hp' => ∃ d, Q v d ∧ hp' = applyD d (H.wr y)) : (Ent.of tys A H out).Ok P f := by
  refine ⟨he, fun args hp Q hq => ?_⟩
  simp only [Ent.of] at hq
  split at hq
  · rename_i x y hx hy
    rw [A.ok hx, H.ok hy]
    exact h x y Q hq
  · exact hq.elim
/-- a law for two shapes -/
def Ent.or (e e' : Ent) : Ent := ⟨e.tys, fun args hp => match e.run args hp with
  | .fail => e'.run args hp
  | o => o⟩
theorem Ent.Ok.or {P : Program} {f : FuncId} {e e' : Ent} (h : e.Ok P f) (h' : e'.Ok P f) : (e.or e').Ok P f := by
  refine ⟨h.enters, fun args hp Q hq => ?_⟩
  simp only [Ent.or] at hq
  split at hq
  · exact h'.calls args hp Q hq
  · exact h.calls args hp Q hq
/-- … of whatever numbers -/
abbrev Ent.ofS {X Y : Type} (tys : List (Option Ty)) (A : Cod (List LV) X) (H : Cod Hp Y) (out : X → Y → Out) : Ent := (Ent.of tys A H out).sym
end Go.Ev
