/- What the laws lean on, part 3: a reader of code, plain facts, and what each function gives; no conditions. -/
import Derived.KernelRfl
import Derived.Test.YthdfifcgobfgdaaGreatProg
import Derived.Eval
import Derived.Test.YthdfifcgobfgdaaGreatRows
import Derived.WalkKit
import Derived.ProofKit
import Derived.OpenShut
import Derived.JoinedCond
import Derived.JoinedOf
import Derived.Handed
import Derived.ReadAgain
import Derived.ChangeStays
import Derived.Lib.Walk
import Derived.Lib.SliceRun
import Derived.Lib.AppendZerosOnto
import Derived.Test.YthdfifcgobfgdaaGreatA2
section
set_option linter.unusedVariables false
set_option linter.unusedSimpArgs false
namespace Go.Ev
open Go
structure RelV (W : World) (hp₀ : Hp) (β₀ β : Env) (fr : List LV) (hp : Hp) (vals : List Value) (w : World) : Prop where
  fr : All2 (LV.den β (kd hp)) fr vals
  heap : HRel W hp₀ β₀ β hp w
section
variable {W : World} {hp₀ : Hp} {β₀ β : Env} {hp : Hp} {w : World}
theorem HRel.recast (h : HRel W hp₀ β₀ β hp w) {β' : Env} {hp' : Hp} (g : Nat → Nat) (hrd : β'.rd = β.rd) (hfirst : Agree β₀ β' (kd hp₀) (kd hp'))
    (src : ∀ (j : Nat) (y : Item), hp'[j]? = some (some y) → ∃ x, hp[g j]? = some (some x) ∧ (∀ b, Owns β' y j b → Owns β x (g j) b) ∧ ItemOk β' (kd hp') w j y ∧ (g j = j ∨ kd hp₀ (g j) = none))
    (hg : ∀ (j k : Nat) (y z : Item), hp'[j]? = some (some y) → hp'[k]? = some (some z) → g j = g k → j = k) : HRel W hp₀ β₀ β' hp' w := by
  have howned : ∀ b, Owned hp' β' b → Owned hp β b := fun b ⟨j, y, hj, ho⟩ => by
    obtain ⟨x, h1, h2, _⟩ := src j y hj
    exact ⟨g j, x, h1, h2 b ho⟩
  refine ⟨fun j y hj => ?_, fun j k y z b hj hk h1 h2 => ?_, hfirst, fun j y b hj ho => ?_, h.os, h.output, h.size, h.keep, fun pm v t l hr => ?_, fun pm v t l b hr hb => ?_⟩
  · obtain ⟨x, _, _, h3, _⟩ := src j y hj
    exact h3
  · obtain ⟨x, a1, a2, _⟩ := src j y hj
    obtain ⟨x', b1, b2, _⟩ := src k z hk
    exact hg j k y z hj hk (h.inj _ _ _ _ b a1 b1 (a2 b h1) (b2 b h2))
  · obtain ⟨x, a1, a2, _, a4⟩ := src j y hj
    rcases h.own _ _ b a1 (a2 b ho) with k | ⟨z, k1, k2⟩
    · exact .inl k
    · rcases a4 with e | e
      · rw [e] at k1 k2; exact .inr ⟨z, k1, k2⟩
      · rw [kd_of k1] at e; cases e
  · rw [hrd] at hr
    obtain ⟨h1, h2⟩ := h.reads pm v t l hr
    exact ⟨h1.mono fun _ _ _ _ h => by rw [hrd]; exact h, fun b hb => ⟨(h2 b hb).1, fun k => (h2 b hb).2 (howned b k)⟩⟩
  · rw [hrd] at hr
    exact h.from_ pm v t l b hr hb
/-- other descriptions of the same cells -/
theorem HRel.redesc (h : HRel W hp₀ β₀ β hp w) {hp' : Hp} (hk : kd hp' = kd hp)
    (src : ∀ (j : Nat) (y : Item), hp'[j]? = some (some y) → ∃ x, hp[j]? = some (some x) ∧ (y = x ∨ ∃ cells cells' e, x = .blk cells e ∧ y = .blk cells' e ∧ ∀ c, DenL β (kd hp) cells c → DenL β (kd hp) cells' c)) : HRel W hp₀ β₀ β hp' w := by
  refine h.recast (fun j => j) rfl (by rw [hk]; exact h.first) (fun j y hj => ?_) fun _ _ _ _ _ _ e => e
  obtain ⟨x, h1, h2⟩ := src j y hj
  have hx := h.items j x h1
  rw [hk]
  rcases h2 with rfl | ⟨cells, cells', e, rfl, rfl, h3⟩
  · exact ⟨y, h1, fun _ h => h, hx, .inl rfl⟩
  · obtain ⟨c, fz, k1, k2, k3⟩ := hx
    exact ⟨_, h1, fun _ h => h, ⟨c, fz, k1, k2, h3 c k3⟩, .inl rfl⟩
def Item.mapc (f : SV → SV) : Item → Item
  | .blk cells e => .blk (cells.map f) e
  | x => x
def VV.mapc (f : SV → SV) : VV → VV
  | .sc s => .sc (f s)
  | .agg l => .agg (l.map f)
def LV.mapc (f : SV → SV) : LV → LV
  | .one x => .one (x.mapc f)
  | .tup l => .tup (l.map (VV.mapc f))
  | .junk => .junk
/-- a change of descriptions that loses truth nowhere -/
structure Less (β β' : Env) (L L' : Nat → Option Kd) (f : SV → SV) : Prop where
  den : ∀ {s : SV} {v : Value}, s.den β L v → (f s).den β' L' v
  arr : ∀ t n l, f (.arr t n l) = .arr t n l
  rd : ∀ v t l, β.rd true v t l → β'.rd true v t l
theorem Less.dens {β β' : Env} {L L' : Nat → Option Kd} {f : SV → SV} (h : Less β β' L L' f) {s : SV} {vs : List Value} (hd : s.dens β L vs) : (f s).dens β' L' vs := by
  cases s with
  | arr t n l => rw [h.arr]; exact ⟨hd.1, hd.2.imp fun _ _ => t.has_over h.rd⟩
  | _ =>
    obtain ⟨v, rfl, h3⟩ := hd
    exact SV.dens_of (h.den h3)
theorem Less.denL {β β' : Env} {L L' : Nat → Option Kd} {f : SV → SV} (h : Less β β' L L' f) {l : List SV} {vs : List Value} (hd : DenL β L l vs) : DenL β' L' (l.map f) vs := by
  induction hd with
  | nil => exact HasL.nil
  | cons h1 _ ih => exact HasL.cons (h.dens h1) ih
theorem Less.vv {β β' : Env} {L L' : Nat → Option Kd} {f : SV → SV} (h : Less β β' L L' f) {s : VV} {v : Value} (hd : s.den β L v) : (s.mapc f).den β' L' v := by
  cases s with
  | sc s => exact h.den hd
  | agg l => obtain ⟨cs, rfl, hd⟩ := hd; exact ⟨cs, rfl, h.denL hd⟩
theorem Less.lv {β β' : Env} {L L' : Nat → Option Kd} {f : SV → SV} (h : Less β β' L L' f) {s : LV} {v : Value} (hd : s.den β L v) : (s.mapc f).den β' L' v := by
  cases s with
  | one x => exact h.vv hd
  | tup l =>
    obtain ⟨vs, rfl, hd⟩ := hd
    refine ⟨vs, rfl, ?_⟩
    induction hd with
    | nil => exact .nil
    | cons h1 _ ih => exact .cons (h.vv h1) ih
  | junk => trivial
theorem Less.fr {β β' : Env} {L L' : Nat → Option Kd} {f : SV → SV} (h : Less β β' L L' f) {l : List LV} {vs : List Value} (hd : All2 (LV.den β L) l vs) : All2 (LV.den β' L') (l.map (LV.mapc f)) vs := by
  induction hd with
  | nil => exact .nil
  | cons h1 _ ih => exact .cons (h.lv h1) ih
theorem Less.item {β β' : Env} {L L' : Nat → Option Kd} {f : SV → SV} (h : Less β β' L L' f) {w : World} {i : Nat} {x : Item} (hb : β'.b i = β.b i) (hh : β'.h i = β.h i) (hd : ItemOk β L w i x) : ItemOk β' L' w i (x.mapc f) := by
  cases x with
  | blk cells e =>
    obtain ⟨c, fz, h1, h2, h3⟩ := hd
    exact ⟨c, fz, by rw [hb]; exact h1, h2, h.denL h3⟩
  | own ver t l =>
    show OwnOk β' w (β'.h i) t l
    rw [hh]
    obtain ⟨a, n, c, e, h1, h2, h3, h4⟩ := (hd : OwnOk β w (β.h i) t l)
    refine ⟨a, n, c, e, h1, h2, h3, fun h0 => ?_⟩
    obtain ⟨a0, pre, vss, rest, elem, fz, k0, k1, k2, k3, k4, k5⟩ := h4 h0
    exact ⟨a0, pre, vss, rest, elem, fz, k0, k1, k2, k3, k4.imp fun _ _ => t.has_over h.rd, k5⟩
  | gone v => trivial
theorem Item.mapc_kd (f : SV → SV) (x : Item) : (x.mapc f).kd = x.kd := by cases x <;> rfl
theorem Owns.mapc {f : SV → SV} {β β' : Env} {x : Item} {i b : Nat} (hb : β'.b i = β.b i) (hh : β'.h i = β.h i) : Owns β' (x.mapc f) i b ↔ Owns β x i b := by
  cases x <;> simp only [Item.mapc, Owns, hb, hh]
end
inductive FM where
  | drop
  | keep
  | sym
  /-- nil, and what is only read, as what is only read -/
  | rd (pm : Bool) (t : Ty)
def SV.rdm (pm : Bool) (t : Ty) : SV → SV
  | .con (.slice none 0 0) => .rd pm false t []
  | .rd false _ t l => .rd false false t l
  | .rd true _ t l => .rd pm false t l
  | s => s
def SV.symm : SV → SV
  | .int k n => .int k (.sym n.val)
  | .bool b => .bool (.sym b.val)
  | s => s
def SV.dropm : SV → SV
  | .arr t n l => .arr t n l
  | _ => .junk
def SV.fm : FM → SV → SV
  | .keep, s => s
  | .drop, s => s.dropm
  | .sym, s => s.symm
  | .rd pm t, s => s.rdm pm t
theorem SV.fm_den {β : Env} {L : Nat → Option Kd} (k : FM) {s : SV} {v : Value} (h : s.den β L v) : (s.fm k).den β L v := by
  cases k with
  | keep => exact h
  | drop => cases s <;> first | exact h.elim | exact SV.den_oneCell h
  | sym => cases s <;> exact h
  | rd pm t =>
    simp only [SV.fm]
    unfold SV.rdm
    split
    · obtain ⟨_, rfl⟩ := h
      exact ⟨rfl, (fun e => by cases e), .inr (.inr ⟨rfl, rfl⟩)⟩
    · exact ⟨h.1, (fun e => by cases e), h.2.2⟩
    · refine ⟨h.1, (fun e => by cases e), ?_⟩
      rcases h.2.2 with h1 | ⟨h1, _⟩ | h1
      · exact .inl h1
      · cases h1
      · exact .inr (.inr h1)
    · exact h
theorem fm_less {β : Env} {L : Nat → Option Kd} (k : FM) : Less β β L L (SV.fm k) := ⟨SV.fm_den k, fun t n l => by cases k <;> rfl, fun _ _ _ h => h⟩
def LV.fm : FM → LV → LV
  | .drop, _ => .junk
  | .keep, x => x
  | k, x => x.mapc (SV.fm k)
theorem LV.fm_den {β : Env} {L : Nat → Option Kd} (k : FM) {s : LV} {v : Value} (h : s.den β L v) : (s.fm k).den β L v := by
  cases k with
  | drop => trivial
  | keep => exact h
  | sym => exact (fm_less .sym).lv h
  | rd pm t => exact (fm_less (.rd pm t)).lv h
def zipF : List FM → List LV → List LV
  | k :: ks, x :: xs => x.fm k :: zipF ks xs
  | _, xs => xs
theorem zipF_den {β : Env} {L : Nat → Option Kd} : ∀ (ks : List FM) {xs : List LV} {vs : List Value}, All2 (LV.den β L) xs vs → All2 (LV.den β L) (zipF ks xs) vs
  | [], _, _, h => h
  | k :: ks, _, _, h => by
    cases h with
    | nil => exact .nil
    | cons h t => exact .cons (LV.fm_den k h) (zipF_den ks t)
def zipC : List FM → List SV → List SV
  | k :: ks, x :: xs => x.fm k :: zipC ks xs
  | _, xs => xs
theorem zipC_den {β : Env} {L : Nat → Option Kd} : ∀ (ks : List FM) {xs : List SV} {vs : List Value}, DenL β L xs vs → DenL β L (zipC ks xs) vs
  | [], _, _, h => h
  | k :: ks, [], _, h => h
  | k :: ks, x :: xs, _, h => by
    cases h with
    | cons h t => exact .cons ((fm_less k).dens h) (zipC_den ks t)
/-- the version is counted anew -/
def SV.re (i c : Nat) : SV → SV
  | .sl j v => if j = i then (if v = c then .sl j 0 else .junk) else .sl j v
  | .vw j v w z n => if j = i then (if v = c then .vw j 0 w z n else .junk) else .vw j v w z n
  | .ep s w z f => .ep (s.re i c) w z f
  | s => s
/-- it is no longer changed -/
def SV.pub (i c : Nat) (t : Ty) (l : List t.D) : SV → SV
  | .sl j v => if j = i then (if v = c then .rd true false t l else .junk) else .sl j v
  | .ep s w z f => .ep (s.pub i c t l) w z f
  | s => s
section
variable {W : World} {hp₀ : Hp} {β₀ β : Env} {hp : Hp} {w : World}
theorem re_less {i c : Nat} {L L' : Nat → Option Kd} (hi : L i = some (.own c)) (hi' : L' i = some (.own 0)) (ho : ∀ j, j ≠ i → L' j = L j) : Less β β L L' (SV.re i c) := by
  have hblk : ∀ {b}, L b = some .blk → L' b = some .blk := fun {b} hb => by
    rw [ho b fun e => by subst e; rw [hi] at hb; cases hb]; exact hb
  refine ⟨fun {s} => ?_, fun _ _ _ => rfl, fun _ _ _ h => h⟩
  induction s with
  | sl j ver =>
    intro v h
    have h1 := SV.den_oneCell h
    simp only [SV.re]
    split
    · rename_i e; subst e
      split
      · rename_i e; subst e
        obtain ⟨k1, c', k2, k3, k4⟩ := h
        rw [hi] at k2; cases k2
        exact ⟨k1, 0, hi', Nat.le_refl _, fun _ => k4 rfl⟩
      · exact h1
    · rename_i e
      obtain ⟨k1, c', k2, k3, k4⟩ := h
      exact ⟨k1, c', by rw [ho j e]; exact k2, k3, k4⟩
  | vw j ver w z n =>
    intro v h
    have h1 := SV.den_oneCell h
    simp only [SV.re]
    split
    · rename_i e; subst e
      split
      · rename_i e; subst e
        obtain ⟨k1, c', k2, k3, k4⟩ := h
        rw [hi] at k2; cases k2
        exact ⟨k1, 0, hi', Nat.le_refl _, fun _ => k4 rfl⟩
      · exact h1
    · rename_i e
      obtain ⟨k1, c', k2, k3, k4⟩ := h
      exact ⟨k1, c', by rw [ho j e]; exact k2, k3, k4⟩
  | ep s w z f ih =>
    rintro v ⟨a, n, c', h1, h2⟩
    exact ⟨a, n, c', ih h1, h2⟩
  | ptr b o => intro v h; exact ⟨hblk h.1, h.2⟩
  | ptrx b base st n z => intro v h; exact ⟨hblk h.1, h.2⟩
  | slice b o l c => intro v h; exact ⟨hblk h.1, h.2⟩
  | vb b o t m z n => intro v h; exact ⟨hblk h.1, h.2⟩
  | _ => intro v h; exact h
theorem pub_less {β' : Env} {i c : Nat} {t : Ty} {l : List t.D} {L : Nat → Option Kd} (hi : L i = some (.own c)) (hb : β'.b = β.b) (hh : β'.h = β.h) (hrd : ∀ pm v t l, β.rd pm v t l → β'.rd pm v t l) (hr : β'.rd true (β.h i) t l) : Less β β' L L (SV.pub i c t l) := by
  have hag : Agree β β' L L := ⟨fun i h => ⟨h, by rw [hb]⟩, fun i c h => ⟨c, h, Nat.le_refl _, fun _ => by rw [hh]⟩, hrd⟩
  refine ⟨fun {s} => ?_, fun _ _ _ => rfl, fun _ _ _ h => hrd _ _ _ _ h⟩
  induction s with
  | sl j ver =>
    intro v h
    have h1 := SV.den_oneCell h
    simp only [SV.pub]
    split
    · rename_i e; subst e
      split
      · rename_i e; subst e
        obtain ⟨k1, c', k2, k3, k4⟩ := h
        rw [hi] at k2; cases k2
        have e := k4 rfl
        subst e
        exact ⟨k1, (fun e => by cases e), .inl hr⟩
      · exact h1
    · exact SV.den_mono hag h
  | ep s w z f ih =>
    rintro v ⟨a, n, c', h1, h2⟩
    exact ⟨a, n, c', ih h1, h2⟩
  | _ => intro v h; exact SV.den_mono hag h
theorem map_item {f : SV → SV} {j : Nat} {y : Item} (hj : (hp.map (Option.map (Item.mapc f)))[j]? = some (some y)) : ∃ x, hp[j]? = some (some x) ∧ y = x.mapc f := by
  rw [List.getElem?_map] at hj
  obtain ⟨o, h1, h2⟩ := map_some hj
  cases o with
  | none => cases h2
  | some x => exact ⟨x, h1, by simpa using h2.symm⟩
theorem kd_map {f : SV → SV} (hp : Hp) : kd (hp.map (Option.map (Item.mapc f))) = kd hp := by
  funext j
  unfold kd
  rw [List.getElem?_map]
  cases hp[j]? with
  | none => rfl
  | some o => cases o with
    | none => rfl
    | some x => simp [Item.mapc_kd]
theorem All2.setL {α β : Type} {R : α → β → Prop} {a : α} : ∀ {l : List α} {m : List β} {k : Nat}, All2 R l m → (∀ b, m[k]? = some b → R a b) → All2 R (l.set k a) m
  | _, _, _, .nil, _ => .nil
  | _, _, 0, .cons h t, hb => .cons (hb _ rfl) t
  | _, _, k + 1, .cons h t, hb => .cons h (t.setL fun b hk => hb b (by simpa using hk))
def oVals (k : IntKind) : List SV → Option (List Int)
  | [] => some []
  | .int k' n :: l => if k' = k then (oVals k l).map (n.val :: ·) else none
  | _ :: _ => none
theorem oVals_ok {β : Env} {L : Nat → Option Kd} {k : IntKind} : ∀ {l : List SV} {m : List Int} {vs : List Value}, oVals k l = some m → DenL β L l vs → HasL ((Ty.int k).has β true) m vs
  | [], m, vs, h, hd => by cases h; cases hd; exact .nil
  | s :: l, m, vs, h, hd => by
    unfold oVals at h
    split at h
    · rename_i e; cases e
    · rename_i e; injection e with e1 e2; subst e1 e2
      split at h
      · rename_i e; subst e
        obtain ⟨m', h1, rfl⟩ := map_some h
        cases hd with
        | cons h2 h3 =>
          obtain ⟨v, rfl, hv⟩ := h2
          exact HasL.cons (x := _) (vs := [v]) (by rw [show v = _ from hv]; rfl) (oVals_ok h1 h3)
      · cases h
    · cases h
def rowL (off n : Nat) (k : IntKind) (l : List SV) : List SV := match oVals k ((l.drop off).take n) with
  | some m => if m.length = n then l.take off ++ .arr (.int k) n m :: (l.drop off).drop n else l
  | none => l
theorem rowL_den {β : Env} {L : Nat → Option Kd} {off n : Nat} {k : IntKind} {l : List SV} {vs : List Value} (h : DenL β L l vs) : DenL β L (rowL off n k l) vs := by
  unfold rowL
  split
  · rename_i m hm
    split
    · rename_i hn
      have e : l = l.take off ++ ((l.drop off).take n ++ (l.drop off).drop n) := by rw [List.take_append_drop, List.take_append_drop]
      rw [e] at h
      obtain ⟨v1, v2, rfl, h1, h2⟩ := HasL.split h
      obtain ⟨v3, v4, rfl, h3, h4⟩ := HasL.split h2
      exact h1.append (HasL.cons (x := .arr (.int k) n m) ⟨hn, oVals_ok hm h3⟩ h4)
    · exact h
  · exact h
def SV.cellsIn : SV → List SV
  | .arr (.int k) n m => if n ≤ 32 then (List.range n).map fun i => .int k (.sym (m.getD i 0)) else [.arr (.int k) n m]
  | s => [s]
theorem map_getD_range : ∀ (m : List Int) (k : IntKind), (List.range m.length).map (fun i => SV.int k (.sym (m.getD i 0))) = m.map fun n => SV.int k (.sym n) := by
  intro m k
  apply List.ext_getElem?
  intro i
  simp only [List.getElem?_map]
  rcases Nat.lt_or_ge i m.length with h1 | h1
  · rw [List.getElem?_range h1]
    simp [List.getD_eq_getElem?_getD, List.getElem?_eq_getElem h1]
  · rw [List.getElem?_eq_none h1, List.getElem?_eq_none (by simpa using h1)]
    rfl
theorem ints_den {β : Env} {L : Nat → Option Kd} {k : IntKind} : ∀ {m : List Int} {vs : List Value}, HasL ((Ty.int k).has β true) m vs → DenL β L (m.map fun n => SV.int k (.sym n)) vs
  | [], _, h => by cases h; exact .nil
  | n :: m, _, h => by
    cases h with
    | cons h1 h2 =>
      have h1' : _ = [Value.int k n] := h1
      subst h1'
      exact HasL.cons (x := SV.int k (.sym n)) ⟨_, rfl, rfl⟩ (ints_den h2)
theorem cellsIn_den {β : Env} {L : Nat → Option Kd} {s : SV} {vs : List Value} (h : s.dens β L vs) : DenL β L s.cellsIn vs := by
  unfold SV.cellsIn
  split
  · rename_i k n m
    split
    · obtain ⟨rfl, h2⟩ := (h : _ ∧ _)
      rw [map_getD_range]
      exact ints_den h2
    · exact HasL.one h
  · exact HasL.one h
def cellL (l : List SV) : List SV := l.flatMap SV.cellsIn
theorem cellL_den {β : Env} {L : Nat → Option Kd} {l : List SV} {vs : List Value} (h : DenL β L l vs) : DenL β L (cellL l) vs := by
  induction h with
  | nil => exact .nil
  | cons h _ ih => exact (cellsIn_den h).append ih
def VV.onL (f : List SV → List SV) : VV → VV
  | .agg l => .agg (f l)
  | x => x
theorem VV.onL_den {β : Env} {L : Nat → Option Kd} {f : List SV → List SV} (hf : ∀ l vs, DenL β L l vs → DenL β L (f l) vs) {x : VV} {v : Value} (h : x.den β L v) : (x.onL f).den β L v := by
  cases x with
  | sc s => exact h
  | agg l => obtain ⟨cs, e, hd⟩ := h; exact ⟨cs, e, hf _ _ hd⟩
def LV.onL (f : List SV → List SV) : LV → LV
  | .one x => .one (x.onL f)
  | .tup l => .tup (l.map (VV.onL f))
  | x => x
theorem LV.onL_den {β : Env} {L : Nat → Option Kd} {f : List SV → List SV} (hf : ∀ l vs, DenL β L l vs → DenL β L (f l) vs) {x : LV} {v : Value} (h : x.den β L v) : (x.onL f).den β L v := by
  cases x with
  | one x => exact VV.onL_den hf h
  | tup l => obtain ⟨vs, e, hd⟩ := h; exact ⟨vs, e, hd.map_left fun _ _ => VV.onL_den hf⟩
  | junk => exact h
def onSlot (f : List SV → List SV) (i : Nat) (fr : List LV) : List LV := match fr[i]? with
  | some x => fr.set i (x.onL f)
  | none => fr
theorem onSlot_den {β : Env} {L : Nat → Option Kd} {f : List SV → List SV} (hf : ∀ l vs, DenL β L l vs → DenL β L (f l) vs) {i : Nat} {fr : List LV} {vs : List Value} (h : All2 (LV.den β L) fr vs) : All2 (LV.den β L) (onSlot f i fr) vs := by
  unfold onSlot
  split
  · rename_i x hx
    refine h.setL fun b hb => ?_
    obtain ⟨b', h1, h2⟩ := h.get hx
    rw [hb] at h1; cases h1
    exact LV.onL_den hf h2
  · exact h
inductive Wk where
  | fr (l : List FM)
  | blk (i : Nat) (l : List FM)
  | ownF (k : Nat) (t : Ty)
  | ownC (i j : Nat) (t : Ty)
  | pub (i : Nat)
  | ver (i : Nat)
  | cut (ids : List Nat)
  /-- a slot's slice is only read -/
  | pubF (k : Nat) (t : Ty)
  /-- a cell's slice is only read -/
  | pubC (i j : Nat) (t : Ty)
  /-- what is reached from the slots is kept -/
  | auto
  /-- all versions are counted anew -/
  | vers
  /-- all own slices are only read -/
  | pubs
  /-- some cells of a block, of a slot, as a row -/
  | rowB (i off n : Nat) (k : IntKind)
  | rowF (i off n : Nat) (k : IntKind)
  /-- short rows of a block, of a slot, as cells -/
  | cellB (i : Nat)
  | cellF (i : Nat)
def nilSl : SV → Bool
  | .con (.slice none 0 0) => true
  | _ => false
def nilLV : LV → Bool
  | .one (.sc s) => nilSl s
  | _ => false
def nodupB : List Nat → Bool
  | [] => true
  | x :: l => !l.any (fun y => decide (y = x)) && nodupB l
def cutf (m : Nat) (ids : List Nat) (i : Nat) : Option Nat := if i < m then some i else (posn ids i).map (· + m)
def wk1 (m : Nat) : Wk → St → Option St
  | .fr l, st => some ⟨zipF l st.fr, st.hp⟩
  | .blk i l, st => match itemAt st.hp i with
    | some (.blk cells e) => some ⟨st.fr, st.hp.set i (some (.blk (zipC l cells) e))⟩
    | _ => some st
  | .ownF k t, st => if nilLV (st.fr.getD k .junk) then some ⟨st.fr.set k (.one (.sc (.sl st.hp.length 0))), setAt st.hp st.hp.length (.own 0 t [])⟩ else some st
  | .ownC i j t, st => match itemAt st.hp i with
    | some (.blk cells e) => if nilSl (cells.getD j .junk) && noRow cells then some ⟨st.fr, (setAt st.hp st.hp.length (.own 0 t [])).set i (some (.blk (cells.set j (.sl st.hp.length 0)) e))⟩ else some st
    | _ => none
  | .pub i, st => if m ≤ i then match itemAt st.hp i with
    | some (.own c t l) => some ⟨st.fr.map (LV.mapc (SV.pub i c t l)), (st.hp.set i (some (.gone c))).map (Option.map (Item.mapc (SV.pub i c t l)))⟩
    | _ => none else none
  | .ver i, st => if m ≤ i then match itemAt st.hp i with
    | some (.own c t l) => some ⟨st.fr.map (LV.mapc (SV.re i c)), (st.hp.set i (some (.own 0 t l))).map (Option.map (Item.mapc (SV.re i c)))⟩
    | _ => none else none
  | .cut ids, st => if m ≤ st.hp.length && ids.all (fun i => decide (m ≤ i)) && nodupB ids then
      some ⟨st.fr.map (LV.mapo (cutf m ids)), (st.hp.take m ++ ids.map (fun i => itemAt st.hp i)).map (Option.map (Item.mapo (cutf m ids)))⟩ else none
  | .rowB i off n k, st => match itemAt st.hp i with
    | some (.blk cells e) => some ⟨st.fr, st.hp.set i (some (.blk (rowL off n k cells) e))⟩
    | _ => some st
  | .rowF i off n k, st => some ⟨onSlot (rowL off n k) i st.fr, st.hp⟩
  | .cellB i, st => match itemAt st.hp i with
    | some (.blk cells e) => some ⟨st.fr, st.hp.set i (some (.blk (cellL cells) e))⟩
    | _ => some st
  | .cellF i, st => some ⟨onSlot cellL i st.fr, st.hp⟩
  | .pubF _ _, _ | .pubC _ _ _, _ | .auto, _ | .vers, _ | .pubs, _ => none
def wkB (m : Nat) : List Wk → St → Option St
  | [], st => some st
  | k :: ks, st => match wk1 m k st with
    | some st' => wkB m ks st'
    | none => none
def isOwn : Option Item → Bool
  | some (.own _ _ _) => true
  | _ => false
def autoIds (m : Nat) (st : St) : List Nat :=
  match (reachA 1000 (st.fr.flatMap LV.refs ++ (List.range m).filter fun i => (itemAt st.hp i).isSome) [] []).val st.hp with
  | some (ids, _) => ids.filter fun i => decide (m ≤ i)
  | none => []
def wkX (m : Nat) : Wk → St → List Wk
  | .pubF k t, st => match st.fr.getD k .junk with
    | .one (.sc (.sl i _)) => [.pub i]
    | _ => [.fr (List.replicate k .keep ++ [.rd true t])]
  | .pubC i j t, st => match itemAt st.hp i with
    | some (.blk cells _) => match cells.getD j .junk with
      | .sl k _ => [.pub k]
      | _ => [.blk i (List.replicate j .keep ++ [.rd true t])]
    | _ => []
  | .auto, st => [.cut (autoIds m st)]
  | .vers, st => (List.range st.hp.length).filterMap fun i => if decide (m ≤ i) && isOwn (itemAt st.hp i) then some (.ver i) else none
  | .pubs, st => (List.range st.hp.length).filterMap fun i => if decide (m ≤ i) && isOwn (itemAt st.hp i) then some (.pub i) else none
  | k, _ => [k]
def wkAll (m : Nat) : List Wk → St → Option St
  | [], st => some st
  | k :: ks, st => match wkB m (wkX m k st) st with
    | some st' => wkAll m ks st'
    | none => none
theorem nilSl_den {β : Env} {L : Nat → Option Kd} {s : SV} {v : Value} (h : nilSl s = true) (hd : s.den β L v) : v = .slice none 0 0 := by
  unfold nilSl at h
  split at h
  · exact hd.2
  · cases h
theorem nodupB_ok : ∀ {l : List Nat}, nodupB l = true → l.Nodup
  | [], _ => List.nodup_nil
  | x :: l, h => by
    simp only [nodupB, Bool.and_eq_true, Bool.not_eq_true', List.any_eq_false, decide_eq_true_eq] at h
    exact List.nodup_cons.2 ⟨fun hm => h.1 x hm rfl, nodupB_ok h.2⟩
theorem HRel.relabel (h : HRel W hp₀ β₀ β hp w) {f : SV → SV} (hl : Less β β (kd hp) (kd hp) f) : HRel W hp₀ β₀ β (hp.map (Option.map (Item.mapc f))) w := by
  refine h.recast (fun j => j) rfl (by rw [kd_map]; exact h.first) (fun j y hj => ?_) fun _ _ _ _ _ _ e => e
  obtain ⟨x, h1, rfl⟩ := map_item hj
  exact ⟨x, h1, fun b => (Owns.mapc rfl rfl).1, by rw [kd_map]; exact hl.item rfl rfl (h.items j x h1), .inl rfl⟩
/-- nothing points in: nil, as an own slice -/
theorem HRel.ownNil (h : HRel W hp₀ β₀ β hp w) (t : Ty) : ∃ β', HRel W hp₀ β₀ β' (setAt hp hp.length (.own 0 t [])) w ∧ Agree β β' (kd hp) (kd (setAt hp hp.length (.own 0 t []))) ∧ (SV.sl hp.length 0).den β' (kd (setAt hp hp.length (.own 0 t []))) (.slice none 0 0) := by
  obtain ⟨β', h1, h2, h3⟩ := h.newOwn (id := hp.length) (kd_length (Nat.le_refl _)) (v := .slice none 0 0) (ver := 0) (t := t) (l := []) (w' := w) (Nat.le_refl _) rfl rfl (fun _ _ => rfl)
    ⟨none, 0, 0, rfl, rfl, Nat.le_refl _, fun _ => rfl, fun h => absurd h (by omega)⟩ (fun a n c e => by simp at e)
  exact ⟨β', h1, h2, rfl, 0, by rw [kd_setAt, if_pos rfl]; rfl, Nat.le_refl _, fun _ => h3.symm⟩
theorem kd_set {i : Nat} {x y : Item} (hi : hp[i]? = some (some x)) (j : Nat) : kd (hp.set i (some y)) j = if j = i then some y.kd else kd hp j := by
  rw [← setAt_at hi, kd_setAt]
theorem get_set {i j : Nat} {x y z : Item} (hi : hp[i]? = some (some x)) (hj : (hp.set i (some y))[j]? = some (some z)) : (j = i ∧ z = y) ∨ (j ≠ i ∧ hp[j]? = some (some z)) := by
  by_cases e : j = i
  · subst e
    rw [List.getElem?_set_self (List.getElem?_eq_some_iff.1 hi).1] at hj
    exact .inl ⟨rfl, by simpa using hj.symm⟩
  · rw [List.getElem?_set_ne (Ne.symm e)] at hj
    exact .inr ⟨e, hj⟩
theorem HRel.setBlk (h : HRel W hp₀ β₀ β hp w) {i : Nat} {cells cells' : List SV} {e : TypeId} (hi : hp[i]? = some (some (.blk cells e))) (hc : ∀ c, DenL β (kd hp) cells c → DenL β (kd hp) cells' c) :
    HRel W hp₀ β₀ β (hp.set i (some (.blk cells' e))) w ∧ kd (hp.set i (some (.blk cells' e))) = kd hp := by
  have hk : kd (hp.set i (some (.blk cells' e))) = kd hp := by
    funext j
    rw [kd_set hi]
    split
    · rename_i e1; rw [e1, kd_of hi]; rfl
    · rfl
  refine ⟨h.redesc hk fun j y hj => ?_, hk⟩
  rcases get_set hi hj with ⟨rfl, rfl⟩ | ⟨_, hj'⟩
  · exact ⟨_, hi, .inr ⟨cells, cells', e, rfl, rfl, hc⟩⟩
  · exact ⟨y, hj', .inl rfl⟩
theorem out_none {i : Nat} (h : hp₀.length ≤ i) {y : Item} : hp₀[i]? ≠ some (some y) := by rw [List.getElem?_eq_none h]; simp
theorem wk_pub (h : HRel W hp₀ β₀ β hp w) {i c : Nat} {t : Ty} {l : List t.D} (hm : hp₀.length ≤ i) (hi : hp[i]? = some (some (.own c t l))) :
    ∃ β', HRel W hp₀ β₀ β' ((hp.set i (some (.gone c))).map (Option.map (Item.mapc (SV.pub i c t l)))) w ∧ Less β β' (kd hp) (kd ((hp.set i (some (.gone c))).map (Option.map (Item.mapc (SV.pub i c t l))))) (SV.pub i c t l) := by
  obtain ⟨h1, hag⟩ := h.upd hi (x' := .gone c) (β' := β) (w' := w) rfl (fun _ _ => rfl) rfl (.inr ⟨c, c, rfl, rfl, Nat.le_refl _, fun _ => rfl⟩) (Nat.le_refl _) rfl rfl (fun _ _ _ => rfl) (fun b ho => ho.elim) (fun _ => trivial)
  have hk : kd (hp.set i (some (.gone c))) = kd hp := by
    funext j
    rw [kd_set hi]
    split
    · rename_i e1; rw [e1, kd_of hi]; rfl
    · rfl
  have hok : OwnOk β w (β.h i) t l := h.items i _ hi
  obtain ⟨h2, hag2, h3⟩ := h1.addRd (pm := true) (v := β.h i) (t := t) (l := l) hok.reads fun b hb => by
    have ho : Owns β (.own c t l) i b := own_blk hok hb
    refine ⟨(h.items i _ hi).lt ho, fun ⟨j, y, hj, ho2⟩ => ?_, .inl ?_⟩
    · rcases get_set hi hj with ⟨rfl, rfl⟩ | ⟨hne, hj'⟩
      · exact ho2.elim
      · exact hne (h.inj j i y _ b hj' hi ho2 ho)
    · rcases h.own i _ b hi ho with k | ⟨y, k, _⟩
      · exact k
      · exact absurd k (out_none hm)
  have hki : kd (hp.set i (some (.gone c))) i = some (.own c) := by rw [hk, kd_of hi]; rfl
  have hl : Less (β.addRd true (β.h i) t l) (β.addRd true (β.h i) t l) (kd (hp.set i (some (.gone c)))) (kd (hp.set i (some (.gone c)))) (SV.pub i c t l) := pub_less hki rfl rfl (fun _ _ _ _ h => h) h3
  refine ⟨_, h2.relabel hl, ?_⟩
  rw [kd_map, hk]
  rw [hk] at hki
  exact pub_less hki rfl rfl hag2.rd h3
theorem wk_ver (h : HRel W hp₀ β₀ β hp w) {i c : Nat} {t : Ty} {l : List t.D} (hm : hp₀.length ≤ i) (hi : hp[i]? = some (some (.own c t l))) :
    HRel W hp₀ β₀ β ((hp.set i (some (.own 0 t l))).map (Option.map (Item.mapc (SV.re i c)))) w ∧ Less β β (kd hp) (kd ((hp.set i (some (.own 0 t l))).map (Option.map (Item.mapc (SV.re i c))))) (SV.re i c) := by
  have hk : ∀ j, kd ((hp.set i (some (.own 0 t l))).map (Option.map (Item.mapc (SV.re i c)))) j = if j = i then some (.own 0) else kd hp j := by
    intro j; rw [kd_map, kd_set hi]; rfl
  have hl : Less β β (kd hp) (kd ((hp.set i (some (.own 0 t l))).map (Option.map (Item.mapc (SV.re i c))))) (SV.re i c) := re_less (by rw [kd_of hi]; rfl) (by rw [hk, if_pos rfl]) fun j hj => by rw [hk, if_neg hj]
  refine ⟨h.recast (fun j => j) rfl ?_ (fun j y hj => ?_) fun _ _ _ _ _ _ e => e, hl⟩
  · have hne : ∀ {j k}, kd hp₀ j = some k → j ≠ i := fun hj e => by subst e; rw [kd_length hm] at hj; cases hj
    exact ⟨fun j hj => ⟨by rw [hk, if_neg (hne hj)]; exact (h.first.blk j hj).1, (h.first.blk j hj).2⟩, fun j k hj => by rw [hk, if_neg (hne hj)]; exact h.first.own j k hj, h.first.rd⟩
  · obtain ⟨x, h1, rfl⟩ := map_item hj
    rcases get_set hi h1 with ⟨rfl, rfl⟩ | ⟨_, h1'⟩
    · exact ⟨_, hi, fun b ho => ho, h.items j _ hi, .inl rfl⟩
    · exact ⟨x, h1', fun b => (Owns.mapc rfl rfl).1, hl.item rfl rfl (h.items j x h1'), .inl rfl⟩
theorem wk_cut (h : HRel W hp₀ β₀ β hp w) {ids : List Nat} (hlen : hp₀.length ≤ hp.length) (hm : ∀ i ∈ ids, hp₀.length ≤ i) (hn : ids.Nodup) :
    ∃ β', HRel W hp₀ β₀ β' ((hp.take hp₀.length ++ ids.map (fun i => itemAt hp i)).map (Option.map (Item.mapo (cutf hp₀.length ids)))) w ∧
      Over (cutf hp₀.length ids) β β' (kd hp) (kd ((hp.take hp₀.length ++ ids.map (fun i => itemAt hp i)).map (Option.map (Item.mapo (cutf hp₀.length ids))))) false := by
  generalize hme : hp₀.length = m at *
  generalize hhp : (hp.take m ++ ids.map (fun i => itemAt hp i)).map (Option.map (Item.mapo (cutf m ids))) = hp'
  let g : Nat → Nat := fun j => if j < m then j else ids.getD (j - m) 0
  have hglo : ∀ {j}, j < m → g j = j := fun hj => if_pos hj
  have hghi : ∀ {j i : Nat}, m ≤ j → ids[j - m]? = some i → g j = i := fun hj hi => by
    show (if _ then _ else _) = _
    rw [if_neg (by omega), getD_of hi]
  have htl : (hp.take m).length = m := by simp; omega
  have hget : ∀ {j y}, hp'[j]? = some (some y) → ∃ x, hp[g j]? = some (some x) ∧ y = x.mapo (cutf m ids) ∧ ((j < m ∧ g j = j) ∨ (m ≤ j ∧ ids[j - m]? = some (g j))) := by
    intro j y hj
    rw [← hhp, List.getElem?_map] at hj
    obtain ⟨o, h1, h2⟩ := map_some hj
    cases o with
    | none => cases h2
    | some x =>
      have h2' : y = x.mapo (cutf m ids) := by simpa using h2.symm
      by_cases hjm : j < m
      · rw [List.getElem?_append_left (by omega), List.getElem?_take, if_pos hjm] at h1
        exact ⟨x, by rw [hglo hjm]; exact h1, h2', .inl ⟨hjm, hglo hjm⟩⟩
      · rw [List.getElem?_append_right (by omega), htl, List.getElem?_map] at h1
        obtain ⟨i, h3, h4⟩ := map_some h1
        have e := hghi (by omega) h3
        exact ⟨x, by rw [e]; exact itemAt_some h4, h2', .inr ⟨by omega, by rw [e]; exact h3⟩⟩
  have hto : ∀ {i j x}, cutf m ids i = some j → hp[i]? = some (some x) → hp'[j]? = some (some (x.mapo (cutf m ids))) ∧ g j = i := by
    intro i j x hf hi
    unfold cutf at hf
    split at hf
    · rename_i him
      cases hf
      refine ⟨?_, hglo him⟩
      rw [← hhp, List.getElem?_map, List.getElem?_append_left (by omega), List.getElem?_take, if_pos him, hi]; rfl
    · obtain ⟨k, hk, rfl⟩ := map_some hf
      have h3 := posn_get hk
      refine ⟨?_, hghi (by omega) (by rw [show k + m - m = k from by omega]; exact h3)⟩
      rw [← hhp, List.getElem?_map, List.getElem?_append_right (by omega), htl, show k + m - m = k from by omega, List.getElem?_map, h3]
      show some (Option.map _ (itemAt hp i)) = _
      rw [itemAt_of hi]; rfl
  let β' : Env := ⟨fun j => β.b (g j), fun j => β.h (g j), β.rd⟩
  have hover : Over (cutf m ids) β β' (kd hp) (kd hp') false := by
    refine ⟨fun b j hj hb => ?_, fun i j c hj hi => ?_, fun _ _ _ h => h, fun _ _ _ _ h => h⟩
    · obtain ⟨x, h1, h2⟩ := kd_some hb
      obtain ⟨h3, h4⟩ := hto hj h1
      exact ⟨by rw [kd_of h3, Item.mapo_kd, h2], congrArg β.b h4⟩
    · obtain ⟨x, h1, h2⟩ := kd_some hi
      obtain ⟨h3, h4⟩ := hto hj h1
      exact ⟨by rw [kd_of h3, Item.mapo_kd, h2], congrArg β.h h4⟩
  have hlt : ∀ {i k}, kd hp₀ i = some k → i < m := fun {i k} hi => by
    rcases Nat.lt_or_ge i m with h1 | h1
    · exact h1
    · rw [kd_length (by omega)] at hi; cases hi
  have hself : ∀ {i}, i < m → cutf m ids i = some i := fun hi => if_pos hi
  refine ⟨β', h.recast g rfl ⟨fun i hi => ?_, fun i c hi => ?_, h.first.rd⟩ (fun j y hj => ?_) (fun j k y z hj hk e => ?_), hover⟩
  · obtain ⟨k1, k2⟩ := h.first.blk i hi
    obtain ⟨k3, k4⟩ := hover.blk i i (hself (hlt hi)) k1
    exact ⟨k3, k4.trans k2⟩
  · obtain ⟨c', k1, k2, k3⟩ := h.first.own i c hi
    obtain ⟨k4, k5⟩ := hover.own i i c' (hself (hlt hi)) k1
    exact ⟨c', k4, k2, fun e => k5.trans (k3 e)⟩
  · obtain ⟨x, h1, rfl, h2⟩ := hget hj
    refine ⟨x, h1, fun b => (Owns.mapo (β := β) (β' := β') rfl rfl).1, ItemOk.over hover (by simp) (fun _ => rfl) (fun _ _ => rfl) (h.items _ x h1), ?_⟩
    rcases h2 with ⟨_, h2⟩ | ⟨_, h2⟩
    · exact .inl h2
    · exact .inr (kd_length (by rw [hme]; exact hm _ (List.mem_of_getElem? h2)))
  · obtain ⟨_, _, _, h1⟩ := hget hj
    obtain ⟨_, _, _, h2⟩ := hget hk
    rcases h1 with ⟨a1, a2⟩ | ⟨a1, a2⟩ <;> rcases h2 with ⟨b1, b2⟩ | ⟨b1, b2⟩
    · omega
    · have := hm _ (List.mem_of_getElem? b2); omega
    · have := hm _ (List.mem_of_getElem? a2); omega
    · rw [e] at a2
      have e1 := posn_of hn a2
      have e2 := posn_of hn b2
      rw [e1] at e2
      have := Option.some.inj e2
      omega
theorem wk1_ok {k : Wk} {st st' : St} (h : wk1 hp₀.length k st = some st') {vals : List Value} (hr : RelV W hp₀ β₀ β st.fr st.hp vals w) : ∃ β', RelV W hp₀ β₀ β' st'.fr st'.hp vals w := by
  obtain ⟨fr, hp⟩ := st
  cases k with
  | fr l => cases h; exact ⟨β, zipF_den l hr.fr, hr.heap⟩
  | blk i l =>
    simp only [wk1] at h
    split at h
    · rename_i cells e hi
      cases h
      obtain ⟨h1, h2⟩ := hr.heap.setBlk (itemAt_some hi) fun c => zipC_den l
      exact ⟨β, by show All2 (LV.den β (kd _)) fr vals; rw [h2]; exact hr.fr, h1⟩
    · cases h; exact ⟨β, hr⟩
  | ownF k t =>
    simp only [wk1] at h
    split at h
    · rename_i hnil
      cases h
      obtain ⟨β', h1, h2, h3⟩ := hr.heap.ownNil t
      refine ⟨β', (hr.fr.imp fun _ _ => LV.den_mono h2).setL fun b hb => ?_, h1⟩
      have hb' : ∃ x, fr[k]? = some x := by
        have : fr.length = vals.length := hr.fr.length
        have hk := (List.getElem?_eq_some_iff.1 hb).1
        exact ⟨_, List.getElem?_eq_getElem (show k < fr.length by omega)⟩
      obtain ⟨x, hx⟩ := hb'
      obtain ⟨b', hb2, hd⟩ := hr.fr.get hx
      rw [hb] at hb2; cases hb2
      simp only [List.getD_eq_getElem?_getD, hx, Option.getD_some] at hnil
      cases x with
      | one x => cases x with
        | sc s =>
          have := nilSl_den hnil hd
          subst this; exact h3
        | agg l => cases hnil
      | tup l => cases hnil
      | junk => cases hnil
    · cases h; exact ⟨β, hr⟩
  | ownC i j t =>
    simp only [wk1] at h
    split at h
    · rename_i cells e hi
      split at h
      · rename_i hnil
        simp only [Bool.and_eq_true] at hnil
        cases h
        obtain ⟨β', h1, h2, h3⟩ := hr.heap.ownNil t
        have hi' : (setAt hp hp.length (.own 0 t []))[i]? = some (some (.blk cells e)) := by
          refine (setAt_other hp _ _ _ _ ?_).2 (itemAt_some hi)
          have := (List.getElem?_eq_some_iff.1 (itemAt_some hi)).1
          omega
        obtain ⟨h4, h5⟩ := h1.setBlk (cells' := cells.set j (.sl hp.length 0)) hi' fun c hc => by
          refine denL_of_all2 ((denL_noRow hnil.2 hc).setL fun b hb => ?_)
          have hall := denL_noRow hnil.2 hc
          have hj := (List.getElem?_eq_some_iff.1 hb).1
          obtain ⟨x, hx⟩ : ∃ x, cells[j]? = some x := ⟨_, List.getElem?_eq_getElem (show j < cells.length by rw [hall.length]; exact hj)⟩
          obtain ⟨b', hb2, hd⟩ := hall.get hx
          rw [hb] at hb2; cases hb2
          have hns : nilSl x = true := by
            have := hnil.1
            rw [List.getD_eq_getElem?_getD, hx] at this
            exact this
          have := nilSl_den hns hd
          subst this; exact h3
        exact ⟨β', by show All2 (LV.den β' (kd _)) fr vals; rw [h5]; exact hr.fr.imp fun _ _ => LV.den_mono h2, h4⟩
      · cases h; exact ⟨β, hr⟩
    · cases h
  | pub i =>
    simp only [wk1] at h
    split at h
    · rename_i hm
      split at h
      · rename_i c t l hi
        cases h
        obtain ⟨β', h1, h2⟩ := wk_pub hr.heap hm (itemAt_some hi)
        exact ⟨β', h2.fr hr.fr, h1⟩
      · cases h
    · cases h
  | ver i =>
    simp only [wk1] at h
    split at h
    · rename_i hm
      split at h
      · rename_i c t l hi
        cases h
        obtain ⟨h1, h2⟩ := wk_ver hr.heap hm (itemAt_some hi)
        exact ⟨β, h2.fr hr.fr, h1⟩
      · cases h
    · cases h
  | cut ids =>
    simp only [wk1] at h
    split at h
    · rename_i hc
      simp only [Bool.and_eq_true, decide_eq_true_eq, List.all_eq_true] at hc
      cases h
      obtain ⟨β', h1, h2⟩ := wk_cut hr.heap hc.1.1 hc.1.2 (nodupB_ok hc.2)
      refine ⟨β', ?_, h1⟩
      have hfr := hr.fr
      show All2 (LV.den β' _) (fr.map _) vals
      exact hfr.map_left fun a b => LV.den_over h2 (by simp)
    · cases h
  | rowB i off n k =>
    simp only [wk1] at h
    split at h
    · rename_i cells e hi
      cases h
      obtain ⟨h1, h2⟩ := hr.heap.setBlk (itemAt_some hi) fun c => rowL_den (off := off) (n := n) (k := k)
      exact ⟨β, by show All2 (LV.den β (kd _)) fr vals; rw [h2]; exact hr.fr, h1⟩
    · cases h; exact ⟨β, hr⟩
  | rowF i off n k => cases h; exact ⟨β, onSlot_den (fun _ _ => rowL_den) hr.fr, hr.heap⟩
  | cellB i =>
    simp only [wk1] at h
    split at h
    · rename_i cells e hi
      cases h
      obtain ⟨h1, h2⟩ := hr.heap.setBlk (itemAt_some hi) fun c => cellL_den
      exact ⟨β, by show All2 (LV.den β (kd _)) fr vals; rw [h2]; exact hr.fr, h1⟩
    · cases h; exact ⟨β, hr⟩
  | cellF i => cases h; exact ⟨β, onSlot_den (fun _ _ => cellL_den) hr.fr, hr.heap⟩
  | pubF k t => cases h
  | pubC i j t => cases h
  | auto => cases h
  | vers => cases h
  | pubs => cases h
theorem wkB_ok : ∀ (ks : List Wk) {st st' : St} {β : Env}, wkB hp₀.length ks st = some st' → ∀ {vals : List Value}, RelV W hp₀ β₀ β st.fr st.hp vals w → ∃ β', RelV W hp₀ β₀ β' st'.fr st'.hp vals w
  | [], _, _, _, h, _, hr => by cases h; exact ⟨_, hr⟩
  | k :: ks, st, _, _, h, _, hr => by
    simp only [wkB] at h
    split at h
    · rename_i st1 h1
      obtain ⟨β1, hr1⟩ := wk1_ok h1 hr
      exact wkB_ok ks h hr1
    · cases h
theorem wk_ok : ∀ (ks : List Wk) {st st' : St} {β : Env}, wkAll hp₀.length ks st = some st' → ∀ {vals : List Value}, RelV W hp₀ β₀ β st.fr st.hp vals w → ∃ β', RelV W hp₀ β₀ β' st'.fr st'.hp vals w
  | [], _, _, _, h, _, hr => by cases h; exact ⟨_, hr⟩
  | k :: ks, st, _, _, h, _, hr => by
    simp only [wkAll] at h
    split at h
    · rename_i st1 h1
      obtain ⟨β1, hr1⟩ := wkB_ok _ h1 hr
      exact wk_ok ks h hr1
    · cases h
end
def Res.wk (m : Nat) (ws : Exit → List Wk) : Res → Res
  | .leaf e st => match wkAll m (ws e) st with
    | some st' => .leaf e st'
    | none => .fail
  | .ite b x y => .ite b (x.wk m ws) (y.wk m ws)
  | .need p x => .need p (x.wk m ws)
  | .fail => .fail
theorem res_wk_sat {m : Nat} {ws : Exit → List Wk} {R : Exit → St → Prop} : ∀ {r : Res}, (r.wk m ws).sat R → r.sat fun e st => ∃ st', wkAll m (ws e) st = some st' ∧ R e st'
  | .leaf e st, h => by
    simp only [Res.wk] at h
    split at h
    · rename_i st' h1; exact ⟨st', h1, h⟩
    · exact h.elim
  | .ite b x y, h => ⟨fun e => res_wk_sat (h.1 e), fun e => res_wk_sat (h.2 e)⟩
  | .need p x, h => ⟨h.1, res_wk_sat h.2⟩
  | .fail, h => h
theorem Rel.wk {W : World} {hp₀ : Hp} {β₀ β : Env} {st st' : St} {a : Act} {w : World} (hr : Rel W hp₀ β₀ β st a w) {ks : List Wk} (h : wkAll hp₀.length ks st = some st') : ∃ β', Rel W hp₀ β₀ β' st' a w := by
  obtain ⟨β', h1⟩ := wk_ok ks h ⟨hr.fr, hr.heap⟩
  exact ⟨β', hr.defers, h1.fr, h1.heap⟩
/-- less is known behind it -/
theorem Ex.wk {P : Program} {hp₀ : Hp} {c : Code} {st : St} {r : Res} (ws : Exit → List Wk) (h : Ex P hp₀ c st r) : Ex P hp₀ c st (r.wk hp₀.length ws) := by
  intro W β₀ R Q hs hq β a w hr
  refine h W β₀ _ Q (res_wk_sat hs) ?_ β a w hr
  rintro e a w ⟨st1, β1, ⟨st2, h1, h2⟩, h3⟩
  obtain ⟨β2, h4⟩ := h3.wk h1
  exact hq _ _ _ ⟨st2, β2, h2, h4⟩
/-- less is known before it -/
theorem Ex.pre {P : Program} {hp₀ : Hp} {c : Code} {st st' : St} {r : Res} (ks : List Wk) (hk : wkAll hp₀.length ks st = some st') (h : Ex P hp₀ c st' r) : Ex P hp₀ c st r := by
  intro W β₀ R Q hs hq β a w hr
  obtain ⟨β2, h4⟩ := hr.wk hk
  exact h W β₀ R Q hs hq β2 a w h4
def End.wk (m : Nat) (ks : List Wk) : End → End
  | .leaf v hp => match wkAll m ks ⟨[v], hp⟩ with
    | some ⟨[v'], hp'⟩ => .leaf v' hp'
    | _ => .fail
  | .ite b x y => .ite b (x.wk m ks) (y.wk m ks)
  | .need p x => .need p (x.wk m ks)
  | .fail => .fail
theorem end_wk_sat {m : Nat} {ks : List Wk} {R : LV → Hp → Prop} : ∀ {r : End}, (r.wk m ks).sat R → r.sat fun v hp => ∃ v' hp', wkAll m ks ⟨[v], hp⟩ = some ⟨[v'], hp'⟩ ∧ R v' hp'
  | .leaf v hp, h => by
    simp only [End.wk] at h
    split at h
    · rename_i v' hp' h1; exact ⟨v', hp', h1, h⟩
    · exact h.elim
  | .ite b x y, h => ⟨fun e => end_wk_sat (h.1 e), fun e => end_wk_sat (h.2 e)⟩
  | .need p x, h => ⟨h.1, end_wk_sat h.2⟩
  | .fail, h => h
theorem CallsT.wk {P : Program} {f : FuncId} {args : List LV} {hp : Hp} {t : End} (ks : List Wk) (h : CallsT P f args hp t) : CallsT P f args hp (t.wk hp.length ks) := by
  intro R hs β w vals hh hargs
  refine (h _ (end_wk_sat hs) β w vals hh hargs).mono ?_
  rintro e w' ⟨val, β', r, hp', rfl, ⟨v', hp2, h1, h2⟩, hd, hr⟩
  obtain ⟨β2, h3⟩ := wk_ok ks h1 (vals := [val]) ⟨.cons hd .nil, hr⟩
  obtain ⟨h4, h5⟩ := h3
  cases h4 with
  | cons h6 _ => exact ⟨val, β2, v', hp2, rfl, h2, h6, h5⟩
end Go.Ev
end

section
set_option linter.unusedVariables false
set_option linter.unusedSimpArgs false
namespace Go.Ev
open Go
/-- F: what the loop comes to from what is known at the beginning of a round -/
theorem Ex.loopF {P : Program} {m : Hp} {c : Code} {X : Type} (μ : X → Nat) (S : X → St) (I : X → Prop) (rnd F : X → Res) (h : ∀ x, I x → Ex P m c (S x) (rnd x))
    (hr : ∀ x R, I x → (F x).sat R → (rnd x).sat fun e s => (e = .normal ∧ ∃ y, s = S y ∧ I y ∧ μ y < μ x ∧ (F y).sat R) ∨ (e ≠ .normal ∧ R e s)) {x : X} (hx : I x) : Ex P m (.loop c) (S x) (F x) := by
  intro W β₀ R Q hs hq β a w hrel
  have key : ∀ (n : Nat) (y : X), I y → μ y < n → (F y).sat R → ∀ β a w, Rel W m β₀ β (S y) a w → Code.rounds P c Q n a w := by
    intro n
    induction n with
    | zero => intro y _ h0; omega
    | succ n ih =>
      intro y hy hn hF β a w hr'
      rw [rounds_succ]
      refine h y hy W β₀ _ _ (hr y R hy hF) ?_ β a w hr'
      rintro e a w ⟨t, β', h1, h2⟩
      rcases h1 with ⟨rfl, z, rfl, hz, hlt, hF'⟩ | ⟨hne, h1⟩
      · exact ih z hz (by omega) hF' β' a w h2
      · cases e with
        | normal => exact absurd rfl hne
        | exit _ => exact hq _ _ _ ⟨t, β', h1, h2⟩
        | goto _ => exact hq _ _ _ ⟨t, β', h1, h2⟩
        | ret => exact hq _ _ _ ⟨t, β', h1, h2⟩
        | panic _ => exact hq _ _ _ ⟨t, β', h1, h2⟩
        | outgrown => exact hq _ _ _ ⟨t, β', h1, h2⟩
  exact wp_loop_rounds (μ x + 1) (key _ x hx (Nat.lt_succ_self _) hs β a w hrel)
theorem Ex.need {P : Program} {m : Hp} {c : Code} {st : St} {p : Prop} {r : Res} (h : p → Ex P m c st r) : Ex P m c st (.need p r) :=
  fun W β₀ R Q hs hq β a w hr => h hs.1 W β₀ R Q hs.2 hq β a w hr
def bodyOf (fn : Func) : Code := fn.body.getD .skip
def blkAt (c : Code) (id : Nat) : List Code := (blks c).filterMap fun p => if p.1 = id then some p.2 else none
/-- the inside of the loop of a block -/
def loopAt (fn : Func) (id : Nat) : Code := match blkAt (bodyOf fn) id with
  | [.loop b] => b
  | _ => .ret
def isLoop : List Code → Bool
  | [.loop _] => true
  | _ => false
theorem loopAt_eq {fn : Func} {id : Nat} (h : isLoop (blkAt (bodyOf fn) id) = true) : blkAt (bodyOf fn) id = [.loop (loopAt fn id)] := by
  unfold loopAt
  generalize blkAt (bodyOf fn) id = l at *
  unfold isLoop at h
  split at h
  · rfl
  · cases h
theorem lookL_mem {LT : LTab} {id : Nat} {f : St → Res} (h : lookL LT id = some f) : (id, f) ∈ LT := by
  induction LT with
  | nil => cases h
  | cons p l ih =>
    obtain ⟨i, g⟩ := p
    simp only [lookL] at h
    split at h
    · rename_i e; subst e; cases h; simp
    · exact List.mem_cons_of_mem _ (ih h)
theorem LOk.ofTab {P : Program} {m : Hp} {LT : LTab} {fn : Func} (h : ∀ p ∈ LT, isLoop (blkAt (bodyOf fn) p.1) = true ∧ ∀ st, Ex P m (.loop (loopAt fn p.1)) st (p.2 st)) : LOk P m LT (bodyOf fn) := by
  refine LOk.of fun id f c' hf hm st => ?_
  obtain ⟨h1, h2⟩ := h _ (lookL_mem hf)
  have : c' ∈ blkAt (bodyOf fn) id := List.mem_filterMap.2 ⟨(id, c'), hm, by simp⟩
  rw [loopAt_eq h1] at this
  simp at this; subst this
  exact h2 st
/-- the inside of a loop, the loops within it known -/
theorem blks_sub {c c' : Code} {id : Nat} (h : (id, c') ∈ blks c) : ∀ p ∈ blks c', p ∈ blks c := by
  induction c with
  | seq a b iha ihb =>
    rcases List.mem_append.1 h with h | h
    · exact fun p hp => List.mem_append_left _ (iha h p hp)
    · exact fun p hp => List.mem_append_right _ (ihb h p hp)
  | cond _ a b iha ihb =>
    rcases List.mem_append.1 h with h | h
    · exact fun p hp => List.mem_append_left _ (iha h p hp)
    · exact fun p hp => List.mem_append_right _ (ihb h p hp)
  | block i c ih =>
    rcases List.mem_cons.1 h with h | h
    · cases h; exact fun p hp => List.mem_cons_of_mem _ hp
    · exact fun p hp => List.mem_cons_of_mem _ (ih h p hp)
  | loop c ih => exact fun p hp => ih h p hp
  | _ => cases h
theorem LOk.inner {P : Program} {m : Hp} {LT : LTab} {fn : Func} {i : Nat} (hi : isLoop (blkAt (bodyOf fn) i) = true) (h : ∀ p ∈ LT, isLoop (blkAt (bodyOf fn) p.1) = true ∧ ∀ st, Ex P m (.loop (loopAt fn p.1)) st (p.2 st)) : LOk P m LT (loopAt fn i) := by
  refine LOk.of fun id f c' hf hm st => ?_
  obtain ⟨h1, h2⟩ := h _ (lookL_mem hf)
  have h3 : Code.loop (loopAt fn i) ∈ blkAt (bodyOf fn) i := by rw [loopAt_eq hi]; simp
  obtain ⟨⟨j, c2⟩, h4, h5⟩ := List.mem_filterMap.1 h3
  simp only at h5
  split at h5
  · cases h5
    have : c' ∈ blkAt (bodyOf fn) id := List.mem_filterMap.2 ⟨(id, c'), blks_sub h4 _ hm, by simp⟩
    rw [loopAt_eq h1] at this
    simp at this; subst this
    exact h2 st
  · cases h5
/-- what one round comes to -/
def rndT (P : Program) (tab : List (FuncId × Ent)) (LT : LTab) (fn : Func) (id : Nat) (hp : Hp) (ws : Exit → List Wk) (st : St) : Res := (exec P (gamOf tab) fork hp LT (loopAt fn id) st).wk hp.length ws
theorem rndT_ok {P : Program} (hmix : P.follows .mixedOrders = true) {tab : List (FuncId × Ent)} (htab : ∀ p ∈ tab, p.2.Ok P p.1) {LT : LTab} {fn : Func} {id : Nat} {hp : Hp} {ws : Exit → List Wk} {st : St} (hL : LOk P hp LT (loopAt fn id)) :
    Ex P hp (loopAt fn id) st (rndT P tab LT fn id hp ws st) := (Ex.of_exec (gam_ok htab) hmix hL rfl).wk ws
/-- what a function comes to -/
def fnT (P : Program) (tab : List (FuncId × Ent)) (LT : LTab) (fn : Func) (args : List LV) (hp : Hp) (ks : List Wk) : End := ((exec P (gamOf tab) fork hp LT (bodyOf fn) (entry fn args hp)).ends P fn).wk hp.length ks
theorem fnT_ok {P : Program} (hmix : P.follows .mixedOrders = true) {tab : List (FuncId × Ent)} (htab : ∀ p ∈ tab, p.2.Ok P p.1) {f : FuncId} {fn : Func} (hf : P.funcs[f]? = some fn) (hb : fn.body.isSome = true) {LT : LTab} {args : List LV} {hp : Hp} {ks : List Wk} (hL : LOk P hp LT (bodyOf fn)) :
    CallsT P f args hp (fnT P tab LT fn args hp ks) := by
  have hb' : fn.body = some (bodyOf fn) := by
    unfold bodyOf
    cases h : fn.body with
    | none => rw [h] at hb; cases hb
    | some c => rfl
  exact (call_of_ex hf hb' (Ex.of_exec (A := fork) (gam_ok htab) hmix hL rfl)).wk ks
/-- out of a function's ends: one end -/
theorem CallsT.use {P : Program} {f : FuncId} {args : List LV} {hp : Hp} {t : End} (h : CallsT P f args hp t) {V : LV} {D : List (Nat × Item)} (hs : t.sat fun v hp' => v = V ∧ hp' = applyD D hp) {Q : LV → List (Nat × Item) → Prop} (hQ : Q V D) :
    CallsEv P f args hp fun v hp' => ∃ d, Q v d ∧ hp' = applyD d hp := by
  refine h _ ?_
  have key : ∀ {t : End}, (t.sat fun v hp' => v = V ∧ hp' = applyD D hp) → t.sat fun v hp' => ∃ d, Q v d ∧ hp' = applyD d hp := by
    intro t
    induction t with
    | leaf v hp' => rintro ⟨rfl, rfl⟩; exact ⟨D, hQ, rfl⟩
    | ite b x y ihx ihy => exact fun h => ⟨fun e => ihx (h.1 e), fun e => ihy (h.2 e)⟩
    | need p x ih => exact fun h => ⟨h.1, ih h.2⟩
    | fail => exact fun h => h
  exact key hs
/-- … which says as much in another way -/
theorem CallsT.useD {P : Program} {f : FuncId} {args : List LV} {hp : Hp} {t : End} (h : CallsT P f args hp t) {V : LV} {D : List (Nat × Item)} (hs : t.sat fun v hp' => (∀ β L val, v.den β L val → V.den β L val) ∧ hp' = applyD D hp) {Q : LV → List (Nat × Item) → Prop} (hQ : Q V D) :
    CallsEv P f args hp fun v hp' => ∃ d, Q v d ∧ hp' = applyD d hp := by
  intro β w vals hh hargs
  refine (h _ hs β w vals hh hargs).mono ?_
  rintro e w' ⟨val, β', r, hp', rfl, ⟨h1, rfl⟩, hd, hr⟩
  exact ⟨val, β', V, _, rfl, ⟨D, hQ, rfl⟩, h1 _ _ _ hd, hr⟩
/-- whole rows of bytes or of words, as rows -/
def rowAll (l : List SV) : List SV :=
  if l.length = 32 then rowL 0 32 .u8 l else if l.length = 8 then rowL 0 8 .u64 (rowL 0 8 .u8 l) else if l.length = 16 then rowL 0 16 .u64 l else l
theorem rowAll_den {β : Env} {L : Nat → Option Kd} {l : List SV} {vs : List Value} (h : DenL β L l vs) : DenL β L (rowAll l) vs := by
  unfold rowAll
  split
  · exact rowL_den h
  · split
    · exact rowL_den (rowL_den h)
    · split
      · exact rowL_den h
      · exact h
/-- a law for numbers that are not written out is one for all -/
def Ent.sym (e : Ent) : Ent := ⟨e.tys, fun args hp => e.run (args.map fun a => (a.mapc SV.symm).onL rowAll) (hp.map (Option.map (Item.mapc SV.symm)))⟩
theorem symm_den {β : Env} {L : Nat → Option Kd} {s : SV} {v : Value} : (s.symm).den β L v ↔ s.den β L v := by cases s <;> exact Iff.rfl
theorem symm_dens {β : Env} {L : Nat → Option Kd} {s : SV} {vs : List Value} : (s.symm).dens β L vs ↔ s.dens β L vs := by cases s <;> exact Iff.rfl
theorem symm_less {β : Env} {L : Nat → Option Kd} : Less β β L L SV.symm := ⟨symm_den.2, fun _ _ _ => rfl, fun _ _ _ h => h⟩
theorem symm_denL {β : Env} {L : Nat → Option Kd} : ∀ {l : List SV} {vs : List Value}, DenL β L (l.map SV.symm) vs → DenL β L l vs
  | [], _, h => h
  | s :: l, _, h => by
    cases h with
    | cons h1 h2 => exact .cons (symm_dens.1 h1) (symm_denL h2)
theorem symm_item {β : Env} {L : Nat → Option Kd} {w : World} {i : Nat} {x : Item} (h : ItemOk β L w i (x.mapc SV.symm)) : ItemOk β L w i x := by
  cases x with
  | blk cells e => obtain ⟨c, fz, h1, h2, h3⟩ := h; exact ⟨c, fz, h1, h2, symm_denL h3⟩
  | _ => exact h
theorem get_applyD : ∀ (d : List (Nat × Item)) {hp hp2 : Hp} {j : Nat} {x : Item}, (∀ (j : Nat) (x : Item), hp[j]? = some (some x) → ∃ y, hp2[j]? = some (some y) ∧ (y = x ∨ y = x.mapc SV.symm)) → (applyD d hp)[j]? = some (some x) → ∃ y, (applyD d hp2)[j]? = some (some y) ∧ (y = x ∨ y = x.mapc SV.symm)
  | [], _, _, j, x, h, hj => h j x hj
  | (i, z) :: d, hp, hp2, j, x, h, hj => by
    refine get_applyD d (hp := setAt hp i z) (hp2 := setAt hp2 i z) (fun k y hk => ?_) hj
    by_cases e : k = i
    · subst e
      rw [setAt_same] at hk; cases hk
      exact ⟨z, setAt_same _ _ _, .inl rfl⟩
    · obtain ⟨y', h1, h2⟩ := h k y ((setAt_other hp i z k y e).1 hk)
      exact ⟨y', (setAt_other hp2 i z k y' e).2 h1, h2⟩
theorem kd_applyD_congr : ∀ (d : List (Nat × Item)) {hp hp2 : Hp}, kd hp = kd hp2 → kd (applyD d hp) = kd (applyD d hp2)
  | [], _, _, h => h
  | (i, z) :: d, hp, hp2, h => kd_applyD_congr d (hp := setAt hp i z) (hp2 := setAt hp2 i z) (by funext j; rw [kd_setAt, kd_setAt, h])
theorem Ent.Ok.sym {P : Program} {f : FuncId} {e : Ent} (he : e.Ok P f) : e.sym.Ok P f := by
  refine ⟨fun args hp Q h β w vals hh hargs => ?_⟩
  generalize hhp : hp.map (Option.map (Item.mapc SV.symm)) = hp2
  have hk : kd hp2 = kd hp := by rw [← hhp]; exact kd_map hp
  have hh2 : HRel w hp2 β β hp2 w := hhp ▸ (hh.relabel symm_less).self
  have hargs2 : All2 (LV.den β (kd hp2)) (args.map fun a => (a.mapc SV.symm).onL rowAll) vals := by
    rw [hk]
    exact hargs.map_left fun a b h => LV.onL_den (fun _ _ => rowAll_den) (symm_less.lv h)
  have hto : ∀ (j : Nat) (x : Item), hp[j]? = some (some x) → ∃ y, hp2[j]? = some (some y) ∧ (y = x ∨ y = x.mapc SV.symm) := by
    intro j x hj
    refine ⟨x.mapc SV.symm, ?_, .inr rfl⟩
    rw [← hhp, List.getElem?_map, hj]; rfl
  have hof : ∀ (j : Nat) (y : Item), hp2[j]? = some (some y) → ∃ x, hp[j]? = some (some x) ∧ y = x.mapc SV.symm := by
    intro j y hj
    rw [← hhp] at hj
    exact map_item hj
  have hrun : (e.run (args.map fun a => (a.mapc SV.symm).onL rowAll) hp2).holds Q := hhp ▸ h
  refine (he.calls _ _ Q hrun β w vals hh2 hargs2).mono ?_
  rintro en w' ⟨val, β', r, hp', rfl, ⟨d, hq, rfl⟩, hd, h'⟩
  have hk2 : kd (applyD d hp2) = kd (applyD d hp) := kd_applyD_congr d hk
  refine ⟨val, β', r, applyD d hp, rfl, ⟨d, hq, rfl⟩, by rw [← hk2]; exact hd, ?_⟩
  have hown : ∀ {x y : Item} {i b : Nat}, (y = x ∨ y = x.mapc SV.symm) → (Owns β' y i b ↔ Owns β' x i b) := by
    rintro x y i b (rfl | rfl)
    · exact Iff.rfl
    · exact Owns.mapc rfl rfl
  refine ⟨fun j x hj => ?_, fun i j x y b hi hj h1 h2 => ?_, ?_, fun i x b hi ho => ?_, h'.os, h'.output, h'.size, fun b hb hno => ?_, fun pm v t l hr => ?_, h'.from_⟩
  · obtain ⟨y, h1, h2⟩ := get_applyD d hto hj
    rw [← hk2]
    have := h'.items j y h1
    rcases h2 with rfl | rfl
    · exact this
    · exact symm_item this
  · obtain ⟨x', a1, a2⟩ := get_applyD d hto hi
    obtain ⟨y', b1, b2⟩ := get_applyD d hto hj
    exact h'.inj i j x' y' b a1 b1 ((hown a2).2 h1) ((hown b2).2 h2)
  · rw [← hk, ← hk2]; exact h'.first
  · obtain ⟨x', a1, a2⟩ := get_applyD d hto hi
    rcases h'.own i x' b a1 ((hown a2).2 ho) with k | ⟨y, k1, k2⟩
    · exact .inl k
    · obtain ⟨x0, k3, rfl⟩ := hof i y k1
      exact .inr ⟨x0, k3, (Owns.mapc rfl rfl).1 k2⟩
  · refine h'.keep b hb fun ⟨j, y, h1, h2⟩ => hno ?_
    obtain ⟨x0, k3, rfl⟩ := hof j y h1
    exact ⟨j, x0, k3, (Owns.mapc rfl rfl).1 h2⟩
  · obtain ⟨h1, h2⟩ := h'.reads pm v t l hr
    refine ⟨h1, fun b hb => ⟨(h2 b hb).1, fun ⟨j, x, hj, ho⟩ => (h2 b hb).2 ?_⟩⟩
    obtain ⟨y, k1, k2⟩ := get_applyD d hto hj
    exact ⟨j, y, k1, (hown k2).2 ho⟩
end Go.Ev
end

section
set_option linter.unusedVariables false
set_option linter.unusedSimpArgs false
namespace Go.Ev
open Go
/-- what has a shape, as data -/
structure Cod (T X : Type) where
  rd : T → Option X
  wr : X → T
  ok : ∀ {t x}, rd t = some x → t = wr x
def Cod.iso {T X Y : Type} (c : Cod T X) (f : X → Y) (g : Y → X) (h : ∀ x, g (f x) = x) : Cod T Y where
  rd t := (c.rd t).map f
  wr y := c.wr (g y)
  ok := by
    intro t y hy
    obtain ⟨x, hx, rfl⟩ := map_some hy
    rw [h]; exact c.ok hx
def sInt (k : IntKind) : Cod SV Int where
  rd s := match s with
    | .int k' (.sym n) => if k' = k then some n else none
    | _ => none
  wr n := .int k (.sym n)
  ok := by
    intro s x h
    split at h
    · split at h
      · rename_i e; subst e; cases h; rfl
      · cases h
    · cases h
def sBool : Cod SV Bool where
  rd s := match s with
    | .bool (.sym b) => some b
    | _ => none
  wr b := .bool (.sym b)
  ok := by
    intro s x h
    split at h
    · cases h; rfl
    · cases h
/-- bytes and the like that are only read -/
def sRd (pm nn : Bool) (t : Ty) : Cod SV (List t.D) where
  rd s := match s with
    | .rd pm' nn' t' l => if h : t' = t then (if pm' = pm ∧ nn' = nn then some (h ▸ l) else none) else none
    | _ => none
  wr l := .rd pm nn t l
  ok := by
    intro s x h
    split at h
    · split at h
      · rename_i e; subst e
        split at h
        · rename_i e; obtain ⟨rfl, rfl⟩ := e; cases h; rfl
        · cases h
      · cases h
    · cases h
def sPtr (b o : Nat) : Cod SV Unit where
  rd s := match s with
    | .ptr b' o' => if b' = b ∧ o' = o then some () else none
    | _ => none
  wr _ := .ptr b o
  ok := by
    intro s x h
    split at h
    · split at h
      · rename_i e; obtain ⟨rfl, rfl⟩ := e; rfl
      · cases h
    · cases h
def sSl (i v : Nat) : Cod SV Unit where
  rd s := match s with
    | .sl b' o' => if b' = i ∧ o' = v then some () else none
    | _ => none
  wr _ := .sl i v
  ok := by
    intro s x h
    split at h
    · split at h
      · rename_i e; obtain ⟨rfl, rfl⟩ := e; rfl
      · cases h
    · cases h
/-- a long row -/
def sArr (t : Ty) (n : Nat) : Cod SV (List t.D) where
  rd s := match s with
    | .arr t' n' l => if h : t' = t then (if n' = n then some (h ▸ l) else none) else none
    | _ => none
  wr l := .arr t n l
  ok := by
    intro s x h
    split at h
    · split at h
      · rename_i e; subst e
        split at h
        · rename_i e; subst e; cases h; rfl
        · cases h
      · cases h
    · cases h
section
variable {T X Y Z : Type}
/-- nothing behind it -/
def lNil : Cod (List T) Unit where
  rd l := match l with
    | [] => some ()
    | _ :: _ => none
  wr _ := []
  ok := by
    intro s x h
    split at h
    · rfl
    · cases h
def lCons (a : Cod T X) (r : Cod (List T) Y) : Cod (List T) (X × Y) where
  rd l := match l with
    | [] => none
    | x :: l => match a.rd x, r.rd l with
      | some x, some y => some (x, y)
      | _, _ => none
  wr p := a.wr p.1 :: r.wr p.2
  ok := by
    intro s x h
    split at h
    · cases h
    · split at h
      · rename_i h1 h2; cases h; rw [a.ok h1, r.ok h2]
      · cases h
/-- one that bears no data -/
def lSkip (a : Cod T Unit) (r : Cod (List T) Y) : Cod (List T) Y where
  rd l := match l with
    | [] => none
    | x :: l => match a.rd x, r.rd l with
      | some _, some y => some y
      | _, _ => none
  wr p := a.wr () :: r.wr p
  ok := by
    intro s x h
    split at h
    · cases h
    · split at h
      · rename_i h1 h2; cases h; rw [a.ok h1, r.ok h2]
      · cases h
def lSkips (a : Cod T Unit) (r : Cod (List T) Y) : Nat → Cod (List T) Y
  | 0 => r
  | n + 1 => lSkip a (lSkips a r n)
end
def oInts (k : IntKind) : List SV → Option (List Int)
  | [] => some []
  | .int k' (.sym n) :: l => if k' = k then (oInts k l).map (n :: ·) else none
  | _ :: _ => none
theorem oInts_ok {k : IntKind} : ∀ {l : List SV} {m : List Int}, oInts k l = some m → l = m.map fun n => .int k (.sym n)
  | [], m, h => by cases h; rfl
  | s :: l, m, h => by
    unfold oInts at h
    split at h
    · rename_i e; cases e
    · rename_i e; injection e with e1 e2; subst e1 e2
      split at h
      · rename_i e; subst e
        obtain ⟨m', h1, rfl⟩ := map_some h
        rw [oInts_ok h1]; rfl
      · cases h
    · cases h
/-- n numbers -/
def rInts (k : IntKind) (n : Nat) : Cod (List SV) (List Int) where
  rd l := match oInts k l with
    | some m => if l.length = n then some m else none
    | none => none
  wr l := (List.range n).map fun i => .int k (.sym (l.getD i 0))
  ok := by
    intro s x h
    split at h
    · rename_i m hm
      split at h
      · rename_i hn
        cases h
        have := oInts_ok hm
        subst this
        simp only [List.length_map] at hn
        subst hn
        apply List.ext_getElem?
        intro i
        simp only [List.getElem?_map]
        rcases Nat.lt_or_ge i x.length with h1 | h1
        · rw [List.getElem?_range h1]
          simp [List.getD_eq_getElem?_getD, List.getElem?_eq_getElem h1]
        · rw [List.getElem?_eq_none h1, List.getElem?_eq_none (by simpa using h1)]
          rfl
      · cases h
    · cases h
section
variable {X Y : Type}
def vOne (s : Cod SV X) : Cod LV X where
  rd x := match x with
    | .one (.sc x) => s.rd x
    | _ => none
  wr x := .one (.sc (s.wr x))
  ok := by
    intro x v h
    split at h
    · rw [s.ok h]
    · cases h
def vAgg (r : Cod (List SV) X) : Cod LV X where
  rd x := match x with
    | .one (.agg x) => r.rd x
    | _ => none
  wr x := .one (.agg (r.wr x))
  ok := by
    intro x v h
    split at h
    · rw [r.ok h]
    · cases h
def vJunk : Cod LV Unit where
  rd x := match x with
    | .junk => some ()
    | _ => none
  wr _ := .junk
  ok := by
    intro x v h
    split at h
    · rfl
    · cases h
def iBlk (e : TypeId) (r : Cod (List SV) X) : Cod (Option Item) X where
  rd x := match x with
    | some (.blk cells e') => if e' = e then r.rd cells else none
    | _ => none
  wr x := some (.blk (r.wr x) e)
  ok := by
    intro x v h
    split at h
    · split at h
      · rename_i e; subst e; rw [r.ok h]
      · cases h
    · cases h
def iOwn (ver : Nat) (t : Ty) : Cod (Option Item) (List t.D) where
  rd x := match x with
    | some (.own ver' t' l) => if h : t' = t then (if ver' = ver then some (h ▸ l) else none) else none
    | _ => none
  wr l := some (.own ver t l)
  ok := by
    intro x v h
    split at h
    · split at h
      · rename_i e; subst e
        split at h
        · rename_i e; subst e; cases h; rfl
        · cases h
      · cases h
    · cases h
/-- a state -/
def stC (a : Cod (List LV) X) (b : Cod Hp Y) : Cod St (X × Y) where
  rd s := match a.rd s.fr, b.rd s.hp with
    | some x, some y => some (x, y)
    | _, _ => none
  wr p := ⟨a.wr p.1, b.wr p.2⟩
  ok := by
    intro s x h
    split at h
    · rename_i h1 h2
      cases h
      obtain ⟨fr, hp⟩ := s
      have e1 := a.ok h1
      have e2 := b.ok h2
      simp only at e1 e2
      subst e1 e2
      rfl
    · cases h
end
/-- junk but for some slots -/
abbrev jk (n : Nat) {Y : Type} (r : Cod (List LV) Y) : Cod (List LV) Y := lSkips vJunk r n
theorem All2.mid {α β : Type} {R : α → β → Prop} : ∀ {x : List α} {a : α} {y : List α} {vs : List β}, All2 R (x ++ a :: y) vs → ∃ u v w, vs = u ++ v :: w ∧ All2 R x u ∧ R a v ∧ All2 R y w
  | [], a, y, _, h => by
    cases h with
    | cons h t => exact ⟨[], _, _, rfl, .nil, h, t⟩
  | b :: x, a, y, _, h => by
    cases h with
    | cons h t =>
      obtain ⟨u, v, w, rfl, h1, h2, h3⟩ := All2.mid t
      exact ⟨_ :: u, v, w, rfl, .cons h h1, h2, h3⟩
def loopF {X : Type} (C : Cod St X) (m : Nat) (ks : List Wk) (F : X → Res) (st : St) : Res := match wkAll m ks st with
  | some st' => match C.rd st' with
    | some x => F x
    | none => .fail
  | none => .fail
theorem loopF_ok {P : Program} {hp : Hp} {c : Code} {X : Type} {C : Cod St X} {ks : List Wk} {F : X → Res} (h : ∀ x, Ex P hp c (C.wr x) (F x)) : ∀ st, Ex P hp c st (loopF C hp.length ks F st) := by
  intro st
  unfold loopF
  split
  · rename_i st' hk
    split
    · rename_i x hx
      exact Ex.pre ks hk (by rw [C.ok hx]; exact h x)
    · exact fun _ _ _ _ hs => hs.elim
  · exact fun _ _ _ _ hs => hs.elim
/-- a loop, its rounds known -/
theorem loopR {P : Program} (hmix : P.follows .mixedOrders = true) {tab : List (FuncId × Ent)} (htab : ∀ p ∈ tab, p.2.Ok P p.1) {LT : LTab} {fn : Func} {id : Nat} {hp : Hp} {ws : Exit → List Wk} (hL : LOk P hp LT (loopAt fn id))
    {X : Type} (μ : X → Nat) (S : X → St) (I : X → Prop) (F : X → Res) {T : X → Res} (hT : ∀ x, I x → rndT P tab LT fn id hp ws (S x) = T x)
    (hr : ∀ x R, I x → (F x).sat R → (T x).sat fun e s => (e = .normal ∧ ∃ y, s = S y ∧ I y ∧ μ y < μ x ∧ (F y).sat R) ∨ (e ≠ .normal ∧ R e s)) (x : X) (hx : I x) : Ex P hp (.loop (loopAt fn id)) (S x) (F x) :=
  Ex.loopF μ S I T F (fun x hx => hT x hx ▸ rndT_ok hmix htab hL) hr hx
theorem tab0 {P : Program} : ∀ p ∈ ([] : List (FuncId × Ent)), p.2.Ok P p.1 := fun _ h => by cases h
theorem tabC {P : Program} {f : FuncId} {e : Ent} {l : List (FuncId × Ent)} (h : e.Ok P f) (hl : ∀ p ∈ l, p.2.Ok P p.1) : ∀ p ∈ (f, e) :: l, p.2.Ok P p.1 := fun p hp => by
  rcases List.mem_cons.1 hp with rfl | hp
  · exact h
  · exact hl p hp
theorem LT0 {P : Program} {hp : Hp} {fn : Func} : ∀ p ∈ ([] : LTab), isLoop (blkAt (bodyOf fn) p.1) = true ∧ ∀ st, Ex P hp (.loop (loopAt fn p.1)) st (p.2 st) := fun _ h => by cases h
theorem LTC {P : Program} {hp : Hp} {fn : Func} {i : Nat} {f : St → Res} {l : LTab} (h1 : isLoop (blkAt (bodyOf fn) i) = true) (h2 : ∀ st, Ex P hp (.loop (loopAt fn i)) st (f st))
    (hl : ∀ p ∈ l, isLoop (blkAt (bodyOf fn) p.1) = true ∧ ∀ st, Ex P hp (.loop (loopAt fn p.1)) st (p.2 st)) : ∀ p ∈ (i, f) :: l, isLoop (blkAt (bodyOf fn) p.1) = true ∧ ∀ st, Ex P hp (.loop (loopAt fn p.1)) st (p.2 st) := fun p hp => by
  rcases List.mem_cons.1 hp with rfl | hp
  · exact ⟨h1, h2⟩
  · exact hl p hp
/-- a function's law -/
def Ent.of {X Y : Type} (tys : List (Option Ty)) (A : Cod (List LV) X) (H : Cod Hp Y) (out : X → Y → Out) : Ent := ⟨tys, fun args hp => match A.rd args, H.rd hp with
  | some x, some y => out x y
  | _, _ => .fail⟩
theorem Ent.ofOk {P : Program} {f : FuncId} (he : Enters P f) {X Y : Type} {tys : List (Option Ty)} {A : Cod (List LV) X} {H : Cod Hp Y} {out : X → Y → Out}
    (h : ∀ x y Q, (out x y).holds Q → CallsEv P f (A.wr x) (H.wr y) fun v hp' => ∃ d, Q v d ∧ hp' = applyD d (H.wr y)) : (Ent.of tys A H out).Ok P f := by
  refine ⟨fun args hp Q hq => ?_⟩
  simp only [Ent.of] at hq
  split at hq
  · rename_i x y hx hy
    rw [A.ok hx, H.ok hy]
    exact (h x y Q hq).done he
  · exact hq.elim
/-- a law for two shapes -/
def Ent.or (e e' : Ent) : Ent := ⟨e.tys, fun args hp => match e.run args hp with
  | .fail => e'.run args hp
  | o => o⟩
theorem Ent.Ok.or {P : Program} {f : FuncId} {e e' : Ent} (h : e.Ok P f) (h' : e'.Ok P f) : (e.or e').Ok P f := by
  refine ⟨fun args hp Q hq => ?_⟩
  simp only [Ent.or] at hq
  split at hq
  · exact h'.calls args hp Q hq
  · exact h.calls args hp Q hq
/-- … of whatever numbers -/
abbrev Ent.ofS {X Y : Type} (tys : List (Option Ty)) (A : Cod (List LV) X) (H : Cod Hp Y) (out : X → Y → Out) : Ent := (Ent.of tys A H out).sym
end Go.Ev
end

section
set_option linter.unusedVariables false
set_option linter.unusedSimpArgs false
namespace Go.Ev
open Go
theorem drop_getD {l : List Int} {j : Nat} (h : j < l.length) : l.drop j = l.getD j 0 :: l.drop (j + 1) := by
  rw [List.drop_eq_getElem_cons h, List.getD_eq_getElem?_getD, List.getElem?_eq_getElem h]; rfl
def By (z : Int) : Prop := 0 ≤ z ∧ z < 256
def AllBy (l : List Int) : Prop := ∀ z ∈ l, By z
theorem AllBy.take {l : List Int} (h : AllBy l) (n : Nat) : AllBy (l.take n) := fun z hz => h z (List.mem_of_mem_take hz)
theorem AllBy.drop {l : List Int} (h : AllBy l) (n : Nat) : AllBy (l.drop n) := fun z hz => h z (List.mem_of_mem_drop hz)
theorem AllBy.append {l m : List Int} (h : AllBy l) (h' : AllBy m) : AllBy (l ++ m) := fun z hz => by
  rcases List.mem_append.1 hz with k | k
  · exact h z k
  · exact h' z k
/-- n rounds, from the k-th on -/
def upto {σ : Type} (f : Nat → σ → σ) : Nat → Nat → σ → σ
  | _, 0, s => s
  | k, m + 1, s => upto f (k + 1) m (f k s)
theorem upto_succ {σ : Type} (f : Nat → σ → σ) : ∀ (m k : Nat) (s : σ), upto f k (m + 1) s = f (k + m) (upto f k m s)
  | 0, k, s => rfl
  | m + 1, k, s => by
    show upto f (k + 1) (m + 1) (f k s) = _
    rw [upto_succ f m (k + 1)]
    show f (k + 1 + m) (upto f (k + 1) m (f k s)) = f (k + (m + 1)) (upto f (k + 1) m (f k s))
    rw [show k + 1 + m = k + (m + 1) from by omega]
theorem upto_add {σ : Type} (f : Nat → σ → σ) : ∀ (m k j : Nat) (s : σ), upto f k (m + j) s = upto f (k + m) j (upto f k m s)
  | 0, k, j, s => by simp [upto]
  | m + 1, k, j, s => by
    rw [show m + 1 + j = (m + j) + 1 from by omega]
    show upto f (k + 1) (m + j) (f k s) = _
    rw [upto_add f m (k + 1) j, show k + 1 + m = k + (m + 1) from by omega]
    rfl
theorem upto_inv {σ : Type} {f : Nat → σ → σ} (I : Nat → σ → Prop) {n : Nat} (hI : ∀ k s, k < n → I k s → I (k + 1) (f k s)) : ∀ (m k : Nat) (s : σ), k + m ≤ n → I k s → I (k + m) (upto f k m s)
  | 0, _, _, _, h => h
  | m + 1, k, s, hn, h => by
    have := upto_inv I hI m (k + 1) (f k s) (by omega) (hI k s (by omega) h)
    rw [show k + 1 + m = k + (m + 1) from by omega] at this
    exact this
theorem upto_congr {σ : Type} {f g : Nat → σ → σ} (I : Nat → σ → Prop) {n : Nat} (hI : ∀ k s, k < n → I k s → I (k + 1) (f k s)) (hfg : ∀ k s, k < n → I k s → f k s = g k s) : ∀ (m k : Nat) (s : σ), k + m ≤ n → I k s → upto f k m s = upto g k m s
  | 0, _, _, _, _ => rfl
  | m + 1, k, s, hn, h => by
    show upto f (k + 1) m (f k s) = upto g (k + 1) m (g k s)
    rw [← hfg k s (by omega) h]
    exact upto_congr I hI hfg m (k + 1) (f k s) (by omega) (hI k s (by omega) h)
/-- a row that is filled -/
theorem upto_sets (g : Nat → Int) : ∀ (m k : Nat) (o : List Int), o.length = k + m → upto (fun k o => o.set k (g k)) k m o = o.take k ++ (List.range m).map fun i => g (k + i)
  | 0, k, o, h => by simp [upto, List.take_of_length_le (show o.length ≤ k by omega)]
  | m + 1, k, o, h => by
    show upto (fun k o => o.set k (g k)) (k + 1) m (o.set k (g k)) = _
    rw [upto_sets g m (k + 1) _ (by simp; omega), List.range_succ_eq_map, List.map_cons, List.map_map]
    have e : (o.set k (g k)).take (k + 1) = o.take k ++ [g k] := by
      rw [List.take_add_one, List.take_set_of_le (Nat.le_refl _)]
      simp [show k < o.length by omega]
    rw [e, List.append_assoc]
    congr 1
    simp only [List.singleton_append, Nat.add_zero]
    congr 1
    apply List.map_congr_left
    intro i _
    show g (k + 1 + i) = g (k + (i + 1))
    congr 1; omega
theorem upto_fill (g : Nat → Int) {n : Nat} {o : List Int} (h : o.length = n) : upto (fun k o => o.set k (g k)) 0 n o = (List.range n).map g := by
  rw [upto_sets g n 0 o (by omega)]
  simp
theorem map_getD {l : List Int} {n : Nat} (h : l.length = n) : (List.range n).map (fun i => l.getD i 0) = l := by
  subst h
  apply List.ext_getElem?
  intro i
  simp only [List.getElem?_map]
  rcases Nat.lt_or_ge i l.length with h1 | h1
  · rw [List.getElem?_range h1]
    simp [List.getD_eq_getElem?_getD, List.getElem?_eq_getElem h1]
  · rw [List.getElem?_eq_none h1, List.getElem?_eq_none (by simpa using h1)]
    rfl
theorem upto_pair {σ τ : Type} (f : Nat → σ → σ) (g : Nat → τ → τ) : ∀ (m k : Nat) (s : σ) (t : τ), upto (fun k (p : σ × τ) => (f k p.1, g k p.2)) k m (s, t) = (upto f k m s, upto g k m t)
  | 0, _, _, _ => rfl
  | m + 1, k, s, t => upto_pair f g m (k + 1) (f k s) (g k t)
/-- a loop of n rounds -/
theorem loopUp {P : Program} (hmix : P.follows .mixedOrders = true) {tab : List (FuncId × Ent)} (htab : ∀ p ∈ tab, p.2.Ok P p.1) {LT : LTab} {fn : Func} {id j : Nat} {hp : Hp} {ws : Exit → List Wk} (hL : LOk P hp LT (loopAt fn id))
    {σ : Type} (n : Nat) (S : Nat → σ → St) (X : σ → St) (f : Nat → σ → σ) (I : Nat → σ → Prop)
    (hT : ∀ k s R, k ≤ n → I k s → (k < n → R .normal (S (k + 1) (f k s))) → (k = n → R (.exit j) (X s)) → (rndT P tab LT fn id hp ws (S k s)).sat R)
    (hI : ∀ k s, k < n → I k s → I (k + 1) (f k s)) (k : Nat) (s : σ) (hk : k ≤ n) (h : I k s) : Ex P hp (.loop (loopAt fn id)) (S k s) (.leaf (.exit j) (X (upto f k (n - k) s))) := by
  refine loopR (ws := ws) (T := fun x => rndT P tab LT fn id hp ws (S x.1 x.2)) hmix htab hL (fun x : Nat × σ => n - x.1) (fun x => S x.1 x.2) (fun x => x.1 ≤ n ∧ I x.1 x.2) (fun x => .leaf (.exit j) (X (upto f x.1 (n - x.1) x.2))) (fun x _ => rfl) (fun x R hx hs => ?_) (k, s) ⟨hk, h⟩
  obtain ⟨k, s⟩ := x
  obtain ⟨hk, hi⟩ := hx
  simp only at hk hi hs ⊢
  refine hT k s _ hk hi (fun hlt => .inl ⟨rfl, (k + 1, f k s), rfl, ⟨hlt, hI k s hlt hi⟩, by simp only; omega, ?_⟩) (fun e => .inr ⟨by simp, ?_⟩)
  · have e : n - k = (n - (k + 1)) + 1 := by omega
    rw [e] at hs
    exact hs
  · subst e
    rw [Nat.sub_self] at hs
    exact hs
/-- a row alone -/
abbrev vRow (k : IntKind) (n : Nat) : Cod LV (List Int) := (vAgg (lCons (sArr (.int k) n) lNil)).iso (fun x => x.1) (fun l => (l, ())) (fun _ => rfl)
/-- n numbers of a block, as a row -/
abbrev iRow (e : TypeId) (k : IntKind) (n : Nat) : Cod (Option Item) (List Int) := (iBlk e (lCons (sArr (.int k) n) lNil)).iso (fun x => x.1) (fun l => (l, ())) (fun _ => rfl)
abbrev iCells (e : TypeId) (k : IntKind) (n : Nat) : Cod (Option Item) (List Int) := iBlk e (rInts k n)
end Go.Ev
end

section
set_option linter.unusedVariables false
set_option linter.unusedSimpArgs false
namespace Go.Proofs.YthdfifcgobfgdaaGreat
open Go Go.Ev
set_option maxRecDepth 100000
theorem mixed : Tryz.prog.follows .mixedOrders = true := by kernel_rfl
noncomputable abbrev prog : Program := Tryz.prog
abbrev u8 : Ty := .int .u8
abbrev nI (n : Int) : LV := .one (.sc (.int .i64 (.sym n)))
abbrev nU (n : Int) : LV := .one (.sc (.int .u64 (.sym n)))
abbrev nB (b : Bool) : LV := .one (.sc (.bool (.sym b)))
abbrev bA : Cod (List LV) (List Int × Unit) := lCons (vOne (sRd false false u8)) lNil
abbrev nRow (k : IntKind) (n : Nat) (l : List Int) : LV := .one (.agg [.arr (.int k) n l])
abbrev p0 : Cod LV Unit := vOne (sPtr 0 0)
/-- what becomes of some slots; the others are let go -/
def fmS (n : Nat) (l : List (Nat × FM)) : List FM := (List.range n).map fun i => match l.find? (fun p => p.1 == i) with
  | some p => p.2
  | none => .drop
def wsE (n : List Wk) (id : Nat) (x : List Wk) : Exit → List Wk
  | .normal => n
  | .exit i => if i = id then x else []
  | _ => []
end Go.Proofs.YthdfifcgobfgdaaGreat
end

section
set_option linter.unusedVariables false
set_option linter.unusedSimpArgs false
namespace Go.Ev
open Go
theorem wrap_u64 {n : Int} (h0 : 0 ≤ n) (h1 : n < 18446744073709551616) : IntKind.u64.wrap n = n := by
  simp only [IntKind.wrap, IntKind.bits, IntKind.signed]
  simp; omega
theorem wrap_u64' (n : Int) : IntKind.u64.wrap n = n % 18446744073709551616 := by
  simp only [IntKind.wrap, IntKind.bits, IntKind.signed]
  simp
theorem wrap_u8 (n : Int) : IntKind.u8.wrap n = n % 256 := by
  simp only [IntKind.wrap, IntKind.bits, IntKind.signed]
  simp
theorem wrap_i64 {n : Int} (h0 : -9223372036854775808 ≤ n) (h1 : n < 9223372036854775808) : IntKind.i64.wrap n = n := by
  simp only [IntKind.wrap, IntKind.bits, IntKind.signed]
  simp
  split <;> omega
theorem toNat_ofInt (n : Nat) (x : Int) : (BitVec.ofInt n x).toNat = (x % (2 ^ n : Nat)).toNat := by simp [BitVec.toNat_ofInt]
theorem and_mask {n m : Nat} (hm : m ≤ n) (x : Int) : (BitVec.ofInt n x &&& BitVec.ofInt n (2 ^ m - 1)).toNat = (x % (2 ^ m : Nat)).toNat := by
  rw [BitVec.toNat_and, toNat_ofInt, toNat_ofInt]
  have hp : (2 : Nat) ^ m ≤ 2 ^ n := Nat.pow_le_pow_right (by omega) hm
  have hpos : 0 < (2 : Nat) ^ m := Nat.two_pow_pos m
  have e : (((2 : Int) ^ m - 1) % ((2 ^ n : Nat) : Int)).toNat = 2 ^ m - 1 := by
    have : ((2 : Int) ^ m - 1) = ((2 ^ m - 1 : Nat) : Int) := by
      rw [Int.natCast_sub (by omega)]; simp
    rw [this, ← Int.natCast_emod, Int.toNat_natCast, Nat.mod_eq_of_lt (by omega)]
  rw [e, Nat.and_two_pow_sub_one_eq_mod]
  have h1 : ((x % ((2 ^ n : Nat) : Int)).toNat % 2 ^ m : Nat) = (x % ((2 ^ m : Nat) : Int)).toNat := by
    have hn0 : 0 ≤ x % ((2 ^ n : Nat) : Int) := Int.emod_nonneg _ (by have := Nat.two_pow_pos n; omega)
    have hm0 : 0 ≤ x % ((2 ^ m : Nat) : Int) := Int.emod_nonneg _ (by omega)
    apply Int.ofNat_inj.1
    rw [Int.natCast_emod, Int.toNat_of_nonneg hn0, Int.toNat_of_nonneg hm0]
    refine Int.emod_emod_of_dvd _ ?_
    exact Int.natCast_dvd_natCast.2 (Nat.pow_dvd_pow 2 hm)
  exact h1
theorem and_u64 {m : Nat} (hm : m < 64) (x y : Int) (hy : y = 2 ^ m - 1) : bitAnd .u64 x y = x % (2 ^ m : Nat) := by
  subst hy
  unfold bitAnd
  have := and_mask (n := 64) (m := m) (by omega) x
  show IntKind.u64.wrap ((BitVec.ofInt 64 x &&& BitVec.ofInt 64 (2 ^ m - 1)).toNat : Int) = _
  rw [this]
  have hm0 : 0 ≤ x % ((2 ^ m : Nat) : Int) := Int.emod_nonneg _ (by have := Nat.two_pow_pos m; omega)
  rw [Int.toNat_of_nonneg hm0]
  have hlt : x % ((2 ^ m : Nat) : Int) < ((2 ^ m : Nat) : Int) := Int.emod_lt_of_pos _ (by have := Nat.two_pow_pos m; omega)
  have hp : (2 : Nat) ^ m ≤ 2 ^ 63 := Nat.pow_le_pow_right (by omega) (by omega)
  exact wrap_u64 hm0 (by have : (2 : Nat) ^ 63 = 9223372036854775808 := by decide
                         omega)
theorem and_i64 {m : Nat} (hm : m < 63) (x y : Int) (hy : y = 2 ^ m - 1) : bitAnd .i64 x y = x % (2 ^ m : Nat) := by
  subst hy
  unfold bitAnd
  have := and_mask (n := 64) (m := m) (by omega) x
  show IntKind.i64.wrap ((BitVec.ofInt 64 x &&& BitVec.ofInt 64 (2 ^ m - 1)).toNat : Int) = _
  rw [this]
  have hm0 : 0 ≤ x % ((2 ^ m : Nat) : Int) := Int.emod_nonneg _ (by have := Nat.two_pow_pos m; omega)
  rw [Int.toNat_of_nonneg hm0]
  have hlt : x % ((2 ^ m : Nat) : Int) < ((2 ^ m : Nat) : Int) := Int.emod_lt_of_pos _ (by have := Nat.two_pow_pos m; omega)
  have hp : (2 : Nat) ^ m ≤ 2 ^ 62 := Nat.pow_le_pow_right (by omega) (by omega)
  exact wrap_i64 (by omega) (by have : (2 : Nat) ^ 62 = 4611686018427387904 := by decide
                                omega)
theorem and_u8 {m : Nat} (hm : m < 8) (x y : Int) (hy : y = 2 ^ m - 1) : bitAnd .u8 x y = x % (2 ^ m : Nat) := by
  subst hy
  unfold bitAnd
  have := and_mask (n := 8) (m := m) (by omega) x
  show IntKind.u8.wrap ((BitVec.ofInt 8 x &&& BitVec.ofInt 8 (2 ^ m - 1)).toNat : Int) = _
  rw [this]
  have hm0 : 0 ≤ x % ((2 ^ m : Nat) : Int) := Int.emod_nonneg _ (by have := Nat.two_pow_pos m; omega)
  rw [Int.toNat_of_nonneg hm0]
  have hlt : x % ((2 ^ m : Nat) : Int) < ((2 ^ m : Nat) : Int) := Int.emod_lt_of_pos _ (by have := Nat.two_pow_pos m; omega)
  have hp : (2 : Nat) ^ m ≤ 2 ^ 7 := Nat.pow_le_pow_right (by omega) (by omega)
  rw [wrap_u8]
  exact Int.emod_eq_of_lt hm0 (by omega)
theorem shr_div (k : IntKind) (x : Int) (n : Nat) (hn : n ≤ k.bits) : shr k x n = x / (2 ^ n : Nat) := by
  unfold shr
  rw [Int.toNat_natCast, Nat.min_eq_left hn, Int.fdiv_eq_ediv_of_nonneg]
  · simp
  · exact Int.le_of_lt (Int.pow_pos (by omega))
theorem shl_mul (k : IntKind) (x : Int) (n : Nat) (hn : n ≤ k.bits) : shl k x n = k.wrap (x * (2 ^ n : Nat)) := by
  unfold shl
  rw [Int.toNat_natCast, Nat.min_eq_left hn]
  simp
/-- bits that do not meet -/
theorem or_add {n : Nat} {m : Nat} {x y : Int} (hx0 : 0 ≤ x) (hxn : x < (2 ^ n : Nat)) (hx : x % (2 ^ m : Nat) = 0) (hy0 : 0 ≤ y) (hy : y < (2 ^ m : Nat)) (hyn : y < (2 ^ n : Nat)) :
    ((BitVec.ofInt n x ||| BitVec.ofInt n y).toNat : Int) = x + y := by
  rw [BitVec.toNat_or, toNat_ofInt, toNat_ofInt, Int.emod_eq_of_lt hx0 hxn, Int.emod_eq_of_lt hy0 hyn]
  obtain ⟨a, rfl⟩ := Int.eq_ofNat_of_zero_le hx0
  obtain ⟨b, rfl⟩ := Int.eq_ofNat_of_zero_le hy0
  simp only [Int.toNat_natCast]
  have hd : a % 2 ^ m = 0 := by
    have := hx; rw [← Int.natCast_emod] at this; omega
  have hb : b < 2 ^ m := by omega
  have e : a = 2 ^ m * (a / 2 ^ m) := (Nat.mul_div_cancel' (Nat.dvd_of_mod_eq_zero hd)).symm
  have := Nat.two_pow_add_eq_or_of_lt hb (a / 2 ^ m)
  rw [← e] at this
  rw [← this]; simp
theorem or_u64 {m : Nat} {x y : Int} (hx0 : 0 ≤ x) (hx : x % (2 ^ m : Nat) = 0) (hy0 : 0 ≤ y) (hy : y < (2 ^ m : Nat)) (h64 : x + y < 18446744073709551616) : bitOr .u64 x y = x + y := by
  unfold bitOr
  have e : (2 ^ 64 : Nat) = 18446744073709551616 := by decide
  have h := or_add (n := 64) hx0 (by omega) hx hy0 hy (by omega)
  show IntKind.u64.wrap ((BitVec.ofInt 64 x ||| BitVec.ofInt 64 y).toNat : Int) = _
  rw [h]; exact wrap_u64 (by omega) h64
theorem or_u8 {m : Nat} {x y : Int} (hx0 : 0 ≤ x) (hx : x % (2 ^ m : Nat) = 0) (hy0 : 0 ≤ y) (hy : y < (2 ^ m : Nat)) (h8 : x + y < 256) : bitOr .u8 x y = x + y := by
  unfold bitOr
  have h := or_add (n := 8) hx0 (by omega) hx hy0 hy (by omega)
  show IntKind.u8.wrap ((BitVec.ofInt 8 x ||| BitVec.ofInt 8 y).toNat : Int) = _
  rw [h, wrap_u8]; omega
theorem or_comm' (k : IntKind) (x y : Int) : bitOr k x y = bitOr k y x := by
  unfold bitOr; rw [BitVec.or_comm]
theorem wrap_ok {n : Int} (h1 : -9223372036854775808 ≤ n) (h2 : n ≤ 9223372036854775807) : IntKind.i64.wrap n = n := by
  rw [IntKind.wrap_i64]; omega
theorem take_all {l : List Int} {n : Nat} (h : l.length = n) : List.take n (List.drop 0 l) = l := by rw [List.drop_zero, List.take_of_length_le (by omega)]
theorem tdiv_nat (k m : Nat) (hk : k < 4611686018427387904) : IntKind.i64.wrap ((k : Int).tdiv (m : Int)) = ((k / m : Nat) : Int) := by
  rw [Int.tdiv_eq_ediv_of_nonneg (by omega), ← Int.natCast_ediv]
  have : k / m ≤ k := Nat.div_le_self _ _
  generalize k / m = q at *
  exact wrap_ok (by omega) (by omega)
theorem wrap_sub (k j : Nat) (h : j ≤ k) (hk : k < 4611686018427387904) : IntKind.i64.wrap ((k : Int) - (j : Int)) = ((k - j : Nat) : Int) := by rw [wrap_ok (by omega) (by omega)]; omega
theorem wrap_succ (k : Nat) (hk : k < 4611686018427387904) : IntKind.i64.wrap ((k : Int) + 1) = ((k + 1 : Nat) : Int) := by rw [wrap_ok (by omega) (by omega)]; rfl
end Go.Ev
end

section
set_option linter.unusedVariables false
set_option linter.unusedSimpArgs false
namespace Go.Proofs.YthdfifcgobfgdaaGreat
open Go Go.Ev Go.ChangeShapes Go.WideShapes Go.ChangeAt Go.RowKit
set_option maxRecDepth 100000
theorem own_knob : ownKnob Tryz.prog.godebug = none := by kernel_rfl
theorem laid_out : laidOutB Tryz.prog = true := by kernel_rfl
theorem maps_rowed : mapsRowed Tryz.prog = true := by kernel_rfl
theorem slices_full : ∀ t e, t < Tryz.prog.types.size → Tryz.prog.underlying t = some (.slice e) → 0 < Tryz.prog.cellsOf e := slices_full_of Tryz.prog (by kernel_rfl)
/-- nothing that was there has turned -/
structure Kept (W W' : World) : Prop where
  os : W'.os = W.os
  output : W'.output = W.output
  size : W.heap.size ≤ W'.heap.size
  block : ∀ b, b < W.heap.size → W'.heap[b]? = W.heap[b]?
theorem Kept.same {W W' : World} (h : Kept W W') {p : MemPlace} (hp : p.block < W.heap.size) : W.sameAt W' p := by
  cases p with
  | cell b o => exact World.cell?_of_block (w := W) (h.block b hp)
  | map b => exact h.block b hp
theorem Kept.but {W W' : World} (h : Kept W W') (may : MemPlace → Prop) : W.keptBut W' may := by
  refine ⟨h.os, h.output, fun i hi => ?_⟩
  rw [h.block i hi]
  split <;> simp_all
theorem trodAll_kept {H : Type} {enc : TypeId × Value → H} {W W' : World} (hk : Kept W W') : ∀ {ts : List TypeId} {vs : List Value} {ds : List (DataW H)} {ps : List MemPlace}, (∀ t ∈ ts, t < Tryz.prog.types.size) →
    DataW.TrodAll enc Tryz.prog W 0 (fun _ => true) true ts vs ds ps → (∀ p ∈ ps, p.block < W.heap.size) → DataW.TrodAll enc Tryz.prog W' 0 (fun b => decide (b < W.heap.size)) true ts vs ds ps
  | [], [], [], _, _, h, _ => h
  | t :: _, _ :: _, _ :: _, _, hT, ⟨p, q, ⟨n, h1⟩, h2, e⟩, hs => by
    have hp : ∀ x ∈ p, x.block < W.heap.size := fun x hx => hs x (by rw [e]; exact List.mem_append_left _ hx)
    have hz : ∀ {t e : TypeId}, t < Tryz.prog.types.size → Tryz.prog.underlying t = some (.slice e) → 0 < Tryz.prog.cellsOf e := fun {t e} a b => slices_full t e a b
    refine ⟨p, q, ⟨n, ?_⟩, trodAll_kept hk (fun t ht => hT t (List.mem_cons.2 (Or.inr ht))) h2 (fun x hx => hs x (by rw [e]; exact List.mem_append_right _ hx)), e⟩
    exact DataW.trod_stays (T := fun t => t < Tryz.prog.types.size) (kids_rows laid_out maps_rowed) hz (fun h => by cases h) (hT t (List.mem_cons.2 (Or.inl rfl))) h1 (fun x hx => hk.same (hp x hx)) (fun x hx => by simpa using hp x hx)
  | [], _ :: _, _, _, _, h, _ => h.elim
  | [], [], _ :: _, _, _, h, _ => h.elim
  | _ :: _, [], _, _, _, h, _ => h.elim
  | _ :: _, _ :: _, [], _, _, h, _ => h.elim
/-- what a law's statement asks, behind its call -/
theorem law_post {H : Type} {enc : TypeId × Value → H} {fn : Func} {s : ChangeSpec} {W W' : World} {args : Array Value} {ds gs : List (DataW H)} {before : List MemPlace} {tb : TypeId} {apart : Bool}
    (hr : fn.resultTypes = #[tb]) (hb : Tryz.prog.underlying tb = some .bool) (hT : ∀ t ∈ fn.params.toList, t < Tryz.prog.types.size)
    (hW : DataW.Whole enc Tryz.prog fn.params.toList s.vars apart W args.toList ds gs before) (hv : s.vars = []) (hs : s.fn H ds = { results := [.lit (.bool true)], args := ds })
    (hk : Kept W W') : s.post enc Tryz.prog fn apart true false false W args (.bool true) W' := by
  have hlt := hW.lt
  have hW' := hW
  obtain ⟨p, q, h1, h2, h3, h4, h5⟩ := hW
  rw [hv] at h2
  obtain ⟨rfl, rfl⟩ := trodVars_none h2
  rw [List.append_nil] at h3
  subst h3
  have e : s.fn H (ds ++ []) = { results := [.lit (.bool true)], args := ds } := by rw [List.append_nil]; exact hs
  refine ⟨ds, [], before, [], before, [], hW', ?_, ?_, ?_, hk.but _, fun h => by cases h⟩
  · rw [e, hr]
    exact trodAll_cons_mk (shut_bool hb true) trodAll_mk0
  · rw [e]
    exact trodAll_kept hk hT h1 hlt
  · rw [hv, e]; rfl
/-- what can be read at the beginning -/
def env00 : Env := ⟨fun _ => 0, fun _ => .nilIface, fun _ _ _ _ => False⟩
def env0 (W : World) : Env := ⟨fun _ => 0, fun _ => .nilIface, fun pm v t l => pm = false ∧ 0 < t.w ∧ ReadsAs env00 false W v t l⟩
theorem env0_rel (W : World) : HRel W [] (env0 W) (env0 W) [] W := by
  refine ⟨fun i x h => by simp at h, fun i j x y b h => by simp at h, Agree.refl _ _, fun i x b h => by simp at h, rfl, rfl, Nat.le_refl _, fun _ _ _ => rfl, fun pm v t l h => ?_, fun pm v t l b h1 h2 => .inr ⟨pm, v, t, l, id, h1, h2⟩⟩
  obtain ⟨rfl, hw, h⟩ := h
  refine ⟨h.mono (β' := env0 W) (fun _ _ _ _ (h : False) => h.elim), fun b hb => ⟨?_, fun ⟨i, x, hi, _⟩ => by simp at hi⟩⟩
  obtain ⟨a, n, c, rfl, hn, hc, _, hr⟩ := h
  cases a with
  | none => exact hb.elim
  | some a =>
    obtain ⟨h0, rfl⟩ := hb
    obtain ⟨a0, vss, e, h1, h2, h3⟩ := hr h0
    cases e
    refine h3.lt fun e => ?_
    have h4 := hasL_length h2
    rw [e, ← hn] at h4
    have := Nat.mul_pos h0 hw
    simp at h4
    omega
theorem calls_of_ent {f : FuncId} {e : Ent} (hent : Enters Tryz.prog f) (he : e.Ok Tryz.prog f) {args : List LV} {q : Option Prop} (hrun : e.run args [] = .leaf q (nB true) []) (hq : needs q) (W : World) {vals : Array Value} (hd : All2 (LV.den (env0 W) (kd [])) args vals.toList) :
    Calls Tryz.prog f vals W fun e W' => e = .returned (.bool true) ∧ Kept W W' := by
  have key := he.calls args [] (fun v d => v = nB true ∧ d = []) (by rw [hrun]; exact ⟨hq, rfl, rfl⟩) (env0 W) W vals.toList (env0_rel W) hd
  rw [show vals.toList.toArray = vals from by simp] at key
  have key := key.resolve_left (by rintro ⟨val, h1, _⟩; rw [hent] at h1; cases h1) |>.2
  refine key.mono ?_
  rintro e W' ⟨val, β', r, hp', rfl, ⟨d, ⟨rfl, rfl⟩, rfl⟩, h3, h4⟩
  have : val = .bool true := h3
  subst this
  exact ⟨rfl, h4.os, h4.output, h4.size, fun b hb => h4.keep b hb fun ⟨i, x, hi, _⟩ => by simp at hi⟩
theorem params_in {fn : Func} (h : (fn.params.toList.all fun t => decide (t < Tryz.prog.types.size)) = true) : ∀ t ∈ fn.params.toList, t < Tryz.prog.types.size := fun t ht => by
  simpa using List.all_eq_true.1 h t ht
inductive Bt where
  | int (k : IntKind)
  | bool
def Bt.fits : Bt → Value → Prop
  | .int k, v => ∃ z, v = .int k z ∧ (Lit.int k z).wf = true
  | .bool, v => ∃ b, v = .bool b
/-- the kinds of a row of cells, where they are numbers alone -/
def flatT (P : Program) : Nat → TypeId → Option (List Bt)
  | 0, _ => none
  | n + 1, t => match P.underlying t with
    | some .bool => some [.bool]
    | some (.int k) => some [.int k]
    | some (.struct fs) => (fs.toList.foldl (fun acc f => match acc with
        | some l => if f.offset = l.length then match flatT P n f.type with
            | some m => if m.length = P.cellsOf f.type then some (l ++ m) else none
            | none => none
          else none
        | none => none) (some [])).bind fun l => if l.length = P.cellsOf t then some l else none
    | some (.array k e) => match flatT P n e with
        | some m => if m.length = P.cellsOf e ∧ P.cellsOf t = k * m.length then some ((List.replicate k m).flatten) else none
        | none => none
    | _ => none
section
variable {H : Type} {enc : TypeId × Value → H} {P : Program} {w : World} {base : Nat} {spare : Nat → Bool} {held : Bool}
theorem flat_ok : ∀ (n : Nat) {t : TypeId} {ks : List Bt}, flatT P n t = some ks → ∀ {fuel : Nat} {cs : List Value} {x : DataW H × List MemPlace}, DataW.trod enc P w base spare held fuel t cs = some x → All2 Bt.fits ks cs
  | 0, _, _, h, _, _, _, _ => by cases h
  | n + 1, t, ks, h, fuel, cs, x, hx => by
    simp only [flatT] at h
    cases hu : P.underlying t with
    | none => rw [hu] at h; cases h
    | some d =>
      rw [hu] at h
      cases d with
      | bool =>
        cases h
        cases fuel with
        | zero => simp [DataW.trod] at hx
        | succ m =>
          unfold DataW.trod at hx
          rw [hu] at hx
          split at hx <;> simp_all
          exact .cons ⟨_, rfl⟩ .nil
      | int k =>
        cases h
        cases fuel with
        | zero => simp [DataW.trod] at hx
        | succ m =>
          unfold DataW.trod at hx
          rw [hu] at hx
          split at hx <;> simp_all
          obtain ⟨⟨rfl, hz⟩, _⟩ := hx
          exact .cons ⟨_, rfl, hz⟩ .nil
      | struct fs =>
        obtain ⟨xs, m, _, _, hl, hlen, hf⟩ := DataW.trod_struct hu hx
        obtain ⟨l, hl1, hl2⟩ := Option.bind_eq_some_iff.1 h
        split at hl2
        · rename_i hle
          cases hl2
          have hfs : ∀ f ∈ fs.toList, ∃ y, DataW.trod enc P w base spare held m f.type ((cs.drop f.offset).take (P.cellsOf f.type)) = some y := by
            intro f hfm
            obtain ⟨i, hi, rfl⟩ := List.getElem_of_mem hfm
            have hi' : i < fs.size := by simpa using hi
            have := hf i fs[i] (by simp [hi'])
            rw [List.getElem?_eq_getElem (by omega)] at this
            exact ⟨_, this⟩
          have key : ∀ (fl : List Field) (acc l : List Bt), (∀ f ∈ fl, ∃ y, DataW.trod enc P w base spare held m f.type ((cs.drop f.offset).take (P.cellsOf f.type)) = some y) →
              fl.foldl (fun acc f => match acc with
                | some l => if f.offset = l.length then match flatT P n f.type with
                    | some m => if m.length = P.cellsOf f.type then some (l ++ m) else none
                    | none => none
                  else none
                | none => none) (some acc) = some l → All2 Bt.fits acc (cs.take acc.length) → All2 Bt.fits l (cs.take l.length) := by
            intro fl
            induction fl with
            | nil => intro acc l _ h1 h2; simp at h1; subst h1; exact h2
            | cons f fl ih =>
              intro acc l hfs h1 h2
              simp only [List.foldl_cons] at h1
              have hnone : ∀ fl : List Field, fl.foldl (fun acc f => match acc with
                | some l => if f.offset = l.length then match flatT P n f.type with
                    | some m => if m.length = P.cellsOf f.type then some (l ++ m) else none
                    | none => none
                  else none
                | none => none) (none : Option (List Bt)) = none := by
                intro fl
                induction fl with
                | nil => rfl
                | cons f fl ih => exact ih
              split at h1
              · rename_i ho
                split at h1
                · rename_i mk hmk
                  split at h1
                  · rename_i hmc
                    obtain ⟨y, hy⟩ := hfs f (by simp)
                    have hft := flat_ok n hmk hy
                    rw [ho, ← hmc] at hft
                    refine ih (acc ++ mk) l (fun f hf => hfs f (by simp [hf])) h1 ?_
                    rw [List.length_append, List.take_add]
                    exact h2.append hft
                  · rw [hnone] at h1; cases h1
                · rw [hnone] at h1; cases h1
              · rw [hnone] at h1; cases h1
          have := key fs.toList [] ks hfs hl1 .nil
          rwa [List.take_of_length_le (by omega)] at this
        · cases hl2
      | array k e =>
        simp only at h
        split at h
        · rename_i mk hmk
          split at h
          · rename_i hc
            cases h
            obtain ⟨xs, m, _, _, hl, hlen, hf⟩ := DataW.trod_array hu hx
            have hsub : ∀ i, i < k → All2 Bt.fits mk ((cs.drop (i * mk.length)).take mk.length) := by
              intro i hi
              have := hf i hi
              rw [List.getElem?_eq_getElem (by omega)] at this
              have h2 := flat_ok n hmk this
              rwa [← hc.1] at h2
            have key : ∀ (j : Nat), j ≤ k → All2 Bt.fits (List.replicate j mk).flatten (cs.take (j * mk.length)) := by
              intro j
              induction j with
              | zero => intro _; simp; exact .nil
              | succ j ih =>
                intro hj
                rw [List.replicate_succ', List.flatten_append, Nat.succ_mul, List.take_add]
                have := hsub j (by omega)
                exact (ih (by omega)).append (by simpa using this)
            have := key k (Nat.le_refl _)
            rwa [List.take_of_length_le (by omega)] at this
          · cases h
        · cases h
      | _ => cases h
end
/-- a row of numbers of one kind -/
theorem fits_row {k : IntKind} {β : Env} {pm : Bool} : ∀ (n : Nat) {ks : List Bt} {cs : List Value}, All2 Bt.fits (List.replicate n (.int k) ++ ks) cs →
    ∃ (l : List Int) (us rest : List Value), cs = us ++ rest ∧ l.length = n ∧ us = l.map (.int k) ∧ HasL ((Ty.int k).has β pm) l us ∧ (∀ z ∈ l, (Lit.int k z).wf = true) ∧ All2 Bt.fits ks rest
  | 0, _, cs, h => ⟨[], [], cs, rfl, rfl, rfl, .nil, (fun _ h => by cases h), h⟩
  | n + 1, ks, cs, h => by
    rw [List.replicate_succ, List.cons_append] at h
    cases h with
    | cons h1 h2 =>
      obtain ⟨z, rfl, hz⟩ := h1
      obtain ⟨l, us, rest, rfl, h3, h4, h5, h6, h7⟩ := fits_row n h2
      exact ⟨z :: l, .int k z :: us, rest, rfl, by simp [h3], by rw [h4]; rfl, HasL.cons (vs := [.int k z]) rfl h5, (fun y hy => by
        rcases List.mem_cons.1 hy with rfl | hy
        · exact hz
        · exact h6 y hy), h7⟩
theorem wf_u8 {z : Int} (h : (Lit.int .u8 z).wf = true) : By z := by
  have := bounds_u8 h
  unfold By; omega
end Go.Proofs.YthdfifcgobfgdaaGreat
end

section
set_option linter.unusedVariables false
set_option linter.unusedSimpArgs false
namespace Go.Proofs.YthdfifcgobfgdaaGreat
open Go Go.Ev Go.ChangeShapes Go.WideShapes Go.ChangeAt Go.RowKit
set_option maxRecDepth 100000
theorem open_row {H : Type} {enc : TypeId × Value → H} {W : World} {base : Nat} {v : Value} {d : DataW H} {p : List MemPlace} {t e : TypeId} (n : Nat) (hu : Tryz.prog.underlying t = some (.array n e)) (hf : flatT Tryz.prog 10 t = some (List.replicate n (.int .u8)))
    (hval : Value.okWide Tryz.prog W .any base t v) (h : DataW.Trod enc Tryz.prog W 0 (fun _ => true) true t v d p) :
    ∃ l : List Int, (l.length = n ∧ AllBy l) ∧ (nRow .u8 n l).den (env0 W) (kd []) v := by
  unfold Value.okWide at hval
  rw [hu] at hval
  obtain ⟨cs, rfl, _, _⟩ := hval
  obtain ⟨fuel, h⟩ := h
  have hfit := flat_ok 10 hf h
  rw [← List.append_nil (List.replicate n (Bt.int .u8))] at hfit
  obtain ⟨l, us, rest, e, hl, _, hd, hw, hr⟩ := fits_row (β := env0 W) (pm := true) n hfit
  cases hr
  rw [List.append_nil] at e
  refine ⟨l, ⟨hl, fun z hz => wf_u8 (hw z hz)⟩, us, ?_, ?_⟩
  · simp only [Value.cells] at e
    rw [← e]
  · have := HasL.cons (R := SV.dens (env0 W) (kd [])) (x := .arr (.int .u8) n l) (vs := us) (show (SV.arr (.int .u8) n l).dens (env0 W) (kd []) us from ⟨hl, hd⟩) .nil
    rwa [List.append_nil] at this
theorem open_row32 {H : Type} {enc : TypeId × Value → H} {W : World} {base : Nat} {v : Value} {d : DataW H} {p : List MemPlace}
    (hval : Value.okWide Tryz.prog W .any base 22 v) (h : DataW.Trod enc Tryz.prog W 0 (fun _ => true) true 22 v d p) : ∃ l : List Int, (l.length = 32 ∧ AllBy l) ∧ (nRow .u8 32 l).den (env0 W) (kd []) v := open_row 32 Tryz.underlying22 (by kernel_rfl) hval h
end Go.Proofs.YthdfifcgobfgdaaGreat
end

section
set_option linter.unusedVariables false
set_option linter.unusedSimpArgs false
namespace Go.Proofs.YthdfifcgobfgdaaGreat
open Go Go.Ev Go.Lib Go.RowKit
set_option maxHeartbeats 4000000
theorem grow_none (w : World) : Calls Tryz.prog 70 #[.slice none 0 0, .int .i64 0] w fun e w' => e = .returned (.slice none 0 0) ∧ w' = w := by
  go_enter Tryz.func70, Tryz.ntmps70
  go_wp2
  go_ret
  exact ⟨rfl, rfl⟩
theorem grow_some (n : Nat) (w : World) (h0 : 0 < n) (h1 : n ≤ 140737488355328) : Calls Tryz.prog 70 #[.slice none 0 0, .int .i64 n] w fun e w' =>
    e = .returned (.slice (some ⟨w.heap.size, 0, none⟩) 0 (grownCap w n 0 5)) ∧
      w' = w.drew.alloc (.cells (#[] ++ Builtin.zeroCells (Value.int .u8 0).cells n ++ Builtin.zeroCells (Value.int .u8 0).cells (grownCap w n 0 5 - n)) 5) := by
  have h2 : ¬ ((n : Int) < 0) := by omega
  have h3 : wrap64 ((0 : Int) - (0 : Int)) = 0 := by unfold wrap64; omega
  have h4 : wrap64 ((n : Int) - 0) = (n : Int) := by unfold wrap64; omega
  have h5 : (n : Int) > 0 := by omega
  have hG63 : grownCap w n 0 5 ≤ 9223372036854775807 := by
    have := grownCap_le_maxLen w n 0 5 (by unfold maxLen; omega)
    unfold maxLen at this
    omega
  have hrz : ∀ ty, (Builtin.append_ #[23, 3] ty #[.slice none 0 0, .int .i64 n]).run Tryz.prog w =
      .ok (.slice (some ⟨w.heap.size, 0, none⟩) n (grownCap w n 0 5)) (w.drew.alloc (.cells (#[] ++ Builtin.zeroCells (Value.int .u8 0).cells n ++ Builtin.zeroCells (Value.int .u8 0).cells (grownCap w n 0 5 - n)) 5)) := fun ty => by
    have hi0 : (Tryz.prog.info? 5).map (fun i => (i.zero, i.size, i.bytes)) = some (some (.int .u8 0), 1, 1) := by kernel_rfl
    obtain ⟨i, hi, he⟩ := map_some hi0
    have e1 : i.zero = some (.int .u8 0) := congrArg Prod.fst he
    have e2 : i.size = 1 := congrArg (fun x => x.2.1) he
    have e3 : i.bytes = 1 := congrArg (fun x => x.2.2) he
    have hb : n * i.bytes ≤ 140737488355328 := by rw [e3]; omega
    have h := Lib.run_append_grow_zeros (P := Tryz.prog) w 23 3 ty 5 i (.int .u8 0) .i64 .i64 (by kernel_rfl) (by kernel_rfl) hi e1 none 0 0 [] (run_firstCells_none w.drew i.size 0 0 0) n h0 (by omega) (by omega) (by omega) (by omega)
      (growslice_fits (need := 0 + n) (old := 0) (by omega) (by rw [Nat.zero_add]; exact hb))
    rw [Nat.zero_add] at h
    exact h
  have hGn : n ≤ grownCap w n 0 5 := grownCap_ge w _ _ _
  generalize grownCap w n 0 5 = G at *
  go_enter Tryz.func70, Tryz.ntmps70
  go_wp2_with (at_builtin; refine Lib.wpList_append_run _ rfl _ _ _ _ rfl _ _ rfl rfl _ _ (hrz _) ?_)
  all_goals (go_ret; exact ⟨rfl, rfl⟩)
def growE : Ent := ⟨[], fun args hp => match args, hp with
  | [.one (.sc (.con (.slice none 0 0))), .one (.sc (.int .i64 n))], [] => .leaf (some (0 ≤ n.val ∧ n.val ≤ 140737488355328)) (.one (.sc (.sl 0 0))) [(0, .own 0 (.int .u8) [])]
  | _, _ => .fail⟩
theorem grow_ok : growE.Ok Tryz.prog 70 := by
  refine ⟨fun args hp Q h => CallsEv.done Tryz.call70 ?_⟩
  simp only [growE] at h
  split at h
  · rename_i args hp n
    obtain ⟨⟨h0, h1⟩, hq⟩ := h
    intro β w vals hh hargs
    cases hargs with
    | cons a1 t1 =>
      cases t1 with
      | cons a2 t2 =>
        cases t2
        rename_i v1 v2
        obtain rfl : v1 = .slice none 0 0 := a1.2
        have e : v2 = .int .i64 n.val := a2
        subst e
        rcases Int.lt_or_le 0 n.val with hn | hn
        · obtain ⟨k, hk⟩ : ∃ k : Nat, n.val = k := ⟨n.val.toNat, by omega⟩
          rw [hk] at h0 h1 hn ⊢
          refine (grow_some k w (by omega) (by omega)).mono ?_
          rintro e w' ⟨rfl, rfl⟩
          have hGn : k ≤ grownCap w k 0 5 := grownCap_ge w _ _ _
          generalize grownCap w k 0 5 = G at *
          generalize hcs : (#[] ++ Builtin.zeroCells (Value.int .u8 0).cells k ++ Builtin.zeroCells (Value.int .u8 0).cells (G - k)) = cs
          have hlen : cs.toList.length = G := by
            rw [← hcs]; simp [Builtin.zeroCells, Value.cells]; omega
          have hdr : HRel w [] β β [] w.drew := hh.drew _ _
          obtain ⟨β', k1, k2, k3⟩ := hdr.newOwn (id := 0) rfl (v := .slice (some ⟨w.heap.size, 0, none⟩) 0 G) (ver := 0) (t := .int .u8) (l := []) (w' := w.drew.alloc (.cells cs 5)) (by simp) rfl rfl (fun b hb => heap_alloc_old w.drew _ hb)
            ⟨_, _, _, rfl, rfl, Nat.zero_le _, fun e => (by cases e), fun _ => ⟨_, [], [], cs.toList, 5, (0, 0), rfl, rfl, by simpa using heap_alloc_new w.drew (.cells cs 5), rfl, .nil, by simp [Ty.w, hlen], .inl rfl⟩⟩
            (fun a n c e _ => by cases e; exact Nat.le_refl _)
          exact ⟨_, β', _, _, rfl, ⟨_, hq, rfl⟩, ⟨rfl, 0, by rw [show applyD _ [] = setAt [] 0 _ from rfl, kd_setAt, if_pos rfl]; rfl, Nat.le_refl _, fun _ => k3.symm⟩, k1⟩
        · have hn0 : n.val = 0 := by omega
          rw [hn0]
          refine (grow_none w).mono ?_
          rintro e w' ⟨rfl, rfl⟩
          obtain ⟨β', k1, k2, k3⟩ := hh.ownNil (.int .u8)
          exact ⟨_, β', _, _, rfl, ⟨_, hq, rfl⟩, k3, k1⟩
  · exact h.elim
end Go.Proofs.YthdfifcgobfgdaaGreat
end

section
set_option linter.unusedVariables false
set_option linter.unusedSimpArgs false
namespace Go.Proofs.YthdfifcgobfgdaaGreat
open Go Go.Ev
set_option maxRecDepth 100000
section
noncomputable abbrev catFn : Func := Tryz.f33
abbrev catC0 : Cod (List LV) (List (List Int) × Int × List (List Int) × Int × Int × Unit) := lCons (vOne (sRd false false (.sl u8))) (jk 2 (lCons (vOne (sInt .i64)) (jk 5 (lCons (vOne (sRd false false (.sl u8))) (lCons (vOne (sInt .i64)) (lCons (vOne (sInt .i64)) (jk 24 lNil)))))))
abbrev catK0 : List Wk := [.fr (fmS 36 [(0, .keep), (3, .sym), (9, .keep), (10, .sym), (11, .sym)])]
abbrev catE0 : Cod (List LV) (List (List Int) × Int × Unit) := lCons (vOne (sRd false false (.sl u8))) (jk 2 (lCons (vOne (sInt .i64)) (jk 32 lNil)))
abbrev catX0 : List Wk := [.fr (fmS 36 [(0, .keep), (3, .sym)])]
theorem cat_rnd0 (l0 ls : List (List Int)) (s n i : Int) : rndT Tryz.prog [] [] catFn 0 [] (wsE catK0 0 catX0) ((stC catC0 lNil).wr ((l0, s, ls, n, i, ()), ())) =
    .ite (decide (i < n)) (.need (0 ≤ i ∧ i < ls.length) (.ite (decide (IntKind.i64.wrap (s + (ls.getD i.toNat []).length) < 0)) .fail
      (.leaf .normal ((stC catC0 lNil).wr ((l0, IntKind.i64.wrap (s + (ls.getD i.toNat []).length), ls, n, IntKind.i64.wrap (i + 1), ()), ())))))
      (.leaf (.exit 0) ((stC catE0 lNil).wr ((l0, s, ()), ()))) := by kernel_rfl
theorem flat_take (ls : List (List Int)) (i : Nat) (h : i < ls.length) : (ls.take (i + 1)).flatten = (ls.take i).flatten ++ ls.getD i [] := by
  rw [List.take_add_one, List.flatten_append, List.getD_eq_getElem?_getD, List.getElem?_eq_getElem h]
  simp
theorem flat_le (ls : List (List Int)) (i : Nat) : (ls.take i).flatten.length ≤ ls.flatten.length := by
  have : ls.flatten = (ls.take i).flatten ++ (ls.drop i).flatten := by rw [← List.flatten_append, List.take_append_drop]
  rw [this, List.length_append]; omega
noncomputable def catF0 (x : (List (List Int) × Int × List (List Int) × Int × Int × Unit) × Unit) : Res :=
  .need (x.1.2.1 = 0 ∧ x.1.2.2.2.1 = x.1.2.2.1.length ∧ x.1.2.2.2.2.1 = 0 ∧ x.1.2.2.1.flatten.length ≤ 140737488355328 ∧ x.1.2.2.1.length ≤ 140737488355328) (.leaf (.exit 0) ((stC catE0 lNil).wr ((x.1.1, (x.1.2.2.1.flatten.length : Int), ()), ())))
theorem cat_loop0 (x) : Ex Tryz.prog [] (.loop (loopAt catFn 0)) ((stC catC0 lNil).wr x) (catF0 x) := by
  obtain ⟨⟨l0, s, ls, n, i, _⟩, _⟩ := x
  refine Ex.need fun ⟨h1, h2, h3, h4, h5⟩ => ?_
  simp only at h1 h2 h3 h4 h5
  subst h1 h2 h3
  refine loopR mixed tab0 (LOk.nil _) (fun k => ls.length - k) (fun k : Nat => (stC catC0 lNil).wr ((l0, ((ls.take k).flatten.length : Int), ls, (ls.length : Int), (k : Int), ()), ())) (fun k => k ≤ ls.length)
    (fun k => .leaf (.exit 0) ((stC catE0 lNil).wr ((l0, (ls.flatten.length : Int), ()), ()))) (fun k _ => cat_rnd0 l0 ls _ _ _) (fun k R hk hs => ?_) 0 (Nat.zero_le _)
  · have hle := flat_le ls k
    refine ⟨fun hb => ?_, fun hb => ?_⟩
    · have hlt : k < ls.length := by simpa using hb
      have hft := flat_take ls k hlt
      have hle1 := flat_le ls (k + 1)
      have hlen : ((ls.take (k + 1)).flatten.length : Int) = (ls.take k).flatten.length + (ls.getD k []).length := by rw [hft, List.length_append]; omega
      refine ⟨⟨by omega, by omega⟩, fun hb2 => ?_, fun _ => .inl ⟨rfl, k + 1, ?_, hlt, by omega, hs⟩⟩
      · rw [wrap_ok (by omega) (by simp only [Int.toNat_natCast]; omega)] at hb2
        simp at hb2; omega
      · rw [wrap_ok (by omega) (by simp only [Int.toNat_natCast]; omega), wrap_ok (by omega) (by omega)]
        simp only [Int.toNat_natCast]
        rw [← hlen]
        rfl
    · have hge : k = ls.length := by simp at hb; omega
      subst hge
      rw [List.take_length]
      exact .inr ⟨by simp, hs⟩
abbrev catC2 : Cod (List LV) (List (List Int) × Int × Int × Unit) := jk 6 (lSkip (vOne (sSl 0 0)) (jk 18 (lCons (vOne (sRd false false (.sl u8))) (lCons (vOne (sInt .i64)) (lCons (vOne (sInt .i64)) (jk 8 lNil))))))
abbrev catK2 : List Wk := [.fr (fmS 36 [(6, .keep), (25, .keep), (26, .sym), (27, .sym)]), .auto, .vers]
abbrev catE2 : Cod (List LV) Unit := jk 6 (lSkip (vOne (sSl 0 0)) (jk 29 lNil))
abbrev catX2 : List Wk := [.fr (fmS 36 [(6, .keep)]), .auto, .vers]
abbrev own1 : Cod Hp (List Int × Unit) := lCons (iOwn 0 u8) lNil
theorem cat_rnd2 (ls : List (List Int)) (acc : List Int) (n i : Int) : rndT Tryz.prog [] [] catFn 2 [] (wsE catK2 2 catX2) ((stC catC2 own1).wr ((ls, n, i, ()), (acc, ()))) =
    .ite (decide (i < n)) (.need (0 ≤ i ∧ i < ls.length) (.need ((acc.length + (ls.getD i.toNat []).length) * 1 ≤ 70368744177664 ∧ acc.length + (ls.getD i.toNat []).length ≤ 70368744177664)
      (.leaf .normal ((stC catC2 own1).wr ((ls, n, IntKind.i64.wrap (i + 1), ()), (acc ++ ls.getD i.toNat [], ()))))))
      (.leaf (.exit 2) ((stC catE2 own1).wr ((), (acc, ())))) := by kernel_rfl
noncomputable def catF2 (x : (List (List Int) × Int × Int × Unit) × List Int × Unit) : Res :=
  .need (x.1.2.1 = x.1.1.length ∧ x.1.2.2.1 = 0 ∧ x.2.1 = [] ∧ x.1.1.flatten.length ≤ 70368744177664 ∧ x.1.1.length ≤ 140737488355328) (.leaf (.exit 2) ((stC catE2 own1).wr ((), (x.1.1.flatten, ()))))
theorem cat_loop2 (x) : Ex Tryz.prog [] (.loop (loopAt catFn 2)) ((stC catC2 own1).wr x) (catF2 x) := by
  obtain ⟨⟨ls, n, i, _⟩, acc, _⟩ := x
  refine Ex.need fun ⟨h2, h3, h1, h4, h5⟩ => ?_
  simp only at h1 h2 h3 h4 h5
  subst h1 h2 h3
  refine loopR mixed tab0 (LOk.nil _) (fun k => ls.length - k) (fun k : Nat => (stC catC2 own1).wr ((ls, (ls.length : Int), (k : Int), ()), ((ls.take k).flatten, ()))) (fun k => k ≤ ls.length)
    (fun k => .leaf (.exit 2) ((stC catE2 own1).wr ((), (ls.flatten, ())))) (fun k _ => cat_rnd2 ls _ _ _) (fun k R hk hs => ?_) 0 (Nat.zero_le _)
  refine ⟨fun hb => ?_, fun hb => ?_⟩
  · have hlt : k < ls.length := by simpa using hb
    have hft := flat_take ls k hlt
    have hle1 := flat_le ls (k + 1)
    have hlen : (ls.take (k + 1)).flatten.length = (ls.take k).flatten.length + (ls.getD k []).length := by rw [hft, List.length_append]
    refine ⟨⟨by omega, by omega⟩, ⟨by simp only [Int.toNat_natCast]; omega, by simp only [Int.toNat_natCast]; omega⟩, .inl ⟨rfl, k + 1, ?_, hlt, by omega, hs⟩⟩
    rw [wrap_ok (by omega) (by omega)]
    simp only [Int.toNat_natCast]
    rw [← hft]
    rfl
  · have hge : k = ls.length := by simp at hb; omega
    subst hge
    rw [List.take_length]
    exact .inr ⟨by simp, hs⟩
abbrev catA : Cod (List LV) (List (List Int) × Unit) := lCons (vOne (sRd false false (.sl u8))) lNil
/-- all, one behind the other -/
noncomputable def catE : Ent := Ent.ofS [some (.sl u8)] catA lNil fun x _ => .leaf (some (x.1.flatten.length ≤ 70368744177664 ∧ x.1.length ≤ 140737488355328)) (.one (.sc (.sl 0 0))) [(0, .own 0 u8 x.1.flatten)]
noncomputable abbrev catLT : LTab := [(0, loopF (stC catC0 lNil) 0 catK0 catF0), (2, loopF (stC catC2 own1) 0 catK2 catF2)]
theorem cat_tree (ls : List (List Int)) : fnT Tryz.prog [(70, growE)] catLT catFn (catA.wr (ls, ())) [] [.auto, .vers] =
    .need ((0 : Int) = 0 ∧ (ls.length : Int) = ls.length ∧ (0 : Int) = 0 ∧ ls.flatten.length ≤ 140737488355328 ∧ ls.length ≤ 140737488355328) (.need (0 ≤ (ls.flatten.length : Int) ∧ (ls.flatten.length : Int) ≤ 140737488355328)
      (.need ((ls.length : Int) = ls.length ∧ (0 : Int) = 0 ∧ ([] : List Int) = [] ∧ ls.flatten.length ≤ 70368744177664 ∧ ls.length ≤ 140737488355328) (.leaf (.one (.sc (.sl 0 0))) [some (.own 0 u8 ls.flatten)]))) := by kernel_rfl
theorem cat_ok : catE.Ok Tryz.prog 33 := by
  refine (Ent.ofOk Tryz.call33 fun x y Q h => ?_).sym
  obtain ⟨ls, _⟩ := x
  obtain ⟨⟨h1, h2⟩, hq⟩ := h
  refine (fnT_ok mixed (tabC grow_ok tab0) Tryz.func33 rfl (LT := catLT) (ks := [.auto, .vers]) (LOk.ofTab (LTC rfl (loopF_ok (hp := []) cat_loop0) (LTC rfl (loopF_ok (hp := []) cat_loop2) LT0)))).use (D := [(0, .own 0 u8 ls.flatten)]) ?_ hq
  show (fnT _ _ _ _ (catA.wr (ls, ())) [] _).sat _
  rw [cat_tree]
  simp only at h1 h2
  exact ⟨⟨rfl, rfl, rfl, by omega, by omega⟩, ⟨by omega, by omega⟩, ⟨rfl, rfl, rfl, h1, h2⟩, rfl, rfl⟩
end
end Go.Proofs.YthdfifcgobfgdaaGreat
end

section
set_option linter.unusedVariables false
set_option linter.unusedSimpArgs false
namespace Go.Proofs.YthdfifcgobfgdaaGreat
open Go Go.Ev
set_option maxRecDepth 100000
/-- the lowest bytes, the lowest one first -/
def lowL : Nat → Int → List Int
  | 0, _ => []
  | k + 1, x => x % 256 :: lowL k (x / 256)
theorem lowL_length : ∀ (k : Nat) (x : Int), (lowL k x).length = k
  | 0, _ => rfl
  | k + 1, x => by simp [lowL, lowL_length k]
theorem div_pow (x : Int) (i : Nat) : x / 256 / 256 ^ i = x / 256 ^ (i + 1) := by
  rw [Int.pow_succ, Int.mul_comm, Int.ediv_ediv_of_nonneg (by omega)]
theorem lowL_succ : ∀ (i : Nat) (x : Int), lowL (i + 1) x = lowL i x ++ [x / 256 ^ i % 256]
  | 0, x => by simp [lowL]
  | i + 1, x => by
    rw [lowL, lowL_succ i, lowL, List.cons_append, div_pow]
theorem lowL_map : ∀ (k : Nat) (x : Int), lowL k x = (List.range k).map fun i => x / 256 ^ i % 256
  | 0, _ => rfl
  | k + 1, x => by rw [lowL_succ, lowL_map k, List.range_succ, List.map_append]; rfl
theorem number_tree (x : Int) : fnT Tryz.prog [] [] Tryz.f57 (Cod.wr (lCons (vOne (sInt .u64)) lNil) (x, ())) [] [.auto, .vers] =
  End.need ((1 : Nat) ≤ (70368744177664 : Nat) ∧ (1 : Nat) ≤ (70368744177664 : Nat)) (End.need ((2 : Nat) ≤ (70368744177664 : Nat) ∧ (2 : Nat) ≤
  (70368744177664 : Nat)) (End.need ((3 : Nat) ≤ (70368744177664 : Nat) ∧ (3 : Nat) ≤ (70368744177664 : Nat)) (End.need ((4 : Nat) ≤ (70368744177664 :
  Nat) ∧ (4 : Nat) ≤ (70368744177664 : Nat)) (End.need ((5 : Nat) ≤ (70368744177664 : Nat) ∧ (5 : Nat) ≤ (70368744177664 : Nat)) (End.need ((6 : Nat) ≤
  (70368744177664 : Nat) ∧ (6 : Nat) ≤ (70368744177664 : Nat)) (End.need ((7 : Nat) ≤ (70368744177664 : Nat) ∧ (7 : Nat) ≤ (70368744177664 : Nat))
  (End.need ((8 : Nat) ≤ (70368744177664 : Nat) ∧ (8 : Nat) ≤ (70368744177664 : Nat)) (End.leaf (LV.one (VV.sc (SV.sl (0 : Nat) (0 : Nat)))) [some
  (Item.own (0 : Nat) (Ty.int IntKind.u8) ([IntKind.u8.wrap (shr IntKind.u64 x (0 : Int))] ++ [IntKind.u8.wrap (shr IntKind.u64 x (8 : Int))] ++
  [IntKind.u8.wrap (shr IntKind.u64 x (16 : Int))] ++ [IntKind.u8.wrap (shr IntKind.u64 x (24 : Int))] ++ [IntKind.u8.wrap (shr IntKind.u64 x (32 :
  Int))] ++ [IntKind.u8.wrap (shr IntKind.u64 x (40 : Int))] ++ [IntKind.u8.wrap (shr IntKind.u64 x (48 : Int))] ++ [IntKind.u8.wrap (shr IntKind.u64 x
  (56 : Int))]))])))))))) := by kernel_rfl
noncomputable def numEnt : Ent := Ent.ofS [] (lCons (vOne (sInt .u64)) lNil) lNil fun x _ => .leaf (some (0 ≤ x.1 ∧ x.1 < 18446744073709551616)) (.one (.sc (.sl 0 0))) [(0, .own 0 u8 (lowL 8 x.1))]
theorem num_ok : numEnt.Ok Tryz.prog 57 := by
  refine (Ent.ofOk Tryz.call57 fun x y Q h => ?_).sym
  obtain ⟨x, _⟩ := x
  obtain ⟨⟨h1, h2⟩, hq⟩ := h
  simp only at h1 h2
  refine (fnT_ok mixed tab0 Tryz.func57 rfl (LT := []) (ks := [.auto, .vers]) (LOk.nil _)).use (D := [(0, .own 0 u8 (lowL 8 x))]) ?_ hq
  show (fnT _ _ _ _ (Cod.wr (lCons (vOne (sInt .u64)) lNil) (x, ())) [] _).sat _
  rw [number_tree]
  have e : ∀ i : Nat, i < 8 → IntKind.u8.wrap (shr .u64 x (8 * i : Nat)) = x / 256 ^ i % 256 := by
    intro i hi
    have e1 : ((2 ^ (8 * i) : Nat) : Int) = 256 ^ i := by rw [Nat.pow_mul, Int.natCast_pow]; rfl
    rw [shr_div .u64 x (8 * i) (by simp [IntKind.bits]; omega), wrap_u8, e1]
  refine ⟨by omega, by omega, by omega, by omega, by omega, by omega, by omega, by omega, rfl, ?_⟩
  show _ = [some (Item.own 0 u8 (lowL 8 x))]
  rw [lowL_map, ← List.map_congr_left (fun i hi => e i (by simpa using hi))]
  rfl
end Go.Proofs.YthdfifcgobfgdaaGreat
end

section
set_option linter.unusedVariables false
set_option linter.unusedSimpArgs false
namespace Go.Proofs.YthdfifcgobfgdaaGreat
open Go Go.Ev
set_option maxRecDepth 100000
abbrev rowsHead {Y : Type} (r : Cod (List SV) Y) : Cod (List SV) (Int × Int × Y) := lCons (sInt .i64) (lCons (sInt .i64) r)
abbrev rowsMan {Y : Type} (r : Cod (List SV) Y) : Cod (List SV) (Int × Int × Int × List Int × List Int × Y) := lCons (sInt .u64) (lCons (sInt .u64) (lCons (sInt .i64) (lCons (sArr u8 64) (lCons (sArr u8 64) r))))
abbrev headA : Cod (List LV) ((Int × Int × Unit) × Unit) := lCons (vAgg (rowsHead lNil)) lNil
abbrev manA : Cod (List LV) ((Int × Int × Int × List Int × List Int × Unit) × Unit) := lCons (vAgg (rowsMan lNil)) lNil
abbrev labA : Cod (List LV) ((Int × Int × Int × Int × Int × List Int × List Int × List Int × Unit) × Unit) := lCons (vAgg (rowsHead (rowsMan (lCons (sArr u8 64) lNil)))) lNil
def headF (a b : Int) : List Int := if 0 ≤ a ∧ a < 8 ∧ 1 ≤ b ∧ b ≤ 16 then [66, 74, 75, 49, a, b, 0, 0] else []
def rightF (c v s : Int) : Bool := decide (v ≤ c ∧ 1 ≤ s ∧ s ≤ 131072)
noncomputable def headE : Ent := Ent.ofS [] headA lNil fun x _ => .leaf none (.one (.sc (.sl 0 0))) [(0, .own 0 u8 (headF x.1.1 x.1.2.1))]
noncomputable def rightE : Ent := Ent.ofS [] manA lNil fun x _ => .leaf none (nB (rightF x.1.1 x.1.2.1 x.1.2.2.1)) []
theorem puthead_tree (a b : Int) : fnT Tryz.prog [(33, catE)] [] Tryz.f21 (headA.wr ((a, b, ()), ())) [] [.ownF 0 u8, .auto, .vers] =
  End.ite (decide (a < (0 : Int)) == false) (End.ite (decide ((8 : Int) ≤ a) == false) (End.ite (decide (b < (1 : Int)) == false) (End.ite (decide ((16 :
  Int) < b)) (End.leaf (LV.one (VV.sc (SV.sl (0 : Nat) (0 : Nat)))) [some (Item.own (0 : Nat) (Ty.int IntKind.u8) [])]) (End.need ((8 : Nat) ≤
  (70368744177664 : Nat) ∧ (2 : Nat) ≤ (140737488355328 : Nat)) (End.leaf (LV.one (VV.sc (SV.sl (0 : Nat) (0 : Nat)))) [some (Item.own (0 : Nat) (Ty.int
  IntKind.u8) [[(66 : Int), (74 : Int), (75 : Int), (49 : Int)], [IntKind.u8.wrap a, IntKind.u8.wrap b, (0 : Int), (0 : Int)]].flatten)]))) (End.leaf
  (LV.one (VV.sc (SV.sl (0 : Nat) (0 : Nat)))) [some (Item.own (0 : Nat) (Ty.int IntKind.u8) [])])) (End.leaf (LV.one (VV.sc (SV.sl (0 : Nat) (0 :
  Nat)))) [some (Item.own (0 : Nat) (Ty.int IntKind.u8) [])])) (End.leaf (LV.one (VV.sc (SV.sl (0 : Nat) (0 : Nat)))) [some (Item.own (0 : Nat) (Ty.int
  IntKind.u8) [])]) := by kernel_rfl
theorem right_tree (c v s : Int) (a b : List Int) : fnT Tryz.prog [] [] Tryz.f56 (manA.wr ((c, v, s, a, b, ()), ())) [] [.fr [.sym], .auto] =
  End.ite (decide (v ≤ c) == true) (End.ite (decide ((1 : Int) ≤ s) == true) (End.leaf (LV.one (VV.sc (SV.bool (SB.sym (decide (s ≤ (131072 : Int)))))))
  []) (End.leaf (LV.one (VV.sc (SV.bool (SB.sym false)))) [])) (End.leaf (LV.one (VV.sc (SV.bool (SB.sym false)))) []) := by kernel_rfl
theorem put_tree (c v s : Int) (a b : List Int) : fnT Tryz.prog [(56, rightE), (57, numEnt), (33, catE)] [] Tryz.f22 (manA.wr ((c, v, s, a, b, ()), ())) [] [.ownF 0 u8, .auto, .vers] =
  End.ite (!rightF c v s) (End.leaf (LV.one (VV.sc (SV.sl (0 : Nat) (0 : Nat)))) [some (Item.own (0 : Nat) (Ty.int IntKind.u8) [])]) (End.need ((0 : Int)
  ≤ c ∧ c < (18446744073709551616 : Int)) (End.need ((0 : Int) ≤ v ∧ v < (18446744073709551616 : Int)) (End.need ((0 : Int) ≤ IntKind.u64.wrap s ∧
  IntKind.u64.wrap s < (18446744073709551616 : Int)) (End.need ((0 : Int) ≤ (0 : Int) ∧ (0 : Int) ≤ (64 : Int) ∧ (64 : Int) ≤ (64 : Int)) (End.need ((0 :
  Int) ≤ (0 : Int) ∧ (0 : Int) ≤ (64 : Int) ∧ (64 : Int) ≤ (64 : Int)) (End.need ([lowL (8 : Nat) c, lowL (8 : Nat) v, lowL (8 : Nat) (IntKind.u64.wrap
  s), List.take (64 : Nat) (List.drop (0 : Nat) a), List.take (64 : Nat) (List.drop (0 : Nat) b)].flatten.length ≤ (70368744177664 : Nat) ∧ (5 : Nat) ≤
  (140737488355328 : Nat)) (End.leaf (LV.one (VV.sc (SV.sl (0 : Nat) (0 : Nat)))) [some (Item.own (0 : Nat) (Ty.int IntKind.u8) [lowL (8 : Nat) c, lowL
  (8 : Nat) v, lowL (8 : Nat) (IntKind.u64.wrap s), List.take (64 : Nat) (List.drop (0 : Nat) a), List.take (64 : Nat) (List.drop (0 : Nat)
  b)].flatten)]))))))) := by kernel_rfl
theorem own_eq {l m : List Int} (h : l = m) : [some (Item.own 0 u8 l)] = applyD [(0, Item.own 0 u8 m)] [] := by rw [h]; rfl
theorem head_ok : headE.Ok Tryz.prog 21 := by
  refine (Ent.ofOk Tryz.call21 fun x y Q h => ?_).sym
  obtain ⟨⟨a, b, _⟩, _⟩ := x
  refine (fnT_ok mixed (tabC cat_ok tab0) Tryz.func21 rfl (LT := []) (ks := [.ownF 0 u8, .auto, .vers]) (LOk.nil _)).use (D := [(0, .own 0 u8 (headF a b))]) ?_ h.2
  show (fnT _ _ _ _ (headA.wr ((a, b, ()), ())) [] _).sat _
  rw [puthead_tree]
  refine ⟨fun h1 => ⟨fun h2 => ⟨fun h3 => ⟨fun h4 => ⟨rfl, own_eq ?_⟩, fun h4 => ⟨by omega, rfl, own_eq ?_⟩⟩, fun h3 => ⟨rfl, own_eq ?_⟩⟩, fun h2 => ⟨rfl, own_eq ?_⟩⟩, fun h1 => ⟨rfl, own_eq ?_⟩⟩ <;>
    simp at * <;> unfold headF <;> first | (rw [if_neg (by omega)]) | (rw [if_pos (by omega), wrap_u8, wrap_u8, Int.emod_eq_of_lt (by omega) (by omega), Int.emod_eq_of_lt (by omega) (by omega)])
theorem nB_eq {b c : Bool} (h : b = c) : nB b = nB c := by rw [h]
theorem right_ok : rightE.Ok Tryz.prog 56 := by
  refine (Ent.ofOk Tryz.call56 fun x y Q h => ?_).sym
  obtain ⟨⟨c, v, s, a, b, _⟩, _⟩ := x
  refine (fnT_ok mixed tab0 Tryz.func56 rfl (LT := []) (ks := [.fr [.sym], .auto]) (LOk.nil _)).use (D := []) ?_ h.2
  show (fnT _ _ _ _ (manA.wr ((c, v, s, a, b, ()), ())) [] _).sat _
  rw [right_tree]
  refine ⟨fun h1 => ⟨fun h2 => ⟨nB_eq ?_, rfl⟩, fun h2 => ⟨nB_eq ?_, rfl⟩⟩, fun h1 => ⟨nB_eq ?_, rfl⟩⟩ <;> simp_all [rightF] <;> omega
def manF (c v s : Int) (a b : List Int) : List Int := if rightF c v s = true then lowL 8 c ++ lowL 8 v ++ lowL 8 s ++ a.take 64 ++ b.take 64 else []
theorem rightF_range {c v s : Int} (h : rightF c v s = true) : 1 ≤ s ∧ s ≤ 131072 := by simp [rightF] at h; omega
noncomputable def manE : Ent := Ent.ofS [] manA lNil fun x _ => .leaf (some (0 ≤ x.1.1 ∧ x.1.1 < 18446744073709551616 ∧ 0 ≤ x.1.2.1 ∧ x.1.2.1 < 18446744073709551616)) (.one (.sc (.sl 0 0))) [(0, .own 0 u8 (manF x.1.1 x.1.2.1 x.1.2.2.1 x.1.2.2.2.1 x.1.2.2.2.2.1))]
theorem man_ok : manE.Ok Tryz.prog 22 := by
  refine (Ent.ofOk Tryz.call22 fun x y Q h => ?_).sym
  obtain ⟨⟨c, v, s, a, b, _⟩, _⟩ := x
  obtain ⟨⟨h1, h2, h3, h4⟩, hq⟩ := h
  simp only at h1 h2 h3 h4
  refine (fnT_ok mixed (tabC right_ok (tabC num_ok (tabC cat_ok tab0))) Tryz.func22 rfl (LT := []) (ks := [.ownF 0 u8, .auto, .vers]) (LOk.nil _)).use (D := [(0, .own 0 u8 (manF c v s a b))]) ?_ hq
  show (fnT _ _ _ _ (manA.wr ((c, v, s, a, b, ()), ())) [] _).sat _
  rw [put_tree]
  refine ⟨fun hb => ⟨rfl, own_eq ?_⟩, fun hb => ?_⟩
  · simp at hb; simp [manF, hb]
  · simp at hb
    obtain ⟨r1, r2⟩ := rightF_range hb
    have e := wrap_u64 (n := s) (by omega) (by omega)
    rw [e]
    refine ⟨⟨h1, h2⟩, ⟨h3, h4⟩, ⟨by omega, by omega⟩, ⟨by omega, by omega, by omega⟩, ⟨by omega, by omega, by omega⟩, ⟨?_, by omega⟩, rfl, own_eq ?_⟩
    · simp [lowL_length]; omega
    · simp [manF, hb]
def labF (hd mn sg : List Int) : List Int := if hd.length = 0 ∨ mn.length = 0 then [] else hd ++ mn ++ sg.take 64
theorem putlabel_tree (a b c v s : Int) (x y z : List Int) : fnT Tryz.prog [(21, headE), (22, manE), (33, catE)] [] Tryz.f25 (labA.wr ((a, b, c, v, s, x, y, z, ()), ())) [] [.ownF 0 u8, .auto, .vers] =
  End.need ((0 : Int) ≤ c ∧ c < (18446744073709551616 : Int) ∧ (0 : Int) ≤ v ∧ v < (18446744073709551616 : Int)) (End.ite (((↑(headF a b).length : Int)
  == (0 : Int)) == false) (End.ite ((↑(manF c v s x y).length : Int) == (0 : Int)) (End.leaf (LV.one (VV.sc (SV.sl (0 : Nat) (0 : Nat)))) [some (Item.own
  (0 : Nat) (Ty.int IntKind.u8) [])]) (End.need ((0 : Int) ≤ (0 : Int) ∧ (0 : Int) ≤ (64 : Int) ∧ (64 : Int) ≤ (64 : Int)) (End.need ([headF a b, manF c
  v s x y, List.take (64 : Nat) (List.drop (0 : Nat) z)].flatten.length ≤ (70368744177664 : Nat) ∧ (3 : Nat) ≤ (140737488355328 : Nat)) (End.leaf (LV.one
  (VV.sc (SV.sl (0 : Nat) (0 : Nat)))) [some (Item.own (0 : Nat) (Ty.int IntKind.u8) [headF a b, manF c v s x y, List.take (64 : Nat) (List.drop (0 :
  Nat) z)].flatten)])))) (End.leaf (LV.one (VV.sc (SV.sl (0 : Nat) (0 : Nat)))) [some (Item.own (0 : Nat) (Ty.int IntKind.u8) [])])) := by kernel_rfl
theorem headF_len (a b : Int) : (headF a b).length ≤ 8 := by unfold headF; split <;> simp
theorem manF_len (c v s : Int) (a b : List Int) : (manF c v s a b).length ≤ 152 := by unfold manF; split <;> simp [lowL_length]; omega
noncomputable def labE : Ent := Ent.ofS [] labA lNil fun x _ => .leaf (some (0 ≤ x.1.2.2.1 ∧ x.1.2.2.1 < 18446744073709551616 ∧ 0 ≤ x.1.2.2.2.1 ∧ x.1.2.2.2.1 < 18446744073709551616)) (.one (.sc (.sl 0 0)))
  [(0, .own 0 u8 (labF (headF x.1.1 x.1.2.1) (manF x.1.2.2.1 x.1.2.2.2.1 x.1.2.2.2.2.1 x.1.2.2.2.2.2.1 x.1.2.2.2.2.2.2.1) x.1.2.2.2.2.2.2.2.1))]
theorem lab_ok : labE.Ok Tryz.prog 25 := by
  refine (Ent.ofOk Tryz.call25 fun x y Q h => ?_).sym
  obtain ⟨⟨a, b, c, v, s, x, y, z, _⟩, _⟩ := x
  obtain ⟨hr, hq⟩ := h
  simp only at hr
  refine (fnT_ok mixed (tabC head_ok (tabC man_ok (tabC cat_ok tab0))) Tryz.func25 rfl (LT := []) (ks := [.ownF 0 u8, .auto, .vers]) (LOk.nil _)).use (D := [(0, .own 0 u8 (labF (headF a b) (manF c v s x y) z))]) ?_ hq
  show (fnT _ _ _ _ (labA.wr ((a, b, c, v, s, x, y, z, ()), ())) [] _).sat _
  rw [putlabel_tree]
  have h1 := headF_len a b
  have h2 := manF_len c v s x y
  generalize headF a b = hd at *
  generalize manF c v s x y = mn at *
  refine ⟨hr, fun hb => ⟨fun hc => ⟨rfl, own_eq ?_⟩, fun hc => ⟨by omega, ⟨?_, by omega⟩, rfl, own_eq ?_⟩⟩, fun hb => ⟨rfl, own_eq ?_⟩⟩
  · simp at hb hc; simp [labF, hc]
  · simp; omega
  · simp at hb hc; simp [labF, hc, hb]
  · simp at hb; simp [labF, hb]
abbrev bbA : Cod (List LV) (List Int × List Int × Unit) := lCons (vOne (sRd false false u8)) (lCons (vOne (sRd false false u8)) lNil)
theorem equal_tree (a b : List Int) : fnT Tryz.prog [] [] Tryz.f106 (bbA.wr (a, b, ())) [] [] =
  End.leaf (LV.one (VV.sc (SV.bool (SB.sym (strEq a b))))) [] := by kernel_rfl
theorem context_tree  : fnT Tryz.prog [] [] Tryz.f23 [] [] [.auto, .vers] =
  End.leaf (LV.one (VV.sc (SV.sl (0 : Nat) (0 : Nat)))) [some (Item.own (0 : Nat) (Ty.int IntKind.u8) [(98 : Int), (111 : Int), (111 : Int), (116 : Int),
  (106 : Int), (97 : Int), (99 : Int), (107 : Int)])] := by kernel_rfl
end Go.Proofs.YthdfifcgobfgdaaGreat
end

section
set_option linter.unusedVariables false
set_option linter.unusedSimpArgs false
namespace Go.Proofs.YthdfifcgobfgdaaGreat
open Go Go.Ev Go.ChangeShapes Go.WideShapes Go.ChangeAt Go.RowKit
set_option maxRecDepth 100000
theorem open_head {H : Type} {enc : TypeId × Value → H} {W : World} {base : Nat} {v : Value} {d : DataW H} {p : List MemPlace}
    (hval : Value.okWide Tryz.prog W .any base 38 v) (h : DataW.Trod enc Tryz.prog W 0 (fun _ => true) true 38 v d p) :
    ∃ a b : Int, (LV.one (.agg ((rowsHead lNil).wr (a, b, ())))).den (env0 W) (kd []) v := by
  unfold Value.okWide at hval
  rw [Tryz.underlying38] at hval
  obtain ⟨cs, rfl, _, _⟩ := hval
  obtain ⟨fuel, h⟩ := h
  have hf : flatT Tryz.prog 10 38 = some [.int .i64, .int .i64] := by kernel_rfl
  have h' := flat_ok 10 hf h
  clear h
  simp only [Value.cells] at h'
  obtain ⟨cs⟩ := cs
  cases h' with
  | cons h1 h => cases h with
  | cons h2 h =>
    cases h
    obtain ⟨a, rfl, _⟩ := h1
    obtain ⟨b, rfl, _⟩ := h2
    exact ⟨a, b, _, rfl, DenL.cons1 rfl (DenL.cons1 rfl .nil)⟩
end Go.Proofs.YthdfifcgobfgdaaGreat
end

section
set_option linter.unusedVariables false
set_option linter.unusedSimpArgs false
namespace Go.Proofs.YthdfifcgobfgdaaGreat
open Go Go.Ev
set_option maxRecDepth 100000
abbrev uiC : Cod (List LV) (Int × Int × Unit) := lCons (vOne (sInt .u64)) (lCons (vOne (sInt .i64)) lNil)
abbrev u3C : Cod (List LV) (Int × Int × Int × Unit) := lCons (vOne (sInt .u64)) (lCons (vOne (sInt .u64)) (lCons (vOne (sInt .u64)) lNil))
abbrev ui3C : Cod (List LV) (Int × Int × Int × Int × Unit) := lCons (vOne (sInt .u64)) (lCons (vOne (sInt .i64)) (lCons (vOne (sInt .i64)) (lCons (vOne (sInt .i64)) lNil)))
def rotlF (x k : Int) : Int := bitOr .u64 (shl .u64 x (bitAnd .u64 (IntKind.u64.wrap k) 63)) (shr .u64 x (IntKind.u64.wrap (64 - bitAnd .u64 (IntKind.u64.wrap k) 63)))
theorem and63 (k : Int) : bitAnd .u64 (IntKind.u64.wrap k) 63 = k % 64 := by
  rw [and_u64 (m := 6) (by decide) _ _ (by decide), wrap_u64']
  exact Int.emod_emod_of_dvd _ (by decide)
/-- bits turned down -/
def rotr (x n : Int) : Int := bitOr .u64 (shl .u64 x (64 - n)) (shr .u64 x n)
theorem rotlF_eq {x n : Int} (h0 : 0 < n) (h1 : n < 64) : rotlF x (IntKind.i64.wrap (0 - n)) = rotr x n := by
  unfold rotlF rotr
  have e : bitAnd .u64 (IntKind.u64.wrap (IntKind.i64.wrap (0 - n))) 63 = 64 - n := by
    rw [and63, wrap_i64 (by omega) (by omega)]; omega
  rw [e, wrap_u64 (by omega) (by omega), show (64 : Int) - (64 - n) = n from by omega]
noncomputable def rotlE : Ent := Ent.ofS [] (uiC) (lNil) fun x_ y_ => (fun (x k : Int) => .leaf none (nU (rotlF x k)) []) x_.1 x_.2.1
theorem rotl_tree (x k : Int) : fnT Tryz.prog [] [] Tryz.f163 ((uiC).wr (x, k, ())) ((lNil).wr ()) [.fr [.sym], .auto] =
  End.need ((0 : Int) ≤ bitAnd IntKind.u64 (IntKind.u64.wrap k) (63 : Int)) (End.need ((0 : Int) ≤ IntKind.u64.wrap ((64 : Int) - bitAnd IntKind.u64
  (IntKind.u64.wrap k) (63 : Int))) (End.leaf (LV.one (VV.sc (SV.int IntKind.u64 (SI.sym (bitOr IntKind.u64 (shl IntKind.u64 x (bitAnd IntKind.u64
  (IntKind.u64.wrap k) (63 : Int))) (shr IntKind.u64 x (IntKind.u64.wrap ((64 : Int) - bitAnd IntKind.u64 (IntKind.u64.wrap k) (63 : Int))))))))) [])) := by kernel_rfl
theorem rotl_ok : rotlE.Ok Tryz.prog 163 := by
  refine (Ent.ofOk Tryz.call163 fun x_ y_ Q H_ => ?_).sym
  obtain ⟨x, k, _⟩ := x_
  have hq := H_.2
  refine (fnT_ok mixed tab0 Tryz.func163 rfl (LT := []) (ks := [.fr [.sym], .auto]) (LOk.nil _)).use (D := []) ?_ hq
  show (fnT _ _ _ _ ((uiC).wr (x, k, ())) ((lNil).wr ()) _).sat _
  rw [rotl_tree]
  have e := and63 k
  refine ⟨by omega, by rw [e, wrap_u64 (by omega) (by omega)]; omega, rfl, rfl⟩
noncomputable def rotrE : Ent := Ent.ofS [] (uiC) (lNil) fun x_ y_ => (fun (x k : Int) => .leaf (some (0 < k ∧ k < 64)) (nU (rotr x k)) []) x_.1 x_.2.1
theorem rotr_tree (x k : Int) : fnT Tryz.prog [(163, rotlE)] [] Tryz.f162 ((uiC).wr (x, k, ())) ((lNil).wr ()) [.fr [.sym], .auto] =
  End.leaf (LV.one (VV.sc (SV.int IntKind.u64 (SI.sym (rotlF x (IntKind.i64.wrap ((0 : Int) - k.tmod (64 : Int)))))))) [] := by kernel_rfl
theorem rotr_ok : rotrE.Ok Tryz.prog 162 := by
  refine (Ent.ofOk Tryz.call162 fun x_ y_ Q H_ => ?_).sym
  obtain ⟨x, k, _⟩ := x_
  obtain ⟨hn, hq⟩ := H_
  have hn : 0 < k ∧ k < 64 := hn
  refine (fnT_ok mixed ((tabC rotl_ok tab0)) Tryz.func162 rfl (LT := []) (ks := [.fr [.sym], .auto]) (LOk.nil _)).use (D := []) ?_ hq
  show (fnT _ _ _ _ ((uiC).wr (x, k, ())) ((lNil).wr ()) _).sat _
  rw [rotr_tree]
  have e : k.tmod 64 = k := by rw [Int.tmod_eq_emod_of_nonneg (by omega)]; omega
  rw [e, rotlF_eq hn.1 hn.2]
  exact ⟨rfl, rfl⟩
def chF (x y z : Int) : Int := bitXor .u64 (bitAnd .u64 x y) (bitAnd .u64 (bitXor .u64 18446744073709551615 x) z)
def majF (x y z : Int) : Int := bitXor .u64 (bitXor .u64 (bitAnd .u64 x y) (bitAnd .u64 x z)) (bitAnd .u64 y z)
noncomputable def chE : Ent := Ent.ofS [] (u3C) (lNil) fun x_ y_ => (fun (x y z : Int) => .leaf none (nU (chF x y z)) []) x_.1 x_.2.1 x_.2.2.1
theorem ch_tree (x y z : Int) : fnT Tryz.prog [] [] Tryz.f159 ((u3C).wr (x, y, z, ())) ((lNil).wr ()) [.fr [.sym], .auto] =
  End.leaf (LV.one (VV.sc (SV.int IntKind.u64 (SI.sym (bitXor IntKind.u64 (bitAnd IntKind.u64 x y) (bitAnd IntKind.u64 (bitXor IntKind.u64
  (18446744073709551615 : Int) x) z)))))) [] := by kernel_rfl
theorem ch_ok : chE.Ok Tryz.prog 159 := by
  refine (Ent.ofOk Tryz.call159 fun x_ y_ Q H_ => ?_).sym
  obtain ⟨x, y, z, _⟩ := x_
  have hq := H_.2
  refine (fnT_ok mixed tab0 Tryz.func159 rfl (LT := []) (ks := [.fr [.sym], .auto]) (LOk.nil _)).use (D := []) ?_ hq
  show (fnT _ _ _ _ ((u3C).wr (x, y, z, ())) ((lNil).wr ()) _).sat _
  rw [ch_tree]
  exact ⟨rfl, rfl⟩
noncomputable def majE : Ent := Ent.ofS [] (u3C) (lNil) fun x_ y_ => (fun (x y z : Int) => .leaf none (nU (majF x y z)) []) x_.1 x_.2.1 x_.2.2.1
theorem maj_tree (x y z : Int) : fnT Tryz.prog [] [] Tryz.f160 ((u3C).wr (x, y, z, ())) ((lNil).wr ()) [.fr [.sym], .auto] =
  End.leaf (LV.one (VV.sc (SV.int IntKind.u64 (SI.sym (bitXor IntKind.u64 (bitXor IntKind.u64 (bitAnd IntKind.u64 x y) (bitAnd IntKind.u64 x z)) (bitAnd
  IntKind.u64 y z)))))) [] := by kernel_rfl
theorem maj_ok : majE.Ok Tryz.prog 160 := by
  refine (Ent.ofOk Tryz.call160 fun x_ y_ Q H_ => ?_).sym
  obtain ⟨x, y, z, _⟩ := x_
  have hq := H_.2
  refine (fnT_ok mixed tab0 Tryz.func160 rfl (LT := []) (ks := [.fr [.sym], .auto]) (LOk.nil _)).use (D := []) ?_ hq
  show (fnT _ _ _ _ ((u3C).wr (x, y, z, ())) ((lNil).wr ()) _).sat _
  rw [maj_tree]
  exact ⟨rfl, rfl⟩
def smallF (x a b d : Int) : Int := bitXor .u64 (bitXor .u64 (rotr x a) (rotr x b)) (shr .u64 x d)
def greatF (x a b d : Int) : Int := bitXor .u64 (bitXor .u64 (rotr x a) (rotr x b)) (rotr x d)
noncomputable def smallE : Ent := Ent.ofS [] (ui3C) (lNil) fun x_ y_ => (fun (x a b d : Int) => .leaf (some (0 < a ∧ a < 64 ∧ 0 < b ∧ b < 64 ∧ 0 ≤ d)) (nU (smallF x a b d)) []) x_.1 x_.2.1 x_.2.2.1 x_.2.2.2.1
theorem small_tree (x a b d : Int) : fnT Tryz.prog [(162, rotrE)] [] Tryz.f161 ((ui3C).wr (x, a, b, d, ())) ((lNil).wr ()) [.fr [.sym], .auto] =
  End.need ((0 : Int) < a ∧ a < (64 : Int)) (End.need ((0 : Int) < b ∧ b < (64 : Int)) (End.need ((0 : Int) ≤ d) (End.leaf (LV.one (VV.sc (SV.int
  IntKind.u64 (SI.sym (bitXor IntKind.u64 (bitXor IntKind.u64 (rotr x a) (rotr x b)) (shr IntKind.u64 x d)))))) []))) := by kernel_rfl
theorem small_ok : smallE.Ok Tryz.prog 161 := by
  refine (Ent.ofOk Tryz.call161 fun x_ y_ Q H_ => ?_).sym
  obtain ⟨x, a, b, d, _⟩ := x_
  obtain ⟨hn, hq⟩ := H_
  have hn : 0 < a ∧ a < 64 ∧ 0 < b ∧ b < 64 ∧ 0 ≤ d := hn
  refine (fnT_ok mixed ((tabC rotr_ok tab0)) Tryz.func161 rfl (LT := []) (ks := [.fr [.sym], .auto]) (LOk.nil _)).use (D := []) ?_ hq
  show (fnT _ _ _ _ ((ui3C).wr (x, a, b, d, ())) ((lNil).wr ()) _).sat _
  rw [small_tree]
  exact ⟨⟨hn.1, hn.2.1⟩, ⟨hn.2.2.1, hn.2.2.2.1⟩, hn.2.2.2.2, rfl, rfl⟩
noncomputable def greatE : Ent := Ent.ofS [] (ui3C) (lNil) fun x_ y_ => (fun (x a b d : Int) => .leaf (some (0 < a ∧ a < 64 ∧ 0 < b ∧ b < 64 ∧ 0 < d ∧ d < 64)) (nU (greatF x a b d)) []) x_.1 x_.2.1 x_.2.2.1 x_.2.2.2.1
theorem great_tree (x a b d : Int) : fnT Tryz.prog [(162, rotrE)] [] Tryz.f158 ((ui3C).wr (x, a, b, d, ())) ((lNil).wr ()) [.fr [.sym], .auto] =
  End.need ((0 : Int) < a ∧ a < (64 : Int)) (End.need ((0 : Int) < b ∧ b < (64 : Int)) (End.need ((0 : Int) < d ∧ d < (64 : Int)) (End.leaf (LV.one
  (VV.sc (SV.int IntKind.u64 (SI.sym (bitXor IntKind.u64 (bitXor IntKind.u64 (rotr x a) (rotr x b)) (rotr x d)))))) []))) := by kernel_rfl
theorem great_ok : greatE.Ok Tryz.prog 158 := by
  refine (Ent.ofOk Tryz.call158 fun x_ y_ Q H_ => ?_).sym
  obtain ⟨x, a, b, d, _⟩ := x_
  obtain ⟨hn, hq⟩ := H_
  have hn : 0 < a ∧ a < 64 ∧ 0 < b ∧ b < 64 ∧ 0 < d ∧ d < 64 := hn
  refine (fnT_ok mixed ((tabC rotr_ok tab0)) Tryz.func158 rfl (LT := []) (ks := [.fr [.sym], .auto]) (LOk.nil _)).use (D := []) ?_ hq
  show (fnT _ _ _ _ ((ui3C).wr (x, a, b, d, ())) ((lNil).wr ()) _).sat _
  rw [great_tree]
  exact ⟨⟨hn.1, hn.2.1⟩, ⟨hn.2.2.1, hn.2.2.2.1⟩, hn.2.2.2.2, rfl, rfl⟩
end Go.Proofs.YthdfifcgobfgdaaGreat
end

section
set_option linter.unusedVariables false
set_option linter.unusedSimpArgs false
namespace Go.Proofs.YthdfifcgobfgdaaGreat
open Go Go.Ev
set_option maxRecDepth 100000
def roundsK : List Int := [4794697086780616226, 8158064640168781261, 13096744586834688815, 16840607885511220156, 4131703408338449720, 6480981068601479193, 10538285296894168987, 12329834152419229976, 15566598209576043074, 1334009975649890238, 2608012711638119052, 6128411473006802146, 8268148722764581231, 9286055187155687089, 11230858885718282805, 13951009754708518548, 16472876342353939154, 17275323862435702243, 1135362057144423861, 2597628984639134821, 3308224258029322869, 5365058923640841347, 6679025012923562964, 8573033837759648693, 10970295158949994411, 12119686244451234320, 12683024718118986047, 13788192230050041572, 14330467153632333762, 15395433587784984357, 489312712824947311, 1452737877330783856, 2861767655752347644, 3322285676063803686, 5560940570517711597, 5996557281743188959, 7280758554555802590, 8532644243296465576, 9350256976987008742, 10552545826968843579, 11727347734174303076, 12113106623233404929, 14000437183269869457, 14369950271660146224, 15101387698204529176, 15463397548674623760, 17586052441742319658, 1182934255886127544, 1847814050463011016, 2177327727835720531, 2830643537854262169, 3796741975233480872, 4115178125766777443, 5681478168544905931, 6601373596472566643, 7507060721942968483, 8399075790359081724, 8693463985226723168, 9568029438360202098, 10144078919501101548, 10430055236837252648, 11840083180663258601, 13761210420658862357, 14299343276471374635, 14566680578165727644, 15097957966210449927, 16922976911328602910, 17689382322260857208, 500013540394364858, 748580250866718886, 1242879168328830382, 1977374033974150939, 2944078676154940804, 3659926193048069267, 4368137639120453308, 4836135668995329356, 5532061633213252278, 6448918945643986474, 6902733635092675308, 7801388544844847127]
def beginK : List Int := [7640891576956012808, 13503953896175478587, 4354685564936845355, 11912009170470909681, 5840696475078001361, 11170449401992604703, 2270897969802886507, 6620516959819538809]
noncomputable def beginE : Ent := Ent.ofS [] lNil lNil fun _ _ => .leaf none (nRow .u64 8 beginK) []
noncomputable def roundsE : Ent := Ent.ofS [] lNil lNil fun _ _ => .leaf none (nRow .u64 80 roundsK) []
theorem begin_tree : fnT Tryz.prog [] [] Tryz.f113 (lNil.wr ()) (lNil.wr ()) [.fr [.sym], .rowF 0 0 8 .u64, .auto] = .leaf (nRow .u64 8 beginK) [] := by kernel_rfl
theorem rounds_tree : fnT Tryz.prog [] [] Tryz.f156 (lNil.wr ()) (lNil.wr ()) [.fr [.sym], .auto] = .leaf (nRow .u64 80 roundsK) [] := by kernel_rfl
theorem begin_ok : beginE.Ok Tryz.prog 113 := by
  refine (Ent.ofOk Tryz.call113 fun x_ y_ Q h => ?_).sym
  refine (fnT_ok mixed tab0 Tryz.func113 rfl (LT := []) (ks := [.fr [.sym], .rowF 0 0 8 .u64, .auto]) (LOk.nil _)).use (D := []) ?_ h.2
  show (fnT _ _ _ _ (lNil.wr ()) (lNil.wr ()) _).sat _
  rw [begin_tree]
  exact ⟨rfl, rfl⟩
theorem rounds_ok : roundsE.Ok Tryz.prog 156 := by
  refine (Ent.ofOk Tryz.call156 fun x_ y_ Q h => ?_).sym
  refine (fnT_ok mixed tab0 Tryz.func156 rfl (LT := []) (ks := [.fr [.sym], .auto]) (LOk.nil _)).use (D := []) ?_ h.2
  show (fnT _ _ _ _ (lNil.wr ()) (lNil.wr ()) _).sat _
  rw [rounds_tree]
  exact ⟨rfl, rfl⟩
def wordF (b : List Int) (k : Nat) (m : List Int) : List Int := m.set (k / 8) (bitOr .u64 (shl .u64 (m.getD (k / 8) 0) 8) (IntKind.u64.wrap (b.getD k 0)))
def wordsF (b : List Int) : List Int := upto (wordF b) 0 128 (List.replicate 16 0)
theorem wordF_length (b : List Int) (k : Nat) (m : List Int) : (wordF b k m).length = m.length := by simp [wordF]
noncomputable abbrev woFn : Func := Tryz.f143
abbrev woC : Cod (List LV) (List Int × Int × Int × Unit) := (jk 2 (lSkip (vOne (sPtr 0 0)) (jk 1 (lSkip (vOne (sPtr 1 0)) (jk 6 (lCons (vOne (sRd false false u8)) (lCons (vOne (sInt .i64)) (lCons (vOne (sInt .i64)) (jk 17 lNil)))))))))
abbrev woCf : Wk := .fr (fmS 31 [(2, .keep), (4, .keep), (11, .keep), (12, .sym), (13, .sym)])
abbrev woX : Cod (List LV) (Unit) := (jk 2 (lSkip (vOne (sPtr 0 0)) (jk 1 (lSkip (vOne (sPtr 1 0)) (jk 26 lNil)))))
abbrev woXf : Wk := .fr (fmS 31 [(2, .keep), (4, .keep)])
abbrev woH : Cod Hp (List Int × List Int × Unit) := lCons (iRow 152 .u64 16) (lCons (iRow 152 .u64 16) lNil)
def woW : Exit → List Wk
  | .normal => [woCf, .rowB 0 0 16 .u64, .rowB 1 0 16 .u64, .auto]
  | .exit 0 => [woXf, .auto]
  | _ => []
theorem wo_rnd (b : List Int) (n i : Int) (r m : List Int) : rndT Tryz.prog [] [] woFn 0 [] woW ((stC woC woH).wr ((b, n, i, ()), (r, m, ()))) =
  Res.ite (decide (i < n)) (Res.need ((0 : Int) ≤ i ∧ i < (↑b.length : Int)) (Res.need ((0 : Int) ≤ IntKind.i64.wrap (i.tdiv (8 : Int)) ∧
  IntKind.i64.wrap (i.tdiv (8 : Int)) < (16 : Int)) (Res.need ((0 : Int) ≤ IntKind.i64.wrap (i.tdiv (8 : Int)) ∧ IntKind.i64.wrap (i.tdiv (8 : Int)) <
  (16 : Int)) (Res.leaf Exit.normal ((stC woC woH).wr ((b, n, IntKind.i64.wrap (i + (1 : Int)), PUnit.unit), r, m.set ((0 : Nat) + (IntKind.i64.wrap
  (i.tdiv (8 : Int))).toNat) (bitOr IntKind.u64 (shl IntKind.u64 ((List.take (16 : Nat) (List.drop (0 : Nat) m)).getD (IntKind.i64.wrap (i.tdiv (8 :
  Int))).toNat (0 : Int)) (8 : Int)) (IntKind.u64.wrap (b.getD i.toNat (0 : Int)))), PUnit.unit)))))) (Res.leaf (Exit.exit (0 : Nat)) ((stC woX woH).wr
  (PUnit.unit, r, m, PUnit.unit))) := by kernel_rfl
noncomputable def woF (x : (List Int × Int × Int × Unit) × List Int × List Int × Unit) : Res :=
  .need (x.1.1.length = 128 ∧ x.1.2.1 = 128 ∧ x.1.2.2.1 = 0 ∧ x.2.2.1 = List.replicate 16 0) (.leaf (.exit 0) ((stC woX woH).wr ((), (x.2.1, wordsF x.1.1, ()))))
theorem wo_loop (x) : Ex Tryz.prog [] (.loop (loopAt woFn 0)) ((stC woC woH).wr x) (woF x) := by
  obtain ⟨⟨b, n, i, _⟩, r, m, _⟩ := x
  refine Ex.need fun ⟨h1, h2, h3, h4⟩ => ?_
  simp only at h1 h2 h3 h4
  subst h2 h3 h4
  refine loopUp (ws := woW) (hp := []) mixed tab0 (LOk.nil _) 128 (fun k m => (stC woC woH).wr ((b, 128, (k : Int), ()), (r, m, ()))) (fun m => (stC woX woH).wr ((), (r, m, ()))) (wordF b) (fun _ m => m.length = 16)
    (fun k m R hk hm hn hx => ?_) (fun k m _ hm => by rw [wordF_length]; exact hm) 0 (List.replicate 16 0) (by omega) (by simp)
  rw [wo_rnd]
  refine ⟨fun hb => ?_, fun hb => ?_⟩
  · have hlt : k < 128 := by have := of_decide_eq_true hb; omega
    have e : IntKind.i64.wrap ((k : Int).tdiv 8) = ((k / 8 : Nat) : Int) := tdiv_nat k 8 (by omega)
    rw [e, take_all hm, wrap_succ k (by omega)]
    simp only [Int.toNat_natCast, Nat.zero_add]
    exact ⟨by omega, by omega, by omega, hn hlt⟩
  · have : k = 128 := by have := of_decide_eq_false hb; omega
    exact hx this
noncomputable abbrev woLT : LTab := [(0, loopF (stC woC woH) 0 [woCf, .rowB 0 0 16 .u64, .rowB 1 0 16 .u64, .auto] woF)]
noncomputable def wordsE : Ent := Ent.ofS [some u8] (bA) (lNil) fun x_ y_ => (fun (b : List Int) => .leaf (some (b.length = 128)) (.tup [.agg [.arr (.int .u64) 16 (wordsF b)], .sc (.bool (.sym true))]) []) x_.1
theorem words_tree (b : List Int) : fnT Tryz.prog [] woLT Tryz.f143 ((bA).wr (b, ())) ((lNil).wr ()) [.fr [.sym], .rowF 0 0 16 .u64, .auto] =
  End.ite ((↑b.length : Int) != (128 : Int)) (End.leaf (LV.tup [VV.agg [SV.arr (Ty.int IntKind.u64) (16 : Nat) [(0 : Int), (0 : Int), (0 : Int), (0 :
  Int), (0 : Int), (0 : Int), (0 : Int), (0 : Int), (0 : Int), (0 : Int), (0 : Int), (0 : Int), (0 : Int), (0 : Int), (0 : Int), (0 : Int)]], VV.sc
  (SV.bool (SB.sym false))]) []) (End.need (b.length = (128 : Nat) ∧ (↑b.length : Int) = (128 : Int) ∧ (0 : Int) = (0 : Int) ∧ [(0 : Int), (0 : Int), (0
  : Int), (0 : Int), (0 : Int), (0 : Int), (0 : Int), (0 : Int), (0 : Int), (0 : Int), (0 : Int), (0 : Int), (0 : Int), (0 : Int), (0 : Int), (0 : Int)]
  = List.replicate (16 : Nat) (0 : Int)) (End.leaf (LV.tup [VV.agg [SV.arr (Ty.int IntKind.u64) (16 : Nat) (wordsF b)], VV.sc (SV.bool (SB.sym true))])
  [])) := by kernel_rfl
theorem words_ok : wordsE.Ok Tryz.prog 143 := by
  refine (Ent.ofOk Tryz.call143 fun x_ y_ Q H_ => ?_).sym
  obtain ⟨b, _⟩ := x_
  obtain ⟨hn, hq⟩ := H_
  have hn : b.length = 128 := hn
  refine (fnT_ok mixed tab0 Tryz.func143 rfl (LT := woLT) (ks := [.fr [.sym], .rowF 0 0 16 .u64, .auto]) (LOk.ofTab (LTC rfl (loopF_ok (hp := []) wo_loop) LT0))).use (D := []) ?_ hq
  show (fnT _ _ _ _ ((bA).wr (b, ())) ((lNil).wr ()) _).sat _
  rw [words_tree]
  refine ⟨fun h => ?_, fun h => ⟨⟨hn, by omega, rfl, rfl⟩, rfl, rfl⟩⟩
  simp [hn] at h
def schF (t : Nat) (w : List Int) : List Int := w.set t (IntKind.u64.wrap (IntKind.u64.wrap (IntKind.u64.wrap (smallF (w.getD (t - 2) 0) 19 61 6 + w.getD (t - 7) 0) + smallF (w.getD (t - 15) 0) 1 8 7) + w.getD (t - 16) 0))
def schedF (m : List Int) : List Int := upto schF 16 64 (m ++ List.replicate 64 0)
noncomputable abbrev scFn : Func := Tryz.f157
abbrev scA : Cod (List LV) (List Int × Unit) := lCons (vRow .u64 16) lNil
abbrev scC : Cod (List LV) (Int × Unit) := (jk 2 (lSkip (vOne (sPtr 0 0)) (lSkip (vOne (sPtr 1 0)) (lCons (vOne (sInt .i64)) (jk 31 lNil)))))
abbrev scCf : Wk := .fr (fmS 36 [(2, .keep), (3, .keep), (4, .sym)])
abbrev scX : Cod (List LV) (Unit) := (jk 2 (lSkip (vOne (sPtr 0 0)) (lSkip (vOne (sPtr 1 0)) (jk 32 lNil))))
abbrev scXf : Wk := .fr (fmS 36 [(2, .keep), (3, .keep)])
abbrev scH : Cod Hp (List Int × List Int × Unit) := lCons (iRow 171 .u64 80) (lCons (iRow 171 .u64 80) lNil)
noncomputable abbrev scTab : List (FuncId × Ent) := [(161, smallE)]
theorem scTab_ok : ∀ p ∈ scTab, p.2.Ok Tryz.prog p.1 := tabC small_ok tab0
def scW : Exit → List Wk
  | .normal => [scCf, .auto]
  | .exit 0 => [scXf, .auto]
  | _ => []
theorem sc_rnd (t : Int) (r w : List Int) : rndT Tryz.prog scTab [] scFn 0 [] scW ((stC scC scH).wr ((t, ()), (r, w, ()))) =
  Res.ite (decide (t < (80 : Int))) (Res.need ((0 : Int) ≤ IntKind.i64.wrap (t - (2 : Int)) ∧ IntKind.i64.wrap (t - (2 : Int)) < (80 : Int)) (Res.need
  ((0 : Int) < (19 : Int) ∧ (19 : Int) < (64 : Int) ∧ (0 : Int) < (61 : Int) ∧ (61 : Int) < (64 : Int) ∧ (0 : Int) ≤ (6 : Int)) (Res.need ((0 : Int) ≤
  IntKind.i64.wrap (t - (7 : Int)) ∧ IntKind.i64.wrap (t - (7 : Int)) < (80 : Int)) (Res.need ((0 : Int) ≤ IntKind.i64.wrap (t - (15 : Int)) ∧
  IntKind.i64.wrap (t - (15 : Int)) < (80 : Int)) (Res.need ((0 : Int) < (1 : Int) ∧ (1 : Int) < (64 : Int) ∧ (0 : Int) < (8 : Int) ∧ (8 : Int) < (64 :
  Int) ∧ (0 : Int) ≤ (7 : Int)) (Res.need ((0 : Int) ≤ IntKind.i64.wrap (t - (16 : Int)) ∧ IntKind.i64.wrap (t - (16 : Int)) < (80 : Int)) (Res.need ((0
  : Int) ≤ t ∧ t < (80 : Int)) (Res.leaf Exit.normal ((stC scC scH).wr ((IntKind.i64.wrap (t + (1 : Int)), PUnit.unit), r, w.set ((0 : Nat) + t.toNat)
  (IntKind.u64.wrap (IntKind.u64.wrap (IntKind.u64.wrap (smallF ((List.take (80 : Nat) (List.drop (0 : Nat) w)).getD (IntKind.i64.wrap (t - (2 :
  Int))).toNat (0 : Int)) (19 : Int) (61 : Int) (6 : Int) + (List.take (80 : Nat) (List.drop (0 : Nat) w)).getD (IntKind.i64.wrap (t - (7 : Int))).toNat
  (0 : Int)) + smallF ((List.take (80 : Nat) (List.drop (0 : Nat) w)).getD (IntKind.i64.wrap (t - (15 : Int))).toNat (0 : Int)) (1 : Int) (8 : Int) (7 :
  Int)) + (List.take (80 : Nat) (List.drop (0 : Nat) w)).getD (IntKind.i64.wrap (t - (16 : Int))).toNat (0 : Int))), PUnit.unit)))))))))) (Res.leaf
  (Exit.exit (0 : Nat)) ((stC scX scH).wr (PUnit.unit, r, w, PUnit.unit))) := by kernel_rfl
noncomputable def scF (x : (Int × Unit) × List Int × List Int × Unit) : Res :=
  .need (x.1.1 = 16 ∧ x.2.2.1.length = 80) (.leaf (.exit 0) ((stC scX scH).wr ((), (x.2.1, upto schF 16 64 x.2.2.1, ()))))
theorem schF_length (t : Nat) (w : List Int) : (schF t w).length = w.length := by simp [schF]
theorem sc_loop (x) : Ex Tryz.prog [] (.loop (loopAt scFn 0)) ((stC scC scH).wr x) (scF x) := by
  obtain ⟨⟨i, _⟩, r, w, _⟩ := x
  refine Ex.need fun ⟨h1, h2⟩ => ?_
  simp only at h1 h2
  subst h1
  refine loopUp (ws := scW) (hp := []) mixed scTab_ok (LOk.nil _) 80 (fun k w => (stC scC scH).wr (((k : Int), ()), (r, w, ()))) (fun w => (stC scX scH).wr ((), (r, w, ()))) schF (fun k w => 16 ≤ k ∧ w.length = 80)
    (fun k w R hk hm hn hx => ?_) (fun k m _ hm => ⟨by omega, by rw [schF_length]; exact hm.2⟩) 16 w (by omega) ⟨by omega, h2⟩
  obtain ⟨h16, hm⟩ := hm
  rw [sc_rnd]
  refine ⟨fun hb => ?_, fun hb => ?_⟩
  · have hlt : k < 80 := by have := of_decide_eq_true hb; omega
    have e2 : IntKind.i64.wrap ((k : Int) - 2) = ((k - 2 : Nat) : Int) := wrap_sub k 2 (by omega) (by omega)
    have e7 : IntKind.i64.wrap ((k : Int) - 7) = ((k - 7 : Nat) : Int) := wrap_sub k 7 (by omega) (by omega)
    have e15 : IntKind.i64.wrap ((k : Int) - 15) = ((k - 15 : Nat) : Int) := wrap_sub k 15 (by omega) (by omega)
    have e16 : IntKind.i64.wrap ((k : Int) - 16) = ((k - 16 : Nat) : Int) := wrap_sub k 16 (by omega) (by omega)
    rw [e2, e7, e15, e16, take_all hm, wrap_succ k (by omega)]
    simp only [Int.toNat_natCast, Nat.zero_add]
    exact ⟨by omega, by decide, by omega, by omega, by decide, by omega, by omega, hn hlt⟩
  · have : k = 80 := by have := of_decide_eq_false hb; omega
    exact hx this
noncomputable abbrev scLT : LTab := [(0, loopF (stC scC scH) 0 [scCf, .auto] scF)]
noncomputable def schedE : Ent := Ent.ofS [] (scA) (lNil) fun x_ y_ => (fun (m : List Int) => .leaf (some (m.length = 16)) (nRow .u64 80 (schedF m)) []) x_.1
theorem sched_tree (m : List Int) : fnT Tryz.prog scTab scLT Tryz.f157 ((scA).wr (m, ())) ((lNil).wr ()) [.fr [.sym], .auto] =
  End.need ((0 : Int) ≤ (0 : Int) ∧ (0 : Int) ≤ (80 : Int) ∧ (80 : Int) ≤ (80 : Int)) (End.need ((0 : Int) ≤ (0 : Int) ∧ (0 : Int) ≤ (16 : Int) ∧ (16 :
  Int) ≤ (16 : Int)) (End.need ((16 : Int) = (16 : Int) ∧ (List.take (0 : Nat) (List.replicate (80 : Nat) (0 : Int)) ++ (List.take (80 : Nat) (List.take
  (16 : Nat) (List.drop (0 : Nat) m)) ++ List.drop ((0 : Nat) + if (80 : Nat) ≤ (List.take (16 : Nat) (List.drop (0 : Nat) m)).length then (80 : Nat)
  else (List.take (16 : Nat) (List.drop (0 : Nat) m)).length) (List.replicate (80 : Nat) (0 : Int)))).length = (80 : Nat)) (End.leaf (LV.one (VV.agg
  [SV.arr (Ty.int IntKind.u64) (80 : Nat) (upto schF (16 : Nat) (64 : Nat) (List.take (0 : Nat) (List.replicate (80 : Nat) (0 : Int)) ++ (List.take (80 :
  Nat) (List.take (16 : Nat) (List.drop (0 : Nat) m)) ++ List.drop ((0 : Nat) + if (80 : Nat) ≤ (List.take (16 : Nat) (List.drop (0 : Nat) m)).length
  then (80 : Nat) else (List.take (16 : Nat) (List.drop (0 : Nat) m)).length) (List.replicate (80 : Nat) (0 : Int)))))])) []))) := by kernel_rfl
theorem sched_ok : schedE.Ok Tryz.prog 157 := by
  refine (Ent.ofOk Tryz.call157 fun x_ y_ Q H_ => ?_).sym
  obtain ⟨m, _⟩ := x_
  obtain ⟨hn, hq⟩ := H_
  have hn : m.length = 16 := hn
  refine (fnT_ok mixed scTab_ok Tryz.func157 rfl (LT := scLT) (ks := [.fr [.sym], .auto]) (LOk.ofTab (LTC rfl (loopF_ok (hp := []) sc_loop) LT0))).use (D := []) ?_ hq
  show (fnT _ _ _ _ ((scA).wr (m, ())) ((lNil).wr ()) _).sat _
  rw [sched_tree]
  have e : List.take 0 (List.replicate 80 (0 : Int)) ++ (List.take 80 (List.take 16 (List.drop 0 m)) ++ List.drop (0 + if 80 ≤ (List.take 16 (List.drop 0 m)).length then 80 else (List.take 16 (List.drop 0 m)).length) (List.replicate 80 0)) = m ++ List.replicate 64 0 := by
    rw [take_all hn, hn]
    simp [List.take_of_length_le (show m.length ≤ 80 by omega)]
  rw [e]
  refine ⟨by omega, by omega, ⟨rfl, by simp [hn]⟩, rfl, rfl⟩
def oneF (w : List Int) (t : Nat) (x : List Int) : Int :=
  IntKind.u64.wrap (IntKind.u64.wrap (IntKind.u64.wrap (IntKind.u64.wrap (x.getD 7 0 + greatF (x.getD 4 0) 14 18 41) + chF (x.getD 4 0) (x.getD 5 0) (x.getD 6 0)) + roundsK.getD t 0) + w.getD t 0)
def twoF (x : List Int) : Int := IntKind.u64.wrap (greatF (x.getD 0 0) 28 34 39 + majF (x.getD 0 0) (x.getD 1 0) (x.getD 2 0))
def rndF (w : List Int) (t : Nat) (x : List Int) : List Int :=
  [IntKind.u64.wrap (oneF w t x + twoF x), x.getD 0 0, x.getD 1 0, x.getD 2 0, IntKind.u64.wrap (x.getD 3 0 + oneF w t x), x.getD 4 0, x.getD 5 0, x.getD 6 0]
def addF (x s : List Int) : List Int := (List.range 8).map fun i => IntKind.u64.wrap (x.getD i 0 + s.getD i 0)
def allF (w x : List Int) : List Int := upto (rndF w) 0 80 x
def stepF (s m : List Int) : List Int := addF (allF (schedF m) s) s
theorem sched_length {m : List Int} (h : m.length = 16) : (schedF m).length = 80 := by
  unfold schedF
  exact upto_inv (f := schF) (n := 80) (fun (_ : Nat) (w : List Int) => w.length = 80) (fun t w _ h => by rw [schF_length]; exact h) 64 16 (m ++ List.replicate 64 0) (by omega) (by simp [h])
noncomputable abbrev stFn : Func := Tryz.f144
abbrev spC : Cod (List LV) (Int × Unit) := (jk 2 (lSkip (vOne (sPtr 0 0)) (jk 1 (lSkip (vOne (sPtr 1 0)) (lSkip (vOne (sPtr 2 0)) (lSkip (vOne (sPtr 3 0)) (lSkip (vOne (sPtr 4 0)) (jk 8 (lCons (vOne (sInt .i64)) (jk 69 lNil))))))))))
abbrev spCf : Wk := .fr (fmS 86 [(2, .keep), (4, .keep), (5, .keep), (6, .keep), (7, .keep), (16, .sym)])
abbrev spX : Cod (List LV) (Unit) := (jk 2 (lSkip (vOne (sPtr 0 0)) (jk 1 (lSkip (vOne (sPtr 1 0)) (jk 2 (lSkip (vOne (sPtr 2 0)) (jk 78 lNil)))))))
abbrev spXf : Wk := .fr (fmS 86 [(2, .keep), (4, .keep), (7, .keep)])
abbrev spHX : Cod Hp (List Int × List Int × List Int × Unit) := lCons (iRow 92 .u64 8) (lCons (iCells 92 .u64 8) (lCons (iCells 92 .u64 8) lNil))
abbrev spH : Cod Hp (List Int × List Int × List Int × List Int × List Int × Unit) := lCons (iRow 92 .u64 8) (lCons (iRow 92 .u64 8) (lCons (iRow 171 .u64 80) (lCons (iRow 171 .u64 80) (lCons (iRow 92 .u64 8) lNil))))
noncomputable abbrev spTab : List (FuncId × Ent) := [(156, roundsE), (157, schedE), (158, greatE), (159, chE), (160, majE)]
theorem spTab_ok : ∀ p ∈ spTab, p.2.Ok Tryz.prog p.1 := tabC rounds_ok (tabC sched_ok (tabC great_ok (tabC ch_ok (tabC maj_ok tab0))))
def spW : Exit → List Wk
  | .normal => [spCf, .rowB 4 0 8 .u64, .auto]
  | .exit 0 => [spXf, .auto, .cellB 1, .cellB 2]
  | _ => []
theorem sp_rnd (t : Int) (s r k w x : List Int) : rndT Tryz.prog spTab [] stFn 0 [] spW ((stC spC spH).wr ((t, ()), (s, r, k, w, x, ()))) =
  Res.ite (decide (t < (80 : Int))) (Res.need ((0 : Int) < (14 : Int) ∧ (14 : Int) < (64 : Int) ∧ (0 : Int) < (18 : Int) ∧ (18 : Int) < (64 : Int) ∧ (0 :
  Int) < (41 : Int) ∧ (41 : Int) < (64 : Int)) (Res.need ((0 : Int) ≤ t ∧ t < (80 : Int)) (Res.need ((0 : Int) ≤ t ∧ t < (80 : Int)) (Res.need ((0 : Int)
  < (28 : Int) ∧ (28 : Int) < (64 : Int) ∧ (0 : Int) < (34 : Int) ∧ (34 : Int) < (64 : Int) ∧ (0 : Int) < (39 : Int) ∧ (39 : Int) < (64 : Int)) (Res.leaf
  Exit.normal ((stC spC spH).wr ((IntKind.i64.wrap (t + (1 : Int)), PUnit.unit), s, r, k, w, [IntKind.u64.wrap (IntKind.u64.wrap (IntKind.u64.wrap
  (IntKind.u64.wrap (IntKind.u64.wrap (x.getD (7 : Nat) (0 : Int) + greatF (x.getD (4 : Nat) (0 : Int)) (14 : Int) (18 : Int) (41 : Int)) + chF (x.getD
  (4 : Nat) (0 : Int)) (x.getD (5 : Nat) (0 : Int)) (x.getD (6 : Nat) (0 : Int))) + (List.take (80 : Nat) (List.drop (0 : Nat) k)).getD t.toNat (0 :
  Int)) + (List.take (80 : Nat) (List.drop (0 : Nat) w)).getD t.toNat (0 : Int)) + IntKind.u64.wrap (greatF (x.getD (0 : Nat) (0 : Int)) (28 : Int) (34 :
  Int) (39 : Int) + majF (x.getD (0 : Nat) (0 : Int)) (x.getD (1 : Nat) (0 : Int)) (x.getD (2 : Nat) (0 : Int)))), x.getD (0 : Nat) (0 : Int), x.getD (1
  : Nat) (0 : Int), x.getD (2 : Nat) (0 : Int), IntKind.u64.wrap (x.getD (3 : Nat) (0 : Int) + IntKind.u64.wrap (IntKind.u64.wrap (IntKind.u64.wrap
  (IntKind.u64.wrap (x.getD (7 : Nat) (0 : Int) + greatF (x.getD (4 : Nat) (0 : Int)) (14 : Int) (18 : Int) (41 : Int)) + chF (x.getD (4 : Nat) (0 :
  Int)) (x.getD (5 : Nat) (0 : Int)) (x.getD (6 : Nat) (0 : Int))) + (List.take (80 : Nat) (List.drop (0 : Nat) k)).getD t.toNat (0 : Int)) + (List.take
  (80 : Nat) (List.drop (0 : Nat) w)).getD t.toNat (0 : Int))), x.getD (4 : Nat) (0 : Int), x.getD (5 : Nat) (0 : Int), x.getD (6 : Nat) (0 : Int)],
  PUnit.unit))))))) (Res.leaf (Exit.exit (0 : Nat)) ((stC spX spHX).wr (PUnit.unit, s, [r.getD (nat_lit 0) (0 : Int), r.getD (nat_lit 1) (0 : Int),
  r.getD (nat_lit 2) (0 : Int), r.getD (nat_lit 3) (0 : Int), r.getD (nat_lit 4) (0 : Int), r.getD (nat_lit 5) (0 : Int), r.getD (nat_lit 6) (0 : Int),
  r.getD (nat_lit 7) (0 : Int)], [x.getD (nat_lit 0) (0 : Int), x.getD (nat_lit 1) (0 : Int), x.getD (nat_lit 2) (0 : Int), x.getD (nat_lit 3) (0 : Int),
  x.getD (nat_lit 4) (0 : Int), x.getD (nat_lit 5) (0 : Int), x.getD (nat_lit 6) (0 : Int), x.getD (nat_lit 7) (0 : Int)], PUnit.unit))) := by kernel_rfl
noncomputable def spF (x : (Int × Unit) × List Int × List Int × List Int × List Int × List Int × Unit) : Res :=
  .need (x.1.1 = 0 ∧ x.2.2.2.1 = roundsK ∧ x.2.2.2.2.1.length = 80 ∧ x.2.2.2.2.2.1.length = 8) (.leaf (.exit 0) ((stC spX spHX).wr ((), (x.2.1, x.2.2.1, allF x.2.2.2.2.1 x.2.2.2.2.2.1, ()))))
theorem sp_loop (x) : Ex Tryz.prog [] (.loop (loopAt stFn 0)) ((stC spC spH).wr x) (spF x) := by
  obtain ⟨⟨i, _⟩, s, r, k, w, x, _⟩ := x
  refine Ex.need fun ⟨h1, h2, h3, h4⟩ => ?_
  simp only at h1 h2 h3 h4
  subst h1 h2
  refine loopUp (ws := spW) (hp := []) mixed spTab_ok (LOk.nil _) 80 (fun j x => (stC spC spH).wr (((j : Int), ()), (s, r, roundsK, w, x, ()))) (fun x => (stC spX spHX).wr ((), (s, r, x, ()))) (rndF w) (fun _ x => x.length = 8)
    (fun j x R hk hm hn hx => ?_) (fun k m _ hm => rfl) 0 x (by omega) h4
  rw [sp_rnd]
  refine ⟨fun hb => ?_, fun hb => ?_⟩
  · have hlt : j < 80 := by have := of_decide_eq_true hb; omega
    rw [take_all h3, take_all (l := roundsK) (n := 80) rfl, wrap_succ j (by omega)]
    simp only [Int.toNat_natCast]
    exact ⟨by decide, by omega, by omega, by decide, hn hlt⟩
  · have : j = 80 := by have := of_decide_eq_false hb; omega
    exact hx this
noncomputable abbrev spLT : LTab := [(0, loopF (stC spC spH) 0 [spCf, .auto, .rowB 1 0 8 .u64, .rowB 4 0 8 .u64] spF)]
abbrev stA : Cod (List LV) (List Int × List Int × Unit) := lCons (vRow .u64 8) (lCons (vRow .u64 16) lNil)
noncomputable def stepE : Ent := Ent.ofS [] (stA) (lNil) fun x_ y_ => (fun (s m : List Int) => .leaf (some (s.length = 8 ∧ m.length = 16)) (nRow .u64 8 (stepF s m)) []) x_.1 x_.2.1
theorem step_tree (s m : List Int) : fnT Tryz.prog spTab spLT Tryz.f144 ((stA).wr (s, m, ())) ((lNil).wr ()) [.fr [.sym], .rowF 0 0 8 .u64, .auto] =
  End.need (m.length = (16 : Nat)) (End.need ((0 : Int) = (0 : Int) ∧ roundsK = roundsK ∧ (schedF m).length = (80 : Nat) ∧ s.length = (8 : Nat))
  (End.leaf (LV.one (VV.agg [SV.arr (Ty.int IntKind.u64) (8 : Nat) [IntKind.u64.wrap ((allF (schedF m) s).getD (nat_lit 0) (0 : Int) + s.getD (0 : Nat)
  (0 : Int)), IntKind.u64.wrap ((allF (schedF m) s).getD (nat_lit 1) (0 : Int) + s.getD (1 : Nat) (0 : Int)), IntKind.u64.wrap ((allF (schedF m) s).getD
  (nat_lit 2) (0 : Int) + s.getD (2 : Nat) (0 : Int)), IntKind.u64.wrap ((allF (schedF m) s).getD (nat_lit 3) (0 : Int) + s.getD (3 : Nat) (0 : Int)),
  IntKind.u64.wrap ((allF (schedF m) s).getD (nat_lit 4) (0 : Int) + s.getD (4 : Nat) (0 : Int)), IntKind.u64.wrap ((allF (schedF m) s).getD (nat_lit 5)
  (0 : Int) + s.getD (5 : Nat) (0 : Int)), IntKind.u64.wrap ((allF (schedF m) s).getD (nat_lit 6) (0 : Int) + s.getD (6 : Nat) (0 : Int)),
  IntKind.u64.wrap ((allF (schedF m) s).getD (nat_lit 7) (0 : Int) + s.getD (7 : Nat) (0 : Int))]])) [])) := by kernel_rfl
theorem step_ok : stepE.Ok Tryz.prog 144 := by
  refine (Ent.ofOk Tryz.call144 fun x_ y_ Q H_ => ?_).sym
  obtain ⟨s, m, _⟩ := x_
  obtain ⟨hn, hq⟩ := H_
  have hn : s.length = 8 ∧ m.length = 16 := hn
  refine (fnT_ok mixed spTab_ok Tryz.func144 rfl (LT := spLT) (ks := [.fr [.sym], .rowF 0 0 8 .u64, .auto]) (LOk.ofTab (LTC rfl (loopF_ok (hp := []) sp_loop) LT0))).use (D := []) ?_ hq
  show (fnT _ _ _ _ ((stA).wr (s, m, ())) ((lNil).wr ()) _).sat _
  rw [step_tree]
  exact ⟨hn.2, ⟨rfl, rfl, sched_length hn.2, hn.1⟩, rfl, rfl⟩
theorem step_length (s m : List Int) : (stepF s m).length = 8 := rfl
end Go.Proofs.YthdfifcgobfgdaaGreat
end

section
set_option linter.unusedVariables false
set_option linter.unusedSimpArgs false
namespace Go.Proofs.YthdfifcgobfgdaaGreat
open Go Go.Ev
set_option maxRecDepth 100000
noncomputable def rbeginE : Ent := Ent.ofS [] lNil lNil fun _ _ => .leaf none (nRow .u64 8 beginK) []
noncomputable def rroundsE : Ent := Ent.ofS [] lNil lNil fun _ _ => .leaf none (nRow .u64 80 roundsK) []
theorem rbegin_tree : fnT Tryz.prog [] [] Tryz.f76 (lNil.wr ()) (lNil.wr ()) [.fr [.sym], .rowF 0 0 8 .u64, .auto] = .leaf (nRow .u64 8 beginK) [] := by kernel_rfl
theorem rrounds_tree : fnT Tryz.prog [] [] Tryz.f150 (lNil.wr ()) (lNil.wr ()) [.fr [.sym], .auto] = .leaf (nRow .u64 80 roundsK) [] := by kernel_rfl
theorem rbegin_ok : rbeginE.Ok Tryz.prog 76 := by
  refine (Ent.ofOk Tryz.call76 fun x_ y_ Q h => ?_).sym
  refine (fnT_ok mixed tab0 Tryz.func76 rfl (LT := []) (ks := [.fr [.sym], .rowF 0 0 8 .u64, .auto]) (LOk.nil _)).use (D := []) ?_ h.2
  show (fnT _ _ _ _ (lNil.wr ()) (lNil.wr ()) _).sat _
  rw [rbegin_tree]
  exact ⟨rfl, rfl⟩
theorem rrounds_ok : rroundsE.Ok Tryz.prog 150 := by
  refine (Ent.ofOk Tryz.call150 fun x_ y_ Q h => ?_).sym
  refine (fnT_ok mixed tab0 Tryz.func150 rfl (LT := []) (ks := [.fr [.sym], .auto]) (LOk.nil _)).use (D := []) ?_ h.2
  show (fnT _ _ _ _ (lNil.wr ()) (lNil.wr ()) _).sat _
  rw [rrounds_tree]
  exact ⟨rfl, rfl⟩
noncomputable def rrotrE : Ent := Ent.ofS [] (uiC) (lNil) fun x_ y_ => (fun (x n : Int) => .leaf (some (0 < n ∧ n < 64)) (nU (rotr x n)) []) x_.1 x_.2.1
theorem rrotr_tree (x n : Int) : fnT Tryz.prog [] [] Tryz.f151 ((uiC).wr (x, n, ())) ((lNil).wr ()) [.fr [.sym], .auto] =
  End.ite (IntKind.u64.wrap ((IntKind.i64.wrap (n.tmod (64 : Int) + (64 : Int))).tmod (64 : Int)) == (0 : Int)) (End.leaf (LV.one (VV.sc (SV.int
  IntKind.u64 (SI.sym x)))) []) (End.need ((0 : Int) ≤ IntKind.u64.wrap ((IntKind.i64.wrap (n.tmod (64 : Int) + (64 : Int))).tmod (64 : Int))) (End.need
  ((0 : Int) ≤ IntKind.u64.wrap ((64 : Int) - IntKind.u64.wrap ((IntKind.i64.wrap (n.tmod (64 : Int) + (64 : Int))).tmod (64 : Int)))) (End.leaf (LV.one
  (VV.sc (SV.int IntKind.u64 (SI.sym (bitOr IntKind.u64 (shr IntKind.u64 x (IntKind.u64.wrap ((IntKind.i64.wrap (n.tmod (64 : Int) + (64 : Int))).tmod
  (64 : Int)))) (shl IntKind.u64 x (IntKind.u64.wrap ((64 : Int) - IntKind.u64.wrap ((IntKind.i64.wrap (n.tmod (64 : Int) + (64 : Int))).tmod (64 :
  Int)))))))))) []))) := by kernel_rfl
theorem rrotr_ok : rrotrE.Ok Tryz.prog 151 := by
  refine (Ent.ofOk Tryz.call151 fun x_ y_ Q H_ => ?_).sym
  obtain ⟨x, n, _⟩ := x_
  obtain ⟨hn, hq⟩ := H_
  have hn : 0 < n ∧ n < 64 := hn
  refine (fnT_ok mixed tab0 Tryz.func151 rfl (LT := []) (ks := [.fr [.sym], .auto]) (LOk.nil _)).use (D := []) ?_ hq
  show (fnT _ _ _ _ ((uiC).wr (x, n, ())) ((lNil).wr ()) _).sat _
  rw [rrotr_tree]
  obtain ⟨h0, h1⟩ := hn
  have e : IntKind.u64.wrap ((IntKind.i64.wrap (n.tmod 64 + 64)).tmod 64) = n := by
    have a1 : n.tmod 64 = n := by rw [Int.tmod_eq_emod_of_nonneg (by omega)]; omega
    rw [a1, wrap_i64 (by omega) (by omega)]
    have a2 : (n + 64).tmod 64 = n := by rw [Int.tmod_eq_emod_of_nonneg (by omega)]; omega
    rw [a2, wrap_u64 (by omega) (by omega)]
  have e2 : IntKind.u64.wrap (64 - n) = 64 - n := wrap_u64 (by omega) (by omega)
  rw [e, e2, or_comm']
  exact ⟨fun h => by simp at h; omega, fun _ => ⟨by omega, by omega, rfl, rfl⟩⟩
theorem ofInt_wrap (b : BitVec 64) : BitVec.ofInt 64 (IntKind.u64.wrap (b.toNat : Int)) = b := by
  have h := b.isLt
  rw [wrap_u64 (by omega) (by omega)]
  simp
theorem maj_or (x y z : Int) : bitOr .u64 (bitOr .u64 (bitAnd .u64 x y) (bitAnd .u64 x z)) (bitAnd .u64 y z) = majF x y z := by
  unfold majF bitOr bitXor bitAnd
  show IntKind.u64.wrap ((BitVec.ofInt 64 (IntKind.u64.wrap ((BitVec.ofInt 64 (IntKind.u64.wrap ((BitVec.ofInt 64 x &&& BitVec.ofInt 64 y).toNat : Int)) ||| BitVec.ofInt 64 (IntKind.u64.wrap ((BitVec.ofInt 64 x &&& BitVec.ofInt 64 z).toNat : Int))).toNat : Int)) ||| BitVec.ofInt 64 (IntKind.u64.wrap ((BitVec.ofInt 64 y &&& BitVec.ofInt 64 z).toNat : Int))).toNat : Int) =
    IntKind.u64.wrap ((BitVec.ofInt 64 (IntKind.u64.wrap ((BitVec.ofInt 64 (IntKind.u64.wrap ((BitVec.ofInt 64 x &&& BitVec.ofInt 64 y).toNat : Int)) ^^^ BitVec.ofInt 64 (IntKind.u64.wrap ((BitVec.ofInt 64 x &&& BitVec.ofInt 64 z).toNat : Int))).toNat : Int)) ^^^ BitVec.ofInt 64 (IntKind.u64.wrap ((BitVec.ofInt 64 y &&& BitVec.ofInt 64 z).toNat : Int))).toNat : Int)
  simp only [ofInt_wrap]
  congr 3
  apply BitVec.eq_of_getLsbD_eq
  intro i _
  simp only [BitVec.getLsbD_or, BitVec.getLsbD_and, BitVec.getLsbD_xor]
  cases (BitVec.ofInt 64 x).getLsbD i <;> cases (BitVec.ofInt 64 y).getLsbD i <;> cases (BitVec.ofInt 64 z).getLsbD i <;> rfl
noncomputable abbrev rwFn : Func := Tryz.f126
abbrev rwC : Cod (List LV) (List Int × Int × Unit) := (lCons (vOne (sRd false false u8)) (jk 1 (lSkip (vOne (sPtr 0 0)) (jk 1 (lSkip (vOne (sPtr 1 0)) (lCons (vOne (sInt .i64)) (jk 24 lNil)))))))
abbrev rwCf : Wk := .fr (fmS 30 [(0, .keep), (2, .keep), (4, .keep), (5, .sym)])
abbrev rwX : Cod (List LV) (Unit) := (jk 2 (lSkip (vOne (sPtr 0 0)) (jk 1 (lSkip (vOne (sPtr 1 0)) (jk 25 lNil)))))
abbrev rwXf : Wk := .fr (fmS 30 [(2, .keep), (4, .keep)])
def rwW : Exit → List Wk
  | .normal => [rwCf, .rowB 0 0 16 .u64, .rowB 1 0 16 .u64, .auto]
  | .exit 0 => [rwXf, .auto]
  | _ => []
theorem rw_rnd (b : List Int) (i : Int) (r m : List Int) : rndT Tryz.prog [] [] rwFn 0 [] rwW ((stC rwC woH).wr ((b, i, ()), (r, m, ()))) =
  Res.ite (decide (i < (128 : Int))) (Res.need ((0 : Int) ≤ IntKind.i64.wrap (i.tdiv (8 : Int)) ∧ IntKind.i64.wrap (i.tdiv (8 : Int)) < (16 : Int))
  (Res.need ((0 : Int) ≤ i ∧ i < (↑b.length : Int)) (Res.need ((0 : Int) ≤ IntKind.i64.wrap (i.tdiv (8 : Int)) ∧ IntKind.i64.wrap (i.tdiv (8 : Int)) <
  (16 : Int)) (Res.leaf Exit.normal ((stC rwC woH).wr ((b, IntKind.i64.wrap (i + (1 : Int)), PUnit.unit), r, m.set ((0 : Nat) + (IntKind.i64.wrap (i.tdiv
  (8 : Int))).toNat) (bitOr IntKind.u64 (shl IntKind.u64 ((List.take (16 : Nat) (List.drop (0 : Nat) m)).getD (IntKind.i64.wrap (i.tdiv (8 : Int))).toNat
  (0 : Int)) (8 : Int)) (IntKind.u64.wrap (b.getD i.toNat (0 : Int)))), PUnit.unit)))))) (Res.leaf (Exit.exit (0 : Nat)) ((stC rwX woH).wr (PUnit.unit,
  r, m, PUnit.unit))) := by kernel_rfl
noncomputable def rwF (x : (List Int × Int × Unit) × List Int × List Int × Unit) : Res :=
  .need (x.1.1.length = 128 ∧ x.1.2.1 = 0 ∧ x.2.2.1 = List.replicate 16 0) (.leaf (.exit 0) ((stC rwX woH).wr ((), (x.2.1, wordsF x.1.1, ()))))
theorem rw_loop (x) : Ex Tryz.prog [] (.loop (loopAt rwFn 0)) ((stC rwC woH).wr x) (rwF x) := by
  obtain ⟨⟨b, i, _⟩, r, m, _⟩ := x
  refine Ex.need fun ⟨h1, h3, h4⟩ => ?_
  simp only at h1 h3 h4
  subst h3 h4
  refine loopUp (ws := rwW) (hp := []) mixed tab0 (LOk.nil _) 128 (fun k m => (stC rwC woH).wr ((b, (k : Int), ()), (r, m, ()))) (fun m => (stC rwX woH).wr ((), (r, m, ()))) (wordF b) (fun _ m => m.length = 16)
    (fun k m R hk hm hn hx => ?_) (fun k m _ hm => by rw [wordF_length]; exact hm) 0 (List.replicate 16 0) (by omega) (by simp)
  rw [rw_rnd]
  refine ⟨fun hb => ?_, fun hb => ?_⟩
  · have hlt : k < 128 := by have := of_decide_eq_true hb; omega
    have e : IntKind.i64.wrap ((k : Int).tdiv 8) = ((k / 8 : Nat) : Int) := tdiv_nat k 8 (by omega)
    rw [e, take_all hm, wrap_succ k (by omega)]
    simp only [Int.toNat_natCast, Nat.zero_add]
    exact ⟨by omega, by omega, by omega, hn hlt⟩
  · have : k = 128 := by have := of_decide_eq_false hb; omega
    exact hx this
noncomputable abbrev rwLT : LTab := [(0, loopF (stC rwC woH) 0 [rwCf, .auto, .rowB 0 0 16 .u64, .rowB 1 0 16 .u64] rwF)]
noncomputable def rwordsE : Ent := Ent.ofS [some u8] (bA) (lNil) fun x_ y_ => (fun (b : List Int) => .leaf (some (b.length = 128)) (.tup [.agg [.arr (.int .u64) 16 (wordsF b)], .sc (.bool (.sym true))]) []) x_.1
theorem rwords_tree (b : List Int) : fnT Tryz.prog [] rwLT Tryz.f126 ((bA).wr (b, ())) ((lNil).wr ()) [.fr [.sym], .rowF 0 0 16 .u64, .auto] =
  End.ite ((↑b.length : Int) != (128 : Int)) (End.leaf (LV.tup [VV.agg [SV.arr (Ty.int IntKind.u64) (16 : Nat) [(0 : Int), (0 : Int), (0 : Int), (0 :
  Int), (0 : Int), (0 : Int), (0 : Int), (0 : Int), (0 : Int), (0 : Int), (0 : Int), (0 : Int), (0 : Int), (0 : Int), (0 : Int), (0 : Int)]], VV.sc
  (SV.bool (SB.sym false))]) []) (End.need (b.length = (128 : Nat) ∧ (0 : Int) = (0 : Int) ∧ [(0 : Int), (0 : Int), (0 : Int), (0 : Int), (0 : Int), (0 :
  Int), (0 : Int), (0 : Int), (0 : Int), (0 : Int), (0 : Int), (0 : Int), (0 : Int), (0 : Int), (0 : Int), (0 : Int)] = List.replicate (16 : Nat) (0 :
  Int)) (End.leaf (LV.tup [VV.agg [SV.arr (Ty.int IntKind.u64) (16 : Nat) (wordsF b)], VV.sc (SV.bool (SB.sym true))]) [])) := by kernel_rfl
theorem rwords_ok : rwordsE.Ok Tryz.prog 126 := by
  refine (Ent.ofOk Tryz.call126 fun x_ y_ Q H_ => ?_).sym
  obtain ⟨b, _⟩ := x_
  obtain ⟨hn, hq⟩ := H_
  have hn : b.length = 128 := hn
  refine (fnT_ok mixed tab0 Tryz.func126 rfl (LT := rwLT) (ks := [.fr [.sym], .rowF 0 0 16 .u64, .auto]) (LOk.ofTab (LTC rfl (loopF_ok (hp := []) rw_loop) LT0))).use (D := []) ?_ hq
  show (fnT _ _ _ _ ((bA).wr (b, ())) ((lNil).wr ()) _).sat _
  rw [rwords_tree]
  refine ⟨fun h => ?_, fun h => ⟨⟨hn, rfl, rfl⟩, rfl, rfl⟩⟩
  simp [hn] at h
def rschF (m : List Int) (t : Nat) (w : List Int) : List Int := if t < 16 then w.set t (m.getD t 0) else schF t w
theorem rschF_length (m : List Int) (t : Nat) (w : List Int) : (rschF m t w).length = w.length := by unfold rschF; split <;> simp [schF]
theorem rsch_first (m : List Int) : ∀ (j k : Nat), k + j ≤ 16 → m.length = 16 → upto (rschF m) k j (m.take k ++ List.replicate (80 - k) 0) = m.take (k + j) ++ List.replicate (80 - (k + j)) 0
  | 0, _, _, _ => rfl
  | j + 1, k, h, hm => by
    have e : rschF m k (m.take k ++ List.replicate (80 - k) 0) = m.take (k + 1) ++ List.replicate (80 - (k + 1)) 0 := by
      unfold rschF
      have hl : (m.take k).length = k := by simp; omega
      rw [if_pos (by omega), List.set_append_right _ _ (by omega), hl, Nat.sub_self, show 80 - k = (80 - (k + 1)) + 1 from by omega, List.replicate_succ, List.set_cons_zero, ← List.take_append_getElem (by omega : k < m.length), List.append_assoc]
      simp [List.getD_eq_getElem?_getD, List.getElem?_eq_getElem (show k < m.length by omega)]
    show upto (rschF m) (k + 1) j (rschF m k _) = _
    rw [e, rsch_first m j (k + 1) (by omega) hm, show k + 1 + j = k + (j + 1) from by omega]
theorem rsched_eq {m : List Int} (hm : m.length = 16) : upto (rschF m) 0 80 (List.replicate 80 0) = schedF m := by
  have h := rsch_first m 16 0 (by omega) hm
  rw [show (80 : Nat) = 16 + 64 from rfl, upto_add]
  simp only [List.take_zero, List.nil_append, Nat.zero_add, Nat.sub_zero] at h
  rw [Nat.zero_add, show List.replicate (16 + 64) (0 : Int) = List.replicate 80 0 from rfl, h, List.take_of_length_le (by omega)]
  exact upto_congr (n := 80) (fun k (_ : List Int) => 16 ≤ k) (fun k _ _ h => by omega) (fun k w _ h => by unfold rschF; rw [if_neg (by omega)]) 64 16 _ (by omega) (by omega)
noncomputable abbrev rscFn : Func := Tryz.f149
abbrev rsC : Cod (List LV) (Int × Unit) := (jk 1 (lSkip (vOne (sPtr 0 0)) (lSkip (vOne (sPtr 1 0)) (lSkip (vOne (sPtr 2 0)) (lCons (vOne (sInt .i64)) (jk 52 lNil))))))
abbrev rsCf : Wk := .fr (fmS 57 [(1, .keep), (2, .keep), (3, .keep), (4, .sym)])
abbrev rsX : Cod (List LV) (Unit) := (jk 2 (lSkip (vOne (sPtr 0 0)) (lSkip (vOne (sPtr 1 0)) (jk 53 lNil))))
abbrev rsXf : Wk := .fr (fmS 57 [(2, .keep), (3, .keep)])
abbrev rsH : Cod Hp (List Int × List Int × List Int × Unit) := lCons (iRow 152 .u64 16) (lCons (iRow 171 .u64 80) (lCons (iRow 171 .u64 80) lNil))
noncomputable abbrev rsTab : List (FuncId × Ent) := [(151, rrotrE)]
theorem rsTab_ok : ∀ p ∈ rsTab, p.2.Ok Tryz.prog p.1 := tabC rrotr_ok tab0
def rsW : Exit → List Wk
  | .normal => [rsCf, .auto]
  | .exit 0 => [rsXf, .auto]
  | _ => []
theorem rs_rnd (t : Int) (m r w : List Int) : rndT Tryz.prog rsTab [] rscFn 0 [] rsW ((stC rsC rsH).wr ((t, ()), (m, r, w, ()))) =
  Res.ite (decide (t < (80 : Int))) (Res.ite (decide (t < (16 : Int))) (Res.need ((0 : Int) ≤ t ∧ t < (16 : Int)) (Res.need ((0 : Int) ≤ t ∧ t < (80 :
  Int)) (Res.leaf Exit.normal ((stC rsC rsH).wr ((IntKind.i64.wrap (t + (1 : Int)), PUnit.unit), m, r, w.set ((0 : Nat) + t.toNat) ((List.take (16 : Nat)
  (List.drop (0 : Nat) m)).getD t.toNat (0 : Int)), PUnit.unit))))) (Res.need ((0 : Int) ≤ IntKind.i64.wrap (t - (15 : Int)) ∧ IntKind.i64.wrap (t - (15
  : Int)) < (80 : Int)) (Res.need ((0 : Int) ≤ IntKind.i64.wrap (t - (2 : Int)) ∧ IntKind.i64.wrap (t - (2 : Int)) < (80 : Int)) (Res.need ((0 : Int) <
  (19 : Int) ∧ (19 : Int) < (64 : Int)) (Res.need ((0 : Int) < (61 : Int) ∧ (61 : Int) < (64 : Int)) (Res.need ((0 : Int) ≤ IntKind.i64.wrap (t - (7 :
  Int)) ∧ IntKind.i64.wrap (t - (7 : Int)) < (80 : Int)) (Res.need ((0 : Int) < (1 : Int) ∧ (1 : Int) < (64 : Int)) (Res.need ((0 : Int) < (8 : Int) ∧ (8
  : Int) < (64 : Int)) (Res.need ((0 : Int) ≤ IntKind.i64.wrap (t - (16 : Int)) ∧ IntKind.i64.wrap (t - (16 : Int)) < (80 : Int)) (Res.need ((0 : Int) ≤
  t ∧ t < (80 : Int)) (Res.leaf Exit.normal ((stC rsC rsH).wr ((IntKind.i64.wrap (t + (1 : Int)), PUnit.unit), m, r, w.set ((0 : Nat) + t.toNat)
  (IntKind.u64.wrap (IntKind.u64.wrap (IntKind.u64.wrap (bitXor IntKind.u64 (bitXor IntKind.u64 (rotr ((List.take (80 : Nat) (List.drop (0 : Nat)
  w)).getD (IntKind.i64.wrap (t - (2 : Int))).toNat (0 : Int)) (19 : Int)) (rotr ((List.take (80 : Nat) (List.drop (0 : Nat) w)).getD (IntKind.i64.wrap
  (t - (2 : Int))).toNat (0 : Int)) (61 : Int))) (shr IntKind.u64 ((List.take (80 : Nat) (List.drop (0 : Nat) w)).getD (IntKind.i64.wrap (t - (2 :
  Int))).toNat (0 : Int)) (6 : Int)) + (List.take (80 : Nat) (List.drop (0 : Nat) w)).getD (IntKind.i64.wrap (t - (7 : Int))).toNat (0 : Int)) + bitXor
  IntKind.u64 (bitXor IntKind.u64 (rotr ((List.take (80 : Nat) (List.drop (0 : Nat) w)).getD (IntKind.i64.wrap (t - (15 : Int))).toNat (0 : Int)) (1 :
  Int)) (rotr ((List.take (80 : Nat) (List.drop (0 : Nat) w)).getD (IntKind.i64.wrap (t - (15 : Int))).toNat (0 : Int)) (8 : Int))) (shr IntKind.u64
  ((List.take (80 : Nat) (List.drop (0 : Nat) w)).getD (IntKind.i64.wrap (t - (15 : Int))).toNat (0 : Int)) (7 : Int))) + (List.take (80 : Nat)
  (List.drop (0 : Nat) w)).getD (IntKind.i64.wrap (t - (16 : Int))).toNat (0 : Int))), PUnit.unit))))))))))))) (Res.leaf (Exit.exit (0 : Nat)) ((stC rsX
  scH).wr (PUnit.unit, r, w, PUnit.unit))) := by kernel_rfl
noncomputable def rsF (x : (Int × Unit) × List Int × List Int × List Int × Unit) : Res :=
  .need (x.1.1 = 0 ∧ x.2.1.length = 16 ∧ x.2.2.2.1 = List.replicate 80 0) (.leaf (.exit 0) ((stC rsX scH).wr ((), (x.2.2.1, schedF x.2.1, ()))))
theorem rs_loop (x) : Ex Tryz.prog [] (.loop (loopAt rscFn 0)) ((stC rsC rsH).wr x) (rsF x) := by
  obtain ⟨⟨i, _⟩, m, r, w, _⟩ := x
  refine Ex.need fun ⟨h1, h2, h3⟩ => ?_
  simp only at h1 h2 h3
  subst h1 h3
  have key := loopUp (fn := rscFn) (id := 0) (j := 0) (ws := rsW) (hp := []) mixed rsTab_ok (LOk.nil _) 80 (fun k w => (stC rsC rsH).wr (((k : Int), ()), (m, r, w, ()))) (fun w => (stC rsX scH).wr ((), (r, w, ()))) (rschF m) (fun _ w => w.length = 80)
    (fun k w R hk hm hn hx => ?_) (fun k w _ hw => by rw [rschF_length]; exact hw) 0 (List.replicate 80 0) (by omega) (by simp)
  · rw [rsched_eq h2] at key; exact key
  rw [rs_rnd]
  refine ⟨fun hb => ?_, fun hb => ?_⟩
  · have hlt : k < 80 := by have := of_decide_eq_true hb; omega
    rw [take_all hm, take_all h2, wrap_succ k (by omega)]
    refine ⟨fun h16 => ?_, fun h16 => ?_⟩
    · have h16 : k < 16 := by have := of_decide_eq_true h16; omega
      have := hn hlt
      unfold rschF at this
      rw [if_pos h16] at this
      simp only [Int.toNat_natCast, Nat.zero_add]
      exact ⟨by omega, by omega, this⟩
    · have h16 : 16 ≤ k := by have := of_decide_eq_false h16; omega
      have := hn hlt
      unfold rschF at this
      rw [if_neg (by omega)] at this
      have e2 : IntKind.i64.wrap ((k : Int) - 2) = ((k - 2 : Nat) : Int) := wrap_sub k 2 (by omega) (by omega)
      have e7 : IntKind.i64.wrap ((k : Int) - 7) = ((k - 7 : Nat) : Int) := wrap_sub k 7 (by omega) (by omega)
      have e15 : IntKind.i64.wrap ((k : Int) - 15) = ((k - 15 : Nat) : Int) := wrap_sub k 15 (by omega) (by omega)
      have e16 : IntKind.i64.wrap ((k : Int) - 16) = ((k - 16 : Nat) : Int) := wrap_sub k 16 (by omega) (by omega)
      rw [e2, e7, e15, e16]
      simp only [Int.toNat_natCast, Nat.zero_add]
      exact ⟨by omega, by omega, by decide, by decide, by omega, by decide, by decide, by omega, by omega, this⟩
  · have : k = 80 := by have := of_decide_eq_false hb; omega
    exact hx this
noncomputable abbrev rsLT : LTab := [(0, loopF (stC rsC rsH) 0 [rsCf, .auto] rsF)]
noncomputable def rschedE : Ent := Ent.ofS [] (scA) (lNil) fun x_ y_ => (fun (m : List Int) => .leaf (some (m.length = 16)) (nRow .u64 80 (schedF m)) []) x_.1
theorem rsched_tree (m : List Int) : fnT Tryz.prog rsTab rsLT Tryz.f149 ((scA).wr (m, ())) ((lNil).wr ()) [.fr [.sym], .auto] =
  End.need ((0 : Int) = (0 : Int) ∧ m.length = (16 : Nat) ∧ List.replicate (80 : Nat) (0 : Int) = List.replicate (80 : Nat) (0 : Int)) (End.leaf (LV.one
  (VV.agg [SV.arr (Ty.int IntKind.u64) (80 : Nat) (schedF m)])) []) := by kernel_rfl
theorem rsched_ok : rschedE.Ok Tryz.prog 149 := by
  refine (Ent.ofOk Tryz.call149 fun x_ y_ Q H_ => ?_).sym
  obtain ⟨m, _⟩ := x_
  obtain ⟨hn, hq⟩ := H_
  have hn : m.length = 16 := hn
  refine (fnT_ok mixed rsTab_ok Tryz.func149 rfl (LT := rsLT) (ks := [.fr [.sym], .auto]) (LOk.ofTab (LTC rfl (loopF_ok (hp := []) rs_loop) LT0))).use (D := []) ?_ hq
  show (fnT _ _ _ _ ((scA).wr (m, ())) ((lNil).wr ()) _).sat _
  rw [rsched_tree]
  exact ⟨⟨rfl, hn, rfl⟩, rfl, rfl⟩
noncomputable abbrev rstFn : Func := Tryz.f127
abbrev rpC : Cod (List LV) (Int × Unit) := (jk 2 (lSkip (vOne (sPtr 0 0)) (jk 1 (lSkip (vOne (sPtr 1 0)) (lSkip (vOne (sPtr 2 0)) (lSkip (vOne (sPtr 3 0)) (lSkip (vOne (sPtr 4 0)) (lCons (vOne (sInt .i64)) (jk 105 lNil)))))))))
abbrev rpCf : Wk := .fr (fmS 114 [(2, .keep), (4, .keep), (5, .keep), (6, .keep), (7, .keep), (8, .sym)])
abbrev rpX : Cod (List LV) (Unit) := (jk 2 (lSkip (vOne (sPtr 0 0)) (jk 1 (lSkip (vOne (sPtr 1 0)) (jk 2 (lSkip (vOne (sPtr 2 0)) (jk 106 lNil)))))))
abbrev rpXf : Wk := .fr (fmS 114 [(2, .keep), (4, .keep), (7, .keep)])
noncomputable abbrev rpTab : List (FuncId × Ent) := [(150, rroundsE), (151, rrotrE), (149, rschedE)]
theorem rpTab_ok : ∀ p ∈ rpTab, p.2.Ok Tryz.prog p.1 := tabC rrounds_ok (tabC rrotr_ok (tabC rsched_ok tab0))
def rpW : Exit → List Wk
  | .normal => [rpCf, .rowB 4 0 8 .u64, .auto]
  | .exit 0 => [rpXf, .auto, .cellB 1, .cellB 2]
  | _ => []
theorem rp_rnd (t : Int) (s r w k x : List Int) : rndT Tryz.prog rpTab [] rstFn 0 [] rpW ((stC rpC spH).wr ((t, ()), (s, r, w, k, x, ()))) =
  Res.ite (decide (t < (80 : Int))) (Res.need ((0 : Int) < (14 : Int) ∧ (14 : Int) < (64 : Int)) (Res.need ((0 : Int) < (18 : Int) ∧ (18 : Int) < (64 :
  Int)) (Res.need ((0 : Int) < (41 : Int) ∧ (41 : Int) < (64 : Int)) (Res.need ((0 : Int) ≤ t ∧ t < (80 : Int)) (Res.need ((0 : Int) ≤ t ∧ t < (80 :
  Int)) (Res.need ((0 : Int) < (28 : Int) ∧ (28 : Int) < (64 : Int)) (Res.need ((0 : Int) < (34 : Int) ∧ (34 : Int) < (64 : Int)) (Res.need ((0 : Int) <
  (39 : Int) ∧ (39 : Int) < (64 : Int)) (Res.leaf Exit.normal ((stC rpC spH).wr ((IntKind.i64.wrap (t + (1 : Int)), PUnit.unit), s, r, w, k,
  [IntKind.u64.wrap (IntKind.u64.wrap (IntKind.u64.wrap (IntKind.u64.wrap (IntKind.u64.wrap (x.getD (7 : Nat) (0 : Int) + bitXor IntKind.u64 (bitXor
  IntKind.u64 (rotr (x.getD (4 : Nat) (0 : Int)) (14 : Int)) (rotr (x.getD (4 : Nat) (0 : Int)) (18 : Int))) (rotr (x.getD (4 : Nat) (0 : Int)) (41 :
  Int))) + bitXor IntKind.u64 (bitAnd IntKind.u64 (x.getD (4 : Nat) (0 : Int)) (x.getD (5 : Nat) (0 : Int))) (bitAnd IntKind.u64 (bitXor IntKind.u64
  (18446744073709551615 : Int) (x.getD (4 : Nat) (0 : Int))) (x.getD (6 : Nat) (0 : Int)))) + (List.take (80 : Nat) (List.drop (0 : Nat) k)).getD t.toNat
  (0 : Int)) + (List.take (80 : Nat) (List.drop (0 : Nat) w)).getD t.toNat (0 : Int)) + IntKind.u64.wrap (bitXor IntKind.u64 (bitXor IntKind.u64 (rotr
  (x.getD (0 : Nat) (0 : Int)) (28 : Int)) (rotr (x.getD (0 : Nat) (0 : Int)) (34 : Int))) (rotr (x.getD (0 : Nat) (0 : Int)) (39 : Int)) + bitOr
  IntKind.u64 (bitOr IntKind.u64 (bitAnd IntKind.u64 (x.getD (0 : Nat) (0 : Int)) (x.getD (1 : Nat) (0 : Int))) (bitAnd IntKind.u64 (x.getD (0 : Nat) (0
  : Int)) (x.getD (2 : Nat) (0 : Int)))) (bitAnd IntKind.u64 (x.getD (1 : Nat) (0 : Int)) (x.getD (2 : Nat) (0 : Int))))), x.getD (0 : Nat) (0 : Int),
  x.getD (1 : Nat) (0 : Int), x.getD (2 : Nat) (0 : Int), IntKind.u64.wrap (x.getD (3 : Nat) (0 : Int) + IntKind.u64.wrap (IntKind.u64.wrap
  (IntKind.u64.wrap (IntKind.u64.wrap (x.getD (7 : Nat) (0 : Int) + bitXor IntKind.u64 (bitXor IntKind.u64 (rotr (x.getD (4 : Nat) (0 : Int)) (14 : Int))
  (rotr (x.getD (4 : Nat) (0 : Int)) (18 : Int))) (rotr (x.getD (4 : Nat) (0 : Int)) (41 : Int))) + bitXor IntKind.u64 (bitAnd IntKind.u64 (x.getD (4 :
  Nat) (0 : Int)) (x.getD (5 : Nat) (0 : Int))) (bitAnd IntKind.u64 (bitXor IntKind.u64 (18446744073709551615 : Int) (x.getD (4 : Nat) (0 : Int)))
  (x.getD (6 : Nat) (0 : Int)))) + (List.take (80 : Nat) (List.drop (0 : Nat) k)).getD t.toNat (0 : Int)) + (List.take (80 : Nat) (List.drop (0 : Nat)
  w)).getD t.toNat (0 : Int))), x.getD (4 : Nat) (0 : Int), x.getD (5 : Nat) (0 : Int), x.getD (6 : Nat) (0 : Int)], PUnit.unit))))))))))) (Res.leaf
  (Exit.exit (0 : Nat)) ((stC rpX spHX).wr (PUnit.unit, s, [r.getD (nat_lit 0) (0 : Int), r.getD (nat_lit 1) (0 : Int), r.getD (nat_lit 2) (0 : Int),
  r.getD (nat_lit 3) (0 : Int), r.getD (nat_lit 4) (0 : Int), r.getD (nat_lit 5) (0 : Int), r.getD (nat_lit 6) (0 : Int), r.getD (nat_lit 7) (0 : Int)],
  [x.getD (nat_lit 0) (0 : Int), x.getD (nat_lit 1) (0 : Int), x.getD (nat_lit 2) (0 : Int), x.getD (nat_lit 3) (0 : Int), x.getD (nat_lit 4) (0 : Int),
  x.getD (nat_lit 5) (0 : Int), x.getD (nat_lit 6) (0 : Int), x.getD (nat_lit 7) (0 : Int)], PUnit.unit))) := by kernel_rfl
noncomputable def rpF (x : (Int × Unit) × List Int × List Int × List Int × List Int × List Int × Unit) : Res :=
  .need (x.1.1 = 0 ∧ x.2.2.2.2.1 = roundsK ∧ x.2.2.2.1.length = 80 ∧ x.2.2.2.2.2.1.length = 8) (.leaf (.exit 0) ((stC rpX spHX).wr ((), (x.2.1, x.2.2.1, allF x.2.2.2.1 x.2.2.2.2.2.1, ()))))
theorem rp_loop (x) : Ex Tryz.prog [] (.loop (loopAt rstFn 0)) ((stC rpC spH).wr x) (rpF x) := by
  obtain ⟨⟨i, _⟩, s, r, w, k, x, _⟩ := x
  refine Ex.need fun ⟨h1, h2, h3, h4⟩ => ?_
  simp only at h1 h2 h3 h4
  subst h1 h2
  refine loopUp (ws := rpW) (hp := []) mixed rpTab_ok (LOk.nil _) 80 (fun j x => (stC rpC spH).wr (((j : Int), ()), (s, r, w, roundsK, x, ()))) (fun x => (stC rpX spHX).wr ((), (s, r, x, ()))) (rndF w) (fun _ x => x.length = 8)
    (fun j x R hk hm hn hx => ?_) (fun k m _ hm => rfl) 0 x (by omega) h4
  rw [rp_rnd]
  refine ⟨fun hb => ?_, fun hb => ?_⟩
  · have hlt : j < 80 := by have := of_decide_eq_true hb; omega
    rw [take_all h3, take_all (l := roundsK) (n := 80) rfl, wrap_succ j (by omega), maj_or]
    simp only [Int.toNat_natCast]
    exact ⟨by decide, by decide, by decide, by omega, by omega, by decide, by decide, by decide, hn hlt⟩
  · have : j = 80 := by have := of_decide_eq_false hb; omega
    exact hx this
noncomputable abbrev rpLT : LTab := [(0, loopF (stC rpC spH) 0 [rpCf, .auto, .rowB 1 0 8 .u64, .rowB 4 0 8 .u64] rpF)]
noncomputable def rstepE : Ent := Ent.ofS [] (stA) (lNil) fun x_ y_ => (fun (s m : List Int) => .leaf (some (s.length = 8 ∧ m.length = 16)) (nRow .u64 8 (stepF s m)) []) x_.1 x_.2.1
theorem rstep_tree (s m : List Int) : fnT Tryz.prog rpTab rpLT Tryz.f127 ((stA).wr (s, m, ())) ((lNil).wr ()) [.fr [.sym], .rowF 0 0 8 .u64, .auto] =
  End.need (m.length = (16 : Nat)) (End.need ((0 : Int) = (0 : Int) ∧ roundsK = roundsK ∧ (schedF m).length = (80 : Nat) ∧ s.length = (8 : Nat))
  (End.leaf (LV.one (VV.agg [SV.arr (Ty.int IntKind.u64) (8 : Nat) [IntKind.u64.wrap ((allF (schedF m) s).getD (nat_lit 0) (0 : Int) + s.getD (0 : Nat)
  (0 : Int)), IntKind.u64.wrap ((allF (schedF m) s).getD (nat_lit 1) (0 : Int) + s.getD (1 : Nat) (0 : Int)), IntKind.u64.wrap ((allF (schedF m) s).getD
  (nat_lit 2) (0 : Int) + s.getD (2 : Nat) (0 : Int)), IntKind.u64.wrap ((allF (schedF m) s).getD (nat_lit 3) (0 : Int) + s.getD (3 : Nat) (0 : Int)),
  IntKind.u64.wrap ((allF (schedF m) s).getD (nat_lit 4) (0 : Int) + s.getD (4 : Nat) (0 : Int)), IntKind.u64.wrap ((allF (schedF m) s).getD (nat_lit 5)
  (0 : Int) + s.getD (5 : Nat) (0 : Int)), IntKind.u64.wrap ((allF (schedF m) s).getD (nat_lit 6) (0 : Int) + s.getD (6 : Nat) (0 : Int)),
  IntKind.u64.wrap ((allF (schedF m) s).getD (nat_lit 7) (0 : Int) + s.getD (7 : Nat) (0 : Int))]])) [])) := by kernel_rfl
theorem rstep_ok : rstepE.Ok Tryz.prog 127 := by
  refine (Ent.ofOk Tryz.call127 fun x_ y_ Q H_ => ?_).sym
  obtain ⟨s, m, _⟩ := x_
  obtain ⟨hn, hq⟩ := H_
  have hn : s.length = 8 ∧ m.length = 16 := hn
  refine (fnT_ok mixed rpTab_ok Tryz.func127 rfl (LT := rpLT) (ks := [.fr [.sym], .rowF 0 0 8 .u64, .auto]) (LOk.ofTab (LTC rfl (loopF_ok (hp := []) rp_loop) LT0))).use (D := []) ?_ hq
  show (fnT _ _ _ _ ((stA).wr (s, m, ())) ((lNil).wr ()) _).sat _
  rw [rstep_tree]
  exact ⟨hn.2, ⟨rfl, rfl, sched_length hn.2, hn.1⟩, rfl, rfl⟩
end Go.Proofs.YthdfifcgobfgdaaGreat
end

section
set_option linter.unusedVariables false
set_option linter.unusedSimpArgs false
namespace Go.Proofs.YthdfifcgobfgdaaGreat
open Go Go.Ev
set_option maxRecDepth 100000
structure HH where
  begun : Bool
  s : List Int
  n : Int
  wait : List Int
abbrev cHH : Cod (List SV) HH := (lCons sBool (lCons (sArr (.int .u64) 8) (lCons (sInt .i64) (lCons (sArr u8 128) lNil)))).iso (fun x => ⟨x.1, x.2.1, x.2.2.1, x.2.2.2.1⟩) (fun h => (h.begun, h.s, h.n, h.wait, ())) (fun _ => rfl)
abbrev hI (h : HH) : Ev.Item := .blk (cHH.wr h) 141
abbrev hpS : Cod Hp (HH × Unit) := lCons (iBlk 141 cHH) lNil
abbrev hV (h : HH) : LV := .one (.agg (cHH.wr h))
abbrev symH : Wk := .blk 0 [.sym, .keep, .sym, .keep]
def newH : HH := ⟨true, beginK, 0, List.replicate 128 0⟩
noncomputable def new8E : Ent := Ent.ofS [] (lNil) (lNil) fun x_ y_ => .leaf none (.one (.sc (.ptr 0 0))) [(0, hI newH)]
theorem new8_tree  : fnT Tryz.prog [(113, beginE)] [] Tryz.f60 ((lNil).wr ()) ((lNil).wr ()) [.rowB 0 1 8 .u64, symH, .auto] =
  End.leaf (LV.one (VV.sc (SV.ptr (0 : Nat) (0 : Nat)))) [some (Item.blk [SV.bool (SB.sym true), SV.arr (Ty.int IntKind.u64) (8 : Nat) beginK, SV.int
  IntKind.i64 (SI.sym (0 : Int)), SV.arr (Ty.int IntKind.u8) (128 : Nat) (List.replicate (128 : Nat) (0 : Int))] (141 : Nat))] := by kernel_rfl
theorem new8_ok : new8E.Ok Tryz.prog 60 := by
  refine (Ent.ofOk Tryz.call60 fun x_ y_ Q H_ => ?_).sym
  have hq := H_.2
  refine (fnT_ok mixed ((tabC begin_ok tab0)) Tryz.func60 rfl (LT := []) (ks := [.rowB 0 1 8 .u64, symH, .auto]) (LOk.nil _)).use (D := [(0, hI newH)]) ?_ hq
  show (fnT _ _ _ _ ((lNil).wr ()) ((lNil).wr ()) _).sat _
  rw [new8_tree]
  exact ⟨rfl, rfl⟩
noncomputable def ownE : Ent := Ent.ofS [] ((lSkip p0 lNil)) (hpS) fun x_ y_ => (fun (h : HH) => .leaf (some (h.begun = true)) (hV h) [])  y_.1
theorem own_tree (h : HH) : fnT Tryz.prog [] [] Tryz.f114 (((lSkip p0 lNil)).wr ()) ((hpS).wr (h, ())) [.auto] =
  End.ite (!h.begun) End.fail (End.leaf (LV.one (VV.agg [SV.bool (SB.sym h.begun), SV.arr (Ty.int IntKind.u64) (8 : Nat) h.s, SV.int IntKind.i64 (SI.sym
  h.n), SV.arr (Ty.int IntKind.u8) (128 : Nat) h.wait])) [some (Item.blk [SV.bool (SB.sym h.begun), SV.arr (Ty.int IntKind.u64) (8 : Nat) h.s, SV.int
  IntKind.i64 (SI.sym h.n), SV.arr (Ty.int IntKind.u8) (128 : Nat) h.wait] (141 : Nat))]) := by kernel_rfl
theorem own_ok : ownE.Ok Tryz.prog 114 := by
  refine (Ent.ofOk Tryz.call114 fun x_ y_ Q H_ => ?_).sym
  obtain ⟨h, _⟩ := y_
  obtain ⟨hn, hq⟩ := H_
  have hn : h.begun = true := hn
  refine (fnT_ok mixed tab0 Tryz.func114 rfl (LT := []) (ks := [.auto]) (LOk.nil _)).use (D := []) ?_ hq
  show (fnT _ _ _ _ (((lSkip p0 lNil)).wr ()) ((hpS).wr (h, ())) _).sat _
  rw [own_tree]
  exact ⟨fun e => (by rw [hn] at e; cases e), fun _ => ⟨rfl, rfl⟩⟩
/-- a byte more -/
def hByte (h : HH) (c : Int) : HH := if (h.n + 1) % 128 = 0 then ⟨h.begun, stepF h.s (wordsF (h.wait.set (h.n % 128).toNat c)), h.n + 1, h.wait.set (h.n % 128).toNat c⟩ else ⟨h.begun, h.s, h.n + 1, h.wait.set (h.n % 128).toNat c⟩
def hPut (h : HH) (b : List Int) : HH := b.foldl hByte h
structure HOk (h : HH) : Prop where
  begun : h.begun = true
  n : 0 ≤ h.n
  s : h.s.length = 8
  wait : h.wait.length = 128
theorem hByte_n (h : HH) (c : Int) : (hByte h c).n = h.n + 1 := by unfold hByte; split <;> rfl
theorem hByte_ok {h : HH} (hh : HOk h) (c : Int) : HOk (hByte h c) := by
  obtain ⟨h1, h2, h3, h4⟩ := hh
  unfold hByte
  split
  · exact ⟨h1, by simp only; omega, step_length _ _, by simp [h4]⟩
  · exact ⟨h1, by simp only; omega, h3, by simp [h4]⟩
theorem hPut_n : ∀ (b : List Int) (h : HH), (hPut h b).n = h.n + b.length
  | [], h => by simp [hPut]
  | c :: b, h => by
    show (hPut (hByte h c) b).n = _
    rw [hPut_n b, hByte_n, List.length_cons]; omega
theorem hPut_ok : ∀ (b : List Int) {h : HH}, HOk h → HOk (hPut h b)
  | [], _, hh => hh
  | c :: b, _, hh => hPut_ok b (hByte_ok hh c)
theorem hPut_append (h : HH) (a b : List Int) : hPut h (a ++ b) = hPut (hPut h a) b := by simp [hPut]
theorem upto_foldl {σ : Type} (g : σ → Int → σ) (b : List Int) : ∀ (m k : Nat) (s : σ), k + m = b.length → upto (fun k s => g s (b.getD k 0)) k m s = (b.drop k).foldl g s
  | 0, k, s, h => by rw [List.drop_eq_nil_of_le (by omega)]; rfl
  | m + 1, k, s, h => by
    rw [drop_getD (show k < b.length by omega)]
    exact upto_foldl g b m (k + 1) _ (by omega)
noncomputable abbrev puFn : Func := Tryz.f115
abbrev puC : Cod (List LV) (List Int × Int × Int × Unit) := (lSkip (vOne (sPtr 0 0)) (jk 7 (lCons (vOne (sRd false false u8)) (lCons (vOne (sInt .i64)) (lCons (vOne (sInt .i64)) (jk 44 lNil))))))
abbrev puCf : Wk := .fr (fmS 55 [(0, .keep), (8, .keep), (9, .sym), (10, .sym)])
abbrev puX : Cod (List LV) (Unit) := (jk 55 lNil)
abbrev puXf : Wk := .fr (fmS 55 [])
noncomputable abbrev puTab : List (FuncId × Ent) := [(143, wordsE), (144, stepE)]
def puW : Exit → List Wk
  | .normal => [puCf, symH, .auto]
  | .exit 0 => [puXf, symH, .auto]
  | _ => []
theorem pu_rnd (h0 h : HH) (b : List Int) (n i : Int) : rndT Tryz.prog puTab [] puFn 0 (hpS.wr (h0, ())) puW ((stC puC hpS).wr ((b, n, i, ()), (h, ()))) =
  Res.ite (decide (i < n)) (Res.need ((0 : Int) ≤ i ∧ i < (↑b.length : Int)) (Res.need ((0 : Int) ≤ h.n.tmod (128 : Int) ∧ h.n.tmod (128 : Int) < (128 :
  Int)) (Res.ite ((IntKind.i64.wrap (h.n + (1 : Int))).tmod (128 : Int) == (0 : Int)) (Res.need ((0 : Int) ≤ (0 : Int) ∧ (0 : Int) ≤ (128 : Int) ∧ (128 :
  Int) ≤ (128 : Int)) (Res.need ((List.take (128 : Nat) (List.drop (0 : Nat) (h.wait.set ((0 : Nat) + (h.n.tmod (128 : Int)).toNat) (b.getD i.toNat (0 :
  Int))))).length = (128 : Nat)) (Res.need (h.s.length = (8 : Nat) ∧ (16 : Nat) = (16 : Nat)) (Res.leaf Exit.normal ((stC puC hpS).wr ((b, n,
  IntKind.i64.wrap (i + (1 : Int)), PUnit.unit), { begun := h.begun, s := stepF h.s (wordsF (List.take (128 : Nat) (List.drop (0 : Nat) (h.wait.set ((0 : Nat) + (h.n.tmod (128 : Int)).toNat) (b.getD i.toNat (0 : Int)))))), n := IntKind.i64.wrap (h.n + (1 : Int)), wait := h.wait.set ((0 : Nat) + (h.n.tmod (128 : Int)).toNat) (b.getD i.toNat (0 : Int)) },
  PUnit.unit)))))) (Res.leaf Exit.normal ((stC puC hpS).wr ((b, n, IntKind.i64.wrap (i + (1 : Int)), PUnit.unit), { begun := h.begun, s := h.s, n := IntKind.i64.wrap (h.n + (1 : Int)), wait := h.wait.set ((0 : Nat) + (h.n.tmod (128 : Int)).toNat) (b.getD i.toNat (0 : Int)) },
  PUnit.unit)))))) (Res.leaf (Exit.exit (0 : Nat)) ((stC puX hpS).wr (PUnit.unit, h, PUnit.unit))) := by kernel_rfl
theorem puTab_ok : ∀ p ∈ puTab, p.2.Ok Tryz.prog p.1 := tabC words_ok (tabC step_ok tab0)
noncomputable def puF (x : (List Int × Int × Int × Unit) × HH × Unit) : Res :=
  .need (HOk x.2.1 ∧ x.1.2.1 = x.1.1.length ∧ x.1.2.2.1 = 0 ∧ x.2.1.n + x.1.1.length < 2305843009213693952) (.leaf (.exit 0) ((stC puX hpS).wr ((), (hPut x.2.1 x.1.1, ()))))
theorem pu_loop (h0 : HH) (x) : Ex Tryz.prog (hpS.wr (h0, ())) (.loop (loopAt puFn 0)) ((stC puC hpS).wr x) (puF x) := by
  obtain ⟨⟨b, n, i, _⟩, h, _⟩ := x
  refine Ex.need fun ⟨h1, h2, h3, h4⟩ => ?_
  simp only at h1 h2 h3 h4
  subst h2 h3
  have hb62 : (b.length : Int) < 2305843009213693952 := by have := h1.n; omega
  have key := loopUp (fn := puFn) (id := 0) (j := 0) (ws := puW) (hp := hpS.wr (h0, ())) mixed puTab_ok (LOk.nil _) b.length (fun k h => (stC puC hpS).wr ((b, (b.length : Int), (k : Int), ()), (h, ()))) (fun h => (stC puX hpS).wr ((), (h, ()))) (fun k h => hByte h (b.getD k 0)) (fun k h => HOk h ∧ h.n + (b.length - k : Nat) < 2305843009213693952)
    (fun k h R hk hm hn hx => ?_) (fun k h _ hh => ⟨hByte_ok hh.1 _, by rw [hByte_n]; have := hh.2; omega⟩) 0 h (by omega) ⟨h1, by simpa using h4⟩
  · rw [Nat.sub_zero, upto_foldl hByte b _ _ _ (by omega)] at key; exact key
  obtain ⟨hh, hlt⟩ := hm
  obtain ⟨g1, g2, g3, g4⟩ := hh
  rw [pu_rnd]
  refine ⟨fun hb => ?_, fun hb => ?_⟩
  · have hk' : k < b.length := by have := of_decide_eq_true hb; omega
    have e1 : IntKind.i64.wrap (h.n + 1) = h.n + 1 := wrap_ok (by omega) (by omega)
    have e2 : h.n.tmod 128 = h.n % 128 := Int.tmod_eq_emod_of_nonneg g2
    have e3 : (h.n + 1).tmod 128 = (h.n + 1) % 128 := Int.tmod_eq_emod_of_nonneg (by omega)
    have e4 : ∀ c, List.take 128 (List.drop 0 (h.wait.set (h.n % 128).toNat c)) = h.wait.set (h.n % 128).toNat c := fun c => take_all (by simp [g4])
    rw [e1, e2, e3, wrap_succ k (by omega)]
    simp only [Int.toNat_natCast, Nat.zero_add]
    rw [e4]
    have hn' := hn hk'
    refine ⟨⟨by omega, by omega⟩, by omega, fun hz => ?_, fun hz => ?_⟩
    · have hz' : (h.n + 1) % 128 = 0 := by simpa using hz
      rw [hByte, if_pos hz'] at hn'
      exact ⟨by omega, by simp [g4], ⟨g3, trivial⟩, hn'⟩
    · have hz' : ¬ (h.n + 1) % 128 = 0 := by simpa using hz
      rw [hByte, if_neg hz'] at hn'
      exact hn'
  · have : k = b.length := by have := of_decide_eq_false hb; omega
    exact hx this
noncomputable abbrev puLT : LTab := [(0, loopF (stC puC hpS) 1 [puCf, symH, .auto] puF)]
abbrev hbA : Cod (List LV) (List Int × Unit) := lSkip p0 (lCons (vOne (sRd false false u8)) lNil)
noncomputable def hputE : Ent := Ent.ofS [none, some u8] (hbA) (hpS) fun x_ y_ => (fun (b : List Int) (h : HH) => .leaf (some (HOk h ∧ h.n + b.length < 2305843009213693952)) (.tup []) [(0, hI (hPut h b))]) x_.1 y_.1
theorem hput_tree (b : List Int) (h : HH) : fnT Tryz.prog puTab puLT Tryz.f115 ((hbA).wr (b, ())) ((hpS).wr (h, ())) [symH, .auto] =
  End.need (HOk h ∧ (↑b.length : Int) = (↑b.length : Int) ∧ (0 : Int) = (0 : Int) ∧ h.n + (↑b.length : Int) < (2305843009213693952 : Int)) (End.leaf
  (LV.tup []) [some (Item.blk [SV.bool (SB.sym (hPut h b).begun), SV.arr (Ty.int IntKind.u64) (8 : Nat) (hPut h b).s, SV.int IntKind.i64 (SI.sym (hPut h
  b).n), SV.arr (Ty.int IntKind.u8) (128 : Nat) (hPut h b).wait] (141 : Nat))]) := by kernel_rfl
theorem hput_ok : hputE.Ok Tryz.prog 115 := by
  refine (Ent.ofOk Tryz.call115 fun x_ y_ Q H_ => ?_).sym
  obtain ⟨b, _⟩ := x_
  obtain ⟨h, _⟩ := y_
  obtain ⟨hn, hq⟩ := H_
  have hn : HOk h ∧ h.n + b.length < 2305843009213693952 := hn
  refine (fnT_ok mixed puTab_ok Tryz.func115 rfl (LT := puLT) (ks := [symH, .auto]) (LOk.ofTab (LTC rfl (loopF_ok (hp := hpS.wr (h, ())) (pu_loop h)) LT0))).use (D := [(0, hI (hPut h b))]) ?_ hq
  show (fnT _ _ _ _ ((hbA).wr (b, ())) ((hpS).wr (h, ())) _).sat _
  rw [hput_tree]
  exact ⟨⟨hn.1, rfl, rfl, hn.2⟩, rfl, rfl⟩
noncomputable def writeE : Ent := Ent.ofS [none, some u8] (hbA) (hpS) fun x_ y_ => (fun (b : List Int) (h : HH) => .leaf (some (HOk h ∧ h.n + b.length < 2305843009213693952)) (.tup []) [(0, hI (hPut h b))]) x_.1 y_.1
theorem write_tree (b : List Int) (h : HH) : fnT Tryz.prog [(114, ownE), (115, hputE)] [] Tryz.f61 ((hbA).wr (b, ())) ((hpS).wr (h, ())) [symH, .auto] =
  End.need (h.begun = true) (End.need (HOk h ∧ h.n + (↑b.length : Int) < (2305843009213693952 : Int)) (End.leaf (LV.tup []) [some (Item.blk [SV.bool
  (SB.sym (hPut h b).begun), SV.arr (Ty.int IntKind.u64) (8 : Nat) (hPut h b).s, SV.int IntKind.i64 (SI.sym (hPut h b).n), SV.arr (Ty.int IntKind.u8)
  (128 : Nat) (hPut h b).wait] (141 : Nat))])) := by kernel_rfl
theorem write_ok : writeE.Ok Tryz.prog 61 := by
  refine (Ent.ofOk Tryz.call61 fun x_ y_ Q H_ => ?_).sym
  obtain ⟨b, _⟩ := x_
  obtain ⟨h, _⟩ := y_
  obtain ⟨hn, hq⟩ := H_
  have hn : HOk h ∧ h.n + b.length < 2305843009213693952 := hn
  refine (fnT_ok mixed ((tabC own_ok (tabC hput_ok tab0))) Tryz.func61 rfl (LT := []) (ks := [symH, .auto]) (LOk.nil _)).use (D := [(0, hI (hPut h b))]) ?_ hq
  show (fnT _ _ _ _ ((hbA).wr (b, ())) ((hpS).wr (h, ())) _).sat _
  rw [write_tree]
  exact ⟨hn.1.begun, hn, rfl, rfl⟩
def eightF (x : Int) : List Int := (List.range 8).map fun i => IntKind.u8.wrap (shr .u64 x ((56 - 8 * i : Nat) : Int))
noncomputable def eightE : Ent := Ent.ofS [] ((lCons (vOne (sInt .u64)) lNil)) (lNil) fun x_ y_ => (fun (x : Int) => .leaf none (.one (.sc (.sl 0 0))) [(0, .own 0 u8 (eightF x))]) x_.1
theorem eight_tree (x : Int) : fnT Tryz.prog [] [] Tryz.f116 (((lCons (vOne (sInt .u64)) lNil)).wr (x, ())) ((lNil).wr ()) [.auto, .vers] =
  End.need ((1 : Nat) ≤ (70368744177664 : Nat) ∧ (1 : Nat) ≤ (70368744177664 : Nat)) (End.need ((2 : Nat) ≤ (70368744177664 : Nat) ∧ (2 : Nat) ≤
  (70368744177664 : Nat)) (End.need ((3 : Nat) ≤ (70368744177664 : Nat) ∧ (3 : Nat) ≤ (70368744177664 : Nat)) (End.need ((4 : Nat) ≤ (70368744177664 :
  Nat) ∧ (4 : Nat) ≤ (70368744177664 : Nat)) (End.need ((5 : Nat) ≤ (70368744177664 : Nat) ∧ (5 : Nat) ≤ (70368744177664 : Nat)) (End.need ((6 : Nat) ≤
  (70368744177664 : Nat) ∧ (6 : Nat) ≤ (70368744177664 : Nat)) (End.need ((7 : Nat) ≤ (70368744177664 : Nat) ∧ (7 : Nat) ≤ (70368744177664 : Nat))
  (End.need ((8 : Nat) ≤ (70368744177664 : Nat) ∧ (8 : Nat) ≤ (70368744177664 : Nat)) (End.leaf (LV.one (VV.sc (SV.sl (0 : Nat) (0 : Nat)))) [some
  (Item.own (0 : Nat) (Ty.int IntKind.u8) ([IntKind.u8.wrap (shr IntKind.u64 x (56 : Int))] ++ [IntKind.u8.wrap (shr IntKind.u64 x (48 : Int))] ++
  [IntKind.u8.wrap (shr IntKind.u64 x (40 : Int))] ++ [IntKind.u8.wrap (shr IntKind.u64 x (32 : Int))] ++ [IntKind.u8.wrap (shr IntKind.u64 x (24 :
  Int))] ++ [IntKind.u8.wrap (shr IntKind.u64 x (16 : Int))] ++ [IntKind.u8.wrap (shr IntKind.u64 x (8 : Int))] ++ [IntKind.u8.wrap (shr IntKind.u64 x (0
  : Int))]))])))))))) := by kernel_rfl
theorem eight_ok : eightE.Ok Tryz.prog 116 := by
  refine (Ent.ofOk Tryz.call116 fun x_ y_ Q H_ => ?_).sym
  obtain ⟨x, _⟩ := x_
  have hq := H_.2
  refine (fnT_ok mixed tab0 Tryz.func116 rfl (LT := []) (ks := [.auto, .vers]) (LOk.nil _)).use (D := [(0, .own 0 u8 (eightF x))]) ?_ hq
  show (fnT _ _ _ _ (((lCons (vOne (sInt .u64)) lNil)).wr (x, ())) ((lNil).wr ()) _).sat _
  rw [eight_tree]
  exact ⟨by omega, by omega, by omega, by omega, by omega, by omega, by omega, by omega, rfl, rfl⟩
def numbersF (s : List Int) : List Int := (List.range 8).foldl (fun a i => a ++ eightF (s.getD i 0)) []
noncomputable def numbersE : Ent := Ent.ofS [] ((lSkip p0 lNil)) (hpS) fun x_ y_ => (fun (h : HH) => .leaf none (.one (.sc (.sl 1 0))) [(1, .own 0 u8 (numbersF h.s))])  y_.1
theorem numbers_tree (h : HH) : fnT Tryz.prog [(116, eightE)] [] Tryz.f117 (((lSkip p0 lNil)).wr ()) ((hpS).wr (h, ())) [.auto, .vers] =
  End.need ((8 : Nat) ≤ (70368744177664 : Nat) ∧ (8 : Nat) ≤ (70368744177664 : Nat)) (End.need ((16 : Nat) ≤ (70368744177664 : Nat) ∧ (16 : Nat) ≤
  (70368744177664 : Nat)) (End.need ((24 : Nat) ≤ (70368744177664 : Nat) ∧ (24 : Nat) ≤ (70368744177664 : Nat)) (End.need ((32 : Nat) ≤ (70368744177664 :
  Nat) ∧ (32 : Nat) ≤ (70368744177664 : Nat)) (End.need ((40 : Nat) ≤ (70368744177664 : Nat) ∧ (40 : Nat) ≤ (70368744177664 : Nat)) (End.need ((48 : Nat)
  ≤ (70368744177664 : Nat) ∧ (48 : Nat) ≤ (70368744177664 : Nat)) (End.need ((56 : Nat) ≤ (70368744177664 : Nat) ∧ (56 : Nat) ≤ (70368744177664 : Nat))
  (End.need ((64 : Nat) ≤ (70368744177664 : Nat) ∧ (64 : Nat) ≤ (70368744177664 : Nat)) (End.leaf (LV.one (VV.sc (SV.sl (1 : Nat) (0 : Nat)))) [some
  (Item.blk [SV.bool (SB.sym h.begun), SV.arr (Ty.int IntKind.u64) (8 : Nat) h.s, SV.int IntKind.i64 (SI.sym h.n), SV.arr (Ty.int IntKind.u8) (128 : Nat)
  h.wait] (141 : Nat)), some (Item.own (0 : Nat) (Ty.int IntKind.u8) (eightF (h.s.getD (0 : Nat) (0 : Int)) ++ eightF (h.s.getD (1 : Nat) (0 : Int)) ++
  eightF (h.s.getD (2 : Nat) (0 : Int)) ++ eightF (h.s.getD (3 : Nat) (0 : Int)) ++ eightF (h.s.getD (4 : Nat) (0 : Int)) ++ eightF (h.s.getD (5 : Nat)
  (0 : Int)) ++ eightF (h.s.getD (6 : Nat) (0 : Int)) ++ eightF (h.s.getD (7 : Nat) (0 : Int))))])))))))) := by kernel_rfl
theorem numbers_ok : numbersE.Ok Tryz.prog 117 := by
  refine (Ent.ofOk Tryz.call117 fun x_ y_ Q H_ => ?_).sym
  obtain ⟨h, _⟩ := y_
  have hq := H_.2
  refine (fnT_ok mixed ((tabC eight_ok tab0)) Tryz.func117 rfl (LT := []) (ks := [.auto, .vers]) (LOk.nil _)).use (D := [(1, .own 0 u8 (numbersF h.s))]) ?_ hq
  show (fnT _ _ _ _ (((lSkip p0 lNil)).wr ()) ((hpS).wr (h, ())) _).sat _
  rw [numbers_tree]
  exact ⟨by omega, by omega, by omega, by omega, by omega, by omega, by omega, by omega, rfl, rfl⟩
end Go.Proofs.YthdfifcgobfgdaaGreat
end

section
set_option linter.unusedVariables false
set_option linter.unusedSimpArgs false
namespace Go.Proofs.YthdfifcgobfgdaaGreat
open Go Go.Ev
set_option maxRecDepth 100000
noncomputable abbrev suFn : Func := Tryz.f62
noncomputable abbrev suTab : List (FuncId × Ent) := [(114, ownE), (115, hputE), (116, eightE), (117, numbersE)]
theorem suTab_ok : ∀ p ∈ suTab, p.2.Ok Tryz.prog p.1 := tabC own_ok (tabC hput_ok (tabC eight_ok (tabC numbers_ok tab0)))
abbrev hpS3 : Cod Hp (HH × List Int × HH × Unit) := lCons (iBlk 141 cHH) (lCons (iRow 24 .u8 64) (lCons (iBlk 141 cHH) lNil))
abbrev symH2 : Wk := .blk 2 [.sym, .keep, .sym, .keep]
abbrev suC : Cod (List LV) (Int × Unit) := (jk 2 (lSkip (vOne (sPtr 1 0)) (lSkip (vOne (sPtr 2 0)) (lCons (vOne (sInt .u64)) (jk 24 lNil)))))
abbrev suCf : Wk := .fr (fmS 29 [(2, .keep), (3, .keep), (4, .sym)])
def suW : Exit → List Wk
  | .normal => [suCf, symH2, .auto]
  | .exit 0 => [suCf, symH2, .auto]
  | _ => []
theorem su_rnd (h0 : HH) (g : HH) (r : List Int) (h : HH) (n : Int) : rndT Tryz.prog suTab [] suFn 0 (hpS.wr (h0, ())) suW ((stC suC hpS3).wr ((n, ()), (g, r, h, ()))) =
  Res.ite (h.n.tmod (128 : Int) != (112 : Int)) (Res.need (HOk h ∧ h.n + (1 : Int) < (2305843009213693952 : Int)) (Res.leaf Exit.normal ((stC suC
  hpS3).wr ((n, PUnit.unit), g, r, hPut h [(0 : Int)], PUnit.unit)))) (Res.leaf (Exit.exit (0 : Nat)) ((stC suC hpS3).wr ((n, PUnit.unit), g, r, h,
  PUnit.unit))) := by kernel_rfl
/-- noughts, as many as are lacking -/
def padH (h : HH) : HH := hPut h (List.replicate ((112 - h.n) % 128).toNat 0)
theorem padH_step {h : HH} (hz : ¬ h.n % 128 = 112) : padH (hPut h [0]) = padH h ∧ ((112 - (hPut h [0]).n) % 128).toNat < ((112 - h.n) % 128).toNat := by
  have e1 : (hPut h [0]).n = h.n + 1 := by rw [hPut_n]; rfl
  have e2 : ((112 - h.n) % 128).toNat = ((112 - (hPut h [0]).n) % 128).toNat + 1 := by rw [e1]; omega
  refine ⟨?_, by omega⟩
  unfold padH
  rw [e2, List.replicate_succ]
  rfl
theorem padH_end {h : HH} (hz : h.n % 128 = 112) : padH h = h := by
  have e : ((112 - h.n) % 128).toNat = 0 := by omega
  unfold padH; rw [e]; rfl
noncomputable def suF (x : (Int × Unit) × HH × List Int × HH × Unit) : Res :=
  .need (HOk x.2.2.2.1 ∧ x.2.2.2.1.n + 128 < 2305843009213693952) (.leaf (.exit 0) ((stC suC hpS3).wr (x.1, (x.2.1, x.2.2.1, padH x.2.2.2.1, ()))))
theorem su_loop (h0 : HH) (x) : Ex Tryz.prog (hpS.wr (h0, ())) (.loop (loopAt suFn 0)) ((stC suC hpS3).wr x) (suF x) := by
  obtain ⟨⟨n, _⟩, g, r, h, _⟩ := x
  refine Ex.need fun ⟨h1, h2⟩ => ?_
  simp only at h1 h2
  refine loopR mixed suTab_ok (LT := []) (ws := suW) (hp := hpS.wr (h0, ())) (LOk.nil _) (fun h : HH => ((112 - h.n) % 128).toNat) (fun h : HH => (stC suC hpS3).wr ((n, ()), (g, r, h, ()))) (fun h => HOk h ∧ h.n + (112 - h.n) % 128 < 2305843009213693952)
    (fun h => .leaf (.exit 0) ((stC suC hpS3).wr ((n, ()), (g, r, padH h, ())))) (fun h _ => su_rnd h0 g r h n) (fun h R hh hs => ?_) h ⟨h1, by omega⟩
  obtain ⟨hh, hlt⟩ := hh
  have e : h.n.tmod 128 = h.n % 128 := Int.tmod_eq_emod_of_nonneg hh.n
  rw [e]
  refine ⟨fun hb => ?_, fun hb => ?_⟩
  · have hb' : ¬ h.n % 128 = 112 := by simpa using hb
    obtain ⟨k1, k2⟩ := padH_step hb'
    have e1 : (hPut h [0]).n = h.n + 1 := by rw [hPut_n]; rfl
    refine ⟨⟨hh, by omega⟩, .inl ⟨rfl, hPut h [0], rfl, ⟨hPut_ok _ hh, by rw [e1]; omega⟩, k2, ?_⟩⟩
    show (Res.leaf (.exit 0) ((stC suC hpS3).wr ((n, ()), (g, r, padH (hPut h [0]), ())))).sat R
    rw [k1]; exact hs
  · have hb' : h.n % 128 = 112 := by simpa using hb
    rw [padH_end hb'] at hs
    exact .inr ⟨by simp, hs⟩
noncomputable abbrev suLT : LTab := [(0, loopF (stC suC hpS3) 1 [suCf, symH2, .auto] suF)]
def lastF (h : HH) (n : Int) : HH := hPut (hPut (padH (hPut h [128])) (eightF (shr .u64 n 61))) (eightF (shl .u64 n 3))
def sumF (h : HH) : List Int := numbersF (lastF h (IntKind.u64.wrap h.n)).s
theorem eight_length (x : Int) : (eightF x).length = 8 := rfl
theorem numbers_length (s : List Int) : (numbersF s).length = 64 := rfl
noncomputable def sumE : Ent := Ent.ofS [] ((lSkip p0 lNil)) (hpS) fun x_ y_ => (fun (h : HH) => .leaf (some (HOk h ∧ h.n < 1152921504606846976)) (nRow .u8 64 (sumF h)) [])  y_.1
theorem sum_tree (h : HH) : fnT Tryz.prog suTab suLT Tryz.f62 (((lSkip p0 lNil)).wr ()) ((hpS).wr (h, ())) [.fr [.sym], symH, .auto] =
  End.need (h.begun = true) (End.need (HOk h ∧ h.n + (1 : Int) < (2305843009213693952 : Int)) (End.need (HOk (hPut h [(128 : Int)]) ∧ (hPut h [(128 :
  Int)]).n + (128 : Int) < (2305843009213693952 : Int)) (End.need (HOk (padH (hPut h [(128 : Int)])) ∧ (padH (hPut h [(128 : Int)])).n + (8 : Int) <
  (2305843009213693952 : Int)) (End.need (HOk (hPut (padH (hPut h [(128 : Int)])) (eightF (shr IntKind.u64 (IntKind.u64.wrap h.n) (61 : Int)))) ∧ (hPut
  (padH (hPut h [(128 : Int)])) (eightF (shr IntKind.u64 (IntKind.u64.wrap h.n) (61 : Int)))).n + (8 : Int) < (2305843009213693952 : Int)) (End.need ((64
  : Nat) ≤ (64 : Nat)) (End.need ((64 : Nat) ≤ (64 : Nat)) (End.leaf (LV.one (VV.agg [SV.arr (Ty.int IntKind.u8) (64 : Nat) (List.take (64 : Nat)
  (List.drop (0 : Nat) (numbersF (hPut (hPut (padH (hPut h [(128 : Int)])) (eightF (shr IntKind.u64 (IntKind.u64.wrap h.n) (61 : Int)))) (eightF (shl
  IntKind.u64 (IntKind.u64.wrap h.n) (3 : Int)))).s)))])) [some (Item.blk [SV.bool (SB.sym h.begun), SV.arr (Ty.int IntKind.u64) (8 : Nat) h.s, SV.int
  IntKind.i64 (SI.sym h.n), SV.arr (Ty.int IntKind.u8) (128 : Nat) h.wait] (141 : Nat))]))))))) := by kernel_rfl
theorem sum_ok : sumE.Ok Tryz.prog 62 := by
  refine (Ent.ofOk Tryz.call62 fun x_ y_ Q H_ => ?_).sym
  obtain ⟨h, _⟩ := y_
  obtain ⟨hn, hq⟩ := H_
  have hn : HOk h ∧ h.n < 1152921504606846976 := hn
  refine (fnT_ok mixed suTab_ok Tryz.func62 rfl (LT := suLT) (ks := [.fr [.sym], symH, .auto]) (LOk.ofTab (LTC rfl (loopF_ok (hp := hpS.wr (h, ())) (su_loop h)) LT0))).use (D := []) ?_ hq
  show (fnT _ _ _ _ (((lSkip p0 lNil)).wr ()) ((hpS).wr (h, ())) _).sat _
  rw [sum_tree]
  obtain ⟨g1, g2⟩ := hn
  have g3 := g1.n
  have e1 : (hPut h [128]).n = h.n + 1 := by rw [hPut_n]; rfl
  have k1 : HOk (hPut h [128]) := hPut_ok _ g1
  have k2 : HOk (padH (hPut h [128])) := hPut_ok _ k1
  have e2 : (padH (hPut h [128])).n ≤ h.n + 128 := by unfold padH; rw [hPut_n, e1, List.length_replicate]; omega
  have k3 : HOk (hPut (padH (hPut h [128])) (eightF (shr .u64 (IntKind.u64.wrap h.n) 61))) := hPut_ok _ k2
  have e3 : (hPut (padH (hPut h [128])) (eightF (shr .u64 (IntKind.u64.wrap h.n) 61))).n ≤ h.n + 136 := by rw [hPut_n, eight_length]; omega
  have e4 : ∀ s, List.take 64 (List.drop 0 (numbersF s)) = numbersF s := fun s => take_all (numbers_length s)
  rw [e4]
  exact ⟨g1.begun, ⟨g1, by omega⟩, ⟨k1, by omega⟩, ⟨k2, by omega⟩, ⟨k3, by omega⟩, by omega, by omega, rfl, rfl⟩
noncomputable abbrev ofFn : Func := Tryz.f28
noncomputable abbrev ofTab : List (FuncId × Ent) := [(60, new8E), (61, writeE), (62, sumE)]
abbrev rrA : Cod (List LV) (List (List Int) × Unit) := lCons (vOne (sRd false false (.sl u8))) lNil
abbrev ofC : Cod (List LV) (List (List Int) × Int × Int × Unit) := (jk 2 (lSkip (vOne (sPtr 0 0)) (lSkip (vOne (sPtr 1 0)) (jk 3 (lCons (vOne (sRd false false (.sl u8))) (lCons (vOne (sInt .i64)) (lCons (vOne (sInt .i64)) (jk 9 lNil))))))))
abbrev ofCf : Wk := .fr (fmS 19 [(2, .keep), (3, .keep), (7, .keep), (8, .sym), (9, .sym)])
abbrev ofX : Cod (List LV) (Unit) := (jk 2 (lSkip (vOne (sPtr 0 0)) (lSkip (vOne (sPtr 1 0)) (jk 15 lNil))))
abbrev ofXf : Wk := .fr (fmS 19 [(2, .keep), (3, .keep)])
abbrev hpOf : Cod Hp (List Int × HH × Unit) := lCons (iRow 24 .u8 64) (lCons (iBlk 141 cHH) lNil)
abbrev symH1 : Wk := .blk 1 [.sym, .keep, .sym, .keep]
def ofW : Exit → List Wk
  | .normal => [ofCf, symH1, .auto]
  | .exit 0 => [ofXf, symH1, .auto]
  | _ => []
theorem of_rnd (l : List (List Int)) (n i : Int) (r : List Int) (h : HH) : rndT Tryz.prog ofTab [] ofFn 0 [] ofW ((stC ofC hpOf).wr ((l, n, i, ()), (r, h, ()))) =
  Res.ite (decide (i < n)) (Res.need ((0 : Int) ≤ i ∧ i < (↑l.length : Int)) (Res.need (HOk h ∧ h.n + (↑(List.length (l.getD i.toNat [])) : Int) <
  (2305843009213693952 : Int)) (Res.leaf Exit.normal ((stC ofC hpOf).wr ((l, n, IntKind.i64.wrap (i + (1 : Int)), PUnit.unit), r, hPut h (l.getD i.toNat
  []), PUnit.unit))))) (Res.leaf (Exit.exit (0 : Nat)) ((stC ofX hpOf).wr (PUnit.unit, r, h, PUnit.unit))) := by kernel_rfl
theorem ofTab_ok : ∀ p ∈ ofTab, p.2.Ok Tryz.prog p.1 := tabC new8_ok (tabC write_ok (tabC sum_ok tab0))
theorem upto_rows {σ : Type} (g : σ → List Int → σ) (b : List (List Int)) : ∀ (m k : Nat) (s : σ), k + m = b.length → upto (fun k s => g s (b.getD k [])) k m s = (b.drop k).foldl g s
  | 0, k, s, h => by rw [List.drop_eq_nil_of_le (by omega)]; rfl
  | m + 1, k, s, h => by
    have e : b.drop k = b.getD k [] :: b.drop (k + 1) := by
      rw [List.drop_eq_getElem_cons (by omega : k < b.length), List.getD_eq_getElem?_getD, List.getElem?_eq_getElem (by omega : k < b.length)]; rfl
    rw [e]
    exact upto_rows g b m (k + 1) _ (by omega)
theorem hPut_rows : ∀ (l : List (List Int)) (h : HH), l.foldl hPut h = hPut h l.flatten
  | [], h => rfl
  | b :: l, h => by rw [List.foldl_cons, hPut_rows l, List.flatten_cons, hPut_append]
noncomputable def ofLF (x : (List (List Int) × Int × Int × Unit) × List Int × HH × Unit) : Res :=
  .need (HOk x.2.2.1 ∧ x.1.2.1 = x.1.1.length ∧ x.1.2.2.1 = 0 ∧ x.1.1.length < 2305843009213693952 ∧ x.2.2.1.n + x.1.1.flatten.length < 2305843009213693952) (.leaf (.exit 0) ((stC ofX hpOf).wr ((), (x.2.1, hPut x.2.2.1 x.1.1.flatten, ()))))
theorem of_loop (x) : Ex Tryz.prog [] (.loop (loopAt ofFn 0)) ((stC ofC hpOf).wr x) (ofLF x) := by
  obtain ⟨⟨l, n, i, _⟩, r, h, _⟩ := x
  refine Ex.need fun ⟨h1, h2, h3, h4, h5⟩ => ?_
  simp only at h1 h2 h3 h4 h5
  subst h2 h3
  have key := loopUp (fn := ofFn) (id := 0) (j := 0) (ws := ofW) (hp := []) mixed ofTab_ok (LOk.nil _) l.length (fun k h => (stC ofC hpOf).wr ((l, (l.length : Int), (k : Int), ()), (r, h, ()))) (fun h => (stC ofX hpOf).wr ((), (r, h, ()))) (fun k h => hPut h (l.getD k [])) (fun k h => HOk h ∧ h.n + (l.drop k).flatten.length < 2305843009213693952)
    (fun k h R hk hm hn hx => ?_) (fun k h hk hh => ⟨hPut_ok _ hh.1, ?_⟩) 0 h (by omega) ⟨h1, h5⟩
  · rw [Nat.sub_zero, upto_rows hPut l _ _ _ (by omega), hPut_rows] at key; exact key
  · obtain ⟨hh, hlt⟩ := hm
    rw [of_rnd]
    refine ⟨fun hb => ?_, fun hb => ?_⟩
    · have hk' : k < l.length := by have := of_decide_eq_true hb; omega
      have e : l.drop k = l.getD k [] :: l.drop (k + 1) := by
        rw [List.drop_eq_getElem_cons hk', List.getD_eq_getElem?_getD, List.getElem?_eq_getElem hk']; rfl
      rw [e, List.flatten_cons, List.length_append] at hlt
      rw [wrap_succ k (by omega)]
      simp only [Int.toNat_natCast]
      exact ⟨by omega, ⟨hh, by omega⟩, hn hk'⟩
    · have : k = l.length := by have := of_decide_eq_false hb; omega
      exact hx this
  · have e : l.drop k = l.getD k [] :: l.drop (k + 1) := by
      rw [List.drop_eq_getElem_cons hk, List.getD_eq_getElem?_getD, List.getElem?_eq_getElem hk]; rfl
    have h2 := hh.2
    rw [e, List.flatten_cons, List.length_append] at h2
    rw [hPut_n]
    omega
noncomputable abbrev ofLT : LTab := [(0, loopF (stC ofC hpOf) 0 [ofCf, symH1, .auto] ofLF)]
theorem newH_ok : HOk newH := ⟨rfl, by decide, rfl, rfl⟩
/-- the sum of bytes -/
def shaF (b : List Int) : List Int := sumF (hPut newH b)
theorem sha_length (b : List Int) : (shaF b).length = 64 := rfl
noncomputable def ofE : Ent := Ent.ofS [some (.sl u8)] (rrA) (lNil) fun x_ y_ => (fun (l : List (List Int)) => .leaf (some (l.length < 2305843009213693952 ∧ l.flatten.length < 1152921504606846976)) (nRow .u8 64 (shaF l.flatten)) []) x_.1
theorem of_tree (l : List (List Int)) : fnT Tryz.prog ofTab ofLT Tryz.f28 ((rrA).wr (l, ())) ((lNil).wr ()) [.fr [.sym], .auto] =
  End.need (HOk { begun := true, s := [(7640891576956012808 : Int), (13503953896175478587 : Int), (4354685564936845355 : Int), (11912009170470909681 : Int), (5840696475078001361 : Int), (11170449401992604703 : Int), (2270897969802886507 : Int), (6620516959819538809 : Int)], n := (0 : Int), wait := List.replicate (128 : Nat) (0 : Int) }
  ∧ (↑l.length : Int) = (↑l.length : Int) ∧ (0 : Int) = (0 : Int) ∧ l.length < (2305843009213693952 : Nat) ∧ (0 : Int) + (↑l.flatten.length : Int) <
  (2305843009213693952 : Int)) (End.need (HOk (hPut { begun := true, s := [(7640891576956012808 : Int), (13503953896175478587 : Int), (4354685564936845355 : Int), (11912009170470909681 : Int), (5840696475078001361 : Int), (11170449401992604703 : Int), (2270897969802886507 : Int), (6620516959819538809 : Int)], n := (0 : Int), wait := List.replicate (128 : Nat) (0 : Int) }
  l.flatten) ∧ (hPut { begun := true, s := [(7640891576956012808 : Int), (13503953896175478587 : Int), (4354685564936845355 : Int), (11912009170470909681 : Int), (5840696475078001361 : Int), (11170449401992604703 : Int), (2270897969802886507 : Int), (6620516959819538809 : Int)], n := (0 : Int), wait := List.replicate (128 : Nat) (0 : Int) }
  l.flatten).n < (1152921504606846976 : Int)) (End.leaf (LV.one (VV.agg [SV.arr (Ty.int IntKind.u8) (64 : Nat) (sumF (hPut { begun := true, s := [(7640891576956012808 : Int), (13503953896175478587 : Int), (4354685564936845355 : Int), (11912009170470909681 : Int), (5840696475078001361 : Int), (11170449401992604703 : Int), (2270897969802886507 : Int), (6620516959819538809 : Int)], n := (0 : Int), wait := List.replicate (128 : Nat) (0 : Int) }
  l.flatten))])) [])) := by kernel_rfl
theorem of_ok : ofE.Ok Tryz.prog 28 := by
  refine (Ent.ofOk Tryz.call28 fun x_ y_ Q H_ => ?_).sym
  obtain ⟨l, _⟩ := x_
  obtain ⟨hn, hq⟩ := H_
  have hn : l.length < 2305843009213693952 ∧ l.flatten.length < 1152921504606846976 := hn
  refine (fnT_ok mixed ofTab_ok Tryz.func28 rfl (LT := ofLT) (ks := [.fr [.sym], .auto]) (LOk.ofTab (LTC rfl (loopF_ok (hp := []) of_loop) LT0))).use (D := []) ?_ hq
  show (fnT _ _ _ _ ((rrA).wr (l, ())) ((lNil).wr ()) _).sat _
  rw [of_tree]
  have e : (hPut newH l.flatten).n = l.flatten.length := by rw [hPut_n]; show (0 : Int) + _ = _; omega
  exact ⟨⟨newH_ok, rfl, rfl, hn.1, by omega⟩, ⟨hPut_ok _ newH_ok, by show (hPut newH l.flatten).n < _; rw [e]; omega⟩, rfl, rfl⟩
end Go.Proofs.YthdfifcgobfgdaaGreat
end

section
set_option linter.unusedVariables false
set_option linter.unusedSimpArgs false
namespace Go.Proofs.YthdfifcgobfgdaaGreat
open Go Go.Ev
set_option maxRecDepth 100000
noncomputable def equalE : Ent := Ent.ofS [some u8, some u8] bbA lNil fun x _ => .leaf none (nB (strEq x.1 x.2.1)) []
theorem equal_ok : equalE.Ok Tryz.prog 106 := by
  refine (Ent.ofOk Tryz.call106 fun x y Q h => ?_).sym
  obtain ⟨a, b, _⟩ := x
  refine (fnT_ok mixed tab0 Tryz.func106 rfl (LT := []) (ks := []) (LOk.nil _)).use (D := []) ?_ h.2
  show (fnT _ _ _ _ (bbA.wr (a, b, ())) [] _).sat _
  rw [equal_tree]
  exact ⟨rfl, rfl⟩
noncomputable def ctxE : Ent := Ent.of [] lNil lNil fun _ _ => .leaf none (.one (.sc (.sl 0 0))) [(0, .own 0 u8 [98, 111, 111, 116, 106, 97, 99, 107])]
theorem ctx_ok : ctxE.Ok Tryz.prog 23 := by
  refine Ent.ofOk Tryz.call23 fun x y Q h => ?_
  refine (fnT_ok mixed tab0 Tryz.func23 rfl (LT := []) (ks := [.auto, .vers]) (LOk.nil _)).use (D := [(0, .own 0 u8 [98, 111, 111, 116, 106, 97, 99, 107])]) ?_ h.2
  show (fnT _ _ _ _ [] [] _).sat _
  rw [context_tree]
  exact ⟨rfl, rfl⟩
theorem gethead_tree (l : List Int) : fnT Tryz.prog [(21, headE), (106, equalE)] [] Tryz.f50 (bA.wr (l, ())) [] [.fr [.sym], .auto] =
  End.ite ((↑l.length : Int) != (8 : Int)) (End.leaf (LV.tup [VV.agg [SV.int IntKind.i64 (SI.sym (0 : Int)), SV.int IntKind.i64 (SI.sym (0 : Int))],
  VV.sc (SV.bool (SB.sym false))]) []) (End.need ((0 : Int) ≤ (4 : Int) ∧ (4 : Int) < (↑l.length : Int)) (End.need ((0 : Int) ≤ (5 : Int) ∧ (5 : Int) <
  (↑l.length : Int)) (End.ite (!strEq (headF (IntKind.i64.wrap (l.getD (4 : Nat) (0 : Int))) (IntKind.i64.wrap (l.getD (5 : Nat) (0 : Int)))) l)
  (End.leaf (LV.tup [VV.agg [SV.int IntKind.i64 (SI.sym (0 : Int)), SV.int IntKind.i64 (SI.sym (0 : Int))], VV.sc (SV.bool (SB.sym false))]) [])
  (End.leaf (LV.tup [VV.agg [SV.int IntKind.i64 (SI.sym (IntKind.i64.wrap (l.getD (4 : Nat) (0 : Int)))), SV.int IntKind.i64 (SI.sym (IntKind.i64.wrap
  (l.getD (5 : Nat) (0 : Int))))], VV.sc (SV.bool (SB.sym true))]) [])))) := by kernel_rfl
def getHeadF (l : List Int) : (Int × Int) × Bool :=
  if l.length = 8 ∧ strEq (headF (IntKind.i64.wrap (l.getD 4 0)) (IntKind.i64.wrap (l.getD 5 0))) l = true then ((IntKind.i64.wrap (l.getD 4 0), IntKind.i64.wrap (l.getD 5 0)), true) else ((0, 0), false)
def getHeadV (r : (Int × Int) × Bool) : LV := .tup [.agg [.int .i64 (.sym r.1.1), .int .i64 (.sym r.1.2)], .sc (.bool (.sym r.2))]
noncomputable def getHeadE : Ent := Ent.ofS [some u8] bA lNil fun x _ => .leaf none (getHeadV (getHeadF x.1)) []
theorem getHeadV_no {l : List Int} (h : ¬ (l.length = 8 ∧ strEq (headF (IntKind.i64.wrap (l.getD 4 0)) (IntKind.i64.wrap (l.getD 5 0))) l = true)) : LV.tup [.agg [.int .i64 (.sym 0), .int .i64 (.sym 0)], .sc (.bool (.sym false))] = getHeadV (getHeadF l) := by
  unfold getHeadF; rw [if_neg h]; rfl
theorem getHeadV_yes {l : List Int} (h : l.length = 8 ∧ strEq (headF (IntKind.i64.wrap (l.getD 4 0)) (IntKind.i64.wrap (l.getD 5 0))) l = true) :
    LV.tup [.agg [.int .i64 (.sym (IntKind.i64.wrap (l.getD 4 0))), .int .i64 (.sym (IntKind.i64.wrap (l.getD 5 0)))], .sc (.bool (.sym true))] = getHeadV (getHeadF l) := by
  unfold getHeadF; rw [if_pos h]; rfl
theorem getHead_ok : getHeadE.Ok Tryz.prog 50 := by
  refine (Ent.ofOk Tryz.call50 fun x y Q h => ?_).sym
  obtain ⟨l, _⟩ := x
  refine (fnT_ok mixed (tabC head_ok (tabC equal_ok tab0)) Tryz.func50 rfl (LT := []) (ks := [.fr [.sym], .auto]) (LOk.nil _)).use (D := []) ?_ h.2
  show (fnT _ _ _ _ (bA.wr (l, ())) [] _).sat _
  rw [gethead_tree]
  refine ⟨fun h1 => ⟨getHeadV_no ?_, rfl⟩, fun h1 => ?_⟩
  · intro h; rw [h.1] at h1; cases h1
  · have h1' : (l.length : Int) = 8 := bne_eq_false_iff_eq.1 h1
    refine ⟨⟨by omega, by omega⟩, ⟨by omega, by omega⟩, fun h2 => ⟨getHeadV_no ?_, rfl⟩, fun h2 => ⟨getHeadV_yes ⟨by omega, ?_⟩, rfl⟩⟩
    · intro h; rw [h.2] at h2; cases h2
    · revert h2; cases strEq _ _ <;> simp
theorem alive_tree  : fnT Tryz.prog [(21, headE), (50, getHeadE), (23, ctxE)] [] Tryz.f17 [] [] [.auto] =
  End.ite (strEq (headF (0 : Int) (1 : Int)) (List.map (fun x => (↑x.toNat : Int)) [(66 : UInt8), (74 : UInt8), (75 : UInt8), (49 : UInt8), (0 : UInt8),
  (1 : UInt8), (0 : UInt8), (0 : UInt8)]) == true) (End.ite ((getHeadF (headF (0 : Int) (1 : Int))).snd == true) (End.ite (((1 : Int) == (1 : Int)) ==
  true) (End.leaf (LV.one (VV.sc (SV.bool (SB.sym (strEq [(98 : Int), (111 : Int), (111 : Int), (116 : Int), (106 : Int), (97 : Int), (99 : Int), (107 :
  Int)] (List.map (fun x => (↑x.toNat : Int)) [(98 : UInt8), (111 : UInt8), (111 : UInt8), (116 : UInt8), (106 : UInt8), (97 : UInt8), (99 : UInt8), (107
  : UInt8)])))))) []) (End.leaf (LV.one (VV.sc (SV.bool (SB.lit false)))) [])) (End.leaf (LV.one (VV.sc (SV.bool (SB.lit false)))) [])) (End.leaf (LV.one
  (VV.sc (SV.bool (SB.lit false)))) []) := by kernel_rfl
noncomputable def aliveE : Ent := Ent.of [] lNil lNil fun _ _ => .leaf none (.one (.sc (.bool (.lit true)))) []
theorem alive_ok : aliveE.Ok Tryz.prog 17 := by
  refine Ent.ofOk Tryz.call17 fun x y Q h => ?_
  refine (fnT_ok mixed (tabC head_ok (tabC getHead_ok (tabC ctx_ok tab0))) Tryz.func17 rfl (LT := []) (ks := [.auto]) (LOk.nil _)).useD (D := []) ?_ h.2
  show (fnT _ _ _ _ [] [] _).sat _
  rw [alive_tree]
  have e1 : strEq (headF 0 1) (List.map (fun x => (x.toNat : Int)) [(66 : UInt8), 74, 75, 49, 0, 1, 0, 0]) = true := by kernel_rfl
  have e2 : strEq [98, 111, 111, 116, 106, 97, 99, 107] (List.map (fun x => (x.toNat : Int)) [(98 : UInt8), 111, 111, 116, 106, 97, 99, 107]) = true := by kernel_rfl
  have e3 : getHeadF (headF 0 1) = ((0, 1), true) := by kernel_rfl
  rw [e1, e2, e3]
  exact ⟨fun _ => ⟨fun _ => ⟨fun _ => ⟨fun β L val h => h, rfl⟩, fun h => absurd h (by decide)⟩, fun h => absurd h (by decide)⟩, fun h => absurd h (by decide)⟩
theorem strEq_self (l : List Int) : strEq l l = true := by simp [strEq]
end Go.Proofs.YthdfifcgobfgdaaGreat
end

section
set_option linter.unusedVariables false
set_option linter.unusedSimpArgs false
namespace Go.Proofs.YthdfifcgobfgdaaGreat
open Go Go.Ev
set_option maxRecDepth 100000
def signedF (b : List Int) : List Int := shaF (b.take 160)
noncomputable def signedE : Ent := Ent.ofS [some u8] (bA) (lNil) fun x_ y_ => (fun (b : List Int) => .leaf (some (b.length < 1152921504606846976)) (nRow .u8 64 (signedF b)) []) x_.1
theorem signed_tree (b : List Int) : fnT Tryz.prog [(28, ofE)] [] Tryz.f24 ((bA).wr (b, ())) ((lNil).wr ()) [.fr [.sym], .auto] =
  End.need ((0 : Int) ≤ (0 : Int) ∧ ((0 : Int) ≤ if (160 : Int) < (↑b.length : Int) then (160 : Int) else (↑b.length : Int)) ∧ (if (160 : Int) <
  (↑b.length : Int) then (160 : Int) else (↑b.length : Int)) ≤ (↑b.length : Int)) (End.need ((1 : Nat) < (2305843009213693952 : Nat) ∧ [List.take ((if
  (160 : Int) < (↑b.length : Int) then (160 : Int) else (↑b.length : Int)) - (0 : Int)).toNat (List.drop (0 : Nat) b)].flatten.length <
  (1152921504606846976 : Nat)) (End.leaf (LV.one (VV.agg [SV.arr (Ty.int IntKind.u8) (64 : Nat) (shaF [List.take ((if (160 : Int) < (↑b.length : Int)
  then (160 : Int) else (↑b.length : Int)) - (0 : Int)).toNat (List.drop (0 : Nat) b)].flatten)])) [])) := by kernel_rfl
theorem signed_ok : signedE.Ok Tryz.prog 24 := by
  refine (Ent.ofOk Tryz.call24 fun x_ y_ Q H_ => ?_).sym
  obtain ⟨b, _⟩ := x_
  obtain ⟨hn, hq⟩ := H_
  have hn : b.length < 1152921504606846976 := hn
  refine (fnT_ok mixed ((tabC of_ok tab0)) Tryz.func24 rfl (LT := []) (ks := [.fr [.sym], .auto]) (LOk.nil _)).use (D := []) ?_ hq
  show (fnT _ _ _ _ ((bA).wr (b, ())) ((lNil).wr ()) _).sat _
  rw [signed_tree]
  have e : List.take ((if (160 : Int) < b.length then (160 : Int) else b.length) - 0).toNat (List.drop 0 b) = b.take 160 := by
    rw [List.drop_zero]
    split
    · rfl
    · rw [List.take_of_length_le (by omega), List.take_of_length_le (by omega)]
  rw [e, List.flatten_singleton]
  refine ⟨⟨by omega, by split <;> omega, by split <;> omega⟩, ⟨by omega, by simp; omega⟩, rfl, rfl⟩
end Go.Proofs.YthdfifcgobfgdaaGreat
end
