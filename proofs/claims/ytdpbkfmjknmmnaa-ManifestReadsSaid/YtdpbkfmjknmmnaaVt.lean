/- A reader of code, third make: what is known is made less, or said in another way. -/
import Derived.Test.YtdpbkfmjknmmnaaVs
set_option linter.unusedVariables false
set_option linter.unusedSimpArgs false
namespace Go.Ev
open Go

structure RelV (W : World) (hp₀ : Hp) (β₀ β : Env) (fr : List LV) (hp : Hp) (vals : List Value) (w : World) : Prop where
  fr : All2 (LV.den β (kd hp)) fr vals
  heap : HRel W hp₀ β₀ β hp w

section
variable {W : World} {hp₀ : Hp} {β₀ β : Env} {hp : Hp} {w : World}
theorem HRel.recast (h : HRel W hp₀ β₀ β hp w) {β' : Env} {hp' : Hp} (g : Nat → Nat) (hrd : β'.rd = β.rd) (hfirst : Agree β₀ β' (kd hp₀) (kd hp'))
    (src : ∀ (j : Nat) (y : Item), hp'[j]? = some (some y) → ∃ x, hp[g j]? = some (some x) ∧ (∀ b, Owns β' y j b → Owns β x (g j) b) ∧ ItemOk β' (kd hp') w j y ∧ (g j = j ∨ kd hp₀ (g j) = none))
    (hg : ∀ (j k : Nat) (y z : Item), hp'[j]? = some (some y) → hp'[k]? = some (some z) → g j = g k → j = k) : HRel W hp₀ β₀ β' hp' w := by
  have howned : ∀ b, Owned hp' β' b → Owned hp β b := fun b ⟨j, y, hj, ho⟩ => by
    obtain ⟨x, h1, h2, _⟩ := src j y hj
    exact ⟨g j, x, h1, h2 b ho⟩
  refine ⟨fun j y hj => ?_, fun j k y z b hj hk h1 h2 => ?_, hfirst, fun j y b hj ho => ?_, h.os, h.output, h.size, h.keep, fun pm v t l hr => ?_, fun pm v t l b hr hb => ?_⟩
  · obtain ⟨x, _, _, h3, _⟩ := src j y hj
    exact h3
  · obtain ⟨x, a1, a2, _⟩ := src j y hj
    obtain ⟨x', b1, b2, _⟩ := src k z hk
    exact hg j k y z hj hk (h.inj _ _ _ _ b a1 b1 (a2 b h1) (b2 b h2))
  · obtain ⟨x, a1, a2, _, a4⟩ := src j y hj
    rcases h.own _ _ b a1 (a2 b ho) with k | ⟨z, k1, k2⟩
    · exact .inl k
    · rcases a4 with e | e
      · rw [e] at k1 k2; exact .inr ⟨z, k1, k2⟩
      · rw [kd_of k1] at e; cases e
  · rw [hrd] at hr
    obtain ⟨h1, h2⟩ := h.reads pm v t l hr
    exact ⟨h1.mono fun _ _ _ _ h => by rw [hrd]; exact h, fun b hb => ⟨(h2 b hb).1, fun k => (h2 b hb).2 (howned b k)⟩⟩
  · rw [hrd] at hr
    exact h.from_ pm v t l b hr hb

/-- other descriptions of the same cells -/
theorem HRel.redesc (h : HRel W hp₀ β₀ β hp w) {hp' : Hp} (hk : kd hp' = kd hp)
    (src : ∀ (j : Nat) (y : Item), hp'[j]? = some (some y) → ∃ x, hp[j]? = some (some x) ∧ (y = x ∨ ∃ cells cells' e, x = .blk cells e ∧ y = .blk cells' e ∧ ∀ c, DenL β (kd hp) cells c → DenL β (kd hp) cells' c)) : HRel W hp₀ β₀ β hp' w := by
  refine h.recast (fun j => j) rfl (by rw [hk]; exact h.first) (fun j y hj => ?_) fun _ _ _ _ _ _ e => e
  obtain ⟨x, h1, h2⟩ := src j y hj
  have hx := h.items j x h1
  rw [hk]
  rcases h2 with rfl | ⟨cells, cells', e, rfl, rfl, h3⟩
  · exact ⟨y, h1, fun _ h => h, hx, .inl rfl⟩
  · obtain ⟨c, fz, k1, k2, k3⟩ := hx
    exact ⟨_, h1, fun _ h => h, ⟨c, fz, k1, k2, h3 c k3⟩, .inl rfl⟩

def Item.mapc (f : SV → SV) : Item → Item
  | .blk cells e => .blk (cells.map f) e
  | x => x
def VV.mapc (f : SV → SV) : VV → VV
  | .sc s => .sc (f s)
  | .agg l => .agg (l.map f)
def LV.mapc (f : SV → SV) : LV → LV
  | .one x => .one (x.mapc f)
  | .tup l => .tup (l.map (VV.mapc f))
  | .junk => .junk
/-- a change of descriptions that loses truth nowhere -/
structure Less (β β' : Env) (L L' : Nat → Option Kd) (f : SV → SV) : Prop where
  den : ∀ {s : SV} {v : Value}, s.den β L v → (f s).den β' L' v
  arr : ∀ t n l, f (.arr t n l) = .arr t n l
  rd : ∀ v t l, β.rd true v t l → β'.rd true v t l
theorem Less.dens {β β' : Env} {L L' : Nat → Option Kd} {f : SV → SV} (h : Less β β' L L' f) {s : SV} {vs : List Value} (hd : s.dens β L vs) : (f s).dens β' L' vs := by
  cases s with
  | arr t n l => rw [h.arr]; exact ⟨hd.1, hd.2.imp fun _ _ => t.has_over h.rd⟩
  | _ =>
    obtain ⟨v, rfl, h3⟩ := hd
    exact SV.dens_of (h.den h3)
theorem Less.denL {β β' : Env} {L L' : Nat → Option Kd} {f : SV → SV} (h : Less β β' L L' f) {l : List SV} {vs : List Value} (hd : DenL β L l vs) : DenL β' L' (l.map f) vs := by
  induction hd with
  | nil => exact HasL.nil
  | cons h1 _ ih => exact HasL.cons (h.dens h1) ih
theorem Less.vv {β β' : Env} {L L' : Nat → Option Kd} {f : SV → SV} (h : Less β β' L L' f) {s : VV} {v : Value} (hd : s.den β L v) : (s.mapc f).den β' L' v := by
  cases s with
  | sc s => exact h.den hd
  | agg l => obtain ⟨cs, rfl, hd⟩ := hd; exact ⟨cs, rfl, h.denL hd⟩
theorem Less.lv {β β' : Env} {L L' : Nat → Option Kd} {f : SV → SV} (h : Less β β' L L' f) {s : LV} {v : Value} (hd : s.den β L v) : (s.mapc f).den β' L' v := by
  cases s with
  | one x => exact h.vv hd
  | tup l =>
    obtain ⟨vs, rfl, hd⟩ := hd
    refine ⟨vs, rfl, ?_⟩
    induction hd with
    | nil => exact .nil
    | cons h1 _ ih => exact .cons (h.vv h1) ih
  | junk => trivial
theorem Less.fr {β β' : Env} {L L' : Nat → Option Kd} {f : SV → SV} (h : Less β β' L L' f) {l : List LV} {vs : List Value} (hd : All2 (LV.den β L) l vs) : All2 (LV.den β' L') (l.map (LV.mapc f)) vs := by
  induction hd with
  | nil => exact .nil
  | cons h1 _ ih => exact .cons (h.lv h1) ih
theorem Less.item {β β' : Env} {L L' : Nat → Option Kd} {f : SV → SV} (h : Less β β' L L' f) {w : World} {i : Nat} {x : Item} (hb : β'.b i = β.b i) (hh : β'.h i = β.h i) (hd : ItemOk β L w i x) : ItemOk β' L' w i (x.mapc f) := by
  cases x with
  | blk cells e =>
    obtain ⟨c, fz, h1, h2, h3⟩ := hd
    exact ⟨c, fz, by rw [hb]; exact h1, h2, h.denL h3⟩
  | own ver t l =>
    show OwnOk β' w (β'.h i) t l
    rw [hh]
    obtain ⟨a, n, c, e, h1, h2, h3, h4⟩ := (hd : OwnOk β w (β.h i) t l)
    refine ⟨a, n, c, e, h1, h2, h3, fun h0 => ?_⟩
    obtain ⟨a0, pre, vss, rest, elem, fz, k0, k1, k2, k3, k4, k5⟩ := h4 h0
    exact ⟨a0, pre, vss, rest, elem, fz, k0, k1, k2, k3, k4.imp fun _ _ => t.has_over h.rd, k5⟩
  | gone v => trivial
theorem Item.mapc_kd (f : SV → SV) (x : Item) : (x.mapc f).kd = x.kd := by cases x <;> rfl
theorem Owns.mapc {f : SV → SV} {β β' : Env} {x : Item} {i b : Nat} (hb : β'.b i = β.b i) (hh : β'.h i = β.h i) : Owns β' (x.mapc f) i b ↔ Owns β x i b := by
  cases x <;> simp only [Item.mapc, Owns, hb, hh]
end

/-! ### Slots and cells -/
inductive FM where
  | drop
  | keep
  | sym
  /-- nil, and what is only read, as what is only read -/
  | rd (pm : Bool) (t : Ty)
def SV.rdm (pm : Bool) (t : Ty) : SV → SV
  | .con (.slice none 0 0) => .rd pm false t []
  | .rd false _ t l => .rd false false t l
  | .rd true _ t l => .rd pm false t l
  | s => s
def SV.symm : SV → SV
  | .int k n => .int k (.sym n.val)
  | .bool b => .bool (.sym b.val)
  | s => s
def SV.dropm : SV → SV
  | .arr t n l => .arr t n l
  | _ => .junk
def SV.fm : FM → SV → SV
  | .keep, s => s
  | .drop, s => s.dropm
  | .sym, s => s.symm
  | .rd pm t, s => s.rdm pm t
theorem SV.fm_den {β : Env} {L : Nat → Option Kd} (k : FM) {s : SV} {v : Value} (h : s.den β L v) : (s.fm k).den β L v := by
  cases k with
  | keep => exact h
  | drop => cases s <;> first | exact h.elim | exact SV.den_oneCell h
  | sym => cases s <;> exact h
  | rd pm t =>
    simp only [SV.fm]
    unfold SV.rdm
    split
    · obtain ⟨_, rfl⟩ := h
      exact ⟨rfl, (fun e => by cases e), .inr (.inr ⟨rfl, rfl⟩)⟩
    · exact ⟨h.1, (fun e => by cases e), h.2.2⟩
    · refine ⟨h.1, (fun e => by cases e), ?_⟩
      rcases h.2.2 with h1 | ⟨h1, _⟩ | h1
      · exact .inl h1
      · cases h1
      · exact .inr (.inr h1)
    · exact h
theorem fm_less {β : Env} {L : Nat → Option Kd} (k : FM) : Less β β L L (SV.fm k) := ⟨SV.fm_den k, fun t n l => by cases k <;> rfl, fun _ _ _ h => h⟩
def LV.fm : FM → LV → LV
  | .drop, _ => .junk
  | .keep, x => x
  | k, x => x.mapc (SV.fm k)
theorem LV.fm_den {β : Env} {L : Nat → Option Kd} (k : FM) {s : LV} {v : Value} (h : s.den β L v) : (s.fm k).den β L v := by
  cases k with
  | drop => trivial
  | keep => exact h
  | sym => exact (fm_less .sym).lv h
  | rd pm t => exact (fm_less (.rd pm t)).lv h
def zipF : List FM → List LV → List LV
  | k :: ks, x :: xs => x.fm k :: zipF ks xs
  | _, xs => xs
theorem zipF_den {β : Env} {L : Nat → Option Kd} : ∀ (ks : List FM) {xs : List LV} {vs : List Value}, All2 (LV.den β L) xs vs → All2 (LV.den β L) (zipF ks xs) vs
  | [], _, _, h => h
  | k :: ks, _, _, h => by
    cases h with
    | nil => exact .nil
    | cons h t => exact .cons (LV.fm_den k h) (zipF_den ks t)
def zipC : List FM → List SV → List SV
  | k :: ks, x :: xs => x.fm k :: zipC ks xs
  | _, xs => xs
theorem zipC_den {β : Env} {L : Nat → Option Kd} : ∀ (ks : List FM) {xs : List SV} {vs : List Value}, DenL β L xs vs → DenL β L (zipC ks xs) vs
  | [], _, _, h => h
  | k :: ks, [], _, h => h
  | k :: ks, x :: xs, _, h => by
    cases h with
    | cons h t => exact .cons ((fm_less k).dens h) (zipC_den ks t)

/-! ### Own slices -/
/-- the version is counted anew -/
def SV.re (i c : Nat) : SV → SV
  | .sl j v => if j = i then (if v = c then .sl j 0 else .junk) else .sl j v
  | .vw j v w z n => if j = i then (if v = c then .vw j 0 w z n else .junk) else .vw j v w z n
  | .ep s w z f => .ep (s.re i c) w z f
  | s => s
/-- it is no longer changed -/
def SV.pub (i c : Nat) (t : Ty) (l : List t.D) : SV → SV
  | .sl j v => if j = i then (if v = c then .rd true false t l else .junk) else .sl j v
  | .ep s w z f => .ep (s.pub i c t l) w z f
  | s => s
section
variable {W : World} {hp₀ : Hp} {β₀ β : Env} {hp : Hp} {w : World}
theorem re_less {i c : Nat} {L L' : Nat → Option Kd} (hi : L i = some (.own c)) (hi' : L' i = some (.own 0)) (ho : ∀ j, j ≠ i → L' j = L j) : Less β β L L' (SV.re i c) := by
  have hblk : ∀ {b}, L b = some .blk → L' b = some .blk := fun {b} hb => by
    rw [ho b fun e => by subst e; rw [hi] at hb; cases hb]; exact hb
  refine ⟨fun {s} => ?_, fun _ _ _ => rfl, fun _ _ _ h => h⟩
  induction s with
  | sl j ver =>
    intro v h
    have h1 := SV.den_oneCell h
    simp only [SV.re]
    split
    · rename_i e; subst e
      split
      · rename_i e; subst e
        obtain ⟨k1, c', k2, k3, k4⟩ := h
        rw [hi] at k2; cases k2
        exact ⟨k1, 0, hi', Nat.le_refl _, fun _ => k4 rfl⟩
      · exact h1
    · rename_i e
      obtain ⟨k1, c', k2, k3, k4⟩ := h
      exact ⟨k1, c', by rw [ho j e]; exact k2, k3, k4⟩
  | vw j ver w z n =>
    intro v h
    have h1 := SV.den_oneCell h
    simp only [SV.re]
    split
    · rename_i e; subst e
      split
      · rename_i e; subst e
        obtain ⟨k1, c', k2, k3, k4⟩ := h
        rw [hi] at k2; cases k2
        exact ⟨k1, 0, hi', Nat.le_refl _, fun _ => k4 rfl⟩
      · exact h1
    · rename_i e
      obtain ⟨k1, c', k2, k3, k4⟩ := h
      exact ⟨k1, c', by rw [ho j e]; exact k2, k3, k4⟩
  | ep s w z f ih =>
    rintro v ⟨a, n, c', h1, h2⟩
    exact ⟨a, n, c', ih h1, h2⟩
  | ptr b o => intro v h; exact ⟨hblk h.1, h.2⟩
  | ptrx b base st n z => intro v h; exact ⟨hblk h.1, h.2⟩
  | slice b o l c => intro v h; exact ⟨hblk h.1, h.2⟩
  | vb b o t m z n => intro v h; exact ⟨hblk h.1, h.2⟩
  | _ => intro v h; exact h
theorem pub_less {β' : Env} {i c : Nat} {t : Ty} {l : List t.D} {L : Nat → Option Kd} (hi : L i = some (.own c)) (hb : β'.b = β.b) (hh : β'.h = β.h) (hrd : ∀ pm v t l, β.rd pm v t l → β'.rd pm v t l) (hr : β'.rd true (β.h i) t l) : Less β β' L L (SV.pub i c t l) := by
  have hag : Agree β β' L L := ⟨fun i h => ⟨h, by rw [hb]⟩, fun i c h => ⟨c, h, Nat.le_refl _, fun _ => by rw [hh]⟩, hrd⟩
  refine ⟨fun {s} => ?_, fun _ _ _ => rfl, fun _ _ _ h => hrd _ _ _ _ h⟩
  induction s with
  | sl j ver =>
    intro v h
    have h1 := SV.den_oneCell h
    simp only [SV.pub]
    split
    · rename_i e; subst e
      split
      · rename_i e; subst e
        obtain ⟨k1, c', k2, k3, k4⟩ := h
        rw [hi] at k2; cases k2
        have e := k4 rfl
        subst e
        exact ⟨k1, (fun e => by cases e), .inl hr⟩
      · exact h1
    · exact SV.den_mono hag h
  | ep s w z f ih =>
    rintro v ⟨a, n, c', h1, h2⟩
    exact ⟨a, n, c', ih h1, h2⟩
  | _ => intro v h; exact SV.den_mono hag h
theorem map_item {f : SV → SV} {j : Nat} {y : Item} (hj : (hp.map (Option.map (Item.mapc f)))[j]? = some (some y)) : ∃ x, hp[j]? = some (some x) ∧ y = x.mapc f := by
  rw [List.getElem?_map] at hj
  obtain ⟨o, h1, h2⟩ := map_some hj
  cases o with
  | none => cases h2
  | some x => exact ⟨x, h1, by simpa using h2.symm⟩
theorem kd_map {f : SV → SV} (hp : Hp) : kd (hp.map (Option.map (Item.mapc f))) = kd hp := by
  funext j
  unfold kd
  rw [List.getElem?_map]
  cases hp[j]? with
  | none => rfl
  | some o => cases o with
    | none => rfl
    | some x => simp [Item.mapc_kd]

/-! ### Rows and cells -/
theorem All2.setL {α β : Type} {R : α → β → Prop} {a : α} : ∀ {l : List α} {m : List β} {k : Nat}, All2 R l m → (∀ b, m[k]? = some b → R a b) → All2 R (l.set k a) m
  | _, _, _, .nil, _ => .nil
  | _, _, 0, .cons h t, hb => .cons (hb _ rfl) t
  | _, _, k + 1, .cons h t, hb => .cons h (t.setL fun b hk => hb b (by simpa using hk))
def oVals (k : IntKind) : List SV → Option (List Int)
  | [] => some []
  | .int k' n :: l => if k' = k then (oVals k l).map (n.val :: ·) else none
  | _ :: _ => none
theorem oVals_ok {β : Env} {L : Nat → Option Kd} {k : IntKind} : ∀ {l : List SV} {m : List Int} {vs : List Value}, oVals k l = some m → DenL β L l vs → HasL ((Ty.int k).has β true) m vs
  | [], m, vs, h, hd => by cases h; cases hd; exact .nil
  | s :: l, m, vs, h, hd => by
    unfold oVals at h
    split at h
    · rename_i e; cases e
    · rename_i e; injection e with e1 e2; subst e1 e2
      split at h
      · rename_i e; subst e
        obtain ⟨m', h1, rfl⟩ := map_some h
        cases hd with
        | cons h2 h3 =>
          obtain ⟨v, rfl, hv⟩ := h2
          exact HasL.cons (x := _) (vs := [v]) (by rw [show v = _ from hv]; rfl) (oVals_ok h1 h3)
      · cases h
    · cases h
def rowL (off n : Nat) (k : IntKind) (l : List SV) : List SV := match oVals k ((l.drop off).take n) with
  | some m => if m.length = n then l.take off ++ .arr (.int k) n m :: (l.drop off).drop n else l
  | none => l
theorem rowL_den {β : Env} {L : Nat → Option Kd} {off n : Nat} {k : IntKind} {l : List SV} {vs : List Value} (h : DenL β L l vs) : DenL β L (rowL off n k l) vs := by
  unfold rowL
  split
  · rename_i m hm
    split
    · rename_i hn
      have e : l = l.take off ++ ((l.drop off).take n ++ (l.drop off).drop n) := by rw [List.take_append_drop, List.take_append_drop]
      rw [e] at h
      obtain ⟨v1, v2, rfl, h1, h2⟩ := HasL.split h
      obtain ⟨v3, v4, rfl, h3, h4⟩ := HasL.split h2
      exact h1.append (HasL.cons (x := .arr (.int k) n m) ⟨hn, oVals_ok hm h3⟩ h4)
    · exact h
  · exact h
def SV.cellsIn : SV → List SV
  | .arr (.int k) n m => if n ≤ 32 then (List.range n).map fun i => .int k (.sym (m.getD i 0)) else [.arr (.int k) n m]
  | s => [s]
theorem map_getD_range : ∀ (m : List Int) (k : IntKind), (List.range m.length).map (fun i => SV.int k (.sym (m.getD i 0))) = m.map fun n => SV.int k (.sym n) := by
  intro m k
  apply List.ext_getElem?
  intro i
  simp only [List.getElem?_map]
  rcases Nat.lt_or_ge i m.length with h1 | h1
  · rw [List.getElem?_range h1]
    simp [List.getD_eq_getElem?_getD, List.getElem?_eq_getElem h1]
  · rw [List.getElem?_eq_none h1, List.getElem?_eq_none (by simpa using h1)]
    rfl
theorem ints_den {β : Env} {L : Nat → Option Kd} {k : IntKind} : ∀ {m : List Int} {vs : List Value}, HasL ((Ty.int k).has β true) m vs → DenL β L (m.map fun n => SV.int k (.sym n)) vs
  | [], _, h => by cases h; exact .nil
  | n :: m, _, h => by
    cases h with
    | cons h1 h2 =>
      have h1' : _ = [Value.int k n] := h1
      subst h1'
      exact HasL.cons (x := SV.int k (.sym n)) ⟨_, rfl, rfl⟩ (ints_den h2)
theorem cellsIn_den {β : Env} {L : Nat → Option Kd} {s : SV} {vs : List Value} (h : s.dens β L vs) : DenL β L s.cellsIn vs := by
  unfold SV.cellsIn
  split
  · rename_i k n m
    split
    · obtain ⟨rfl, h2⟩ := (h : _ ∧ _)
      rw [map_getD_range]
      exact ints_den h2
    · exact HasL.one h
  · exact HasL.one h
def cellL (l : List SV) : List SV := l.flatMap SV.cellsIn
theorem cellL_den {β : Env} {L : Nat → Option Kd} {l : List SV} {vs : List Value} (h : DenL β L l vs) : DenL β L (cellL l) vs := by
  induction h with
  | nil => exact .nil
  | cons h _ ih => exact (cellsIn_den h).append ih
def VV.onL (f : List SV → List SV) : VV → VV
  | .agg l => .agg (f l)
  | x => x
theorem VV.onL_den {β : Env} {L : Nat → Option Kd} {f : List SV → List SV} (hf : ∀ l vs, DenL β L l vs → DenL β L (f l) vs) {x : VV} {v : Value} (h : x.den β L v) : (x.onL f).den β L v := by
  cases x with
  | sc s => exact h
  | agg l => obtain ⟨cs, e, hd⟩ := h; exact ⟨cs, e, hf _ _ hd⟩
def LV.onL (f : List SV → List SV) : LV → LV
  | .one x => .one (x.onL f)
  | .tup l => .tup (l.map (VV.onL f))
  | x => x
theorem LV.onL_den {β : Env} {L : Nat → Option Kd} {f : List SV → List SV} (hf : ∀ l vs, DenL β L l vs → DenL β L (f l) vs) {x : LV} {v : Value} (h : x.den β L v) : (x.onL f).den β L v := by
  cases x with
  | one x => exact VV.onL_den hf h
  | tup l => obtain ⟨vs, e, hd⟩ := h; exact ⟨vs, e, hd.map_left fun _ _ => VV.onL_den hf⟩
  | junk => exact h
def onSlot (f : List SV → List SV) (i : Nat) (fr : List LV) : List LV := match fr[i]? with
  | some x => fr.set i (x.onL f)
  | none => fr
theorem onSlot_den {β : Env} {L : Nat → Option Kd} {f : List SV → List SV} (hf : ∀ l vs, DenL β L l vs → DenL β L (f l) vs) {i : Nat} {fr : List LV} {vs : List Value} (h : All2 (LV.den β L) fr vs) : All2 (LV.den β L) (onSlot f i fr) vs := by
  unfold onSlot
  split
  · rename_i x hx
    refine h.setL fun b hb => ?_
    obtain ⟨b', h1, h2⟩ := h.get hx
    rw [hb] at h1; cases h1
    exact LV.onL_den hf h2
  · exact h

/-! ### Steps -/
inductive Wk where
  | fr (l : List FM)
  | blk (i : Nat) (l : List FM)
  | ownF (k : Nat) (t : Ty)
  | ownC (i j : Nat) (t : Ty)
  | pub (i : Nat)
  | ver (i : Nat)
  | cut (ids : List Nat)
  /-- a slot's slice is only read -/
  | pubF (k : Nat) (t : Ty)
  /-- a cell's slice is only read -/
  | pubC (i j : Nat) (t : Ty)
  /-- what is reached from the slots is kept -/
  | auto
  /-- all versions are counted anew -/
  | vers
  /-- all own slices are only read -/
  | pubs
  /-- some cells of a block, of a slot, as a row -/
  | rowB (i off n : Nat) (k : IntKind)
  | rowF (i off n : Nat) (k : IntKind)
  /-- short rows of a block, of a slot, as cells -/
  | cellB (i : Nat)
  | cellF (i : Nat)
def nilSl : SV → Bool
  | .con (.slice none 0 0) => true
  | _ => false
def nilLV : LV → Bool
  | .one (.sc s) => nilSl s
  | _ => false
def nodupB : List Nat → Bool
  | [] => true
  | x :: l => !l.any (fun y => decide (y = x)) && nodupB l
def cutf (m : Nat) (ids : List Nat) (i : Nat) : Option Nat := if i < m then some i else (posn ids i).map (· + m)
def wk1 (m : Nat) : Wk → St → Option St
  | .fr l, st => some ⟨zipF l st.fr, st.hp⟩
  | .blk i l, st => match itemAt st.hp i with
    | some (.blk cells e) => some ⟨st.fr, st.hp.set i (some (.blk (zipC l cells) e))⟩
    | _ => some st
  | .ownF k t, st => if nilLV (st.fr.getD k .junk) then some ⟨st.fr.set k (.one (.sc (.sl st.hp.length 0))), setAt st.hp st.hp.length (.own 0 t [])⟩ else some st
  | .ownC i j t, st => match itemAt st.hp i with
    | some (.blk cells e) => if nilSl (cells.getD j .junk) && noRow cells then some ⟨st.fr, (setAt st.hp st.hp.length (.own 0 t [])).set i (some (.blk (cells.set j (.sl st.hp.length 0)) e))⟩ else some st
    | _ => none
  | .pub i, st => if m ≤ i then match itemAt st.hp i with
    | some (.own c t l) => some ⟨st.fr.map (LV.mapc (SV.pub i c t l)), (st.hp.set i (some (.gone c))).map (Option.map (Item.mapc (SV.pub i c t l)))⟩
    | _ => none else none
  | .ver i, st => if m ≤ i then match itemAt st.hp i with
    | some (.own c t l) => some ⟨st.fr.map (LV.mapc (SV.re i c)), (st.hp.set i (some (.own 0 t l))).map (Option.map (Item.mapc (SV.re i c)))⟩
    | _ => none else none
  | .cut ids, st => if m ≤ st.hp.length && ids.all (fun i => decide (m ≤ i)) && nodupB ids then
      some ⟨st.fr.map (LV.mapo (cutf m ids)), (st.hp.take m ++ ids.map (fun i => itemAt st.hp i)).map (Option.map (Item.mapo (cutf m ids)))⟩ else none
  | .rowB i off n k, st => match itemAt st.hp i with
    | some (.blk cells e) => some ⟨st.fr, st.hp.set i (some (.blk (rowL off n k cells) e))⟩
    | _ => some st
  | .rowF i off n k, st => some ⟨onSlot (rowL off n k) i st.fr, st.hp⟩
  | .cellB i, st => match itemAt st.hp i with
    | some (.blk cells e) => some ⟨st.fr, st.hp.set i (some (.blk (cellL cells) e))⟩
    | _ => some st
  | .cellF i, st => some ⟨onSlot cellL i st.fr, st.hp⟩
  | .pubF _ _, _ | .pubC _ _ _, _ | .auto, _ | .vers, _ | .pubs, _ => none
def wkB (m : Nat) : List Wk → St → Option St
  | [], st => some st
  | k :: ks, st => match wk1 m k st with
    | some st' => wkB m ks st'
    | none => none
def isOwn : Option Item → Bool
  | some (.own _ _ _) => true
  | _ => false
def autoIds (m : Nat) (st : St) : List Nat :=
  match (reachA 1000 (st.fr.flatMap LV.refs ++ (List.range m).filter fun i => (itemAt st.hp i).isSome) [] []).val st.hp with
  | some (ids, _) => ids.filter fun i => decide (m ≤ i)
  | none => []
def wkX (m : Nat) : Wk → St → List Wk
  | .pubF k t, st => match st.fr.getD k .junk with
    | .one (.sc (.sl i _)) => [.pub i]
    | _ => [.fr (List.replicate k .keep ++ [.rd true t])]
  | .pubC i j t, st => match itemAt st.hp i with
    | some (.blk cells _) => match cells.getD j .junk with
      | .sl k _ => [.pub k]
      | _ => [.blk i (List.replicate j .keep ++ [.rd true t])]
    | _ => []
  | .auto, st => [.cut (autoIds m st)]
  | .vers, st => (List.range st.hp.length).filterMap fun i => if decide (m ≤ i) && isOwn (itemAt st.hp i) then some (.ver i) else none
  | .pubs, st => (List.range st.hp.length).filterMap fun i => if decide (m ≤ i) && isOwn (itemAt st.hp i) then some (.pub i) else none
  | k, _ => [k]
def wkAll (m : Nat) : List Wk → St → Option St
  | [], st => some st
  | k :: ks, st => match wkB m (wkX m k st) st with
    | some st' => wkAll m ks st'
    | none => none

theorem nilSl_den {β : Env} {L : Nat → Option Kd} {s : SV} {v : Value} (h : nilSl s = true) (hd : s.den β L v) : v = .slice none 0 0 := by
  unfold nilSl at h
  split at h
  · exact hd.2
  · cases h
theorem nodupB_ok : ∀ {l : List Nat}, nodupB l = true → l.Nodup
  | [], _ => List.nodup_nil
  | x :: l, h => by
    simp only [nodupB, Bool.and_eq_true, Bool.not_eq_true', List.any_eq_false, decide_eq_true_eq] at h
    exact List.nodup_cons.2 ⟨fun hm => h.1 x hm rfl, nodupB_ok h.2⟩
theorem HRel.relabel (h : HRel W hp₀ β₀ β hp w) {f : SV → SV} (hl : Less β β (kd hp) (kd hp) f) : HRel W hp₀ β₀ β (hp.map (Option.map (Item.mapc f))) w := by
  refine h.recast (fun j => j) rfl (by rw [kd_map]; exact h.first) (fun j y hj => ?_) fun _ _ _ _ _ _ e => e
  obtain ⟨x, h1, rfl⟩ := map_item hj
  exact ⟨x, h1, fun b => (Owns.mapc rfl rfl).1, by rw [kd_map]; exact hl.item rfl rfl (h.items j x h1), .inl rfl⟩
/-- nothing points in: nil, as an own slice -/
theorem HRel.ownNil (h : HRel W hp₀ β₀ β hp w) (t : Ty) : ∃ β', HRel W hp₀ β₀ β' (setAt hp hp.length (.own 0 t [])) w ∧ Agree β β' (kd hp) (kd (setAt hp hp.length (.own 0 t []))) ∧ (SV.sl hp.length 0).den β' (kd (setAt hp hp.length (.own 0 t []))) (.slice none 0 0) := by
  obtain ⟨β', h1, h2, h3⟩ := h.newOwn (id := hp.length) (kd_length (Nat.le_refl _)) (v := .slice none 0 0) (ver := 0) (t := t) (l := []) (w' := w) (Nat.le_refl _) rfl rfl (fun _ _ => rfl)
    ⟨none, 0, 0, rfl, rfl, Nat.le_refl _, fun _ => rfl, fun h => absurd h (by omega)⟩ (fun a n c e => by simp at e)
  exact ⟨β', h1, h2, rfl, 0, by rw [kd_setAt, if_pos rfl]; rfl, Nat.le_refl _, fun _ => h3.symm⟩
theorem kd_set {i : Nat} {x y : Item} (hi : hp[i]? = some (some x)) (j : Nat) : kd (hp.set i (some y)) j = if j = i then some y.kd else kd hp j := by
  rw [← setAt_at hi, kd_setAt]
theorem get_set {i j : Nat} {x y z : Item} (hi : hp[i]? = some (some x)) (hj : (hp.set i (some y))[j]? = some (some z)) : (j = i ∧ z = y) ∨ (j ≠ i ∧ hp[j]? = some (some z)) := by
  by_cases e : j = i
  · subst e
    rw [List.getElem?_set_self (List.getElem?_eq_some_iff.1 hi).1] at hj
    exact .inl ⟨rfl, by simpa using hj.symm⟩
  · rw [List.getElem?_set_ne (Ne.symm e)] at hj
    exact .inr ⟨e, hj⟩
theorem HRel.setBlk (h : HRel W hp₀ β₀ β hp w) {i : Nat} {cells cells' : List SV} {e : TypeId} (hi : hp[i]? = some (some (.blk cells e))) (hc : ∀ c, DenL β (kd hp) cells c → DenL β (kd hp) cells' c) :
    HRel W hp₀ β₀ β (hp.set i (some (.blk cells' e))) w ∧ kd (hp.set i (some (.blk cells' e))) = kd hp := by
  have hk : kd (hp.set i (some (.blk cells' e))) = kd hp := by
    funext j
    rw [kd_set hi]
    split
    · rename_i e1; rw [e1, kd_of hi]; rfl
    · rfl
  refine ⟨h.redesc hk fun j y hj => ?_, hk⟩
  rcases get_set hi hj with ⟨rfl, rfl⟩ | ⟨_, hj'⟩
  · exact ⟨_, hi, .inr ⟨cells, cells', e, rfl, rfl, hc⟩⟩
  · exact ⟨y, hj', .inl rfl⟩
theorem kd_none_of {i : Nat} (h : hp.length ≤ i) : kd hp i = none := kd_length h
theorem out_none {i : Nat} (h : hp₀.length ≤ i) {y : Item} : hp₀[i]? ≠ some (some y) := by rw [List.getElem?_eq_none h]; simp

theorem wk_pub (h : HRel W hp₀ β₀ β hp w) {i c : Nat} {t : Ty} {l : List t.D} (hm : hp₀.length ≤ i) (hi : hp[i]? = some (some (.own c t l))) :
    ∃ β', HRel W hp₀ β₀ β' ((hp.set i (some (.gone c))).map (Option.map (Item.mapc (SV.pub i c t l)))) w ∧ Less β β' (kd hp) (kd ((hp.set i (some (.gone c))).map (Option.map (Item.mapc (SV.pub i c t l))))) (SV.pub i c t l) := by
  obtain ⟨h1, hag⟩ := h.upd hi (x' := .gone c) (β' := β) (w' := w) rfl (fun _ _ => rfl) rfl (.inr ⟨c, c, rfl, rfl, Nat.le_refl _, fun _ => rfl⟩) (Nat.le_refl _) rfl rfl (fun _ _ _ => rfl) (fun b ho => ho.elim) (fun _ => trivial)
  have hk : kd (hp.set i (some (.gone c))) = kd hp := by
    funext j
    rw [kd_set hi]
    split
    · rename_i e1; rw [e1, kd_of hi]; rfl
    · rfl
  have hok : OwnOk β w (β.h i) t l := h.items i _ hi
  obtain ⟨h2, hag2, h3⟩ := h1.addRd (pm := true) (v := β.h i) (t := t) (l := l) hok.reads fun b hb => by
    have ho : Owns β (.own c t l) i b := own_blk hok hb
    refine ⟨(h.items i _ hi).lt ho, fun ⟨j, y, hj, ho2⟩ => ?_, .inl ?_⟩
    · rcases get_set hi hj with ⟨rfl, rfl⟩ | ⟨hne, hj'⟩
      · exact ho2.elim
      · exact hne (h.inj j i y _ b hj' hi ho2 ho)
    · rcases h.own i _ b hi ho with k | ⟨y, k, _⟩
      · exact k
      · exact absurd k (out_none hm)
  have hki : kd (hp.set i (some (.gone c))) i = some (.own c) := by rw [hk, kd_of hi]; rfl
  have hl : Less (β.addRd true (β.h i) t l) (β.addRd true (β.h i) t l) (kd (hp.set i (some (.gone c)))) (kd (hp.set i (some (.gone c)))) (SV.pub i c t l) := pub_less hki rfl rfl (fun _ _ _ _ h => h) h3
  refine ⟨_, h2.relabel hl, ?_⟩
  rw [kd_map, hk]
  rw [hk] at hki
  exact pub_less hki rfl rfl hag2.rd h3
theorem wk_ver (h : HRel W hp₀ β₀ β hp w) {i c : Nat} {t : Ty} {l : List t.D} (hm : hp₀.length ≤ i) (hi : hp[i]? = some (some (.own c t l))) :
    HRel W hp₀ β₀ β ((hp.set i (some (.own 0 t l))).map (Option.map (Item.mapc (SV.re i c)))) w ∧ Less β β (kd hp) (kd ((hp.set i (some (.own 0 t l))).map (Option.map (Item.mapc (SV.re i c))))) (SV.re i c) := by
  have hk : ∀ j, kd ((hp.set i (some (.own 0 t l))).map (Option.map (Item.mapc (SV.re i c)))) j = if j = i then some (.own 0) else kd hp j := by
    intro j; rw [kd_map, kd_set hi]; rfl
  have hl : Less β β (kd hp) (kd ((hp.set i (some (.own 0 t l))).map (Option.map (Item.mapc (SV.re i c))))) (SV.re i c) := re_less (by rw [kd_of hi]; rfl) (by rw [hk, if_pos rfl]) fun j hj => by rw [hk, if_neg hj]
  refine ⟨h.recast (fun j => j) rfl ?_ (fun j y hj => ?_) fun _ _ _ _ _ _ e => e, hl⟩
  · have hne : ∀ {j k}, kd hp₀ j = some k → j ≠ i := fun hj e => by subst e; rw [kd_length hm] at hj; cases hj
    exact ⟨fun j hj => ⟨by rw [hk, if_neg (hne hj)]; exact (h.first.blk j hj).1, (h.first.blk j hj).2⟩, fun j k hj => by rw [hk, if_neg (hne hj)]; exact h.first.own j k hj, h.first.rd⟩
  · obtain ⟨x, h1, rfl⟩ := map_item hj
    rcases get_set hi h1 with ⟨rfl, rfl⟩ | ⟨_, h1'⟩
    · exact ⟨_, hi, fun b ho => ho, h.items j _ hi, .inl rfl⟩
    · exact ⟨x, h1', fun b => (Owns.mapc rfl rfl).1, hl.item rfl rfl (h.items j x h1'), .inl rfl⟩
theorem wk_cut (h : HRel W hp₀ β₀ β hp w) {ids : List Nat} (hlen : hp₀.length ≤ hp.length) (hm : ∀ i ∈ ids, hp₀.length ≤ i) (hn : ids.Nodup) :
    ∃ β', HRel W hp₀ β₀ β' ((hp.take hp₀.length ++ ids.map (fun i => itemAt hp i)).map (Option.map (Item.mapo (cutf hp₀.length ids)))) w ∧
      Over (cutf hp₀.length ids) β β' (kd hp) (kd ((hp.take hp₀.length ++ ids.map (fun i => itemAt hp i)).map (Option.map (Item.mapo (cutf hp₀.length ids))))) false := by
  generalize hme : hp₀.length = m at *
  generalize hhp : (hp.take m ++ ids.map (fun i => itemAt hp i)).map (Option.map (Item.mapo (cutf m ids))) = hp'
  let g : Nat → Nat := fun j => if j < m then j else ids.getD (j - m) 0
  have hglo : ∀ {j}, j < m → g j = j := fun hj => if_pos hj
  have hghi : ∀ {j i : Nat}, m ≤ j → ids[j - m]? = some i → g j = i := fun hj hi => by
    show (if _ then _ else _) = _
    rw [if_neg (by omega), getD_of hi]
  have htl : (hp.take m).length = m := by simp; omega
  have hget : ∀ {j y}, hp'[j]? = some (some y) → ∃ x, hp[g j]? = some (some x) ∧ y = x.mapo (cutf m ids) ∧ ((j < m ∧ g j = j) ∨ (m ≤ j ∧ ids[j - m]? = some (g j))) := by
    intro j y hj
    rw [← hhp, List.getElem?_map] at hj
    obtain ⟨o, h1, h2⟩ := map_some hj
    cases o with
    | none => cases h2
    | some x =>
      have h2' : y = x.mapo (cutf m ids) := by simpa using h2.symm
      by_cases hjm : j < m
      · rw [List.getElem?_append_left (by omega), List.getElem?_take, if_pos hjm] at h1
        exact ⟨x, by rw [hglo hjm]; exact h1, h2', .inl ⟨hjm, hglo hjm⟩⟩
      · rw [List.getElem?_append_right (by omega), htl, List.getElem?_map] at h1
        obtain ⟨i, h3, h4⟩ := map_some h1
        have e := hghi (by omega) h3
        exact ⟨x, by rw [e]; exact itemAt_some h4, h2', .inr ⟨by omega, by rw [e]; exact h3⟩⟩
  have hto : ∀ {i j x}, cutf m ids i = some j → hp[i]? = some (some x) → hp'[j]? = some (some (x.mapo (cutf m ids))) ∧ g j = i := by
    intro i j x hf hi
    unfold cutf at hf
    split at hf
    · rename_i him
      cases hf
      refine ⟨?_, hglo him⟩
      rw [← hhp, List.getElem?_map, List.getElem?_append_left (by omega), List.getElem?_take, if_pos him, hi]; rfl
    · obtain ⟨k, hk, rfl⟩ := map_some hf
      have h3 := posn_get hk
      refine ⟨?_, hghi (by omega) (by rw [show k + m - m = k from by omega]; exact h3)⟩
      rw [← hhp, List.getElem?_map, List.getElem?_append_right (by omega), htl, show k + m - m = k from by omega, List.getElem?_map, h3]
      show some (Option.map _ (itemAt hp i)) = _
      rw [itemAt_of hi]; rfl
  let β' : Env := ⟨fun j => β.b (g j), fun j => β.h (g j), β.rd⟩
  have hover : Over (cutf m ids) β β' (kd hp) (kd hp') false := by
    refine ⟨fun b j hj hb => ?_, fun i j c hj hi => ?_, fun _ _ _ h => h, fun _ _ _ _ h => h⟩
    · obtain ⟨x, h1, h2⟩ := kd_some hb
      obtain ⟨h3, h4⟩ := hto hj h1
      exact ⟨by rw [kd_of h3, Item.mapo_kd, h2], congrArg β.b h4⟩
    · obtain ⟨x, h1, h2⟩ := kd_some hi
      obtain ⟨h3, h4⟩ := hto hj h1
      exact ⟨by rw [kd_of h3, Item.mapo_kd, h2], congrArg β.h h4⟩
  have hlt : ∀ {i k}, kd hp₀ i = some k → i < m := fun {i k} hi => by
    rcases Nat.lt_or_ge i m with h1 | h1
    · exact h1
    · rw [kd_length (by omega)] at hi; cases hi
  have hself : ∀ {i}, i < m → cutf m ids i = some i := fun hi => if_pos hi
  refine ⟨β', h.recast g rfl ⟨fun i hi => ?_, fun i c hi => ?_, h.first.rd⟩ (fun j y hj => ?_) (fun j k y z hj hk e => ?_), hover⟩
  · obtain ⟨k1, k2⟩ := h.first.blk i hi
    obtain ⟨k3, k4⟩ := hover.blk i i (hself (hlt hi)) k1
    exact ⟨k3, k4.trans k2⟩
  · obtain ⟨c', k1, k2, k3⟩ := h.first.own i c hi
    obtain ⟨k4, k5⟩ := hover.own i i c' (hself (hlt hi)) k1
    exact ⟨c', k4, k2, fun e => k5.trans (k3 e)⟩
  · obtain ⟨x, h1, rfl, h2⟩ := hget hj
    refine ⟨x, h1, fun b => (Owns.mapo (β := β) (β' := β') rfl rfl).1, ItemOk.over hover (by simp) (fun _ => rfl) (fun _ _ => rfl) (h.items _ x h1), ?_⟩
    rcases h2 with ⟨_, h2⟩ | ⟨_, h2⟩
    · exact .inl h2
    · exact .inr (kd_length (by rw [hme]; exact hm _ (List.mem_of_getElem? h2)))
  · obtain ⟨_, _, _, h1⟩ := hget hj
    obtain ⟨_, _, _, h2⟩ := hget hk
    rcases h1 with ⟨a1, a2⟩ | ⟨a1, a2⟩ <;> rcases h2 with ⟨b1, b2⟩ | ⟨b1, b2⟩
    · omega
    · have := hm _ (List.mem_of_getElem? b2); omega
    · have := hm _ (List.mem_of_getElem? a2); omega
    · rw [e] at a2
      have e1 := posn_of hn a2
      have e2 := posn_of hn b2
      rw [e1] at e2
      have := Option.some.inj e2
      omega

theorem wk1_ok {k : Wk} {st st' : St} (h : wk1 hp₀.length k st = some st') {vals : List Value} (hr : RelV W hp₀ β₀ β st.fr st.hp vals w) : ∃ β', RelV W hp₀ β₀ β' st'.fr st'.hp vals w := by
  obtain ⟨fr, hp⟩ := st
  cases k with
  | fr l => cases h; exact ⟨β, zipF_den l hr.fr, hr.heap⟩
  | blk i l =>
    simp only [wk1] at h
    split at h
    · rename_i cells e hi
      cases h
      obtain ⟨h1, h2⟩ := hr.heap.setBlk (itemAt_some hi) fun c => zipC_den l
      exact ⟨β, by show All2 (LV.den β (kd _)) fr vals; rw [h2]; exact hr.fr, h1⟩
    · cases h; exact ⟨β, hr⟩
  | ownF k t =>
    simp only [wk1] at h
    split at h
    · rename_i hnil
      cases h
      obtain ⟨β', h1, h2, h3⟩ := hr.heap.ownNil t
      refine ⟨β', (hr.fr.imp fun _ _ => LV.den_mono h2).setL fun b hb => ?_, h1⟩
      have hb' : ∃ x, fr[k]? = some x := by
        have : fr.length = vals.length := hr.fr.length
        have hk := (List.getElem?_eq_some_iff.1 hb).1
        exact ⟨_, List.getElem?_eq_getElem (show k < fr.length by omega)⟩
      obtain ⟨x, hx⟩ := hb'
      obtain ⟨b', hb2, hd⟩ := hr.fr.get hx
      rw [hb] at hb2; cases hb2
      simp only [List.getD_eq_getElem?_getD, hx, Option.getD_some] at hnil
      cases x with
      | one x => cases x with
        | sc s =>
          have := nilSl_den hnil hd
          subst this; exact h3
        | agg l => cases hnil
      | tup l => cases hnil
      | junk => cases hnil
    · cases h; exact ⟨β, hr⟩
  | ownC i j t =>
    simp only [wk1] at h
    split at h
    · rename_i cells e hi
      split at h
      · rename_i hnil
        simp only [Bool.and_eq_true] at hnil
        cases h
        obtain ⟨β', h1, h2, h3⟩ := hr.heap.ownNil t
        have hi' : (setAt hp hp.length (.own 0 t []))[i]? = some (some (.blk cells e)) := by
          refine (setAt_other hp _ _ _ _ ?_).2 (itemAt_some hi)
          have := (List.getElem?_eq_some_iff.1 (itemAt_some hi)).1
          omega
        obtain ⟨h4, h5⟩ := h1.setBlk (cells' := cells.set j (.sl hp.length 0)) hi' fun c hc => by
          refine denL_of_all2 ((denL_noRow hnil.2 hc).setL fun b hb => ?_)
          have hall := denL_noRow hnil.2 hc
          have hj := (List.getElem?_eq_some_iff.1 hb).1
          obtain ⟨x, hx⟩ : ∃ x, cells[j]? = some x := ⟨_, List.getElem?_eq_getElem (show j < cells.length by rw [hall.length]; exact hj)⟩
          obtain ⟨b', hb2, hd⟩ := hall.get hx
          rw [hb] at hb2; cases hb2
          have hns : nilSl x = true := by
            have := hnil.1
            rw [List.getD_eq_getElem?_getD, hx] at this
            exact this
          have := nilSl_den hns hd
          subst this; exact h3
        exact ⟨β', by show All2 (LV.den β' (kd _)) fr vals; rw [h5]; exact hr.fr.imp fun _ _ => LV.den_mono h2, h4⟩
      · cases h; exact ⟨β, hr⟩
    · cases h
  | pub i =>
    simp only [wk1] at h
    split at h
    · rename_i hm
      split at h
      · rename_i c t l hi
        cases h
        obtain ⟨β', h1, h2⟩ := wk_pub hr.heap hm (itemAt_some hi)
        exact ⟨β', h2.fr hr.fr, h1⟩
      · cases h
    · cases h
  | ver i =>
    simp only [wk1] at h
    split at h
    · rename_i hm
      split at h
      · rename_i c t l hi
        cases h
        obtain ⟨h1, h2⟩ := wk_ver hr.heap hm (itemAt_some hi)
        exact ⟨β, h2.fr hr.fr, h1⟩
      · cases h
    · cases h
  | cut ids =>
    simp only [wk1] at h
    split at h
    · rename_i hc
      simp only [Bool.and_eq_true, decide_eq_true_eq, List.all_eq_true] at hc
      cases h
      obtain ⟨β', h1, h2⟩ := wk_cut hr.heap hc.1.1 hc.1.2 (nodupB_ok hc.2)
      refine ⟨β', ?_, h1⟩
      have hfr := hr.fr
      show All2 (LV.den β' _) (fr.map _) vals
      exact hfr.map_left fun a b => LV.den_over h2 (by simp)
    · cases h
  | rowB i off n k =>
    simp only [wk1] at h
    split at h
    · rename_i cells e hi
      cases h
      obtain ⟨h1, h2⟩ := hr.heap.setBlk (itemAt_some hi) fun c => rowL_den (off := off) (n := n) (k := k)
      exact ⟨β, by show All2 (LV.den β (kd _)) fr vals; rw [h2]; exact hr.fr, h1⟩
    · cases h; exact ⟨β, hr⟩
  | rowF i off n k => cases h; exact ⟨β, onSlot_den (fun _ _ => rowL_den) hr.fr, hr.heap⟩
  | cellB i =>
    simp only [wk1] at h
    split at h
    · rename_i cells e hi
      cases h
      obtain ⟨h1, h2⟩ := hr.heap.setBlk (itemAt_some hi) fun c => cellL_den
      exact ⟨β, by show All2 (LV.den β (kd _)) fr vals; rw [h2]; exact hr.fr, h1⟩
    · cases h; exact ⟨β, hr⟩
  | cellF i => cases h; exact ⟨β, onSlot_den (fun _ _ => cellL_den) hr.fr, hr.heap⟩
  | pubF k t => cases h
  | pubC i j t => cases h
  | auto => cases h
  | vers => cases h
  | pubs => cases h
theorem wkB_ok : ∀ (ks : List Wk) {st st' : St} {β : Env}, wkB hp₀.length ks st = some st' → ∀ {vals : List Value}, RelV W hp₀ β₀ β st.fr st.hp vals w → ∃ β', RelV W hp₀ β₀ β' st'.fr st'.hp vals w
  | [], _, _, _, h, _, hr => by cases h; exact ⟨_, hr⟩
  | k :: ks, st, _, _, h, _, hr => by
    simp only [wkB] at h
    split at h
    · rename_i st1 h1
      obtain ⟨β1, hr1⟩ := wk1_ok h1 hr
      exact wkB_ok ks h hr1
    · cases h
theorem wk_ok : ∀ (ks : List Wk) {st st' : St} {β : Env}, wkAll hp₀.length ks st = some st' → ∀ {vals : List Value}, RelV W hp₀ β₀ β st.fr st.hp vals w → ∃ β', RelV W hp₀ β₀ β' st'.fr st'.hp vals w
  | [], _, _, _, h, _, hr => by cases h; exact ⟨_, hr⟩
  | k :: ks, st, _, _, h, _, hr => by
    simp only [wkAll] at h
    split at h
    · rename_i st1 h1
      obtain ⟨β1, hr1⟩ := wkB_ok _ h1 hr
      exact wk_ok ks h hr1
    · cases h
end

/-! ### In pieces of code -/
def Res.wk (m : Nat) (ws : Exit → List Wk) : Res → Res
  | .leaf e st => match wkAll m (ws e) st with
    | some st' => .leaf e st'
    | none => .fail
  | .ite b x y => .ite b (x.wk m ws) (y.wk m ws)
  | .need p x => .need p (x.wk m ws)
  | .fail => .fail
theorem res_wk_sat {m : Nat} {ws : Exit → List Wk} {R : Exit → St → Prop} : ∀ {r : Res}, (r.wk m ws).sat R → r.sat fun e st => ∃ st', wkAll m (ws e) st = some st' ∧ R e st'
  | .leaf e st, h => by
    simp only [Res.wk] at h
    split at h
    · rename_i st' h1; exact ⟨st', h1, h⟩
    · exact h.elim
  | .ite b x y, h => ⟨fun e => res_wk_sat (h.1 e), fun e => res_wk_sat (h.2 e)⟩
  | .need p x, h => ⟨h.1, res_wk_sat h.2⟩
  | .fail, h => h
theorem Rel.wk {W : World} {hp₀ : Hp} {β₀ β : Env} {st st' : St} {a : Act} {w : World} (hr : Rel W hp₀ β₀ β st a w) {ks : List Wk} (h : wkAll hp₀.length ks st = some st') : ∃ β', Rel W hp₀ β₀ β' st' a w := by
  obtain ⟨β', h1⟩ := wk_ok ks h ⟨hr.fr, hr.heap⟩
  exact ⟨β', hr.defers, h1.fr, h1.heap⟩
/-- less is known behind it -/
theorem Ex.wk {P : Program} {hp₀ : Hp} {c : Code} {st : St} {r : Res} (ws : Exit → List Wk) (h : Ex P hp₀ c st r) : Ex P hp₀ c st (r.wk hp₀.length ws) := by
  intro W β₀ R Q hs hq β a w hr
  refine h W β₀ _ Q (res_wk_sat hs) ?_ β a w hr
  rintro e a w ⟨st1, β1, ⟨st2, h1, h2⟩, h3⟩
  obtain ⟨β2, h4⟩ := h3.wk h1
  exact hq _ _ _ ⟨st2, β2, h2, h4⟩
/-- less is known before it -/
theorem Ex.pre {P : Program} {hp₀ : Hp} {c : Code} {st st' : St} {r : Res} (ks : List Wk) (hk : wkAll hp₀.length ks st = some st') (h : Ex P hp₀ c st' r) : Ex P hp₀ c st r := by
  intro W β₀ R Q hs hq β a w hr
  obtain ⟨β2, h4⟩ := hr.wk hk
  exact h W β₀ R Q hs hq β2 a w h4
def End.wk (m : Nat) (ks : List Wk) : End → End
  | .leaf v hp => match wkAll m ks ⟨[v], hp⟩ with
    | some ⟨[v'], hp'⟩ => .leaf v' hp'
    | _ => .fail
  | .ite b x y => .ite b (x.wk m ks) (y.wk m ks)
  | .need p x => .need p (x.wk m ks)
  | .fail => .fail
theorem end_wk_sat {m : Nat} {ks : List Wk} {R : LV → Hp → Prop} : ∀ {r : End}, (r.wk m ks).sat R → r.sat fun v hp => ∃ v' hp', wkAll m ks ⟨[v], hp⟩ = some ⟨[v'], hp'⟩ ∧ R v' hp'
  | .leaf v hp, h => by
    simp only [End.wk] at h
    split at h
    · rename_i v' hp' h1; exact ⟨v', hp', h1, h⟩
    · exact h.elim
  | .ite b x y, h => ⟨fun e => end_wk_sat (h.1 e), fun e => end_wk_sat (h.2 e)⟩
  | .need p x, h => ⟨h.1, end_wk_sat h.2⟩
  | .fail, h => h
theorem CallsT.wk {P : Program} {f : FuncId} {args : List LV} {hp : Hp} {t : End} (ks : List Wk) (h : CallsT P f args hp t) : CallsT P f args hp (t.wk hp.length ks) := by
  intro R hs β w vals hh hargs
  refine (h _ (end_wk_sat hs) β w vals hh hargs).mono ?_
  rintro e w' ⟨val, β', r, hp', rfl, ⟨v', hp2, h1, h2⟩, hd, hr⟩
  obtain ⟨β2, h3⟩ := wk_ok ks h1 (vals := [val]) ⟨.cons hd .nil, hr⟩
  obtain ⟨h4, h5⟩ := h3
  cases h4 with
  | cons h6 _ => exact ⟨val, β2, v', hp2, rfl, h2, h6, h5⟩
end Go.Ev
