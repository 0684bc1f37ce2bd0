/- A reader of code, third make: a call is looked at with the items that it reaches alone. -/
import Derived.Test.YtdpbkfmjknmmnaaVr
set_option linter.unusedVariables false
set_option linter.unusedSimpArgs false
namespace Go.Ev
open Go

section
variable {W : World} {hp₀ : Hp} {β₀ β : Env} {hp : Hp} {w : World}
theorem own_blk {h : Value} {t : Ty} {l : List t.D} (hk : OwnOk β w h t l) {b : Nat} (hb : inBlock h b) : ∃ a n c, h = .slice (some a) n c ∧ 0 < c ∧ a.block = b := by
  obtain ⟨a, n, c, rfl, h1, h2, h3, _⟩ := hk
  cases a with
  | none => exact hb.elim
  | some a => exact ⟨a, n, c, rfl, by have := hb.1; omega, hb.2⟩
theorem sub_blk {h v : Value} {k : Nat} {z n : Int} (hs : SubOf h k z n v) {b : Nat} (hb : inBlock v b) : inBlock h b := by
  obtain ⟨a, m, c, a', c', rfl, z0, n0, hle, rfl, hc', _, ha⟩ := hs
  cases a' with
  | none => exact hb.elim
  | some a2 =>
    have h0 := hb.1
    obtain ⟨a0, rfl, e⟩ := ha (by omega)
    simp at e; subst e
    exact ⟨by omega, by have := hb.2; rwa [add_block] at this⟩
/-- where what a slice reads as lies -/
theorem contAs_blk (h : HRel W hp₀ β₀ β hp w) {t : Ty} {s : SV} {pm : Bool} {l : List t.D} {v : Value} (hc : (contAs t s).val hp = some (pm, l)) (hd : s.den β (kd hp) v) {b : Nat} (hb : inBlock v b) :
    (b < w.heap.size ∧ ¬ Owned hp β b) ∨ ∃ i x, hp[i]? = some (some x) ∧ Owns β x i b ∧ i ∈ s.refs := by
  unfold contAs at hc
  split at hc
  · exact .inl ((h.rdOk hd.2.2).2 b hb)
  · obtain ⟨_, rfl⟩ := hd
    exact hb.elim
  · rename_i i ver
    simp only [Ask.val] at hc
    split at hc
    · rename_i ver' t' l' hi
      split at hc
      · split at hc
        · rename_i e; subst e
          obtain ⟨_, hd⟩ := hd
          obtain ⟨h1, rfl⟩ := h.ownOf (p := fun x => v = x) (itemAt_some hi) hd
          exact .inr ⟨i, _, itemAt_some hi, own_blk h1 hb, by simp [SV.refs]⟩
        · cases hc
      · cases hc
    · cases hc
  · rename_i i ver w' z n
    simp only [Ask.val] at hc
    split at hc
    · rename_i ver' t' l' hi
      split at hc
      · split at hc
        · rename_i e; obtain ⟨rfl, rfl⟩ := e
          obtain ⟨_, hd⟩ := hd
          obtain ⟨h1, h2⟩ := h.ownOf (p := fun x => SubOf x _ z n v) (itemAt_some hi) hd
          exact .inr ⟨i, _, itemAt_some hi, own_blk h1 (sub_blk h2 hb), by simp [SV.refs]⟩
        · cases hc
      · cases hc
    · cases hc
  · rename_i b' o t' m z n
    simp only [Ask.val] at hc
    split at hc
    · rename_i cells elem hi
      obtain ⟨_, z0, n0, zn, a', c', rfl, hc', _, ha⟩ := hd
      refine .inr ⟨b', _, itemAt_some hi, ?_, by simp [SV.refs]⟩
      show b = β.b b'
      cases a' with
      | none => exact hb.elim
      | some a' =>
        have h0 := hb.1
        have e := ha (by omega)
        simp at e; subst e
        rw [← hb.2, add_block]
    · cases hc
  · rename_i b' o len cap
    simp only [Ask.val] at hc
    split at hc
    · rename_i cells elem hi
      obtain ⟨_, rfl⟩ := hd
      exact .inr ⟨b', _, itemAt_some hi, hb.2.symm, by simp [SV.refs]⟩
    · cases hc
  · simp [Ask.val] at hc

/-! ### What is lent -/
def lent1 (β : Env) (own : Nat → Prop) (w : World) (v : Value) (t : Ty) (l : List t.D) : Prop := ReadsAs β false w v t l ∧ ∀ b, inBlock v b → b < w.heap.size ∧ ¬ own b
def Env.with1 (β : Env) (own : Nat → Prop) (w : World) : Env := ⟨β.b, β.h, fun pm v t l => match pm with
  | true => β.rd true v t l
  | false => lent1 β own w v t l⟩
def lent2 (β : Env) (own : Nat → Prop) (w : World) (v : Value) (t : Ty) (l : List t.D) : Prop := ReadsAs (β.with1 own w) false w v t l ∧ ∀ b, inBlock v b → b < w.heap.size ∧ ¬ own b
def Env.can (β : Env) (own : Nat → Prop) (w : World) (lent : Bool) (ids : List Nat) : Env := ⟨fun j => β.b (ids.getD j 0), fun j => β.h (ids.getD j 0), fun pm v t l => match pm with
  | true => β.rd true v t l
  | false => β.rd false v t l ∨ (lent = true ∧ lent2 β own w v t l)⟩

theorem HRel.with1 (h : HRel W hp₀ β₀ β hp w) {own : Nat → Prop} (ho : ∀ b, own b → Owned hp β b) : ∀ pm v t l, β.rd pm v t l → (β.with1 own w).rd pm v t l := by
  intro pm v t l hr
  cases pm with
  | true => exact hr
  | false =>
    obtain ⟨h1, h2⟩ := h.reads _ _ _ _ hr
    exact ⟨h1, fun b hb => ⟨(h2 b hb).1, fun k => (h2 b hb).2 (ho b k)⟩⟩
theorem HRel.lent12 (h : HRel W hp₀ β₀ β hp w) {own : Nat → Prop} (ho : ∀ b, own b → Owned hp β b) {v : Value} {t : Ty} {l : List t.D} (hl : lent1 β own w v t l) : lent2 β own w v t l :=
  ⟨hl.1.mono (h.with1 ho), hl.2⟩

def lendA (t : Ty) (s : SV) : Ask (Option (List t.D)) := (contAs t s).map (·.map (·.2))
theorem lendA_ok (h : HRel W hp₀ β₀ β hp w) {t : Ty} {s : SV} {l : List t.D} {v : Value} (hc : (lendA t s).val hp = some l) (hd : s.den β (kd hp) v) {own : Nat → Prop}
    (ho : ∀ b, own b → ∃ i x, hp[i]? = some (some x) ∧ Owns β x i b ∧ i ∉ s.refs) : lent1 β own w v t l := by
  unfold lendA at hc
  rw [Ask.val_map] at hc
  obtain ⟨⟨pm, l'⟩, hc1, he⟩ := map_some hc
  clear hc
  cases he
  have hc := hc1
  have h1 := contAs_ok h hc hd
  have h2 : ReadsAs β false w v t l' := by
    cases pm with
    | true => exact h1.weak
    | false => exact h1
  refine ⟨h2, fun b hb => ?_⟩
  rcases contAs_blk h hc hd hb with ⟨h3, h4⟩ | ⟨i, x, h3, h4, h5⟩
  · refine ⟨h3, fun k => ?_⟩
    obtain ⟨i, x, k1, k2, _⟩ := ho b k
    exact h4 ⟨i, x, k1, k2⟩
  · refine ⟨(h.items i x h3).lt h4, fun k => ?_⟩
    obtain ⟨j, y, k1, k2, k3⟩ := ho b k
    have := h.inj i j x y b h3 k1 h4 k2
    subst this
    exact k3 h5
def lendL (t : Ty) : List SV → Ask (Option (List (List t.D)))
  | [] => .ret (some [])
  | s :: r => (lendA t s).bind fun x => match x with
    | some l => (lendL t r).map (·.map (l :: ·))
    | none => .ret none
theorem lendL_ok (h : HRel W hp₀ β₀ β hp w) {t : Ty} {own : Nat → Prop} : ∀ {row : List SV} {ls : List (List t.D)} {vs : List Value}, (lendL t row).val hp = some ls → DenL β (kd hp) row vs →
    (∀ b, own b → ∃ i x, hp[i]? = some (some x) ∧ Owns β x i b ∧ i ∉ row.flatMap SV.refs) → HasL ((Ty.sl t).has (β.with1 own w) false) ls vs
  | [], ls, vs, hc, hd, _ => by
    simp [lendL, Ask.val] at hc; subst hc
    cases hd; exact .nil
  | s :: row, ls, _, hc, .cons (vs := us) h1 h2, ho => by
    simp only [lendL] at hc
    rw [Ask.val_bind] at hc
    split at hc
    · rename_i l hl
      rw [Ask.val_map] at hc
      obtain ⟨ls', hc', rfl⟩ := map_some hc
      have hs : ∀ t n l, s ≠ .arr t n l := by
        intro t' n l' e; subst e
        simp [lendA, contAs, Ask.val, Ask.map, Ask.bind] at hl
      obtain ⟨v, rfl, hv⟩ := SV.den_of h1 hs
      refine .cons ⟨v, rfl, SV.den_oneCell hv, .inr (.inl ⟨rfl, ?_⟩)⟩ (lendL_ok h hc' h2 fun b hb => ?_)
      · exact lendA_ok h hl hv fun b hb => by
          obtain ⟨i, x, k1, k2, k3⟩ := ho b hb
          exact ⟨i, x, k1, k2, fun hm => k3 (by simp [hm])⟩
      · obtain ⟨i, x, k1, k2, k3⟩ := ho b hb
        exact ⟨i, x, k1, k2, fun hm => k3 (by rw [List.flatMap_cons]; exact List.mem_append_right _ hm)⟩
    · simp [Ask.val] at hc
def lend (t : Ty) (s : SV) : Ask (Option (SV × List Nat)) :=
  match t, s with
  | .sl t', .slice b o len cap => .get b fun x => match x with
    | some (.blk cells _) => match (if len ≤ cap then subL cells o len else none) with
      | some row => (lendL t' row).map (·.map fun ls => (.rd false false (.sl t') ls, b :: row.flatMap SV.refs))
      | none => .ret none
    | _ => .ret none
  | t, s => (lendA t s).map (·.map fun l => (.rd false false t l, s.refs))
theorem lend_ok (h : HRel W hp₀ β₀ β hp w) {t : Ty} {s s' : SV} {lids : List Nat} {v : Value} (hc : (lend t s).val hp = some (s', lids)) (hd : s.den β (kd hp) v) {own : Nat → Prop}
    (ho : ∀ b, own b → ∃ i x, hp[i]? = some (some x) ∧ Owns β x i b ∧ i ∉ lids) : ∃ l, s' = .rd false false t l ∧ lent2 β own w v t l := by
  have howned : ∀ b, own b → Owned hp β b := fun b hb => let ⟨i, x, h1, h2, _⟩ := ho b hb; ⟨i, x, h1, h2⟩
  unfold lend at hc
  split at hc
  · rename_i t' b o len cap
    simp only [Ask.val] at hc
    split at hc
    · rename_i cells elem hi
      split at hc
      · rename_i row hrow
        rw [Ask.val_map] at hc
        obtain ⟨ls, hl, he⟩ := map_some hc
        cases he
        split at hrow
        · rename_i hlc
          obtain ⟨_, rfl⟩ := hd
          obtain ⟨cs, fz, h1, h2, h3⟩ := h.items _ _ (itemAt_some hi)
          obtain ⟨pre, mid, post, rfl, e1, e2, h4⟩ := subL_ok hrow h3
          have h5 := lendL_ok h hl h4 (own := own) fun b hb => by
            obtain ⟨i, x, k1, k2, k3⟩ := ho b hb
            exact ⟨i, x, k1, k2, fun hm => k3 (List.mem_cons_of_mem _ hm)⟩
          have hlen : mid.length = ls.length := by rw [hasL_length h5]; simp [Ty.w]
          subst e1
          refine ⟨ls, rfl, ⟨_, _, _, rfl, by omega, hlc, (fun e => by cases e), fun _ => ⟨_, mid, rfl, rfl, h5, holdsAt_cells h1⟩⟩, fun b' hb' => ?_⟩
          have eb : b' = β.b b := hb'.2.symm
          subst eb
          refine ⟨(Array.getElem?_eq_some_iff.1 h1).1, fun k => ?_⟩
          obtain ⟨i, x, k1, k2, k3⟩ := ho _ k
          have := h.inj i b x _ _ k1 (itemAt_some hi) k2 rfl
          subst this
          exact k3 (by simp)
        · cases hrow
      · simp [Ask.val] at hc
    · simp [Ask.val] at hc
  · rw [Ask.val_map] at hc
    obtain ⟨l, hl, he⟩ := map_some hc
    cases he
    exact ⟨l, rfl, h.lent12 howned (lendA_ok h hl hd ho)⟩
def lendArgs : List (Option Ty) → List LV → Ask (Option (List LV × List Nat))
  | _, [] => .ret (some ([], []))
  | [], x :: xs => (lendArgs [] xs).map (·.map fun (l, b) => (x :: l, b))
  | none :: ts, x :: xs => (lendArgs ts xs).map (·.map fun (l, b) => (x :: l, b))
  | some t :: ts, .one (.sc s) :: xs => (lend t s).bind fun y => match y with
    | some (s', b1) => (lendArgs ts xs).map (·.map fun (l, b) => (.one (.sc s') :: l, b1 ++ b))
    | none => .ret none
  | some _ :: _, _ => .ret none
theorem lendArgs_ok (h : HRel W hp₀ β₀ β hp w) {f : Nat → Option Nat} {βc : Env} {L' : Nat → Option Kd} (hov : Over f β βc (kd hp) L' false) {own : Nat → Prop} :
    ∀ {ts : List (Option Ty)} {xs cs : List LV} {lids : List Nat} {vs : List Value}, (lendArgs ts xs).val hp = some (cs, lids) → All2 (LV.den β (kd hp)) xs vs →
      (∀ t, some t ∈ ts → ∀ v l, lent2 β own w v t l → βc.rd false v t l) →
      (∀ b, own b → ∃ i x, hp[i]? = some (some x) ∧ Owns β x i b ∧ i ∉ lids) → All2 (LV.den βc L') (cs.map (LV.mapo f)) vs
  | ts, [], cs, lids, _, hc, hd, _, _ => by
    cases hd
    have hc' : some (([] : List LV), ([] : List Nat)) = some (cs, lids) := by
      cases ts with
      | nil => exact hc
      | cons a b => cases a <;> exact hc
    cases hc'
    exact .nil
  | [], x :: xs, _, _, _, hc, .cons h1 h2, hl, ho => by
    simp only [lendArgs] at hc
    rw [Ask.val_map] at hc
    obtain ⟨⟨l, b⟩, hc', he⟩ := map_some hc
    cases he
    exact .cons (LV.den_over hov (by simp) h1) (lendArgs_ok h hov hc' h2 hl ho)
  | none :: ts, x :: xs, _, _, _, hc, .cons h1 h2, hl, ho => by
    simp only [lendArgs] at hc
    rw [Ask.val_map] at hc
    obtain ⟨⟨l, b⟩, hc', he⟩ := map_some hc
    cases he
    exact .cons (LV.den_over hov (by simp) h1) (lendArgs_ok h hov hc' h2 (fun t ht => hl t (List.mem_cons_of_mem _ ht)) ho)
  | some t :: ts, x :: xs, _, _, _, hc, .cons h1 h2, hl, ho => by
    cases x with
    | one x =>
      cases x with
      | sc s =>
        simp only [lendArgs] at hc
        rw [Ask.val_bind] at hc
        split at hc
        · rename_i s' b1 hs
          rw [Ask.val_map] at hc
          obtain ⟨⟨l, b⟩, hc', he⟩ := map_some hc
          cases he
          obtain ⟨l', rfl, h3⟩ := lend_ok h hs h1 (own := own) fun b hb => by
            obtain ⟨i, x, k1, k2, k3⟩ := ho b hb
            exact ⟨i, x, k1, k2, fun hm => k3 (List.mem_append_left _ hm)⟩
          refine .cons ⟨SV.den_oneCell h1, (fun e => by cases e), .inr (.inl ⟨rfl, hl t (by simp) _ _ h3⟩)⟩ (lendArgs_ok h hov hc' h2 (fun t ht => hl t (List.mem_cons_of_mem _ ht)) fun b hb => ?_)
          obtain ⟨i, x, k1, k2, k3⟩ := ho b hb
          exact ⟨i, x, k1, k2, fun hm => k3 (List.mem_append_right _ hm)⟩
        · simp [Ask.val] at hc
      | agg l => simp [lendArgs, Ask.val] at hc
    | tup l => simp [lendArgs, Ask.val] at hc
    | junk => simp [lendArgs, Ask.val] at hc

/-! ### The items that are reached, alone -/
theorem Owns.mapo {f : Nat → Option Nat} {β β' : Env} {x : Item} {i j b : Nat} (hb : β'.b j = β.b i) (hh : β'.h j = β.h i) : Owns β' (x.mapo f) j b ↔ Owns β x i b := by
  cases x <;> simp only [Item.mapo, Owns, hb, hh]
def chpOf (ids : List Nat) (xs : List Item) : Hp := xs.map fun x => some (x.mapo (posn ids))
theorem chp_get {roots ids : List Nat} {xs : List Item} (hr : Reached hp roots ids xs []) {j : Nat} {y : Item} (h : (chpOf ids xs)[j]? = some (some y)) : ∃ i x, ids[j]? = some i ∧ hp[i]? = some (some x) ∧ xs[j]? = some x ∧ y = x.mapo (posn ids) := by
  unfold chpOf at h
  rw [List.getElem?_map] at h
  obtain ⟨x, hx, he⟩ := map_some h
  simp at he; subst he
  have hj : j < ids.length := by rw [hr.len]; exact (List.getElem?_eq_some_iff.1 hx).1
  have hi : ids[j]? = some ids[j] := List.getElem?_eq_getElem hj
  exact ⟨_, x, hi, itemAt_some (hr.at_ _ _ _ hi hx), hx, rfl⟩
theorem chp_of {roots ids : List Nat} {xs : List Item} (hr : Reached hp roots ids xs []) {i j : Nat} (h : ids[j]? = some i) : ∃ x, hp[i]? = some (some x) ∧ xs[j]? = some x ∧ (chpOf ids xs)[j]? = some (some (x.mapo (posn ids))) := by
  have hj : j < xs.length := by rw [← hr.len]; exact (List.getElem?_eq_some_iff.1 h).1
  have hx : xs[j]? = some xs[j] := List.getElem?_eq_getElem hj
  refine ⟨_, itemAt_some (hr.at_ _ _ _ h hx), hx, ?_⟩
  unfold chpOf
  rw [List.getElem?_map, hx]; rfl
def OwnBy (hp : Hp) (β : Env) (ids : List Nat) (b : Nat) : Prop := ∃ i x, hp[i]? = some (some x) ∧ Owns β x i b ∧ i ∈ ids
theorem getD_of {l : List Nat} {j i : Nat} (h : l[j]? = some i) : l.getD j 0 = i := by rw [List.getD_eq_getElem?_getD, h]; rfl
theorem can_owned {roots ids : List Nat} {xs : List Item} (hr : Reached hp roots ids xs []) {own : Nat → Prop} {lent : Bool} {b : Nat} (h : Owned (chpOf ids xs) (β.can own w lent ids) b) : OwnBy hp β ids b := by
  obtain ⟨j, y, hj, ho⟩ := h
  obtain ⟨i, x, h1, h2, _, rfl⟩ := chp_get hr hj
  refine ⟨i, x, h2, ?_, List.mem_of_getElem? h1⟩
  exact (Owns.mapo (by show β.b _ = _; rw [getD_of h1]) (by show β.h _ = _; rw [getD_of h1])).1 ho
theorem can_over {roots ids : List Nat} {xs : List Item} (hr : Reached hp roots ids xs []) {own : Nat → Prop} {lent : Bool} : Over (posn ids) β (β.can own w lent ids) (kd hp) (kd (chpOf ids xs)) false := by
  refine ⟨fun b j hj hb => ?_, fun i j c hj hi => ?_, fun v t l h => h, fun _ v t l h => .inl h⟩
  · have h1 := posn_get hj
    obtain ⟨x, h2, h3, h4⟩ := chp_of hr h1
    refine ⟨?_, by show β.b _ = _; rw [getD_of h1]⟩
    rw [kd_of h4, Item.mapo_kd, ← kd_of h2]; exact hb
  · have h1 := posn_get hj
    obtain ⟨x, h2, h3, h4⟩ := chp_of hr h1
    refine ⟨?_, by show β.h _ = _; rw [getD_of h1]⟩
    rw [kd_of h4, Item.mapo_kd, ← kd_of h2]; exact hi
theorem can_rel (h : HRel W hp₀ β₀ β hp w) {roots ids : List Nat} {xs : List Item} (hr : Reached hp roots ids xs []) {lent : Bool} :
    HRel w (chpOf ids xs) (β.can (OwnBy hp β ids) w lent ids) (β.can (OwnBy hp β ids) w lent ids) (chpOf ids xs) w := by
  have howned : ∀ b, OwnBy hp β ids b → Owned hp β b := fun b ⟨i, x, h1, h2, _⟩ => ⟨i, x, h1, h2⟩
  refine ⟨fun j y hj => ?_, fun j k y z b hj hk h1 h2 => ?_, Agree.refl _ _, fun i x b hi ho => .inr ⟨x, hi, ho⟩, rfl, rfl, Nat.le_refl _, fun _ _ _ => rfl, fun pm v t l hrd => ?_, fun pm v t l b h1 h2 => .inr ⟨pm, v, t, l, id, h1, h2⟩⟩
  · obtain ⟨i, x, h1, h2, _, rfl⟩ := chp_get hr hj
    refine ItemOk.over (can_over hr) (by simp) (fun _ => ?_) (fun _ _ => ?_) (h.items i x h2)
    · show β.b _ = _; rw [getD_of h1]
    · show β.h _ = _; rw [getD_of h1]
  · obtain ⟨i1, x1, a1, a2, _, rfl⟩ := chp_get hr hj
    obtain ⟨i2, x2, b1, b2, _, rfl⟩ := chp_get hr hk
    have e := h.inj i1 i2 x1 x2 b a2 b2 ((Owns.mapo (by show β.b _ = _; rw [getD_of a1]) (by show β.h _ = _; rw [getD_of a1])).1 h1) ((Owns.mapo (by show β.b _ = _; rw [getD_of b1]) (by show β.h _ = _; rw [getD_of b1])).1 h2)
    subst e
    have e1 := posn_of hr.nodup a1
    have e2 := posn_of hr.nodup b1
    rw [e1] at e2; exact Option.some.inj e2
  · have hmono : ∀ pm v t l, β.rd pm v t l → (β.can (OwnBy hp β ids) w lent ids).rd pm v t l := by
      intro pm v t l hr
      cases pm with
      | true => exact hr
      | false => exact .inl hr
    have hold : ∀ pm v t l, β.rd pm v t l → ReadsAs (β.can (OwnBy hp β ids) w lent ids) pm w v t l ∧ ∀ b, inBlock v b → b < w.heap.size ∧ ¬ Owned (chpOf ids xs) (β.can (OwnBy hp β ids) w lent ids) b := by
      intro pm v t l hrd
      obtain ⟨h1, h2⟩ := h.reads _ _ _ _ hrd
      exact ⟨h1.mono hmono, fun b hb => ⟨(h2 b hb).1, fun k => (h2 b hb).2 (howned b (can_owned hr k))⟩⟩
    cases pm with
    | true => exact hold true v t l hrd
    | false =>
      rcases hrd with hrd | ⟨hl, h1, h2⟩
      · exact hold false v t l hrd
      · refine ⟨h1.mono fun pm v t l hr => ?_, fun b hb => ⟨(h2 b hb).1, fun k => (h2 b hb).2 (can_owned hr k)⟩⟩
        cases pm with
        | true => exact hr
        | false => exact .inr ⟨hl, h.lent12 howned hr⟩
end

/-! ### Back again -/
def mapD (g : Nat → Nat) (d : List (Nat × Item)) : List (Nat × Item) := d.map fun (j, x) => (g j, x.mapo fun j => some (g j))
theorem mem_mapD {g : Nat → Nat} {d : List (Nat × Item)} {i : Nat} {y : Item} : (i, y) ∈ mapD g d ↔ ∃ j x, (j, x) ∈ d ∧ i = g j ∧ y = x.mapo fun j => some (g j) := by
  unfold mapD
  rw [List.mem_map]
  constructor
  · rintro ⟨⟨j, x⟩, h, e⟩
    simp at e; exact ⟨j, x, h, e.1.symm, e.2.symm⟩
  · rintro ⟨j, x, h, rfl, rfl⟩
    exact ⟨(j, x), h, rfl⟩
structure Mir (g : Nat → Nat) (J U : Nat → Prop) (lent : Bool) (hp0 hpc hp : Hp) : Prop where
  live : ∀ (j : Nat) (y : Item), hpc[j]? = some (some y) → J j
  fwd : ∀ (j : Nat) (y : Item), hpc[j]? = some (some y) → hp[g j]? = some (some (y.mapo fun j => some (g j)))
  bwd : ∀ (i : Nat) (x : Item), hp[i]? = some (some x) → (∃ (j : Nat) (y : Item), hpc[j]? = some (some y) ∧ g j = i) ∨ (hp0[i]? = some (some x) ∧ U i)
  nr : lent = true → ∀ (j : Nat) (y : Item), hpc[j]? = some (some y) → y.nr = true
theorem mir_apply {g : Nat → Nat} {J U : Nat → Prop} {lent : Bool} {hp0 : Hp} (hinj : ∀ j k, J j → J k → g j = g k → j = k) :
    ∀ (d : List (Nat × Item)) {hpc hp : Hp}, (∀ j x, (j, x) ∈ d → J j) → (lent = true → d.all (fun p => p.2.nr) = true) → Mir g J U lent hp0 hpc hp → Mir g J U lent hp0 (applyD d hpc) (applyD (mapD g d) hp)
  | [], _, _, _, _, h => h
  | (j, x) :: d, hpc, hp, hJ, hn, h => by
    refine mir_apply hinj d (hpc := setAt hpc j x) (hp := setAt hp (g j) (x.mapo fun j => some (g j))) (fun j' x' hm => hJ j' x' (List.mem_cons_of_mem _ hm)) (fun e => by have := hn e; simp only [List.all_cons, Bool.and_eq_true] at this; exact this.2) ?_
    have hj : J j := hJ j x (by simp)
    refine ⟨fun k y hk => ?_, fun k y hk => ?_, fun i z hi => ?_, fun e k y hk => ?_⟩
    · by_cases hkj : k = j
      · exact hkj ▸ hj
      · exact h.live k y ((setAt_other hpc j x k y hkj).1 hk)
    · by_cases hkj : k = j
      · subst hkj
        rw [setAt_same] at hk; simp at hk; subst hk
        exact setAt_same _ _ _
      · have hk' := (setAt_other hpc j x k y hkj).1 hk
        have hne : g k ≠ g j := fun e => hkj (hinj k j (h.live k y hk') hj e)
        exact (setAt_other hp (g j) _ (g k) _ hne).2 (h.fwd k y hk')
    · by_cases hij : i = g j
      · subst hij
        exact .inl ⟨j, x, setAt_same _ _ _, rfl⟩
      · rcases h.bwd i z ((setAt_other hp (g j) _ i z hij).1 hi) with ⟨k, y, hk, e⟩ | k
        · refine .inl ⟨k, y, (setAt_other hpc j x k y fun e' => hij ?_).2 hk, e⟩
          rw [← e, e']
        · exact .inr k
    · by_cases hkj : k = j
      · subst hkj
        rw [setAt_same] at hk; simp at hk; subst hk
        have := hn e; simp only [List.all_cons, Bool.and_eq_true] at this; exact this.1
      · exact h.nr e k y ((setAt_other hpc j x k y hkj).1 hk)

/-- a function's law: which arguments are read alone, and what comes out -/
structure Ent where
  tys : List (Option Ty)
  run : List LV → Hp → Out
structure Ent.Ok (P : Program) (f : FuncId) (e : Ent) : Prop where
  enters : Enters P f
  calls : ∀ args hp Q, (e.run args hp).holds Q → CallsEv P f args hp fun v hp' => ∃ d, Q v d ∧ hp' = applyD d hp

def Out.back (g : Nat → Nat) (lent : Bool) : Out → Out
  | .leaf q v d => if lent = true ∧ (v.nr && d.all fun p => p.2.nr) = false then .fail else .leaf q (v.mapo fun j => some (g j)) (mapD g d)
  | .ite b x y => .ite b (x.back g lent) (y.back g lent)
  | .fail => .fail
theorem back_holds {g : Nat → Nat} {lent : Bool} {id : Nat} {hp : Hp} {Q : LV → List (Nat × Item) → Prop} : ∀ {o : Out}, (o.back g lent).fresh id hp → (o.back g lent).holds Q →
    o.holds fun v d => (lent = true → v.nr = true ∧ (d.all fun p => p.2.nr) = true) ∧ Fresh id hp (mapD g d) ∧ Q (v.mapo fun j => some (g j)) (mapD g d)
  | .leaf q v d, hf, h => by
    simp only [Out.back] at hf h
    split at h
    · exact h.elim
    · rename_i hc
      rw [if_neg hc] at hf
      refine ⟨h.1, fun e => ?_, hf, h.2⟩
      have : (v.nr && d.all fun p => p.2.nr) = true := by
        cases hx : (v.nr && d.all fun p => p.2.nr) with
        | true => rfl
        | false => exact absurd ⟨e, hx⟩ hc
      simpa using this
  | .ite b x y, hf, h => ⟨fun e => back_holds hf.1 (h.1 e), fun e => back_holds hf.2 (h.2 e)⟩
  | .fail, _, h => h

def gOf (ids : List Nat) (id : Nat) (j : Nat) : Nat := match ids[j]? with
  | some i => i
  | none => id + (j - ids.length)
def callA (e : Ent) (id : Nat) (args : List LV) : Ask Out :=
  (lendArgs e.tys args).bind fun x => match x with
  | none => .ret .fail
  | some (cargs, lids) => (reachA 1000 (cargs.flatMap LV.refs) [] []).bind fun y => match y with
    | none => .ret .fail
    | some (ids, xs) =>
      if lids.any (fun i => decide (i ∈ ids)) = true ∨ (e.tys.any (·.isSome) = true ∧ xs.all Item.nr = false) then .ret .fail
      else .ret ((e.run (cargs.map (LV.mapo (posn ids))) (chpOf ids xs)).back (gOf ids id) (e.tys.any (·.isSome)))

section
variable {α : Type}
/-- what is said of the numbers there, said of those here -/
def backTo (hp : Hp) (ids : List Nat) (id : Nat) (F F0 : Nat → α) (i : Nat) : α := match posn ids i with
  | some j => F j
  | none => if kd hp i = none ∧ id ≤ i then F (ids.length + (i - id)) else F0 i
end
theorem callA_ok {P : Program} {f : FuncId} {e : Ent} (he : e.Ok P f) {id : Nat} {args : List LV} {hp : Hp} (hf : ((callA e id args).val hp).fresh id hp) {Q : LV → List (Nat × Item) → Prop} (h : ((callA e id args).val hp).holds Q)
    {β : Env} {w : World} {vals : List Value} (hh : HRel w hp β β hp w) (hargs : All2 (LV.den β (kd hp)) args vals) :
    Calls P f vals.toArray w fun e w' => ∃ v d val β', Q v d ∧ e = .returned val ∧ v.den β' (kd (applyD d hp)) val ∧ HRel w hp β β' (applyD d hp) w' := by
  unfold callA at h hf
  rw [Ask.val_bind] at h hf
  split at h
  · exact h.elim
  rename_i cargs lids hl
  rw [hl] at hf
  simp only at hf
  rw [Ask.val_bind] at h hf
  split at h
  · exact h.elim
  rename_i ids xs hreach
  rw [hreach] at hf
  simp only at hf
  split at h
  · exact h.elim
  rename_i hno
  rw [if_neg hno] at hf
  simp only [Ask.val] at h hf
  have hdis : ∀ i ∈ lids, i ∉ ids := fun i hi hm => hno (.inl (by rw [List.any_eq_true]; exact ⟨i, hi, by simpa using hm⟩))
  have hnrx : e.tys.any (·.isSome) = true → xs.all Item.nr = true := fun e1 => by
    cases hx : xs.all Item.nr with
    | true => rfl
    | false => exact absurd (.inr ⟨e1, hx⟩) hno
  have hlent : ∀ t, some t ∈ e.tys → e.tys.any (·.isSome) = true := fun t ht => by rw [List.any_eq_true]; exact ⟨_, ht, rfl⟩
  generalize e.tys.any (·.isSome) = lent at *
  have hR : Reached hp (cargs.flatMap LV.refs) ids xs [] := reach_ok 1000 _ [] [] ⟨List.nodup_nil, rfl, fun _ _ _ h => by simp at h, fun _ h => by simp at h, fun r h => .inr h⟩ hreach
  generalize hβc : β.can (OwnBy hp β ids) w lent ids = βc
  have hcan : HRel w (chpOf ids xs) βc βc (chpOf ids xs) w := hβc ▸ can_rel hh hR
  have hover : Over (posn ids) β βc (kd hp) (kd (chpOf ids xs)) false := hβc ▸ can_over hR
  have hcb : ∀ {j i}, ids[j]? = some i → βc.b j = β.b i := fun hj => by subst hβc; show β.b _ = _; rw [getD_of hj]
  have hch : ∀ {j i}, ids[j]? = some i → βc.h j = β.h i := fun hj => by subst hβc; show β.h _ = _; rw [getD_of hj]
  have hcargs : All2 (LV.den βc (kd (chpOf ids xs))) (cargs.map (LV.mapo (posn ids))) vals := by
    refine lendArgs_ok hh hover (own := OwnBy hp β ids) hl hargs (fun t ht v l hlt => ?_) fun b ⟨i, x, h1, h2, h3⟩ => ⟨i, x, h1, h2, fun hm => hdis i hm h3⟩
    subst hβc
    exact .inr ⟨hlent t ht, hlt⟩
  refine (he.calls _ _ _ (back_holds hf h) βc w vals hcan hcargs).mono ?_
  rintro en w' ⟨val, βr, r, hp', rfl, ⟨d, ⟨hnr, hfresh, hq⟩, rfl⟩, hden, h'⟩
  -- the numbers
  have hgid : ∀ {j i}, ids[j]? = some i → gOf ids id j = i := fun hj => by simp only [gOf, hj]
  have hgnew : ∀ {j : Nat}, ids.length ≤ j → gOf ids id j = id + (j - ids.length) := by
    intro j hj
    have : ids[j]? = none := List.getElem?_eq_none hj
    simp only [gOf, this]
  have hlen : (chpOf ids xs).length = ids.length := by simp [chpOf, hR.len]
  have hnone : ∀ {j x}, (j, x) ∈ d → ids.length ≤ j → kd hp (gOf ids id j) = none := fun hm hj => hfresh _ _ (mem_mapD.2 ⟨_, _, hm, rfl, rfl⟩) (by rw [hgnew hj]; omega)
  let J : Nat → Prop := fun j => j < ids.length ∨ ∃ x, (j, x) ∈ d
  let U : Nat → Prop := fun i => posn ids i = none
  have hsome : ∀ {j i}, ids[j]? = some i → kd hp i ≠ none := fun hj e => by
    obtain ⟨x, h1, _⟩ := chp_of hR hj
    rw [kd_of h1] at e; cases e
  have hinj : ∀ j k, J j → J k → gOf ids id j = gOf ids id k → j = k := by
    intro j k hj hk e
    by_cases h1 : j < ids.length <;> by_cases h2 : k < ids.length
    · have e1 := List.getElem?_eq_getElem h1
      have e2 := List.getElem?_eq_getElem h2
      rw [hgid e1, hgid e2] at e
      have k1 := posn_of hR.nodup e1
      have k2 := posn_of hR.nodup e2
      rw [e, k2] at k1; exact (Option.some.inj k1).symm
    · have e1 := List.getElem?_eq_getElem h1
      obtain ⟨x, hx⟩ := hk.resolve_left h2
      exact absurd (by rw [← hgid e1, e]; exact hnone hx (by omega)) (hsome e1)
    · have e2 := List.getElem?_eq_getElem h2
      obtain ⟨x, hx⟩ := hj.resolve_left h1
      exact absurd (by rw [← hgid e2, ← e]; exact hnone hx (by omega)) (hsome e2)
    · rw [hgnew (by omega), hgnew (by omega)] at e; omega
  have hmir0 : Mir (gOf ids id) J U lent hp (chpOf ids xs) hp := by
    refine ⟨fun j y hj => .inl ?_, fun j y hj => ?_, fun i x hi => ?_, fun e1 j y hj => ?_⟩
    · rw [← hlen]; exact (List.getElem?_eq_some_iff.1 hj).1
    · obtain ⟨i, x, h1, h2, h3, rfl⟩ := chp_get hR hj
      rw [hgid h1, item_back fun r hr => ?_]
      · exact h2
      · have hm := (hR.refs x (List.mem_of_getElem? h3) r hr).resolve_right (by simp)
        obtain ⟨k, hk⟩ := posn_mem hm
        exact ⟨k, hk, hgid (posn_get hk)⟩
    · cases hpos : posn ids i with
      | none => exact .inr ⟨hi, hpos⟩
      | some j =>
        obtain ⟨x', h1, h2, h3⟩ := chp_of hR (posn_get hpos)
        exact .inl ⟨j, _, h3, hgid (posn_get hpos)⟩
    · obtain ⟨i, x, h1, h2, h3, rfl⟩ := chp_get hR hj
      have hx := hnrx e1
      rw [List.all_eq_true] at hx
      have hx' := hx x (List.mem_of_getElem? h3)
      cases x with
      | blk cells el =>
        simp only [Item.mapo, Item.nr, List.all_map] at hx' ⊢
        rw [List.all_eq_true] at hx' ⊢
        exact fun s hs => SV.nr_mapo (hx' s hs)
      | _ => rfl
  have hmir := mir_apply hinj d (fun j x hm => .inr ⟨x, hm⟩) (fun e1 => (hnr e1).2) hmir0
  generalize hhp2 : applyD (mapD (gOf ids id) d) hp = hp2 at *
  generalize applyD d (chpOf ids xs) = hp1 at *
  -- the new environment
  let β2 : Env := ⟨backTo hp ids id βr.b β.b, backTo hp ids id βr.h β.h, fun pm v t l => match pm with
    | true => βr.rd true v t l
    | false => if lent = true then β.rd false v t l else βr.rd false v t l⟩
  have back_g : ∀ {α : Type} (F F0 : Nat → α) {j : Nat}, J j → backTo hp ids id F F0 (gOf ids id j) = F j := by
    intro α F F0 j hj
    by_cases h1 : j < ids.length
    · have e1 := List.getElem?_eq_getElem h1
      simp only [backTo, hgid e1, posn_of hR.nodup e1]
    · obtain ⟨x, hx⟩ := hj.resolve_left h1
      have hn := hnone hx (by omega)
      have hp0 : posn ids (gOf ids id j) = none := by
        cases hq : posn ids (gOf ids id j) with
        | none => rfl
        | some k => exact absurd hn (hsome (posn_get hq))
      simp only [backTo, hp0]
      rw [if_pos ⟨hn, by rw [hgnew (by omega)]; omega⟩, hgnew (by omega)]
      congr 1; omega
  have back_u : ∀ {α : Type} (F F0 : Nat → α) {i : Nat} {k : Kd}, kd hp i = some k → posn ids i = none → backTo hp ids id F F0 i = F0 i := by
    intro α F F0 i k hi hp0
    simp only [backTo, hp0]
    rw [if_neg (by rw [hi]; simp)]
  have hover2 : Over (fun j => some (gOf ids id j)) βr β2 (kd hp1) (kd hp2) lent := by
    refine ⟨fun b j hj hb => ?_, fun i j c hj hi => ?_, fun v t l h => h, fun e1 v t l h => by show (if lent = true then _ else _ : Prop); rw [if_neg (by simp [e1])]; exact h⟩
    · cases hj
      obtain ⟨y, h1, h2⟩ := kd_some hb
      exact ⟨by rw [kd_of (hmir.fwd _ _ h1), Item.mapo_kd, h2], back_g _ _ (hmir.live _ _ h1)⟩
    · cases hj
      obtain ⟨y, h1, h2⟩ := kd_some hi
      exact ⟨by rw [kd_of (hmir.fwd _ _ h1), Item.mapo_kd, h2], back_g _ _ (hmir.live _ _ h1)⟩
  have hrd2 : ∀ pm v t l, β.rd pm v t l → β2.rd pm v t l := by
    intro pm v t l hr
    cases pm with
    | true => exact h'.first.rd true v t l (hover.rdt _ _ _ hr)
    | false =>
      show (if lent = true then _ else _ : Prop)
      split
      · exact hr
      · exact h'.first.rd false v t l (hover.rdf rfl _ _ _ hr)
  -- an item that was not reached
  have hunown : ∀ {i x b}, hp[i]? = some (some x) → posn ids i = none → Owns β x i b → b < w.heap.size ∧ ¬ OwnBy hp β ids b := by
    intro i x b hi hp0 ho
    refine ⟨(hh.items i x hi).lt ho, fun ⟨k, y, h1, h2, h3⟩ => ?_⟩
    have := hh.inj i k x y b hi h1 ho h2
    subst this
    exact posn_none hp0 h3
  have hkeep : ∀ {b}, b < w.heap.size → ¬ OwnBy hp β ids b → w'.heap[b]? = w.heap[b]? := fun hb hn => h'.keep _ hb fun k => hn (can_owned hR (hβc ▸ k))
  have hstay : ∀ {i x}, hp[i]? = some (some x) → posn ids i = none → hp2[i]? = some (some x) := by
    intro i x hi hp0
    have : i ∉ (mapD (gOf ids id) d).map (·.1) := by
      intro hm
      obtain ⟨⟨i', z⟩, h1, h2⟩ := List.mem_map.1 hm
      simp at h2; subst h2
      obtain ⟨j, y, h3, e1, e2⟩ := mem_mapD.1 h1
      by_cases hj : j < ids.length
      · have k1 := List.getElem?_eq_getElem hj
        have := posn_none hp0
        exact this (by rw [e1, hgid k1]; exact List.getElem_mem hj)
      · have := hnone h3 (by omega)
        rw [← e1, kd_of hi] at this; cases this
    rw [← hhp2]
    exact itemAt_some (by rw [itemAt_applyD this]; exact itemAt_of hi)
  have hag : Agree β β2 (kd hp) (kd hp2) := by
    refine ⟨fun i hi => ?_, fun i c hi => ?_, hrd2⟩
    · obtain ⟨x, hx, hk⟩ := kd_some hi
      cases hpos : posn ids i with
      | none => exact ⟨by rw [kd_of (hstay hx hpos), hk], back_u _ _ hi hpos⟩
      | some j =>
        have h1 := posn_get hpos
        obtain ⟨k1, k2⟩ := hover.blk _ _ hpos hi
        obtain ⟨k3, k4⟩ := h'.first.blk _ k1
        obtain ⟨k5, k6⟩ := hover2.blk _ _ rfl k3
        rw [hgid h1] at k5 k6
        exact ⟨k5, by rw [k6, k4, k2]⟩
    · obtain ⟨x, hx, hk⟩ := kd_some hi
      cases hpos : posn ids i with
      | none => exact ⟨c, by rw [kd_of (hstay hx hpos), hk], Nat.le_refl _, fun _ => back_u _ _ hi hpos⟩
      | some j =>
        have h1 := posn_get hpos
        obtain ⟨k1, k2⟩ := hover.own _ _ _ hpos hi
        obtain ⟨c', k3, k4, k4'⟩ := h'.first.own _ _ k1
        obtain ⟨k5, k6⟩ := hover2.own _ _ _ rfl k3
        rw [hgid h1] at k5 k6
        exact ⟨c', k5, k4, fun e1 => by rw [k6, k4' e1, k2]⟩
  have hgo : ∀ {j y b}, hp1[j]? = some (some y) → (Owns β2 (y.mapo fun j => some (gOf ids id j)) (gOf ids id j) b ↔ Owns βr y j b) := fun hj => Owns.mapo (back_g _ _ (hmir.live _ _ hj)) (back_g _ _ (hmir.live _ _ hj))
  have huo : ∀ {i x b}, hp[i]? = some (some x) → posn ids i = none → (Owns β2 x i b ↔ Owns β x i b) := fun hi hp0 => Owns.congr (back_u _ _ (kd_of hi) hp0) (back_u _ _ (kd_of hi) hp0)
  have hgown : ∀ {j y b}, hp1[j]? = some (some y) → Owns βr y j b → w.heap.size ≤ b ∨ OwnBy hp β ids b := fun hj ho => (h'.own _ _ _ hj ho).imp (fun h => h) fun ⟨y, k⟩ => can_owned (own := OwnBy hp β ids) (w := w) (lent := lent) hR (hβc.symm ▸ ⟨_, y, k⟩)
  have hsplit : ∀ {i z}, hp2[i]? = some (some z) → (∃ j y, hp1[j]? = some (some y) ∧ i = gOf ids id j ∧ z = y.mapo fun j => some (gOf ids id j)) ∨ (hp[i]? = some (some z) ∧ posn ids i = none) := by
    intro i z hi
    rcases hmir.bwd i z hi with ⟨j, y, h1, h2⟩ | h1
    · have := hmir.fwd j y h1
      rw [h2, hi] at this
      exact .inl ⟨j, y, h1, h2.symm, by simpa using this⟩
    · exact .inr h1
  have howned2 : ∀ {b}, Owned hp2 β2 b → Owned hp1 βr b ∨ ∃ i x, hp[i]? = some (some x) ∧ posn ids i = none ∧ Owns β x i b := by
    rintro b ⟨i, z, hi, ho⟩
    rcases hsplit hi with ⟨j, y, h1, rfl, rfl⟩ | ⟨h1, h2⟩
    · exact .inl ⟨j, y, h1, (hgo h1).1 ho⟩
    · exact .inr ⟨i, z, h1, h2, (huo h1 h2).1 ho⟩
  refine ⟨r.mapo fun j => some (gOf ids id j), mapD (gOf ids id) d, val, β2, hq, rfl, ?_, ?_⟩
  · rw [hhp2]
    exact LV.den_over hover2 (fun e1 => (hnr e1).1) hden
  rw [hhp2]
  refine ⟨fun i z hi => ?_, fun i k x y b hi hk h1 h2 => ?_, hag, fun i z b hi ho => ?_, h'.os, h'.output, h'.size, fun b hb hno2 => ?_, fun pm v t l hr => ?_, fun pm v t l b hr hb => ?_⟩
  · rcases hsplit hi with ⟨j, y, h1, rfl, rfl⟩ | ⟨h1, h2⟩
    · exact ItemOk.over hover2 (fun e1 => hmir.nr e1 _ _ h1) (fun _ => back_g _ _ (hmir.live _ _ h1)) (fun _ _ => back_g _ _ (hmir.live _ _ h1)) (h'.items j y h1)
    · exact (hh.items i z h1).of hag (back_u _ _ (kd_of h1) h2) (back_u _ _ (kd_of h1) h2) fun b ho => hkeep (hunown h1 h2 ho).1 (hunown h1 h2 ho).2
  · rcases hsplit hi with ⟨j, y', a1, rfl, rfl⟩ | ⟨a1, a2⟩ <;> rcases hsplit hk with ⟨j2, y2, b1, rfl, rfl⟩ | ⟨b1, b2⟩
    · rw [h'.inj j j2 y' y2 b a1 b1 ((hgo a1).1 h1) ((hgo b1).1 h2)]
    · have k1 := hunown b1 b2 ((huo b1 b2).1 h2)
      rcases hgown a1 ((hgo a1).1 h1) with k2 | k2
      · omega
      · exact absurd k2 k1.2
    · have k1 := hunown a1 a2 ((huo a1 a2).1 h1)
      rcases hgown b1 ((hgo b1).1 h2) with k2 | k2
      · omega
      · exact absurd k2 k1.2
    · exact hh.inj i k x y b a1 b1 ((huo a1 a2).1 h1) ((huo b1 b2).1 h2)
  · rcases hsplit hi with ⟨j, y, a1, rfl, rfl⟩ | ⟨a1, a2⟩
    · refine (h'.own _ _ _ a1 ((hgo a1).1 ho)).imp (fun h => h) fun ⟨y2, k1, k2⟩ => ?_
      obtain ⟨i', x', e1, e2, _, rfl⟩ := chp_get hR k1
      rw [hgid e1]
      exact ⟨x', e2, (Owns.mapo (hcb e1) (hch e1)).1 k2⟩
    · exact .inr ⟨z, a1, (huo a1 a2).1 ho⟩
  · exact hkeep hb fun ⟨k, x, k1, k2, _⟩ => hno2 ⟨k, x, k1, k2⟩
  · have hnotu : ∀ {b}, (b < w'.heap.size ∧ ¬ Owned hp1 βr b) → (∀ i x, hp[i]? = some (some x) → posn ids i = none → ¬ Owns β x i b) → b < w'.heap.size ∧ ¬ Owned hp2 β2 b := by
      rintro b ⟨h1, h2⟩ h3
      refine ⟨h1, fun k => ?_⟩
      rcases howned2 k with k | ⟨i, x, k1, k2, k3⟩
      · exact h2 k
      · exact h3 i x k1 k2 k3
    have hfar : ∀ {pm v t l b}, (pm = true ∨ lent = false) → βr.rd pm v t l → inBlock v b → ∀ i x, hp[i]? = some (some x) → posn ids i = none → ¬ Owns β x i b := by
      intro pm v t l b hpm hr hb i x hi hp0 ho
      have hlt := (hh.items i x hi).lt ho
      rcases h'.from_ pm v t l b hr hb with k | ⟨pm', v', t', l', k0, k1, k2⟩
      · omega
      · have k1' : β.rd pm' v' t' l' := by
          subst hβc
          cases pm' with
          | true => exact k1
          | false =>
            rcases hpm with hpm | hpm
            · cases k0 hpm
            · rcases k1 with k1 | ⟨k1, _⟩
              · exact k1
              · rw [hpm] at k1; cases k1
        exact (hh.reads _ _ _ _ k1').2 b k2 |>.2 ⟨i, x, hi, ho⟩
    have hplain : ∀ {pm v t l}, β.rd pm v t l → ReadsAs β2 pm w' v t l ∧ ∀ b, inBlock v b → b < w'.heap.size ∧ ¬ Owned hp2 β2 b := by
      intro pm v t l hr
      obtain ⟨h1, h2⟩ := hh.reads _ _ _ _ hr
      refine ⟨(h1.of fun b hb hlt => hkeep hlt fun ⟨k, x, k1, k2, _⟩ => (h2 b hb).2 ⟨k, x, k1, k2⟩).mono hrd2, fun b hb => ?_⟩
      refine ⟨Nat.lt_of_lt_of_le (h2 b hb).1 h'.size, fun k => ?_⟩
      rcases howned2 k with ⟨j, y, k1, k2⟩ | ⟨i, x, k1, k2, k3⟩
      · rcases hgown k1 k2 with k3 | ⟨i, x, k3, k4, _⟩
        · have := (h2 b hb).1; omega
        · exact (h2 b hb).2 ⟨i, x, k3, k4⟩
      · exact (h2 b hb).2 ⟨i, x, k1, k3⟩
    cases pm with
    | true =>
      obtain ⟨h1, h2⟩ := h'.reads true v t l hr
      refine ⟨?_, fun b hb => hnotu (h2 b hb) (hfar (.inl rfl) hr hb)⟩
      obtain ⟨a, n, c, rfl, hn, hc, hz, hrr⟩ := h1
      refine ⟨a, n, c, rfl, hn, hc, hz, fun h0 => ?_⟩
      obtain ⟨a0, vss, rfl, k1, k2, k3⟩ := hrr h0
      exact ⟨a0, vss, rfl, k1, k2.imp fun _ _ => t.has_over hover2.rdt, k3⟩
    | false =>
      have hr' : (if lent = true then β.rd false v t l else βr.rd false v t l) := hr
      split at hr'
      · exact hplain hr'
      · rename_i hl0
        have hl0' : lent = false := by simpa using hl0
        obtain ⟨h1, h2⟩ := h'.reads false v t l hr'
        refine ⟨h1.mono fun pm v t l hr => ?_, fun b hb => hnotu (h2 b hb) (hfar (.inr hl0') hr' hb)⟩
        cases pm with
        | true => exact hr
        | false => show (if lent = true then _ else _ : Prop); rw [if_neg hl0]; exact hr
  · have hback : ∀ {pm' v' t' l'}, βc.rd pm' v' t' l' → (pm' = true ∨ lent = false) → β.rd pm' v' t' l' := by
      intro pm' v' t' l' k1 hpm
      subst hβc
      cases pm' with
      | true => exact k1
      | false =>
        rcases k1 with k1 | ⟨k1, _⟩
        · exact k1
        · rcases hpm with hpm | hpm
          · cases hpm
          · rw [hpm] at k1; cases k1
    cases pm with
    | true =>
      rcases h'.from_ true v t l b hr hb with k | ⟨pm', v', t', l', k0, k1, k2⟩
      · exact .inl k
      · exact .inr ⟨pm', v', t', l', k0, hback k1 (.inl (k0 rfl)), k2⟩
    | false =>
      have hr' : (if lent = true then β.rd false v t l else βr.rd false v t l) := hr
      split at hr'
      · exact .inr ⟨false, v, t, l, (fun h => h), hr', hb⟩
      · rename_i hl0
        have hl0' : lent = false := by simpa using hl0
        rcases h'.from_ false v t l b hr' hb with k | ⟨pm', v', t', l', k0, k1, k2⟩
        · exact .inl k
        · exact .inr ⟨pm', v', t', l', k0, hback k1 (.inr hl0'), k2⟩

/-! ### Tables of functions -/
def look (f : FuncId) : List (FuncId × Ent) → Option Ent
  | [] => none
  | (g, e) :: l => if g = f then some e else look f l
def gamOf (tab : List (FuncId × Ent)) : Gam := ⟨fun f id args => match look f tab with
  | some e => callA e id args
  | none => .ret .fail⟩
theorem look_ok {P : Program} : ∀ {tab : List (FuncId × Ent)} {f : FuncId} {e : Ent}, (∀ p ∈ tab, p.2.Ok P p.1) → look f tab = some e → e.Ok P f
  | [], _, _, _, h => by cases h
  | (g, e') :: l, f, e, hp, h => by
    simp only [look] at h
    split at h
    · rename_i hg; subst hg; obtain rfl := Option.some.inj h; exact hp (g, e') (by simp)
    · exact look_ok (fun p hm => hp p (List.mem_cons_of_mem _ hm)) h
theorem gam_ok {P : Program} {tab : List (FuncId × Ent)} (h : ∀ p ∈ tab, p.2.Ok P p.1) : GOk P (gamOf tab) := by
  refine ⟨fun f id args hp hf Q hq W hp₀ β₀ β w vals hh hargs => ?_⟩
  simp only [gamOf] at hf hq
  split at hq
  · rename_i e he
    rw [he] at hf
    have hok := look_ok h he
    refine .inr ⟨hok.enters, (callA_ok hok hf hq hh.self hargs).mono ?_⟩
    rintro en w' ⟨v, d, val, β', h1, h2, h3, h4⟩
    exact ⟨v, d, val, β', h1, h2, h3, hh.trans h4, h4.first⟩
  · exact hq.elim
end Go.Ev
