/- A reader of code, third make: calls, one operation after the other. -/
import Derived.Test.YtdpbkfmjknmmnaaVn
import Derived.LoopN
import Derived.Orders
set_option linter.unusedVariables false
set_option linter.unusedSimpArgs false
namespace Go.Ev
open Go

section
variable {P : Program} {W : World} {hp₀ : Hp} {β₀ β : Env} {w : World} {st : St} {a : Act}

/-- the outcome of a builtin function -/
def BiOk (P : Program) (W : World) (hp₀ : Hp) (β₀ β : Env) (st : St) (w : World) (s : Sem Next) (v : LV) (d : List (Nat × Item)) : Prop :=
  ∃ (β' : Env) (w' : World) (val : Value), s.run P w = .ok (.value val) w' ∧ v.den β' (kd (applyD d st.hp)) val ∧ HRel W hp₀ β₀ β' (applyD d st.hp) w' ∧ Agree β β' (kd st.hp) (kd (applyD d st.hp))

theorem len_ok (hr : Rel W hp₀ β₀ β st a w) {t ty : TypeId} {x : SV} {n : SI} {v : Value} (hl : (lenS P t x).val st.hp = some n) (hd : x.den β (kd st.hp) v) : (Builtin.len_ #[t] ty #[v]).run P w = .ok (.int .i64 n.val) w := by
  have hs : ∀ {e : TypeId} {b : Option Addr} {k c : Nat}, sliceT P t = some e → (Builtin.len_ #[t] ty #[.slice b k c]).run P w = .ok (goInt k) w := fun he => by
    have hu := sliceT_eq he
    simp [Builtin.len_, run_underlying hu]
  have hstr : ∀ {s : ByteArray}, P.underlying t = some .string → (Builtin.len_ #[t] ty #[.string s]).run P w = .ok (goInt s.size) w := fun hu => by
    simp [Builtin.len_, run_underlying hu]
  have hisS : ∀ {α : Type} {x y : α}, (if P.underlying t matches some .string then some x else none) = some y → P.underlying t = some .string ∧ x = y := by
    intro α x y h
    split at h
    · rename_i hm
      refine ⟨?_, by simpa using h⟩
      revert hm
      cases hu : P.underlying t with
      | none => simp
      | some d => cases d <;> simp
    · cases h
  unfold lenS at hl
  split at hl
  · simp only [Ask.val] at hl
    obtain ⟨e, he, rfl⟩ := map_some hl
    obtain ⟨_, rfl⟩ := hd
    exact hs he
  · simp only [Ask.val] at hl
    obtain ⟨e, he, rfl⟩ := map_some hl
    obtain ⟨_, rfl⟩ := hd
    exact hs he
  · simp only [Ask.val] at hl
    obtain ⟨hu, rfl⟩ := hisS hl
    have e : v = .string _ := hd
    rw [e, hstr hu, strOf_size]; rfl
  · simp only [Ask.val] at hl
    obtain ⟨hu, rfl⟩ := hisS hl
    obtain ⟨_, rfl⟩ := hd
    exact hstr hu
  · split at hl
    · rename_i e he
      rw [Ask.val_map] at hl
      obtain ⟨⟨pm, ty', l⟩, hc, rfl⟩ := map_some hl
      obtain ⟨b, c, rfl⟩ := (contOf_ok hr.heap hc hd).len
      exact hs he
    · simp [Ask.val] at hl

theorem minmax_ok {f : Int → Int → Int} {g : Value → Value → Sem Value} {k : IntKind} (hg : ∀ x y : Int, (g (.int k x) (.int k y)).run P w = .ok (.int k (f x y)) w) {β : Env} {L : Nat → Option Kd} :
    ∀ (l : List SV) (vs : List Value) (x n : SI), All2 (SV.den β L) l vs → minmax f k x l = some n → (vs.foldlM g (.int k x.val)).run P w = .ok (.int k n.val) w
  | [], vs, x, n, hd, h => by
    cases hd
    simp [minmax] at h; subst h
    simp
  | .int k' y :: l, _, x, n, .cons (b := b) (m := vs) h1 h2, h => by
    simp only [minmax] at h
    split at h
    · rename_i hk; subst hk
      have e : b = .int k' y.val := h1
      subst e
      simp only [List.foldlM_cons, Sem.run_bind, hg, Result.andThen_ok]
      have := minmax_ok hg l vs _ n h2 h
      rw [map2_val] at this
      exact this
    · cases h

theorem opSc_all {β : Env} {L : Nat → Option Kd} : ∀ {xs : List LV} {ss : List SV} {vs : List Value}, optAll opSc xs = some ss → All2 (LV.den β L) xs vs → All2 (SV.den β L) ss vs
  | [], _, _, h, hd => by simp [optAll] at h; subst h; cases hd; exact .nil
  | x :: xs, ss, _, h, .cons h1 h2 => by
    simp only [optAll] at h
    split at h
    · rename_i s m hs hm
      simp at h; subst h
      exact .cons (opSc_den hs h1) (opSc_all hm h2)
    · cases h

theorem append_ok (hr : Rel W hp₀ β₀ β st a w) {id : Nat} {t u ty_ : TypeId} {s x : SV} {q : Option Prop} {v : LV} {d : List (Nat × Item)} (h : (appEv P id t u s x).val st.hp = some (q, v, d)) (hq : needs q) (hid : (∃ x, (id, x) ∈ d) → kd st.hp id = none)
    {sv xv : Value} (hs0 : s.den β (kd st.hp) sv) (hx0 : x.den β (kd st.hp) xv) :
    ∃ (β' : Env) (w' : World) (val : Value), (Builtin.append_ #[t, u] ty_ #[sv, xv]).run P w = .ok val w' ∧ v.den β' (kd (applyD d st.hp)) val ∧ HRel W hp₀ β₀ β' (applyD d st.hp) w' ∧ Agree β β' (kd st.hp) (kd (applyD d st.hp)) := by
  unfold appEv at h
  split at h
  · simp [Ask.val] at h
  rename_i el hsl
  split at h
  rotate_left
  · simp [Ask.val] at h
  rename_i ty sz z by_ hty hs hz hby
  split at h
  rotate_left
  · simp [Ask.val] at h
  rename_i hcond
  obtain ⟨rfl, hpos, hwz⟩ := hcond
  rw [Ask.val_bind] at h
  split at h
  rotate_left
  · simp [Ask.val] at h
  rename_i pm m hc
  split at h
  rotate_left
  · simp [Ask.val] at h
  rename_i hf
  obtain ⟨news, hsrc, hnews⟩ := srcAs_ok hr.heap hc hf hx0
  split at h
  · simp only [Ask.val] at h
    cases h
    have hid0 := hid ⟨_, by simp; rfl⟩
    obtain ⟨_, rfl⟩ := hs0
    have hq' : m.length * by_ ≤ 70368744177664 ∧ m.length ≤ 70368744177664 := hq
    have hnil : OwnOk β w (.slice none 0 0) ty [] := ⟨none, 0, 0, rfl, rfl, Nat.le_refl _, fun _ => rfl, fun h => absurd h (by omega)⟩
    obtain ⟨v', w', h1, h2, h3, h4, h5, h6, h7⟩ := append_own (ty_ := ty_) hsl hs hpos hz hwz hby hnil hsrc hnews (by simpa using hq'.1) (by simpa using hq'.2)
    rw [List.nil_append] at h2
    obtain ⟨β', k1, k2, k3⟩ := hr.heap.newOwn hid0 (ver := 0) h3 h4 h5 (fun b hb => h6 b hb (by rintro ⟨_, _, _, e, _⟩; simp at e)) h2 (fun a n c e h0 => (h7 a n c e h0).resolve_left (by rintro ⟨_, _, e, _⟩; simp at e))
    refine ⟨β', w', v', h1, ⟨?_, 0, ?_, Nat.le_refl _, fun _ => k3.symm⟩, k1, k2⟩
    · obtain ⟨_, _, _, rfl, _⟩ := h2; rfl
    · show kd (setAt st.hp id _) id = _
      rw [kd_setAt, if_pos rfl]; rfl
  · rename_i i ver
    simp only [Ask.val] at h
    split at h
    · rename_i ver' ty' l hi
      split at h
      · rename_i e; subst e
        split at h
        · rename_i e; subst e
          cases h
          obtain ⟨hok, hh⟩ := hr.heap.ownOf (p := fun v => sv = v) (itemAt_some hi) hs0.2
          have hq' : (l.length + m.length) * by_ ≤ 70368744177664 ∧ l.length + m.length ≤ 70368744177664 := hq
          obtain ⟨v', w', h1, h2, h3, h4, h5, h6, h7⟩ := append_own (ty_ := ty_) hsl hs hpos hz hwz hby hok hsrc hnews hq'.1 hq'.2
          obtain ⟨β', k1, k2, k3⟩ := hr.heap.updOwn (itemAt_some hi) (ver' := ver + 1) (l' := l ++ m) (v := v') (w' := w') (.inl (Nat.lt_succ_self _)) h3 h4 h5 (fun b hb hno => h6 b hb hno) h2
            (fun a n c e h0 => (h7 a n c e h0).imp (fun ⟨n', c', e', h'⟩ => ⟨a, n', c', e', h', rfl⟩) fun h => h)
          refine ⟨β', w', v', by rw [hh]; exact h1, ⟨?_, ver + 1, ?_, Nat.le_refl _, fun _ => k3.symm⟩, k1, k2⟩
          · obtain ⟨_, _, _, rfl, _⟩ := h2; rfl
          · show kd (setAt st.hp i _) i = _
            rw [kd_setAt, if_pos rfl]; rfl
        · cases h
      · cases h
    · cases h
  · simp [Ask.val] at h

theorem appZ_ok (hr : Rel W hp₀ β₀ β st a w) {id : Nat} {t u ty_ : TypeId} {s : SV} {k : IntKind} {n : Int} {q : Option Prop} {v : LV} {d : List (Nat × Item)} (h : (appZEv P id t u s n).val st.hp = some (q, v, d)) (hq : needs q) (hid : (∃ x, (id, x) ∈ d) → kd st.hp id = none)
    {sv : Value} (hs0 : s.den β (kd st.hp) sv) :
    ∃ (β' : Env) (w' : World) (val : Value), (Builtin.append_ #[t, u] ty_ #[sv, .int k n]).run P w = .ok val w' ∧ v.den β' (kd (applyD d st.hp)) val ∧ HRel W hp₀ β₀ β' (applyD d st.hp) w' ∧ Agree β β' (kd st.hp) (kd (applyD d st.hp)) := by
  unfold appZEv at h
  split at h
  rotate_left
  · simp [Ask.val] at h
  rename_i el kn hsl hku
  split at h
  rotate_left
  · simp [Ask.val] at h
  rename_i ty sz z by_ hty hs hz hby
  split at h
  rotate_left
  · simp [Ask.val] at h
  rename_i hcond
  obtain ⟨rfl, hpos, hwz⟩ := hcond
  split at h
  rotate_left
  · simp [Ask.val] at h
  rename_i z0 hz0
  split at h
  · simp only [Ask.val] at h
    cases h
    have hid0 := hid ⟨_, by simp; rfl⟩
    obtain ⟨_, rfl⟩ := hs0
    obtain ⟨hn0, hq1, hq2⟩ : 0 ≤ n ∧ n.toNat * by_ ≤ 70368744177664 ∧ n.toNat ≤ 70368744177664 := hq
    obtain ⟨m, rfl⟩ := Int.eq_ofNat_of_zero_le hn0
    simp only [Int.toNat_natCast] at hq1 hq2 ⊢
    have hnil : OwnOk β w (.slice none 0 0) ty [] := ⟨none, 0, 0, rfl, rfl, Nat.le_refl _, fun _ => rfl, fun h => absurd h (by omega)⟩
    obtain ⟨v', w', h1, h2, h3, h4, h5, h6, h7⟩ := append_zeros (ty_ := ty_) (kq := k) hsl hs hpos hz hwz hby hnil hku hz0 m (by simpa using hq1) (by simpa using hq2)
    rw [List.nil_append] at h2
    obtain ⟨β', k1, k2, k3⟩ := hr.heap.newOwn hid0 (ver := 0) h3 h4 h5 (fun b hb => h6 b hb (by rintro ⟨_, _, _, e, _⟩; simp at e)) h2 (fun a n c e h0 => (h7 a n c e h0).resolve_left (by rintro ⟨_, _, e, _⟩; simp at e))
    refine ⟨β', w', v', h1, ⟨?_, 0, ?_, Nat.le_refl _, fun _ => k3.symm⟩, k1, k2⟩
    · obtain ⟨_, _, _, rfl, _⟩ := h2; rfl
    · show kd (setAt st.hp id _) id = _
      rw [kd_setAt, if_pos rfl]; rfl
  · rename_i i ver
    simp only [Ask.val] at h
    split at h
    · rename_i ver' ty' l hi
      split at h
      · rename_i e; subst e
        split at h
        · rename_i e; subst e
          cases h
          obtain ⟨hok, hh⟩ := hr.heap.ownOf (p := fun v => sv = v) (itemAt_some hi) hs0.2
          obtain ⟨hn0, hq1, hq2⟩ : 0 ≤ n ∧ (l.length + n.toNat) * by_ ≤ 70368744177664 ∧ l.length + n.toNat ≤ 70368744177664 := hq
          obtain ⟨m, rfl⟩ := Int.eq_ofNat_of_zero_le hn0
          simp only [Int.toNat_natCast] at hq1 hq2 ⊢
          obtain ⟨v', w', h1, h2, h3, h4, h5, h6, h7⟩ := append_zeros (ty_ := ty_) (kq := k) hsl hs hpos hz hwz hby hok hku hz0 m hq1 hq2
          obtain ⟨β', k1, k2, k3⟩ := hr.heap.updOwn (itemAt_some hi) (ver' := ver + 1) (l' := l ++ List.replicate m z0) (v := v') (w' := w') (.inl (Nat.lt_succ_self _)) h3 h4 h5 (fun b hb hno => h6 b hb hno) h2
            (fun a n c e h0 => (h7 a n c e h0).imp (fun ⟨n', c', e', h'⟩ => ⟨a, n', c', e', h', rfl⟩) fun h => h)
          refine ⟨β', w', v', by rw [hh]; exact h1, ⟨?_, ver + 1, ?_, Nat.le_refl _, fun _ => k3.symm⟩, k1, k2⟩
          · obtain ⟨_, _, _, rfl, _⟩ := h2; rfl
          · show kd (setAt st.hp i _) i = _
            rw [kd_setAt, if_pos rfl]; rfl
        · cases h
      · cases h
    · cases h
  · simp [Ask.val] at h

theorem bi_ok (hr : Rel W hp₀ β₀ β st a w) {id : Nat} {b : Builtin} {ts : List TypeId} {xs : List LV} {vs : List Value} {q : Option Prop} {v : LV} {d : List (Nat × Item)}
    (h : (biEv P id b ts xs).val st.hp = some (q, v, d)) (hq : needs q) (hid : (∃ x, (id, x) ∈ d) → kd st.hp id = none) (hd : All2 (LV.den β (kd st.hp)) xs vs) (ty : TypeId) (cs : Array Bool) :
    BiOk P W hp₀ β₀ β st w (builtin b ts.toArray ty cs vs.toArray) v d := by
  have hpure : ∀ {s : Sem Value} {val : Value} {x : SV}, s.run P w = .ok val w → x.den β (kd st.hp) val → BiOk P W hp₀ β₀ β st w (do pure (.value (← s))) (.one (.sc x)) [] := by
    intro s val x h1 h2
    exact ⟨β, w, val, by rw [Sem.run_bind, h1]; rfl, h2, hr.heap, Agree.refl _ _⟩
  unfold biEv at h
  split at h
  · rename_i t x
    split at h
    · rename_i s hs
      rw [Ask.val_map] at h
      obtain ⟨n, hn, he⟩ := map_some h
      cases he
      cases hd with
      | cons h1 h2 =>
        cases h2
        exact hpure (len_ok hr hn (opSc_den hs h1)) rfl
    · simp [Ask.val] at h
  · rename_i t u s x
    split at h
    · rename_i s' k n hs hx
      cases hd with
      | cons h1 h2 =>
        cases h2 with
        | cons h2 h3 =>
          cases h3
          have e := opSc_den hx h2
          simp only [SV.den] at e
          subst e
          obtain ⟨β', w', val, k1, k2, k3, k4⟩ := appZ_ok (ty_ := ty) (k := k) hr h hq hid (opSc_den hs h1)
          exact ⟨β', w', val, by show (do pure (Next.value (← Builtin.append_ #[t, u] ty _)) : Sem Next).run P w = _; rw [Sem.run_bind, k1]; rfl, k2, k3, k4⟩
    · rename_i s' x' _ hs hx
      cases hd with
      | cons h1 h2 =>
        cases h2 with
        | cons h2 h3 =>
          cases h3
          obtain ⟨β', w', val, k1, k2, k3, k4⟩ := append_ok (ty_ := ty) hr h hq hid (opSc_den hs h1) (opSc_den hx h2)
          exact ⟨β', w', val, by show (do pure (Next.value (← Builtin.append_ #[t, u] ty _)) : Sem Next).run P w = _; rw [Sem.run_bind, k1]; rfl, k2, k3, k4⟩
    · simp [Ask.val] at h
  · rename_i t u s x
    split at h
    · rename_i s' x' hs hx
      cases hd with
      | cons h1 h2 =>
        cases h2 with
        | cons h2 h3 =>
          cases h3
          obtain ⟨β', w', val, k1, k2, k3, k4⟩ := copy_ok (ty_ := ty) hr h (opSc_den hs h1) (opSc_den hx h2)
          exact ⟨β', w', val, by show (do pure (Next.value (← Builtin.copy_ #[t, u] ty _)) : Sem Next).run P w = _; rw [Sem.run_bind, k1]; rfl, k2, k3, k4⟩
    · simp [Ask.val] at h
  · rename_i x l
    simp only [Ask.val] at h
    split at h
    · rename_i k x0 l0 hx hl
      obtain ⟨n, hn, he⟩ := map_some h
      cases he
      cases hd with
      | cons h1 h2 =>
        rename_i v0 vs0
        have e : v0 = .int k x0.val := opSc_den hx h1
        subst e
        have := minmax_ok (P := P) (w := w) (f := min2I) (g := Builtin.min2) (k := k) (fun x y => by simp [Builtin.min2, min2I]) l0 vs0 x0 n (opSc_all hl h2) hn
        refine hpure (s := Builtin.min_ ts.toArray ty (Value.int k x0.val :: vs0).toArray) (val := .int k n.val) ?_ rfl
        simp only [Builtin.min_]
        exact this
    · cases h
  · rename_i x l
    simp only [Ask.val] at h
    split at h
    · rename_i k x0 l0 hx hl
      obtain ⟨n, hn, he⟩ := map_some h
      cases he
      cases hd with
      | cons h1 h2 =>
        rename_i v0 vs0
        have e : v0 = .int k x0.val := opSc_den hx h1
        subst e
        have := minmax_ok (P := P) (w := w) (f := max2I) (g := Builtin.max2) (k := k) (fun x y => by simp [Builtin.max2, max2I]) l0 vs0 x0 n (opSc_all hl h2) hn
        refine hpure (s := Builtin.max_ ts.toArray ty (Value.int k x0.val :: vs0).toArray) (val := .int k n.val) ?_ rfl
        simp only [Builtin.max_]
        exact this
    · cases h
  · simp [Ask.val] at h
end

/-! ### Calls -/
/-- what a step may come to -/
inductive Out where
  | leaf (q : Option Prop) (v : LV) (d : List (Nat × Item))
  | ite (b : Bool) (x y : Out)
  | fail
def Out.of : Stp → Out
  | some (q, v, d) => .leaf q v d
  | none => .fail
/-- all that is asked is given, and whichever end is reached is as Q says -/
def Out.holds (Q : LV → List (Nat × Item) → Prop) : Out → Prop
  | .leaf q v d => needs q ∧ Q v d
  | .ite b x y => (b = true → x.holds Q) ∧ (b = false → y.holds Q)
  | .fail => False
/-- what comes new has no item's place -/
def Fresh (id : Nat) (hp : Hp) (d : List (Nat × Item)) : Prop := ∀ j x, (j, x) ∈ d → id ≤ j → kd hp j = none
def Out.fresh (id : Nat) (hp : Hp) : Out → Prop
  | .leaf _ _ d => Fresh id hp d
  | .ite _ x y => x.fresh id hp ∧ y.fresh id hp
  | .fail => True

structure Gam where
  run : FuncId → Nat → List LV → Ask Out
/-- a call that is answered at once, or entered -/
def Done (P : Program) (f : FuncId) (vals : Array Value) (w : World) (Q : Ending → World → Prop) : Prop :=
  (∃ val, (callFunc f vals).run P w = .ok (.value val) w ∧ Q (.returned val) w) ∨
    ((∀ (as : Array Value) (w : World), (callFunc f as).run P w = .ok (.enter f as) w) ∧ Calls P f vals w Q)
theorem Done.mono {P : Program} {f : FuncId} {vals : Array Value} {w : World} {Q Q' : Ending → World → Prop} (h : Done P f vals w Q) (hq : ∀ e w', Q e w' → Q' e w') : Done P f vals w Q' :=
  h.imp (fun ⟨v, h1, h2⟩ => ⟨v, h1, hq _ _ h2⟩) fun ⟨h1, h2⟩ => ⟨h1, h2.mono hq⟩
structure GOk (P : Program) (G : Gam) : Prop where
  calls : ∀ f id args hp, ((G.run f id args).val hp).fresh id hp → ∀ Q, ((G.run f id args).val hp).holds Q →
    ∀ (W : World) (hp₀ : Hp) (β₀ β : Env) (w : World) (vals : List Value), HRel W hp₀ β₀ β hp w → All2 (LV.den β (kd hp)) args vals →
      Done P f vals.toArray w fun e w' => ∃ v d val β', Q v d ∧ e = .returned val ∧ v.den β' (kd (applyD d hp)) val ∧ HRel W hp₀ β₀ β' (applyD d hp) w' ∧ Agree β β' (kd hp) (kd (applyD d hp))

def put (st : St) (dst : Option Tmp) (v : LV) (hp : Hp) : St :=
  match dst with
  | some d => ⟨st.fr.set d v, hp⟩
  | none => ⟨st.fr, hp⟩
theorem Rel.put {W : World} {hp₀ : Hp} {β₀ β β' : Env} {st : St} {a : Act} {w w' : World} (h : Rel W hp₀ β₀ β st a w) {dst : Option Tmp} {v : LV} {val : Value} {hp : Hp}
    (hv : v.den β' (kd hp) val) (hh : HRel W hp₀ β₀ β' hp w') (ha : Agree β β' (kd st.hp) (kd hp)) :
    Rel W hp₀ β₀ β' (put st dst v hp) (a.put dst val) w' := by
  have hfr : All2 (LV.den β' (kd hp)) st.fr a.tmps.toList := h.fr.imp fun _ _ => LV.den_mono ha
  cases dst with
  | none => exact ⟨h.defers, hfr, hh⟩
  | some d => exact ⟨h.defers, by
      show All2 (LV.den β' (kd hp)) (st.fr.set d v) (a.tmps.setIfInBounds d val).toList
      rw [Array.toList_setIfInBounds]
      exact hfr.set d hv, hh⟩

/-- the function that is called -/
def calleeOf : LV → Option FuncId
  | .one (.sc (.con (.func (.func f) fs cs))) => if fs.isEmpty && cs.isEmpty then some f else none
  | _ => none
/-- one operation -/
def stepA (P : Program) (G : Gam) (id : Nat) (e : Operand → LV) (op : Op) : Ask Out :=
  match op with
  | .call c => match c.callee with
    | .builtin b => (biEv P id b c.argTypes.toList (c.args.toList.map e)).map Out.of
    | .value f => match calleeOf (e f) with
      | some f => G.run f id (c.args.toList.map e)
      | none => .ret .fail
    | _ => .ret .fail
  | op => (opEv P id e op).map Out.of
/-- an operation, a choice's outcome being known -/
def stepH (P : Program) (G : Gam) (h : Option Bool) (id : Nat) (e : Operand → LV) (op : Op) : Ask Out :=
  match h, op with
  | some v, .pick c x y => match e c with
    | .one (.sc (.bool t)) => .ret (.leaf (some (t.val = v)) (if v then e x else e y) [])
    | _ => .ret .fail
  | _, op => stepA P G id e op

theorem stepA_ok {P : Program} {G : Gam} (hG : GOk P G) {id : Nat} {st : St} {o : Oper} (hf : ((stepA P G id (ev st) o.op).val st.hp).fresh id st.hp) {K : LV → List (Nat × Item) → Prop} (h : ((stepA P G id (ev st) o.op).val st.hp).holds K)
    {W : World} {hp₀ : Hp} {β₀ β : Env} {a : Act} {w : World} (hr : Rel W hp₀ β₀ β st a w) {next : Act → World → Prop} {Q : Exit → Act → World → Prop}
    (hn : ∀ v d β' a' w', K v d → Rel W hp₀ β₀ β' (put st o.dst v (applyD d st.hp)) a' w' → next a' w') : o.wp P a w next Q := by
  unfold stepA at h hf
  split at h
  · rename_i c hc
    have hargs : All2 (LV.den β (kd st.hp)) (c.args.toList.map (ev st)) (c.args.toList.map a.eval) := All2.of_map _ _ _ fun x _ => ev_den hr x
    have e2 : (c.args.toList.map a.eval).toArray = c.args.map a.eval := by rw [← Array.toList_map, Array.toArray_toList]
    simp only [hc] at hf
    split at h
    · rename_i b hb
      simp only [hb] at hf
      rw [Ask.val_map] at h hf
      cases hs : (biEv P id b c.argTypes.toList (c.args.toList.map (ev st))).val st.hp with
      | none => rw [hs] at h; exact h.elim
      | some r =>
        obtain ⟨q, v, d⟩ := r
        rw [hs] at h hf
        obtain ⟨hq, hk⟩ := h
        obtain ⟨β', w', val, h1, h2, h3, h4⟩ := bi_ok hr hs hq (fun ⟨x, hx⟩ => hf id x hx (Nat.le_refl _)) hargs o.type (c.args.map fun | .const _ => true | _ => false)
        rw [e2, Array.toArray_toList] at h1
        have hrun : (execOp a.eval o).run P w = .ok (.value val) w' := by
          simp only [execOp, hc, resolve, hb, Sem.run_bind, Sem.run_pure, Result.andThen_ok, invoke]
          exact h1
        unfold Oper.wp
        rw [hrun]
        exact hn v d β' _ w' hk (hr.put (dst := o.dst) h2 h3 h4)
    · rename_i x hx
      simp only [hx] at hf
      split at h
      · rename_i f hfn
        simp only [hfn] at hf
        have hdone := hG.calls f id _ _ hf K h W hp₀ β₀ β w _ hr.heap hargs
        unfold calleeOf at hfn
        split at hfn
        · rename_i g fs cs hx2
          split at hfn
          · rename_i hemp
            simp at hfn; subst hfn
            have hd := ev_den hr x
            rw [hx2] at hd
            have e : a.eval x = .func (.func g) fs cs := hd.2
            simp at hemp
            obtain ⟨rfl, rfl⟩ := hemp
            unfold Oper.wp
            rcases hdone with ⟨val, h1, v, d, val', β', hk, he, h3, h4, h5⟩ | ⟨h1, h2⟩
            · have hrun : (execOp a.eval o).run P w = .ok (.value val) w := by
                rw [e2] at h1
                simp only [execOp, hc, resolve, hx, e, Deferred.ofValue, Sem.run_bind, Sem.run_pure, Result.andThen_ok, invoke, Array.append_empty, Array.empty_append]
                exact h1
              rw [hrun]
              cases he
              exact hn v d β' _ w hk (hr.put (dst := o.dst) h3 h4 h5)
            · have hrun : (execOp a.eval o).run P w = .ok (.enter g (c.args.toList.map a.eval).toArray) w := by
                simp only [execOp, hc, resolve, hx, e, Deferred.ofValue, Sem.run_bind, Sem.run_pure, Result.andThen_ok, invoke, h1, e2]
                simp
              rw [hrun]
              refine h2.mono ?_
              rintro e w' ⟨v, d, val, β', hk, rfl, h3, h4, h5⟩
              exact hn v d β' _ w' hk (hr.put (dst := o.dst) h3 h4 h5)
          · cases hfn
        · cases hfn
      · exact h.elim
    · exact h.elim
  · rename_i hno
    have hf' : ((opEv P id (ev st) o.op).map Out.of).val st.hp |>.fresh id st.hp := by
      split at hf
      · rename_i c hc; exact absurd hc (hno c)
      · exact hf
    rw [Ask.val_map] at h hf'
    cases hs : (opEv P id (ev st) o.op).val st.hp with
    | none => rw [hs] at h; exact h.elim
    | some r =>
      obtain ⟨q, v, d⟩ := r
      rw [hs] at h hf'
      obtain ⟨hq, hk⟩ := h
      obtain ⟨β', w', r, val, h1, h2, h3, h4, h5⟩ := opEv_ok hs (fun ⟨x, hx⟩ => hf' id x hx (Nat.le_refl _)) hq W hp₀ β₀ β a w hr
      have := hn v d β' _ w' hk (hr.put (dst := o.dst) h3 h4 h5)
      unfold Oper.wp
      rw [h1]
      rcases h2 with rfl | ⟨rfl, rfl⟩
      · exact this
      · exact this

theorem stepH_ok {P : Program} {G : Gam} (hG : GOk P G) {g : Option Bool} {id : Nat} {st : St} {o : Oper} (hf : ((stepH P G g id (ev st) o.op).val st.hp).fresh id st.hp) {K : LV → List (Nat × Item) → Prop} (h : ((stepH P G g id (ev st) o.op).val st.hp).holds K)
    {W : World} {hp₀ : Hp} {β₀ β : Env} {a : Act} {w : World} (hr : Rel W hp₀ β₀ β st a w) {next : Act → World → Prop} {Q : Exit → Act → World → Prop}
    (hn : ∀ v d β' a' w', K v d → Rel W hp₀ β₀ β' (put st o.dst v (applyD d st.hp)) a' w' → next a' w') : o.wp P a w next Q := by
  unfold stepH at h hf
  split at h
  · rename_i b c x y ho
    split at h
    · rename_i t ht
      obtain ⟨hq, hk⟩ := h
      have htb : t.val = b := hq
      have hc := ev_den hr c; rw [ht] at hc
      have e : a.eval c = .bool t.val := hc
      have hrun : (execOp a.eval o).run P w = .ok (.value (if b then a.eval x else a.eval y)) w := by
        simp [execOp, ho, e, asBool, htb]
      unfold Oper.wp
      rw [hrun]
      refine hn _ _ β _ w hk (hr.put (dst := o.dst) (hp := st.hp) ?_ hr.heap (Agree.refl _ _))
      cases b
      · exact ev_den hr y
      · exact ev_den hr x
    · exact h.elim
  · rename_i hno
    have hf' : ((stepA P G id (ev st) o.op).val st.hp).fresh id st.hp := by
      split at hf
      · rename_i b c x y ho; exact absurd ho (hno b c x y rfl)
      · exact hf
    exact stepA_ok hG hf' h hr hn

/-- is an operation carried out? -/
def wantedEv (st : St) (ops : Array Oper) (o : Oper) : Option SB :=
  match o.guard with
  | none => some (.lit true)
  | some (j, want) => match (ops[j]?).bind (·.dst) with
    | none => some (.lit false)
    | some d => match st.fr[d]? with
      | some (.one (.sc (.bool (.lit b)))) => some (.lit (b == want))
      | some (.one (.sc (.bool (.sym b)))) => some (.sym (b == want))
      | some (.tup _) => some (.lit false)
      | some (.one (.sc (.int _ _))) => some (.lit false)
      | none => some (.lit false)
      | _ => none

theorem wantedEv_ok {W : World} {hp₀ : Hp} {β₀ β : Env} {st : St} {a : Act} {w : World} (h : Rel W hp₀ β₀ β st a w) {ops : Array Oper} {o : Oper} {b : SB}
    (hb : wantedEv st ops o = some b) : Region.wanted o (yielded ops a.tmps) = b.val := by
  unfold wantedEv at hb
  unfold Region.wanted
  split at hb
  · rename_i hg; simp at hb; subst hb; simp [hg, SB.val]
  · rename_i j want hg
    simp only [hg]
    unfold yielded
    split at hb
    · rename_i hd; simp at hb; subst hb; simp [hd, SB.val]
    · rename_i d hd
      simp only [hd, Option.bind_some]
      have hlen := h.fr.length
      split at hb
      · rename_i x hx
        obtain ⟨v, hv, hden⟩ := h.fr.get hx
        have hv' : a.tmps[d]? = some v := by simpa using hv
        have e : v = .bool x := hden
        simp at hb; subst hb; simp [hv', e, SB.val]
      · rename_i x hx
        obtain ⟨v, hv, hden⟩ := h.fr.get hx
        have hv' : a.tmps[d]? = some v := by simpa using hv
        have e : v = .bool x := hden
        simp at hb; subst hb; simp [hv', e, SB.val]
      · rename_i l hx
        obtain ⟨v, hv, vs, e, _⟩ := h.fr.get hx
        have hv' : a.tmps[d]? = some v := by simpa using hv
        simp at hb; subst hb; simp [hv', e, SB.val]
      · rename_i k i hx
        obtain ⟨v, hv, hden⟩ := h.fr.get hx
        have hv' : a.tmps[d]? = some v := by simpa using hv
        have e : v = .int k i.val := hden
        simp at hb; subst hb; simp [hv', e, SB.val]
      · rename_i hx
        have hv' : a.tmps[d]? = none := by
          have := List.getElem?_eq_none_iff.1 hx
          rw [Array.getElem?_eq_none_iff, ← Array.length_toList]
          omega
        simp at hb; subst hb; simp [hv', SB.val]
      · simp at hb

/-! ### Guards that are known -/
abbrev Asm := List (Tmp × Bool)
def known : Asm → Tmp → Option Bool
  | [], _ => none
  | (d, v) :: l, t => if d = t then some v else known l t
def forget (a : Asm) : Option Tmp → Asm
  | none => a
  | some d => a.filter fun p => p.1 != d
def wantedA (a : Asm) (st : St) (ops : Array Oper) (o : Oper) : Option SB :=
  match o.guard with
  | none => some (.lit true)
  | some (j, want) => match (ops[j]?).bind (·.dst) with
    | none => some (.lit false)
    | some d => match known a d with
      | some v => some (.lit (v == want))
      | none => wantedEv st ops o
def learn (a : Asm) (ops : Array Oper) (o : Oper) (v : Bool) : Asm :=
  match o.guard with
  | none => a
  | some (j, want) => match (ops[j]?).bind (·.dst) with
    | none => a
    | some d => (d, v == want) :: a
def AsmOk (a : Asm) (st : St) : Prop := ∀ d v, known a d = some v → ∃ x : SB, st.fr[d]? = some (.one (.sc (.bool x))) ∧ x.val = v

theorem known_forget {a : Asm} {e d : Tmp} {v : Bool} (h : known (forget a (some e)) d = some v) : d ≠ e ∧ known a d = some v := by
  induction a with
  | nil => simp [forget, known] at h
  | cons p a ih =>
    obtain ⟨t, u⟩ := p
    simp only [forget, List.filter_cons] at h ih
    split at h
    · rename_i hne
      simp only [known] at h ⊢
      split at h
      · rename_i htd; subst htd
        simp at h hne; exact ⟨hne, by simp [h]⟩
      · rename_i htd
        rw [if_neg htd]; exact ih h
    · rename_i hne
      simp at hne; subst hne
      obtain ⟨h1, h2⟩ := ih h
      exact ⟨h1, by simp only [known, if_neg (Ne.symm h1)]; exact h2⟩

theorem AsmOk.put {a : Asm} {st : St} (h : AsmOk a st) {dst : Option Tmp} {v : LV} {hp : Hp} : AsmOk (forget a dst) (put st dst v hp) := by
  intro d u hd
  cases dst with
  | none => exact h d u hd
  | some e =>
    obtain ⟨h1, h2⟩ := known_forget hd
    obtain ⟨x, hx, hv⟩ := h d u h2
    exact ⟨x, by simp only [Ev.put]; rw [List.getElem?_set_ne (Ne.symm h1)]; exact hx, hv⟩

theorem wantedA_ok {a : Asm} {st : St} (h : AsmOk a st) {ops : Array Oper} {o : Oper} {b : SB} (hb : wantedA a st ops o = some b) : ∃ b', wantedEv st ops o = some b' ∧ b'.val = b.val := by
  unfold wantedA at hb
  split at hb
  · rename_i hg; simp at hb; subst hb; exact ⟨.lit true, by simp [wantedEv, hg], rfl⟩
  · rename_i j want hg
    split at hb
    · rename_i hd; simp at hb; subst hb; exact ⟨.lit false, by simp [wantedEv, hg, hd], rfl⟩
    · rename_i d hd
      split at hb
      · rename_i v hk
        simp at hb; subst hb
        obtain ⟨x, hx, hv⟩ := h d v hk
        cases x with
        | lit x => exact ⟨.lit (x == want), by simp [wantedEv, hg, hd, hx], by simp only [SB.val] at hv ⊢; rw [hv]⟩
        | sym x => exact ⟨.sym (x == want), by simp [wantedEv, hg, hd, hx], by simp only [SB.val] at hv ⊢; rw [hv]⟩
      · exact ⟨b, hb, rfl⟩

theorem learn_ok {a : Asm} {st : St} (h : AsmOk a st) {ops : Array Oper} {o : Oper} {b : Bool} (hb : wantedA a st ops o = some (.sym b)) : AsmOk (learn a ops o b) st := by
  unfold wantedA at hb
  split at hb
  · simp at hb
  · rename_i j want hg
    split at hb
    · simp at hb
    · rename_i d hd
      have hl : learn a ops o b = (d, b == want) :: a := by simp only [learn, hg, hd]
      rw [hl]
      split at hb
      · simp at hb
      · intro e v he
        simp only [known] at he
        split at he
        · rename_i hde; subst hde
          simp at he; subst he
          simp only [wantedEv, hg, hd] at hb
          split at hb <;> simp at hb
          rename_i x hx
          subst hb
          exact ⟨.sym x, hx, by cases x <;> cases want <;> rfl⟩
        · exact h e v he

end Go.Ev
