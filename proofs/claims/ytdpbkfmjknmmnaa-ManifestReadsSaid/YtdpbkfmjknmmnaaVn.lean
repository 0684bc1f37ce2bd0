/- A reader of code, third make: the laws of builtin functions. -/
import Derived.Test.YtdpbkfmjknmmnaaVm
set_option linter.unusedVariables false
set_option linter.unusedSimpArgs false
namespace Go.Ev
open Go

section
variable {P : Program} {W : World} {hp₀ : Hp} {β₀ β : Env} {hp : Hp} {w : World}

theorem over_eq {α : Type} (l : List α) (z len : Nat) (m : List α) : overL l z len m = l.take z ++ (m.take (min m.length len) ++ l.drop (z + min m.length len)) := by
  unfold overL
  rw [Nat.min_comm len m.length]
  congr 2
  rcases Nat.le_total m.length len with h | h
  · rw [Nat.min_eq_left h, List.take_of_length_le h, List.take_length]
  · rw [Nat.min_eq_right h]
theorem over_length {α : Type} {l : List α} {z len : Nat} {m : List α} (h : z + len ≤ l.length) : (overL l z len m).length = l.length := by
  rw [over_eq]
  simp only [List.length_append, List.length_take, List.length_drop]
  omega

theorem run_copy {β : Env} {pm : Bool} {t u el e' ty_ : TypeId} {ty : Ty} (hsl : sliceT P t = some el) (hu : sliceT P u = some e') (hs : sizeT P el = some ty.w) {v : Value} {m : List ty.D} (hr : ReadsAs β pm w v ty m) (dLen c : Nat) :
    ∃ ws, HasL (ty.has β pm) (m.take (min m.length dLen)) ws ∧ ∀ (base : Option Addr) (w' : World), (∀ a, base = some a → (storeCells a ws).run P w = .ok () w') → (base = none → w' = w) →
      (Builtin.copy_ #[t, u] ty_ #[.slice base dLen c, v]).run P w = .ok (.int .i64 ((min m.length dLen : Nat) : Int)) w' := by
  obtain ⟨a, n, c', rfl, rfl, hc, _, hrest⟩ := hr
  have key : ∃ ws, HasL (ty.has β pm) (m.take (min m.length dLen)) ws ∧ (Builtin.firstCells ty.w (min m.length dLen) (.slice a m.length c')).run P w = .ok ws.toArray w := by
    rcases Nat.eq_zero_or_pos m.length with h0 | h0
    · have : m = [] := List.eq_nil_of_length_eq_zero h0
      subst this
      refine ⟨[], by simpa using HasL.nil, ?_⟩
      cases a with
      | none => simp [Builtin.firstCells]
      | some a => simp [Builtin.firstCells, loadCells, loadCellsFrom]
    · obtain ⟨a0, vss, rfl, h1, h2, h3⟩ := hrest h0
      obtain ⟨v1, v2, rfl, k1, k2⟩ := hasL_take h2 (min m.length dLen)
      refine ⟨v1, k1, ?_⟩
      have hl : v1.length = min m.length dLen * ty.w := by rw [hasL_length k1, List.length_take]; congr 1; omega
      have hh : HoldsAt w a0 v1 := fun i x hi => h3 i x (by rw [List.getElem?_append_left (List.getElem?_eq_some_iff.1 hi).1]; exact hi)
      have := run_loadRow (P := P) hh
      rw [hl] at this
      exact this
  obtain ⟨ws, h1, h2⟩ := key
  refine ⟨ws, h1, fun base w' hw hn => ?_⟩
  have hmin : Nat.min m.length dLen = min m.length dLen := rfl
  unfold Builtin.copy_
  simp only [List.getElem?_toArray, List.getElem?_cons_zero, List.getElem?_cons_succ, Sem.run_bind, run_underlying (sliceT_eq hsl), Result.andThen_ok, Builtin.lenOf, Sem.run_pure, run_sizeOf hs, hmin, h2]
  cases base with
  | none => rw [hn rfl]; rfl
  | some a => simp only [Sem.run_bind, hw a rfl]; rfl

/-- elements put over others, in a row of cells -/
theorem hasL_over {β : Env} {ty : Ty} {l m : List ty.D} {z len : Nat} {vss ws : List Value} (h : HasL (ty.has β true) l vss) (hz : z + len ≤ l.length) (hw : HasL (ty.has β true) (m.take (min m.length len)) ws) :
    ∃ p old r, vss = p ++ (old ++ r) ∧ p.length = z * ty.w ∧ old.length = ws.length ∧ HasL (ty.has β true) (overL l z len m) (p ++ (ws ++ r)) := by
  obtain ⟨p, v2, rfl, k1, k2⟩ := hasL_take h z
  obtain ⟨old, r, rfl, k3, k4⟩ := hasL_take k2 (min m.length len)
  refine ⟨p, old, r, rfl, ?_, ?_, ?_⟩
  · rw [hasL_length k1, List.length_take, Nat.min_eq_left (by omega)]
  · rw [hasL_length k3, hasL_length hw, List.length_take, List.length_take, List.length_drop]
    congr 1; omega
  · rw [over_eq]
    rw [List.drop_drop] at k4
    exact k1.append (hw.append k4)

theorem HRel.overOwn (h : HRel W hp₀ β₀ β hp w) {i ver : Nat} {t : Ty} {l m : List t.D} (hi : hp[i]? = some (some (.own ver t l))) {a : Option Addr} {n c : Nat} (he : β.h i = .slice a n c) {z len : Nat} (hz : z + len ≤ l.length)
    {ws : List Value} (hw : HasL (t.has β true) (m.take (min m.length len)) ws) :
    ∃ w' β', (∀ a0, a = some a0 → (storeCells (a0.add (z * t.w)) ws).run P w = .ok () w') ∧ (a = none → w' = w) ∧ (ws = [] → w' = w) ∧ HRel W hp₀ β₀ β' (setAt hp i (.own ver t (overL l z len m))) w' ∧ Agree β β' (kd hp) (kd (setAt hp i (.own ver t (overL l z len m)))) := by
  have hit : OwnOk β w (β.h i) t l := h.items _ _ hi
  have hit0 := hit
  obtain ⟨a', n', c', e, hn1, hn2, hnone, h4⟩ := hit
  rw [he] at e; simp at e; obtain ⟨rfl, rfl, rfl⟩ := e
  rcases Nat.eq_zero_or_pos c with hc | hc
  · have hl0 : l = [] := List.eq_nil_of_length_eq_zero (by omega)
    subst hl0
    have hlen : len = 0 := by simp at hz; omega
    subst hlen
    have hws : ws = [] := by
      have := hasL_length hw
      simp only [Nat.min_zero, List.take_zero, List.length_nil, Nat.zero_mul] at this
      exact List.eq_nil_of_length_eq_zero this
    subst hws
    have hov : overL ([] : List t.D) z 0 m = [] := by rw [over_eq]; simp
    rw [hov]
    obtain ⟨β', s1, s2, _⟩ := h.updOwn hi (ver' := ver) (l' := []) (v := β.h i) (w' := w) (.inr ⟨rfl, rfl⟩) (Nat.le_refl _) rfl rfl (fun _ _ _ => rfl) hit0 (fun a n c e h0 => .inl ⟨a, n, c, e, h0, rfl⟩)
    exact ⟨w, β', fun a0 _ => rfl, fun _ => rfl, fun _ => rfl, s1, s2⟩
  · obtain ⟨a0, pre, vss, rest, elem, fz, rfl, k1, k2, k3, k4, k5, k6⟩ := h4 hc
    obtain ⟨p, old, r, rfl, e1, e2, h9⟩ := hasL_over k4 hz hw
    obtain ⟨w', r1, r2, r3, r4, r5, r6⟩ := run_storeRow (P := P) (a := a0.add (z * t.w)) (add_spot k1 _) (elem := elem) (fz := fz) ws 0 (pre ++ p) old (r ++ rest) w
      (by rw [add_block, k2]; simp) (by
        obtain ⟨b0, o0, s0⟩ := a0
        simp at k1 k3; subst k1
        rw [addr_add]; simp [k3, e1]) e2 (hasL_one hw) (fun off q1 q2 => k6.not (by simp at q2 ⊢; omega))
    rw [add_block] at r2 r3
    obtain ⟨β', s1, s2, s3⟩ := h.updOwn hi (ver' := ver) (l' := overL l z len m) (v := β.h i) (w' := w') (.inr ⟨rfl, rfl⟩) (by omega) r5 r6 (fun b hb hno => by
        refine r3 b fun e => hno ?_
        subst e
        exact ⟨a0, n, c, he, hc, rfl⟩)
      (by
        rw [he]
        refine ⟨some a0, n, c, rfl, by rw [over_length hz]; exact hn1, hn2, by simp, fun _ => ⟨a0, pre, p ++ (ws ++ r), rest, elem, fz, rfl, k1, ?_, k3, h9, k5, ?_⟩⟩
        · rw [r2]; simp
        · have : (pre ++ (p ++ (ws ++ r) ++ rest)).length = (pre ++ (p ++ (old ++ r) ++ rest)).length := by simp [e2]
          rw [this]; exact k6)
      (fun a n c e h0 => .inl ⟨a, n, c, e, h0, rfl⟩)
    refine ⟨w', β', fun a1 e => by simp at e; subst e; exact r1, fun e => (by cases e), fun e => ?_, s1, s2⟩
    subst e
    have : (storeCells (a0.add (z * t.w)) []).run P w = .ok () w := rfl
    rw [this] at r1; cases r1; rfl

/-- elements put over others, in a block's row -/
theorem HRel.overRow (h : HRel W hp₀ β₀ β hp w) {b o : Nat} {t : Ty} {k : Nat} {cells cells' : List SV} {elem : TypeId} {l m : List t.D} (hi : hp[b]? = some (some (.blk cells elem))) (hrow : rowAt cells o = some (.arr t k l)) {z len : Nat} (hz : z + len ≤ k)
    (hset : setRowAt cells o (.arr t k (overL l z len m)) = some cells') {ws : List Value} (hw : HasL (t.has β true) (m.take (min m.length len)) ws) :
    ∃ w', (storeCells ((⟨β.b b, o, none⟩ : Addr).add (z * t.w)) ws).run P w = .ok () w' ∧ (ws = [] → w' = w) ∧ HRel W hp₀ β₀ β (setAt hp b (.blk cells' elem)) w' ∧ Agree β β (kd hp) (kd (setAt hp b (.blk cells' elem))) := by
  obtain ⟨cs, fz, g1, g2, g3, _⟩ := h.blkAt hi
  have hlk : l.length = k := by
    obtain ⟨_, _, _, _, _, hh, _⟩ := rowAt_ok _ _ hrow g3; exact hh
  obtain ⟨pre, mid, post, rfl, e3, _, h6, h7⟩ := setRowAt_ok _ _ hrow hset g3 (by rw [over_length (by omega)]; exact hlk)
  obtain ⟨p, old, r, rfl, e1, e2, h9⟩ := hasL_over (z := z) (len := len) h6 (by rw [hlk]; exact hz) hw
  obtain ⟨w', r1, r2, r3, r4, r5, r6⟩ := run_storeRow (P := P) (a := ⟨β.b b, o + z * t.w, none⟩) rfl (elem := elem) (fz := fz) ws 0 (pre ++ p) old (r ++ post) w
    (by rw [g1]; simp) (by simp [e3, e1]) e2 (hasL_one hw) (fun off q1 q2 => g2.not (by simp at q2 ⊢; omega))
  obtain ⟨s1, s2⟩ := h.updBlk hi (cells' := cells') (w' := w') (by omega) r5 r6 r3 (c := pre ++ ((p ++ (ws ++ r)) ++ post)) (fz := fz)
    (by rw [r2]; simp) (by
      have : (pre ++ ((p ++ (ws ++ r)) ++ post)).length = (pre ++ ((p ++ (old ++ r)) ++ post)).length := by simp [e2]
      rw [this]; exact g2) (h7 _ h9)
  refine ⟨w', by rw [addr_add]; exact r1, fun e => ?_, s1, s2⟩
  subst e
  have : (storeCells ⟨β.b b, o + z * t.w, none⟩ []).run P w = .ok () w := rfl
  rw [this] at r1; cases r1; rfl

theorem flatMap_den {L : Nat → Option Kd} {ty : Ty} : ∀ {l : List ty.D} {vs : List Value}, HasL (ty.has β true) l vs → DenL β L (l.flatMap (ty.svs true)) vs
  | [], _, h => by cases h; exact .nil
  | x :: l, _, .cons h t => by rw [List.flatMap_cons]; exact (ty.svs_ok h).append (flatMap_den t)
theorem range_getD_map {α : Type} (l : List α) (d : α) : (List.range l.length).map (fun j => l.getD j d) = l := by
  apply List.ext_getElem
  · simp
  · intro i h1 h2; simp at h1 ⊢; simp [h1]

theorem copy_ok {st : St} {a : Act} (hr : Rel W hp₀ β₀ β st a w) {t u ty_ : TypeId} {d x : SV} {q : Option Prop} {v : LV} {dl : List (Nat × Item)} (h : (copyEv P t u d x).val st.hp = some (q, v, dl)) {dv xv : Value} (hd : d.den β (kd st.hp) dv) (hx : x.den β (kd st.hp) xv) :
    ∃ (β' : Env) (w' : World) (val : Value), (Builtin.copy_ #[t, u] ty_ #[dv, xv]).run P w = .ok val w' ∧ v.den β' (kd (applyD dl st.hp)) val ∧ HRel W hp₀ β₀ β' (applyD dl st.hp) w' ∧ Agree β β' (kd st.hp) (kd (applyD dl st.hp)) := by
  unfold copyEv at h
  split at h
  · simp [Ask.val] at h
  rename_i el hsl
  split at h
  rotate_left
  · simp [Ask.val] at h
  rename_i ty sz hty hs
  split at h
  rotate_left
  · simp [Ask.val] at h
  rename_i hcond
  obtain ⟨rfl, hpos⟩ := hcond
  rw [Ask.val_bind] at h
  split at h
  rotate_left
  · simp [Ask.val] at h
  rename_i pm m hc
  split at h
  rotate_left
  · simp [Ask.val] at h
  rename_i hf
  have hu : ∃ e', sliceT P u = some e' ∧ (contAs ty x).val st.hp = some (pm, m) := by
    split at hc
    · rename_i e' he; exact ⟨e', he, hc⟩
    · simp [Ask.val] at hc
  obtain ⟨e', hu, hc⟩ := hu
  have hread := contAs_ok hr.heap hc hx
  have hperm : ∀ {k : Nat} {ws : List Value}, HasL (ty.has β pm) (m.take k) ws → HasL (ty.has β true) (m.take k) ws := by
    intro k ws hh
    cases pm with
    | true => exact hh
    | false => exact hh.imp fun _ _ => ty.has_pm (by simpa using hf)
  split at h
  · -- own
    rename_i i ver
    simp only [Ask.val] at h
    split at h
    · rename_i ver' ty' l hi
      split at h
      · rename_i e; subst e
        split at h
        · rename_i e; subst e
          cases h
          obtain ⟨hok, hh⟩ := hr.heap.ownOf (p := fun v => dv = v) (itemAt_some hi) hd.2
          obtain ⟨base, n, c, e1, hn, _⟩ := hok
          obtain ⟨ws, k1, k2⟩ := run_copy (ty_ := ty_) hsl hu hs hread n c
          rw [hn] at k1
          obtain ⟨w', β', r1, r2, _, r3, r4⟩ := hr.heap.overOwn (P := P) (itemAt_some hi) e1 (z := 0) (len := l.length) (by omega) (hperm k1)
          have hrun := k2 base w' (fun a0 e => by have := r1 a0 e; rw [Nat.zero_mul] at this; exact this) r2
          refine ⟨β', w', _, by rw [hh, e1]; exact hrun, ?_, r3, r4⟩
          rw [hn]; rfl
        · cases h
      · cases h
    · cases h
  · -- a part of an own one
    rename_i i ver w0 z n
    simp only [Ask.val] at h
    split at h
    · rename_i ver' ty' l hi
      split at h
      · rename_i e; subst e
        split at h
        · rename_i e; obtain ⟨rfl, rfl⟩ := e
          cases h
          obtain ⟨hok, hh⟩ := hr.heap.ownOf (p := fun v => SubOf v ty'.w z n dv) (itemAt_some hi) hd.2
          obtain ⟨base, n1, c1, e1, hn, _⟩ := hok
          obtain ⟨a2, m2, c2, a3, c3, e2, z0, n0, hle, rfl, _, _, hadr⟩ := hh
          rw [e1] at e2; simp at e2; obtain ⟨rfl, rfl, rfl⟩ := e2
          obtain ⟨ws, k1, k2⟩ := run_copy (ty_ := ty_) hsl hu hs hread n.toNat c3
          obtain ⟨w', β', r1, r2, r0, r3, r4⟩ := hr.heap.overOwn (P := P) (itemAt_some hi) e1 (z := z.toNat) (len := n.toNat) (by omega) (hperm k1)
          refine ⟨β', w', _, k2 a3 w' (fun a0 e => ?_) (fun e => ?_), rfl, r3, r4⟩
          · rcases Int.lt_or_le 0 n with h0 | h0
            · obtain ⟨a4, e4, e5⟩ := hadr h0
              rw [e] at e5; simp at e5; subst e5
              exact r1 _ e4
            · have : ws = [] := by
                have := hasL_length k1
                rw [show n.toNat = 0 from by omega] at this
                simp at this; exact this
              subst this
              rw [r0 rfl]; rfl
          · rcases Int.lt_or_le 0 n with h0 | h0
            · obtain ⟨a4, e4, e5⟩ := hadr h0
              rw [e] at e5; cases e5
            · have : ws = [] := by
                have := hasL_length k1
                rw [show n.toNat = 0 from by omega] at this
                simp at this; exact this
              exact r0 this
        · cases h
      · cases h
    · cases h
  · -- a part of a row
    rename_i b o' ty0 k z n
    simp only [Ask.val] at h
    split at h
    · rename_i cells elem hi
      split at h
      · rename_i ty' k' l hrow
        split at h
        · rename_i e; subst e
          split at h
          · rename_i e; obtain ⟨rfl, rfl⟩ := e
            obtain ⟨cells', hset, he⟩ := map_some h
            cases he
            obtain ⟨hb, z0, n0, zn, a3, c3, rfl, _, _, hadr⟩ := hd
            obtain ⟨ws, k1, k2⟩ := run_copy (ty_ := ty_) hsl hu hs hread n.toNat c3
            obtain ⟨w', r1, r0, r3, r4⟩ := hr.heap.overRow (P := P) (itemAt_some hi) hrow (z := z.toNat) (len := n.toNat) (by omega) hset (hperm k1)
            refine ⟨β, w', _, k2 a3 w' (fun a0 e => ?_) (fun e => ?_), rfl, r3, r4⟩
            · rcases Int.lt_or_le 0 n with h0 | h0
              · have e5 := hadr h0
                rw [e] at e5; simp at e5; subst e5
                exact r1
              · have : ws = [] := by
                  have := hasL_length k1
                  rw [show n.toNat = 0 from by omega] at this
                  simp at this; exact this
                subst this
                rw [r0 rfl]; rfl
            · rcases Int.lt_or_le 0 n with h0 | h0
              · have e5 := hadr h0
                rw [e] at e5; cases e5
              · have : ws = [] := by
                  have := hasL_length k1
                  rw [show n.toNat = 0 from by omega] at this
                  simp at this; exact this
                exact r0 this
          · cases h
        · cases h
      · cases h
    · cases h
  · -- cells that are written out
    rename_i b o' n cp
    simp only [Ask.val] at h
    split at h
    · rename_i cells elem hi
      split at h
      · rename_i s hsub
        split at h
        · rename_i l hl
          obtain ⟨cells', hput, he⟩ := map_some h
          cases he
          obtain ⟨hb, rfl⟩ := hd
          obtain ⟨ws, k1, k2⟩ := run_copy (ty_ := ty_) hsl hu hs hread n cp
          obtain ⟨cs, fz, g1, g2, g3, _⟩ := hr.heap.blkAt (itemAt_some hi)
          obtain ⟨pre, mid, post, e1, e2, e3, h4⟩ := subL_ok hsub g3
          obtain ⟨h5, h6⟩ := readN_ok (R := ty.has β true) (fun a x vs h hd => ty.read_ok h hd) _ hl h4
          obtain ⟨p, old, r, e4, e5, e6, h9⟩ := hasL_over h5 (z := 0) (len := n) (by omega) (hperm k1)
          have hp0 : p = [] := List.eq_nil_of_length_eq_zero (by rw [e5]; simp)
          subst hp0
          have hnew : DenL β (kd st.hp) ((List.range n).flatMap fun j => ty.svs true ((overL l 0 n m).getD j ty.z)) (ws ++ r) := by
            have : ((List.range n).flatMap fun j => ty.svs true ((overL l 0 n m).getD j ty.z)) = (overL l 0 n m).flatMap (ty.svs true) := by
              have hlen : (overL l 0 n m).length = n := by rw [over_length (by omega)]; exact h6
              conv => rhs; rw [← range_getD_map (overL l 0 n m) ty.z, hlen]
              rw [List.flatMap_map]
            rw [this]
            exact flatMap_den (by simpa using h9)
          obtain ⟨pre', mid', post', f1, f2, f3, f4⟩ := cutput_ok hput _ _ g3 hnew
          have hpm : pre = pre' ∧ mid = mid' ∧ post = post' := by
            have hml : mid.length = mid'.length := by
              rw [f3, e4]; simp [e6]
            rw [e1] at f1
            obtain ⟨g, g'⟩ := List.append_inj f1 (by rw [e2, f2])
            obtain ⟨g4, g5⟩ := List.append_inj g' hml
            exact ⟨g, g4, g5⟩
          obtain ⟨rfl, rfl, rfl⟩ := hpm
          subst e4
          obtain ⟨w', r1, r2, r3, r4, r5, r6⟩ := run_storeRow (P := P) (a := ⟨β.b b, o', none⟩) rfl (elem := elem) (fz := fz) ws 0 pre old (r ++ post) w
            (by rw [g1, e1]; simp) (by simp [e2]) e6 (hasL_one k1) (fun off q1 q2 => g2.not (by rw [e1]; simp at q2 ⊢; omega))
          obtain ⟨s1, s2⟩ := hr.heap.updBlk (itemAt_some hi) (cells' := cells') (w' := w') (by omega) r5 r6 r3 (c := pre ++ ((ws ++ r) ++ post)) (fz := fz)
            (by rw [r2]; simp) (by
              have : (pre ++ ((ws ++ r) ++ post)).length = cs.length := by rw [e1]; simp [e6]
              rw [this]; exact g2) f4
          exact ⟨β, w', _, k2 _ w' (fun a0 e => by simp at e; subst e; exact r1) (fun e => by cases e), rfl, s1, s2⟩
        · cases h
      · cases h
    · cases h
  · simp [Ask.val] at h
end
end Go.Ev
