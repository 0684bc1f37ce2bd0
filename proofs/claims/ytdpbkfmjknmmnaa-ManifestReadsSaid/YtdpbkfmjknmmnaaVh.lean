/- A reader of code, third make: the laws of loads, stores, elements. -/
import Derived.Test.YtdpbkfmjknmmnaaVg
set_option linter.unusedVariables false
set_option linter.unusedSimpArgs false
namespace Go.Ev
open Go

section
variable {P : Program} {st : St} {o : Oper} {q : Option Prop} {v : LV} {d : List (Nat × Item)}

theorem hasL_mid {β : Env} {t : Ty} {pm : Bool} {l : List t.D} {vs : List Value} (h : HasL (t.has β pm) l vs) {j n : Nat} (hj : j + n ≤ l.length) :
    ∃ pre mid post, vs = pre ++ (mid ++ post) ∧ pre.length = j * t.w ∧ mid.length = n * t.w ∧ HasL (t.has β pm) ((l.drop j).take n) mid := by
  obtain ⟨v1, v2, rfl, k1, k2⟩ := hasL_take h j
  obtain ⟨v3, v4, rfl, k3, k4⟩ := hasL_take k2 n
  refine ⟨v1, v3, v4, rfl, ?_, ?_, k3⟩
  · rw [hasL_length k1, List.length_take, Nat.min_eq_left (by omega)]
  · rw [hasL_length k3, List.length_take, List.length_drop, Nat.min_eq_left (by omega)]

theorem load_ok {t : TypeId} {x : Operand} {s : SV} (ho : o.op = .load t x) (hx : opSc (ev st x) = some s) (h : (loadEv P t s).val st.hp = some (q, v, d)) : OpOk P o st q v d := by
  have key : ∀ {v : LV}, (needs q → ∀ (W : World) (hp₀ : Hp) (β₀ β : Env) (a : Act) (w : World), Rel W hp₀ β₀ β st a w → s.den β (kd st.hp) (a.eval x) →
      ∃ (ad : Addr) (val : Value), a.eval x = .pointer (some ad) ∧ (loadVar t ad).run P w = .ok val w ∧ v.den β (kd st.hp) val) → OpOk P o st q v [] := by
    intro v hk
    refine OpOk.pure fun hq W hp₀ β₀ β a w hr => ?_
    obtain ⟨ad, val, e, h1, h2⟩ := hk hq W hp₀ β₀ β a w hr (opSc_den hx (ev_den hr x))
    exact ⟨val, by simp [execOp, ho, Instr.loadAt, e, Instr.sureAddr, h1], h2⟩
  unfold loadEv at h
  split at h
  · rename_i b off
    simp only [Ask.val] at h
    split at h
    · rename_i cells elem hb
      obtain ⟨y, hy, he⟩ := map_some h
      simp at he; obtain ⟨rfl, rfl, rfl⟩ := he
      refine key fun _ W hp₀ β₀ β a w hr hd => ?_
      obtain ⟨_, e⟩ := hd
      obtain ⟨c, fz, _, _, h3, h4⟩ := hr.heap.blkAt (itemAt_some hb)
      obtain ⟨val, h5, h6⟩ := run_loadPart (P := P) rfl h4 h3 hy
      rw [addr_add, Nat.zero_add] at h5
      exact ⟨_, val, e, h5, h6⟩
    · cases h
  · rename_i b base stride n z
    simp only [Ask.val] at h
    split at h
    · rename_i cells elem hb
      split at h
      · rename_i items hit
        obtain ⟨y, hy, he⟩ := map_some h
        simp at he; obtain ⟨rfl, rfl, rfl⟩ := he
        refine key fun _ W hp₀ β₀ β a w hr hd => ?_
        obtain ⟨_, hz, e⟩ := hd
        obtain ⟨c, fz, _, _, h3, h4⟩ := hr.heap.blkAt (itemAt_some hb)
        obtain ⟨it, hi1, hi2⟩ := partsEv_get hit hz
        obtain ⟨val, h5, h6⟩ := run_loadPart (P := P) rfl h4 h3 hi2
        rw [addr_add, Nat.zero_add] at h5
        exact ⟨_, val, e, h5, selV_ok hi1 h6 hy⟩
      · cases h
    · cases h
  · rename_i s' wd z f
    rw [Ask.val_map] at h
    split at h
    · rename_i pm ty l hc
      split at h
      · rename_i hw; subst hw
        have hpart : ∀ {y : VV}, partEv P t (ty.svs pm (l.getD z.toNat ty.z)) f = some y → OpOk P o st q (.one y) [] := by
          intro y hy
          refine key fun _ W hp₀ β₀ β a w hr hd => ?_
          obtain ⟨ad, vss, e, k1, k2, k3, k4, k5⟩ := ep_reads hr.heap hc hd
          obtain ⟨pre, u, post, rfl, e1, h5, _⟩ := hasL_elem k2 k5
          have h6 := HoldsAt.mid k1 k3
          obtain ⟨val, h7, h8⟩ := run_loadPart (P := P) (add_spot k1 _) h6 (ty.svs_ok (L := kd st.hp) h5) hy
          rw [add_add k1, e1] at h7
          exact ⟨_, val, e, h7, h8⟩
        split at h
        · rename_i n el harr
          split at h
          · rename_i hcond
            obtain ⟨_, _, rfl, hpm, hag, hsz⟩ := hcond
            simp at h; obtain ⟨rfl, rfl, rfl⟩ := h
            refine key fun hq W hp₀ β₀ β a w hr hd => ?_
            have hq' : z.toNat + n ≤ l.length := hq
            obtain ⟨ad, vss, e, k1, k2, k3, k4, k5⟩ := ep_reads hr.heap hc hd
            obtain ⟨pre, mid, post, rfl, e1, e2, h5'⟩ := hasL_mid k2 hq'
            have h5 : HasL (ty.has β true) ((l.drop z.toNat).take n) mid := by
              cases pm with
              | true => exact h5'
              | false => exact h5'.imp fun _ _ => ty.has_pm (by simpa using hpm)
            have h6 := HoldsAt.mid k1 k3
            refine ⟨_, .agg mid.toArray, e, ?_, mid, rfl, HasL.one (R := SV.dens β (kd st.hp)) ⟨by simp; omega, h5⟩⟩
            unfold loadVar
            simp only [Sem.run_bind, run_isAgg hag, Result.andThen_ok, if_true, run_sizeOf hsz, Nat.add_zero]
            have h7 := run_loadRow (P := P) h6
            rw [e1, e2] at h7
            rw [h7]; rfl
          · obtain ⟨y, hy, he⟩ := map_some h
            simp at he; obtain ⟨rfl, rfl, rfl⟩ := he
            exact hpart hy
        · obtain ⟨y, hy, he⟩ := map_some h
          simp at he; obtain ⟨rfl, rfl, rfl⟩ := he
          exact hpart hy
      · cases h
    · cases h
  · simp [Ask.val] at h

theorem newElem_ok {β : Env} {L : Nat → Option Kd} {t : Ty} {x y : t.D} {f : Nat} {l : List SV} (h : newElem t x f l = some y) {u ws : List Value} (hx : t.has β true x u) (hn : DenL β L l ws) :
    ∃ pre old post, u = pre ++ (old ++ post) ∧ pre.length = f ∧ old.length = ws.length ∧ t.has β true y (pre ++ (ws ++ post)) := by
  unfold newElem at h
  split at h
  · rename_i hc
    obtain ⟨rfl, hw⟩ := hc
    refine ⟨[], u, [], by simp, rfl, by rw [t.has_length hx, hn.length, hw], ?_⟩
    simpa using t.read_ok h hn
  · split at h
    · rename_i c hput
      obtain ⟨pre, old, post, rfl, e1, e2, h3⟩ := putL_ok _ _ hput _ _ (t.svs_ok hx) hn
      exact ⟨pre, old, post, rfl, e1, e2, t.read_ok h h3⟩
    · cases h

theorem setRowAt_ok {β : Env} {L : Nat → Option Kd} : ∀ (l : List SV) (off : Nat) {t : Ty} {n : Nat} {x y : List t.D} {l' : List SV} {vs : List Value}, rowAt l off = some (.arr t n x) → setRowAt l off (.arr t n y) = some l' → DenL β L l vs → y.length = n →
    ∃ pre mid post, vs = pre ++ (mid ++ post) ∧ pre.length = off ∧ x.length = n ∧ HasL (t.has β true) x mid ∧ ∀ mid', HasL (t.has β true) y mid' → DenL β L l' (pre ++ (mid' ++ post))
  | [], _, _, _, _, _, _, _, h, _, _, _ => by simp [rowAt] at h
  | s :: r, off, t, n, x, y, l', vs, h, hset, hd, hy => by
    have plain : (∀ t n l, s ≠ .arr t n l) → ∃ pre mid post, vs = pre ++ (mid ++ post) ∧ pre.length = off ∧ x.length = n ∧ HasL (t.has β true) x mid ∧ ∀ mid', HasL (t.has β true) y mid' → DenL β L l' (pre ++ (mid' ++ post)) := by
      intro hs
      cases hd with
      | cons h1 h2 =>
        obtain ⟨v, rfl, hv⟩ := SV.den_of h1 hs
        cases off with
        | zero =>
          exfalso
          cases s with
          | arr t n l => exact absurd rfl (hs t n l)
          | _ => simp [rowAt] at h
        | succ off =>
          have h' : rowAt r off = some (.arr t n x) := by
            cases s with
            | arr t n l => exact absurd rfl (hs t n l)
            | _ => exact h
          have hs' : (setRowAt r off (.arr t n y)).map (s :: ·) = some l' := by
            cases s with
            | arr t n l => exact absurd rfl (hs t n l)
            | _ => exact hset
          obtain ⟨r', hr', rfl⟩ := map_some hs'
          obtain ⟨pre, mid, post, rfl, e, h3, h4, h5⟩ := setRowAt_ok r off h' hr' h2 hy
          exact ⟨v :: pre, mid, post, rfl, by simp [e], h3, h4, fun mid' hm => DenL.cons1 hv (h5 mid' hm)⟩
    cases s with
    | arr t' n' l0 =>
      have h' : (if off = 0 then some (.arr t' n' l0) else if n' * t'.w ≤ off then rowAt r (off - n' * t'.w) else none) = some (SV.arr t n x) := by cases off <;> exact h
      have hs' : (if off = 0 then some (SV.arr t n y :: r) else if n' * t'.w ≤ off then (setRowAt r (off - n' * t'.w) (.arr t n y)).map (.arr t' n' l0 :: ·) else none) = some l' := by cases off <;> exact hset
      cases hd with
      | cons h1 h2 =>
        rename_i us ws
        split at h'
        · rename_i e0
          rw [if_pos e0] at hs'
          simp at h'; obtain ⟨rfl, rfl, e⟩ := h'
          simp at e; subst e
          simp at hs'; subst hs'
          exact ⟨[], us, ws, rfl, by simp [e0], h1.1, h1.2, fun mid' hm => by simpa using HasL.cons (R := SV.dens β L) (x := .arr t' n' y) (vs := mid') ⟨hy, hm⟩ h2⟩
        · rename_i e0
          rw [if_neg e0] at hs'
          split at h'
          · rename_i hle
            rw [if_pos hle] at hs'
            obtain ⟨r', hr', rfl⟩ := map_some hs'
            obtain ⟨pre, mid, post, rfl, e, h3, h4, h5⟩ := setRowAt_ok r _ h' hr' h2 hy
            have hul := SV.dens_length h1
            simp only [SV.w] at hul
            refine ⟨us ++ pre, mid, post, by simp, by simp [hul, e]; omega, h3, h4, fun mid' hm => ?_⟩
            rw [List.append_assoc]
            exact .cons h1 (h5 mid' hm)
          · cases h'
    | _ => exact plain (by intros; simp)

/-- an element of an own slice stored into -/
theorem HRel.storeOwn {P : Program} {W : World} {hp₀ : Hp} {β₀ β : Env} {hp : Hp} {w : World} (h : HRel W hp₀ β₀ β hp w) {i ver : Nat} {t : Ty} {m : List t.D} (hi : hp[i]? = some (some (.own ver t m)))
    {a0 : Addr} {n c : Nat} (he : β.h i = .slice (some a0) n c) {j f : Nat} (hj : j < m.length) {l : List SV} {y : t.D} (hy : newElem t (m.getD j t.z) f l = some y) {ws : List Value} (hn : DenL β (kd hp) l ws) :
    ∃ w' β', (storeCells (a0.add (j * t.w + f)) ws).run P w = .ok () w' ∧ HRel W hp₀ β₀ β' (setAt hp i (.own ver t (m.set j y))) w' ∧ Agree β β' (kd hp) (kd (setAt hp i (.own ver t (m.set j y)))) := by
  have hit : OwnOk β w (β.h i) t m := h.items _ _ hi
  obtain ⟨a, n', c', e, hn1, hn2, _, h4⟩ := hit
  rw [he] at e; simp at e; obtain ⟨rfl, rfl, rfl⟩ := e
  obtain ⟨a1, pre, vss, rest, elem, fz, e, k1, k2, k3, k4, k5, k6⟩ := h4 (by omega)
  simp at e; subst e
  obtain ⟨pa, u, pb, rfl, e1, h6, h7, h8⟩ := hasL_elem k4 hj
  obtain ⟨p1, old, p2, rfl, e2, e3, h9⟩ := newElem_ok hy h6 hn
  have hlenu : old.length = ws.length := e3
  obtain ⟨w', r1, r2, r3, r4, r5, r6⟩ := run_storeRow (P := P) (a := a0.add (j * t.w + f)) (add_spot k1 _) (elem := elem) (fz := fz) ws 0 (pre ++ pa ++ p1) old (p2 ++ pb ++ rest) w
    (by rw [add_block, k2]; simp) (by
      obtain ⟨b0, o0, s0⟩ := a0
      simp at k1 k3; subst k1
      rw [addr_add]; simp [k3, e1, e2] <;> omega) hlenu hn.oneCells (fun off q1 q2 => k6.not (by simp at q2 ⊢; omega))
  rw [add_block] at r2 r3
  have hset : HasL (t.has β true) (m.set j y) (pa ++ ((p1 ++ (ws ++ p2)) ++ pb)) := HasL.of_get hj h9 h7 h8
  obtain ⟨β', s1, s2, s3⟩ := h.updOwn hi (ver' := ver) (l' := m.set j y) (v := β.h i) (w' := w') (.inr ⟨rfl, rfl⟩) (by omega) r5 r6 (fun b hb hno => by
      refine r3 b fun e => hno ?_
      subst e
      exact ⟨a0, n, c, he, by omega, rfl⟩)
    (by
      rw [he]
      refine ⟨some a0, n, c, rfl, by simpa using hn1, hn2, by simp, fun _ => ⟨a0, pre, pa ++ ((p1 ++ (ws ++ p2)) ++ pb), rest, elem, fz, rfl, k1, ?_, k3, hset, k5, ?_⟩⟩
      · rw [r2]; simp
      · have : (pre ++ (pa ++ (p1 ++ (ws ++ p2) ++ pb) ++ rest)).length = (pre ++ (pa ++ (p1 ++ (old ++ p2) ++ pb) ++ rest)).length := by simp [hlenu]
        rw [this]; exact k6)
    (fun a n c e h0 => .inl ⟨a, n, c, e, h0, rfl⟩)
  exact ⟨w', β', r1, s1, s2⟩

theorem store_ok {t : TypeId} {x y : Operand} {s : SV} {l : List SV} (ho : o.op = .store t x y) (hx : opSc (ev st x) = some s) (hl : cellsOf (ev st y) = some l) (h : (storeEv P t s l).val st.hp = some (q, v, d)) : OpOk P o st q v d := by
  unfold storeEv at h
  split at h
  rotate_left
  · simp [Ask.val] at h
  rename_i hsz
  have key : ∀ {d : List (Nat × Item)}, (needs q → ∀ (W : World) (hp₀ : Hp) (β₀ β : Env) (a : Act) (w : World), Rel W hp₀ β₀ β st a w → s.den β (kd st.hp) (a.eval x) → ∀ ws, DenL β (kd st.hp) l ws →
      ∃ (ad : Addr) (w' : World) (β' : Env), a.eval x = .pointer (some ad) ∧ (storeCells ad ws).run P w = .ok () w' ∧ HRel W hp₀ β₀ β' (applyD d st.hp) w' ∧ Agree β β' (kd st.hp) (kd (applyD d st.hp))) → OpOk P o st q (.tup []) d := by
    intro d hk hq W hp₀ β₀ β a w hr
    obtain ⟨ws, hws, hdw⟩ := cellsOf_den hl (ev_den hr y)
    obtain ⟨ad, w', β', e, h1, h2, h3⟩ := hk hq W hp₀ β₀ β a w hr (opSc_den hx (ev_den hr x)) ws hdw
    refine ⟨β', w', .skip, undef, ?_, .inr ⟨rfl, rfl⟩, ⟨[], rfl, .nil⟩, h2, h3⟩
    have := run_storeVar hsz hws hdw.length h1
    simp [execOp, ho, Instr.storeAt, e, Instr.sureAddr, this]
  split at h
  · rename_i b off
    simp only [Ask.val] at h
    split at h
    · rename_i cells elem hb
      obtain ⟨c, hc, he⟩ := map_some h
      simp at he; obtain ⟨rfl, rfl, rfl⟩ := he
      refine key fun _ W hp₀ β₀ β a w hr hd ws hw => ?_
      obtain ⟨_, e⟩ := hd
      obtain ⟨w', h1, h2, h3⟩ := hr.heap.storeBlk (P := P) (itemAt_some hb) (putL_ok _ _ hc) hw
      exact ⟨_, w', β, e, h1, h2, h3⟩
    · cases h
  · rename_i i ver wd z f
    simp only [Ask.val] at h
    split at h
    · rename_i ver' ty m hi
      split at h
      · rename_i hc
        obtain ⟨rfl, rfl⟩ := hc
        obtain ⟨y', hy', he⟩ := map_some h
        simp at he; obtain ⟨rfl, rfl, rfl⟩ := he
        refine key fun _ W hp₀ β₀ β a w hr hd ws hw => ?_
        obtain ⟨ad, n, c, h1, h2, h3, e⟩ := hd
        obtain ⟨hok, hh⟩ := hr.heap.ownOf (p := fun v => Value.slice (some ad) n c = v) (itemAt_some hi) h1.2
        obtain ⟨_, n', _, e', hn', _⟩ := hok
        rw [← hh] at e'; simp at e'
        obtain ⟨w', β', r1, r2, r3⟩ := hr.heap.storeOwn (P := P) (itemAt_some hi) hh.symm (j := z.toNat) (by omega) hy' hw
        exact ⟨_, w', β', e, r1, r2, r3⟩
      · cases h
    · cases h
  · rename_i i ver w' z' n' wd z f
    simp only [Ask.val] at h
    split at h
    · rename_i ver' ty m hi
      split at h
      · rename_i hc
        obtain ⟨rfl, rfl, rfl⟩ := hc
        obtain ⟨y', hy', he⟩ := map_some h
        simp at he; obtain ⟨rfl, rfl, rfl⟩ := he
        refine key fun _ W hp₀ β₀ β a w hr hd ws hw => ?_
        obtain ⟨ad, n, c, h1, h2, h3, e⟩ := hd
        obtain ⟨hok, hh⟩ := hr.heap.ownOf (p := fun v => SubOf v ty.w z' n' (Value.slice (some ad) n c)) (itemAt_some hi) h1.2
        obtain ⟨a1, m1, c1, a2, c2, e1, z0, n0, hle, e2, _, _, hadr⟩ := hh
        simp at e2; obtain ⟨rfl, rfl, rfl⟩ := e2
        obtain ⟨a3, rfl, e3⟩ := hadr (by omega)
        simp at e3; subst e3
        obtain ⟨_, m2, _, e', hn', _, _, hrest⟩ := hok
        rw [e1] at e'; simp at e'
        obtain ⟨rfl, rfl, rfl⟩ := e'
        have hjlt : z'.toNat + z.toNat < m.length := by
          clear hrest hadr h1
          omega
        obtain ⟨a4, _, _, _, _, _, e4, hsp, _⟩ := hrest (by omega)
        simp at e4; subst e4
        obtain ⟨w', β', r1, r2, r3⟩ := hr.heap.storeOwn (P := P) (itemAt_some hi) e1 (j := z'.toNat + z.toNat) hjlt hy' hw
        refine ⟨_, w', β', e, ?_, r2, r3⟩
        rw [add_add hsp, ← Nat.add_assoc, ← Nat.add_mul]
        exact r1
      · cases h
    · cases h
  · rename_i b o' ty n z' n' wd z f
    simp only [Ask.val] at h
    split at h
    · rename_i cells elem hb
      split at h
      · rename_i ty' n0 m hrow
        split at h
        · rename_i hc
          obtain ⟨rfl, rfl, rfl⟩ := hc
          split at h
          · rename_i y' hy'
            obtain ⟨cells', hc', he⟩ := map_some h
            simp at he; obtain ⟨rfl, rfl, rfl⟩ := he
            refine key fun _ W hp₀ β₀ β a w hr hd ws hw => ?_
            obtain ⟨ad, nn, c, h1, h2, h3, e⟩ := hd
            obtain ⟨_, z0, n0', zn, a', c'', e1, _, _, hadr⟩ := h1
            simp at e1; obtain ⟨rfl, rfl, rfl⟩ := e1
            have e2 := hadr (by omega)
            simp at e2; subst e2
            obtain ⟨cs, fz, g1, g2, g3, _⟩ := hr.heap.blkAt (itemAt_some hb)
            have hml : m.length = n0 := by
              obtain ⟨_, _, _, _, _, hh, _⟩ := rowAt_ok _ _ hrow g3; exact hh
            obtain ⟨pre, mid, post, rfl, e3, _, h6, h7⟩ := setRowAt_ok _ _ hrow hc' g3 (by simpa using hml)
            obtain ⟨pa, u, pb, rfl, e4, h8, h9, h10⟩ := hasL_elem h6 (j := z'.toNat + z.toNat) (by omega)
            obtain ⟨p1, old, p2, rfl, e5, e6, h11⟩ := newElem_ok hy' h8 hw
            have hset : HasL (ty'.has β true) (m.set (z'.toNat + z.toNat) y') (pa ++ ((p1 ++ (ws ++ p2)) ++ pb)) := HasL.of_get (by omega) h11 h9 h10
            obtain ⟨w', r1, r2, r3, r4, r5, r6⟩ := run_storeRow (P := P) (a := ⟨β.b b, o' + ((z'.toNat + z.toNat) * ty'.w + f), none⟩) rfl (elem := elem) (fz := fz) ws 0 (pre ++ pa ++ p1) old (p2 ++ pb ++ post) w
              (by rw [g1]; simp) (by simp [e3, e4, e5] <;> omega) e6 hw.oneCells (fun off q1 q2 => g2.not (by simp at q2 ⊢; omega))
            obtain ⟨s1, s2⟩ := hr.heap.updBlk (itemAt_some hb) (cells' := cells') (w' := w') (by omega) r5 r6 r3 (c := pre ++ ((pa ++ ((p1 ++ (ws ++ p2)) ++ pb)) ++ post)) (fz := fz)
              (by rw [r2]; simp) (by
                have : (pre ++ ((pa ++ ((p1 ++ (ws ++ p2)) ++ pb)) ++ post)).length = (pre ++ ((pa ++ ((p1 ++ (old ++ p2)) ++ pb)) ++ post)).length := by simp [e6]
                rw [this]; exact g2) (h7 _ hset)
            refine ⟨_, w', β, e, ?_, s1, s2⟩
            rw [addr_add, addr_add]
            have : o' + z'.toNat * ty'.w + (z.toNat * ty'.w + f) = o' + ((z'.toNat + z.toNat) * ty'.w + f) := by rw [Nat.add_mul]; omega
            rw [this]; exact r1
          · cases h
        · cases h
      · cases h
    · cases h
  · simp [Ask.val] at h
end
end Go.Ev
