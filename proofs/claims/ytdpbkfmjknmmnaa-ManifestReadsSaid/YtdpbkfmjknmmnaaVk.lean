/- A reader of code, third make: parts of slices, new slices; every operation. -/
import Derived.Test.YtdpbkfmjknmmnaaVj
set_option linter.unusedVariables false
set_option linter.unusedSimpArgs false
namespace Go.Ev
open Go

section
variable {P : Program} {st : St} {o : Oper} {q : Option Prop} {v : LV} {d : List (Nat × Item)}

theorem litS {lo hi mx : Option Operand} {W : World} {hp₀ : Hp} {β₀ β : Env} {a : Act} {w : World} (hr : Rel W hp₀ β₀ β st a w) {isS : Bool} {n c : Nat} {r : Nat × Nat × Nat} (h : slicePart n c (lo.map (ev st)) (hi.map (ev st)) (mx.map (ev st)) = some r) :
    (Instr.sliceBounds isS n c (lo.map a.eval) (hi.map a.eval) (mx.map a.eval)).run P w = .ok r w :=
  run_slicePart (P := P) (w := w) (β := β) (L := kd st.hp) (lov := lo.map a.eval) (hiv := hi.map a.eval) (mxv := mx.map a.eval) h
    (fun y hy => by obtain ⟨z, hz, rfl⟩ := map_some hy; exact ⟨a.eval z, by simp [hz], ev_den hr z⟩) (by cases lo <;> simp)
    (fun y hy => by obtain ⟨z, hz, rfl⟩ := map_some hy; exact ⟨a.eval z, by simp [hz], ev_den hr z⟩) (by cases hi <;> simp) (by cases mx <;> simp)

theorem sliceArr_ok {t el : TypeId} {x : Operand} {lo hi mx : Option Operand} {b off n : Nat} (ho : o.op = .slice t x lo hi mx) (hx : opSc (ev st x) = some (.ptr b off)) (harr : arrayT P t = some (n, el))
    (h : ((opEv P 0 (ev st) (.slice t x lo hi mx)).val st.hp) = some (q, v, d)) : OpOk P o st q v d := by
  have hu := arrayT_eq harr
  simp only [opEv, hx, harr, Ask.val] at h
  split at h
  · rename_i cells elem sz hb hs
    split at h
    · rename_i ty n' l hrow
      split at h
      · rename_i x' y' hlo hhi
        split at h
        · rename_i hc
          obtain ⟨rfl, rfl⟩ := hc
          cases h
          refine OpOk.pure fun hq W hp₀ β₀ β a w hr => ?_
          obtain ⟨q1, q2, q3⟩ : 0 ≤ x' ∧ x' ≤ y' ∧ y' ≤ (n' : Int) := hq
          obtain ⟨hb2, ex⟩ := opSc_den hx (ev_den hr x)
          have hsb := run_sliceSym (P := P) hr (isS := false) hlo hhi q1 q2 q3 (Nat.le_refl _)
          refine ⟨.slice (some (if n' = x'.toNat then ⟨β.b b, off, none⟩ else (⟨β.b b, off, none⟩ : Addr).add (x'.toNat * ty.w))) (y'.toNat - x'.toNat) (n' - x'.toNat), ?_, hb2, q1, by omega, by omega, some (if n' = x'.toNat then ⟨β.b b, off, none⟩ else (⟨β.b b, off, none⟩ : Addr).add (x'.toNat * ty.w)), n' - x'.toNat, ?_, ?_, (fun e => by cases e), fun h0 => ?_⟩
          · simp only [execOp, ho, ex, Instr.sliceAt, underlying, Sem.run_bind, run_program, Result.andThen_ok, hu, Instr.sureAddr, Sem.run_pure, hsb, run_sizeOf hs, Option.map_none]
          · rw [show (y' - x').toNat = y'.toNat - x'.toNat from by omega]
          · omega
          · rw [if_neg (by omega)]
        · cases h
      · cases h
    · obtain ⟨r, hsp, he⟩ := map_some h
      cases he
      refine OpOk.pure fun _ W hp₀ β₀ β a w hr => ?_
      obtain ⟨hb2, ex⟩ := opSc_den hx (ev_den hr x)
      have hsb := litS (P := P) hr (isS := false) hsp
      refine ⟨.slice (some ⟨β.b b, if r.2.2 = r.1 then off else off + r.1 * sz, none⟩) (r.2.1 - r.1) (r.2.2 - r.1), ?_, hb2, rfl⟩
      simp only [execOp, ho, ex, Instr.sliceAt, underlying, Sem.run_bind, run_program, Result.andThen_ok, hu, Instr.sureAddr, Sem.run_pure, hsb, run_sizeOf hs]
      split <;> simp [addr_add]
  · cases h

theorem sub_nil {a : Option Addr} {c k : Nat} {f : Addr → Addr} (h : a = none → c = 0) : (if c = k then a else a.map f) = none → c - k = 0 := by
  intro e
  split at e
  · have := h e; omega
  · cases a with
    | none => have := h rfl; omega
    | some a => cases e
theorem HRel.addSub {W : World} {hp₀ : Hp} {β₀ β : Env} {hp : Hp} {w : World} (h : HRel W hp₀ β₀ β hp w) {pm : Bool} {u u' : Value} {t : Ty} {l l' : List t.D} (hr : β.rd pm u t l) (hread : ReadsAs β pm w u' t l') (hblk : ∀ b, inBlock u' b → inBlock u b) :
    ∃ β', HRel W hp₀ β₀ β' hp w ∧ Agree β β' (kd hp) (kd hp) ∧ β'.rd pm u' t l' := by
  obtain ⟨h1, h2, h3⟩ := h.addRd hread fun b hb => ⟨((h.reads _ _ _ _ hr).2 b (hblk b hb)).1, ((h.reads _ _ _ _ hr).2 b (hblk b hb)).2, h.from_ pm u t l b hr (hblk b hb)⟩
  exact ⟨_, h1, h2, h3⟩
theorem subS_ok {W : World} {hp₀ : Hp} {β₀ β : Env} {hp : Hp} {w : World} (h : HRel W hp₀ β₀ β hp w) {s r : SV} {pm : Bool} {t : Ty} {l : List t.D} {x y : Int} (hc : (contOf s).val hp = some (pm, ⟨t, l⟩)) (hs : subS t.w x y s = some r)
    {a : Option Addr} {n c : Nat} (hd : s.den β (kd hp) (.slice a n c)) (q1 : 0 ≤ x) (q2 : x ≤ y) (q3 : y ≤ l.length) :
    ∃ β', HRel W hp₀ β₀ β' hp w ∧ Agree β β' (kd hp) (kd hp) ∧ r.den β' (kd hp) (.slice (if c = x.toNat then a else a.map (·.add (x.toNat * t.w))) (y.toNat - x.toNat) (c - x.toNat)) := by
  have hread := contOf_ok h hc hd
  obtain ⟨a', n', c', e, hn, hnc, hz, hrest⟩ := hread
  simp at e; obtain ⟨rfl, rfl, rfl⟩ := e
  have hyx : (y - x).toNat = y.toNat - x.toNat := by omega
  unfold subS at hs
  split at hs
  · rename_i pm' nn t' l'
    simp at hs; subst hs
    have hc' : pm = pm' ∧ (⟨t, l⟩ : (t : Ty) × List t.D) = ⟨t', l'⟩ := by
      unfold contOf at hc
      rw [Ask.val_bind] at hc
      simp [contTy, Ask.val, Ask.val_map, contAs] at hc
      obtain ⟨h1, rfl, h2⟩ := hc
      exact ⟨h1.symm, by simpa using h2.symm⟩
    obtain ⟨rfl, e⟩ := hc'
    cases e
    have hsub : SubOf (.slice a n c) t.w x (y - x) (.slice (if c = x.toNat then a else a.map (·.add (x.toNat * t.w))) (y.toNat - x.toNat) (c - x.toNat)) := by
      refine ⟨_, _, _, _, _, rfl, q1, by omega, by omega, by rw [hyx], by omega, sub_nil hz, fun h0 => ?_⟩
      obtain ⟨a0, _, rfl, _⟩ := hrest (by omega)
      exact ⟨a0, rfl, by rw [if_neg (by omega)]; rfl⟩
    have hreads : ReadsAs β pm w (.slice a n c) t l := ⟨_, _, _, rfl, hn, hnc, hz, hrest⟩
    obtain ⟨_, _, hrd⟩ := hd
    have hblk : ∀ b, inBlock (Value.slice (if c = x.toNat then a else a.map (·.add (x.toNat * t.w))) (y.toNat - x.toNat) (c - x.toNat)) b → inBlock (Value.slice a n c) b := by
      intro b hb
      cases a with
      | none => split at hb <;> exact hb.elim
      | some a =>
        split at hb
        · obtain ⟨h1, h2⟩ := hb; exact ⟨by omega, h2⟩
        · obtain ⟨h1, h2⟩ := hb; exact ⟨by omega, by rw [← h2, add_block]⟩
    rcases hrd with hrd | ⟨rfl, hrd⟩ | ⟨e, rfl⟩
    · obtain ⟨β', k1, k2, k3⟩ := h.addSub hrd ((h.reads _ _ _ _ hrd).1.sub hsub) hblk
      exact ⟨β', k1, k2, rfl, fun e => (by cases e), .inl k3⟩
    · obtain ⟨β', k1, k2, k3⟩ := h.addSub hrd ((h.reads _ _ _ _ hrd).1.sub hsub) hblk
      exact ⟨β', k1, k2, rfl, fun e => (by cases e), .inr (.inl ⟨rfl, k3⟩)⟩
    · simp at e; obtain ⟨rfl, rfl, rfl⟩ := e
      refine ⟨β, h, Agree.refl _ _, rfl, fun e => (by cases e), .inr (.inr ⟨?_, by simp⟩)⟩
      have hx0 : x.toNat = 0 := by simp at q3; omega
      have hy0 : y.toNat = 0 := by simp at q3; omega
      rw [hx0, hy0]; rfl
  · rename_i i ver
    simp at hs; subst hs
    obtain ⟨k1, cc, k2, k3, k4⟩ := hd
    refine ⟨β, h, Agree.refl _ _, rfl, cc, k2, k3, fun e => ⟨a, n, c, _, _, (k4 e).symm, q1, by omega, by omega, by rw [hyx], by omega, sub_nil hz, fun h0 => ?_⟩⟩
    obtain ⟨a0, _, rfl, _⟩ := hrest (by omega)
    exact ⟨a0, rfl, by rw [if_neg (by omega)]; rfl⟩
  · rename_i i ver w' z m
    simp at hs; subst hs
    have hw : w' = t.w := by
      unfold contOf at hc
      rw [Ask.val_bind] at hc
      split at hc
      · rename_i t0 _
        rw [Ask.val_map] at hc
        obtain ⟨⟨pm', l'⟩, h1, h2⟩ := map_some hc
        simp at h2; obtain ⟨_, rfl, _⟩ := h2
        simp only [contAs, Ask.val] at h1
        split at h1
        · split at h1
          · split at h1
            · rename_i hh; exact hh.2
            · cases h1
          · cases h1
        · cases h1
      · cases hc
    subst hw
    obtain ⟨k1, cc, k2, k3, k4⟩ := hd
    refine ⟨β, h, Agree.refl _ _, rfl, cc, k2, k3, fun e => ?_⟩
    obtain ⟨a1, m1, c1, a2, c2, e1, z0, m0, hle, e2, hc2, hz2, hadr⟩ := k4 e
    simp at e2; obtain ⟨rfl, e3, rfl⟩ := e2
    refine ⟨a1, m1, c1, _, _, e1, by omega, by omega, by omega, by rw [hyx], by omega, sub_nil hz2, fun h0 => ?_⟩
    obtain ⟨a0, rfl, rfl⟩ := hadr (by omega)
    refine ⟨a0, rfl, ?_⟩
    rw [if_neg (by omega), Option.map_some, add_add', ← Nat.add_mul, show (z + x).toNat = z.toNat + x.toNat from by omega]
  · rename_i b o' t' m z k
    simp at hs; subst hs
    have ht : t' = t := by have := contOf_ty hc; simp [contTy, Ask.val] at this; exact this
    subst ht
    obtain ⟨k1, z0, m0, zm, a2, c2, e2, hc2, hz2, hadr⟩ := hd
    simp at e2; obtain ⟨rfl, e3, rfl⟩ := e2
    refine ⟨β, h, Agree.refl _ _, k1, by omega, by omega, by omega, _, _, by rw [hyx], by omega, sub_nil hz2, fun h0 => ?_⟩
    have := hadr (by omega)
    subst this
    rw [if_neg (by omega), Option.map_some, add_add', ← Nat.add_mul, show (z + x).toNat = z.toNat + x.toNat from by omega]
  · cases hs
end
end Go.Ev
