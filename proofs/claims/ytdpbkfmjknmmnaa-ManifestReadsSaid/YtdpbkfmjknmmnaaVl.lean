/- A reader of code, third make: every operation without a call. -/
import Derived.Test.YtdpbkfmjknmmnaaVk
set_option linter.unusedVariables false
set_option linter.unusedSimpArgs false
namespace Go.Ev
open Go

section
variable {P : Program} {st : St} {o : Oper} {q : Option Prop} {v : LV} {d : List (Nat × Item)}

theorem slice_ok {id : Nat} {t : TypeId} {x : Operand} {lo hi mx : Option Operand} (ho : o.op = .slice t x lo hi mx)
    (h : ((opEv P id (ev st) (.slice t x lo hi mx)).val st.hp) = some (q, v, d)) : OpOk P o st q v d := by
  have h0 := h
  simp only [opEv] at h
  split at h
  · rename_i b off n el _ hx harr
    refine sliceArr_ok ho hx harr ?_
    simp only [opEv] at h0 ⊢
    exact h0
  · rename_i b off len cap el hx harr hsl
    have hu := sliceT_eq hsl
    simp only [Ask.val] at h
    split at h
    · rename_i l hh m sz hsp hs
      cases h
      refine OpOk.pure fun _ W hp₀ β₀ β a w hr => ?_
      obtain ⟨hb2, ex⟩ := opSc_den hx (ev_den hr x)
      have hsb := litS (P := P) hr (isS := true) hsp
      refine ⟨.slice (some ⟨β.b b, if m = l then off else off + l * sz, none⟩) (hh - l) (m - l), ?_, hb2, rfl⟩
      simp only [execOp, ho, ex, Instr.sliceAt, Instr.slice, underlying, Sem.run_bind, run_program, Result.andThen_ok, hu, Sem.run_pure, hsb, run_sizeOf hs]
      split <;> simp [addr_add]
    · cases h
  · rename_i s el hx harr hsl
    have hu := sliceT_eq hsl
    rw [Ask.val_map] at h
    split at h
    · rename_i pm ty l sz hc hs
      split at h
      · rename_i x' y' hlo hhi
        split at h
        · rename_i hw; subst hw
          obtain ⟨r, hr1, he⟩ := map_some h
          cases he
          intro hq W hp₀ β₀ β a w hr
          obtain ⟨q1, q2, q3⟩ : 0 ≤ x' ∧ x' ≤ y' ∧ y' ≤ (l.length : Int) := hq
          have hd := opSc_den hx (ev_den hr x)
          obtain ⟨a', n', c', ex, hn, hnc, _⟩ := contOf_ok hr.heap hc hd
          rw [ex] at hd
          rw [← hn] at hhi q3
          have hsb := run_sliceSym (P := P) hr (isS := true) hlo hhi q1 q2 q3 hnc
          obtain ⟨β', k1, k2, k3⟩ := subS_ok hr.heap hc hr1 hd q1 q2 (by rw [← hn]; exact q3)
          refine ⟨β', w, _, _, ?_, .inl rfl, k3, k1, k2⟩
          simp only [execOp, ho, ex, Instr.sliceAt, Instr.slice, underlying, Sem.run_bind, run_program, Result.andThen_ok, hu, Sem.run_pure, Option.map_none]
          rw [hsb]
          simp only [Result.andThen_ok, run_sizeOf hs, Sem.run_pure]
        · cases h
      · cases h
    · cases h
  · simp [Ask.val] at h

theorem makeSlice_ok {id : Nat} {t : TypeId} {x y : Operand} (ho : o.op = .makeSlice t x y) (h : ((opEv P id (ev st) (.makeSlice t x y)).val st.hp) = some (q, v, d)) (hid : (∃ x, (id, x) ∈ d) → kd st.hp id = none) : OpOk P o st q v d := by
  simp only [opEv, Ask.val] at h
  split at h
  · rename_i el k1 n k2 c hsl hn hc
    have hu := sliceT_eq hsl
    split at h
    · rename_i ty sz z by_ hty hs hz hby
      split at h
      · rename_i hcond
        obtain ⟨rfl, hpos, hwz⟩ := hcond
        split at h
        · rename_i z0 hz0
          cases h
          have hid0 := hid ⟨_, by simp; rfl⟩
          intro hq W hp₀ β₀ β a w hr
          obtain ⟨rfl, hn0, hb46, hn46⟩ : c = n ∧ 0 ≤ n ∧ (by_ : Int) * n ≤ 2 ^ 46 ∧ n ≤ 2 ^ 46 := hq
          have en := anyInt_den hn (ev_den hr x)
          have ec := anyInt_den hc (ev_den hr y)
          obtain ⟨zv, hzv, hzd⟩ := run_zero (P := P) (w := w) (β := β) (L := kd st.hp) hz
          have hzs : zv.cells.size = ty.w := by have := hzd.length; simp at this; omega
          have hzh := ty.read_ok hz0 hzd
          have hw64 := wrap_small (n := c) hn0 (by omega)
          have hby' : ∃ i, P.info? el = some i ∧ i.bytes = by_ := by
            unfold bytesT at hby
            obtain ⟨i, h1, h2⟩ := map_some hby
            exact ⟨i, h1, h2⟩
          obtain ⟨i, hi, hib⟩ := hby'
          have hrow : HasL (ty.has β true) (List.replicate c.toNat z0) ((List.replicate c.toNat zv.cells.toList).flatten) := hasL_rep hzh _
          have hown := ownOk_new (β := β) (w := w.alloc (.cells ((List.replicate c.toNat zv.cells.toList).flatten ++ []).toArray el)) (b := w.heap.size) (elem := el) (fz := (0, 0)) (rest := []) (c := c.toNat) (heap_alloc_new w _) hrow (by simp) (by simp) (.inl rfl)
          rw [List.append_nil, List.length_replicate] at hown
          obtain ⟨β', h1, h2, h3⟩ := hr.heap.newOwn hid0 (ver := 0) (w' := w.alloc (.cells ((List.replicate c.toNat zv.cells.toList).flatten).toArray el)) (by rw [World.size_alloc]; exact Nat.le_succ _) rfl rfl (fun b hb => heap_alloc_old w _ b hb) hown (fun a n c e _ => by simp at e; obtain ⟨rfl, _⟩ := e; exact Nat.le_refl _)
          refine ⟨β', _, _, .slice (some ⟨w.heap.size, 0, none⟩) c.toNat c.toNat, ?_, .inl rfl, ?_, h1, h2⟩
          · have hti : (typeInfo el).run P w = .ok i w := by simp [typeInfo, hi]
            have hsmall : ¬ ((c < 0) ∨ ((i.bytes : Int) * c > 2 ^ 48)) := by
              rw [hib]
              intro hh
              rcases hh with hh | hh <;> omega
            have hsmall' : (decide (c < 0) || decide ((i.bytes : Int) * c > 2 ^ 48)) = false := by
              have : ¬ (c < 0) ∧ ¬ ((i.bytes : Int) * c > 2 ^ 48) := ⟨fun hh => hsmall (.inl hh), fun hh => hsmall (.inr hh)⟩
              simp only [this.1, this.2, decide_false, Bool.or_self]
            simp only [execOp, ho, en, ec, Instr.makeSlice, Sem.run_bind, run_underlying hu, Result.andThen_ok, asInt, asIntOf, Sem.run_pure, hti, hw64, hsmall', Bool.false_or]
            rw [if_neg (by simp; omega)]
            simp only [Sem.run_bind, run_askRoom, Result.andThen_ok, run_sizeOf hs]
            by_cases h00 : c.toNat * ty.w = 0
            · have h01 : c.toNat = 0 := by
                rcases Nat.mul_eq_zero.1 h00 with k | k
                · exact k
                · omega
              rw [if_pos h00]
              simp only [Sem.run_bind, Result.andThen_ok, newRow, run_newObj, Sem.run_pure, h01]
              have hr0 : (Array.range 0).map (fun x => (#[] : Array Value)[x % (#[] : Array Value).size]!) = #[] := by simp
              rw [Nat.zero_mul, hr0]
              simp
            · rw [if_neg h00]
              simp only [Sem.run_bind, hzv, Result.andThen_ok, newRow, run_newObj, Sem.run_pure, arr_range_map c.toNat hzs]
              rfl
          · refine ⟨rfl, 0, ?_, Nat.le_refl _, fun _ => h3.symm⟩
            show kd (setAt st.hp id _) id = _
            rw [kd_setAt, if_pos rfl]; rfl
        · cases h
      · cases h
    · cases h
  · cases h

theorem buildSlice_ok {id : Nat} {t : TypeId} {len : Nat} {parts : Array (Nat × Operand)} (ho : o.op = .buildSlice t len parts) (h : ((opEv P id (ev st) (.buildSlice t len parts)).val st.hp) = some (q, v, d)) (hid : (∃ x, (id, x) ∈ d) → kd st.hp id = none) : OpOk P o st q v d := by
  simp only [opEv, Ask.val] at h
  split at h
  · rename_i el hsl
    have hu := sliceT_eq hsl
    split at h
    · rename_i sz z hs hz
      split at h
      · rename_i hcond
        obtain ⟨h16, hwz, hpos⟩ := hcond
        split at h
        · rename_i l hl
          have base : ∀ (W : World) (hp₀ : Hp) (β₀ β : Env) (a : Act) (w : World), Rel W hp₀ β₀ β st a w →
              ∃ c : List Value, DenL β (kd st.hp) l c ∧ (execOp a.eval o).run P w = .ok (.value (.slice (some ⟨w.heap.size, 0, none⟩) len len)) (w.alloc (.cells c.toArray el)) := by
            intro W hp₀ β₀ β a w hr
            obtain ⟨zv, hzv, hzd⟩ := run_zero (P := P) (w := w) (β := β) (L := kd st.hp) hz
            have hzs : zv.cells.size = sz := by have := hzd.length; simp at this; omega
            obtain ⟨c, hcc, hd⟩ := fill_ok (β := β) (L := kd st.hp) (place := fun i => some (i * sz, sz)) _ (parts.toList.map fun p => (p.1, a.eval p.2)) _ _ l (denL_rep hzd len)
              (All2.of_map _ _ _ fun p _ => ⟨rfl, ev_den hr p.2⟩) hl
            refine ⟨c, hd, ?_⟩
            simp only [execOp, ho, Instr.buildSlice, Sem.run_bind, run_underlying hu, Result.andThen_ok, run_sizeOf hs]
            rw [if_neg (by omega)]
            have hcc' : Instr.fill (fun i => some (i * sz, sz)) ((List.replicate len zv.cells.toList).flatten).toArray (Array.map (fun x => match x with | (i, x) => (i, a.eval x)) parts).toList = some c.toArray := by
              rw [← hcc]; simp
            by_cases h00 : len * sz = 0
            · have h01 : len = 0 := by
                rcases Nat.mul_eq_zero.1 h00 with k | k
                · exact k
                · omega
              rw [if_pos h00]
              have hcc2 : Instr.fill (fun i => some (i * sz, sz)) #[] (Array.map (fun x => match x with | (i, x) => (i, a.eval x)) parts).toList = some c.toArray := by
                rw [← hcc', h01]; simp
              simp only [Sem.run_bind, Result.andThen_ok, Sem.run_pure, h00]
              have hr0 : (Array.range 0).map (fun x => (#[] : Array Value)[x % (#[] : Array Value).size]!) = #[] := by simp
              rw [hr0, hcc2]
              simp [newRow]
            · rw [if_neg h00]
              simp only [Sem.run_bind, hzv, Result.andThen_ok, Sem.run_pure, arr_range_map len hzs]
              rw [hcc']
              simp [newRow]
          have hexp : some (q, v, d) = some ((none : Option Prop), LV.one (.sc (.slice id 0 len len)), [(id, Item.blk l el)]) → OpOk P o st q v d := by
            intro he; cases he
            have hid := hid ⟨_, by simp; rfl⟩
            intro _ W hp₀ β₀ β a w hr
            obtain ⟨c, hd, hrun⟩ := base W hp₀ β₀ β a w hr
            obtain ⟨β', h1, h2, h3⟩ := hr.heap.newBlk hid el hd
            refine ⟨β', _, _, _, hrun, .inl rfl, ⟨?_, by rw [h3]⟩, h1, h2⟩
            show kd (setAt st.hp id _) id = _
            rw [kd_setAt, if_pos rfl]; rfl
          split at h
          · rename_i ty hty
            split at h
            · rename_i hw; subst hw
              split at h
              · rename_i xs hxs
                cases h
                have hid := hid ⟨_, by simp; rfl⟩
                intro _ W hp₀ β₀ β a w hr
                obtain ⟨c, hd, hrun⟩ := base W hp₀ β₀ β a w hr
                obtain ⟨hh, hlen⟩ := readN_ok (R := ty.has β true) (fun a x vs h hd => ty.read_ok h hd) _ hxs hd
                have hown := ownOk_new (β := β) (w := w.alloc (.cells (c ++ []).toArray el)) (b := w.heap.size) (elem := el) (fz := (0, 0)) (rest := []) (c := len) (heap_alloc_new w _) hh (by omega) (by simp [hlen]) (.inl rfl)
                rw [List.append_nil, hlen] at hown
                obtain ⟨β', h1, h2, h3⟩ := hr.heap.newOwn hid (ver := 0) (w' := w.alloc (.cells c.toArray el)) (by rw [World.size_alloc]; exact Nat.le_succ _) rfl rfl (fun b hb => heap_alloc_old w _ b hb) hown (fun a n c e _ => by simp at e; obtain ⟨rfl, _⟩ := e; exact Nat.le_refl _)
                refine ⟨β', _, _, _, hrun, .inl rfl, ⟨rfl, 0, ?_, Nat.le_refl _, fun _ => h3.symm⟩, h1, h2⟩
                show kd (setAt st.hp id _) id = _
                rw [kd_setAt, if_pos rfl]; rfl
              · exact hexp h.symm
            · cases h
          · exact hexp h.symm
        · cases h
      · cases h
    · cases h
  · cases h

theorem nilCmp_ok {op : BinOp} {t : TypeId} {ox oy : Operand} {x y : LV} {b : Bool} (h : nilCmp P op t x y = some b) {w : World} {β : Env} {L : Nat → Option Kd} {xv yv : Value} (hx : x.den β L xv) (hy : y.den β L yv) :
    (do eqGuard op t ox oy xv yv; binOp op t xv yv : Sem Value).run P w = .ok (.bool b) w := by
  unfold nilCmp at h
  have key : ∀ {pm : Bool} {ty : Ty} {l : List ty.D} {n c : Nat} {e : TypeId}, sliceT P t = some e → (LV.one (.sc (.rd pm true ty l))).den β L xv → (LV.one (.sc (.con (.slice none n c)))).den β L yv →
      ∃ a n c n' c', xv = .slice (some a) n c ∧ yv = .slice none n' c' := by
    intro pm ty l n c e _ h1 h2
    obtain ⟨_, h3, _⟩ := h1
    obtain ⟨_, rfl⟩ := h2
    have := h3 rfl
    cases xv with
    | slice a n' c' => cases a with
      | none => exact absurd rfl this
      | some a => exact ⟨a, n', c', n, c, rfl, rfl⟩
    | _ => exact this.elim
  split at h
  · rename_i e hsl
    cases h
    obtain ⟨a, n, c, n', c', rfl, rfl⟩ := key hsl hx hy
    rw [Sem.run_bind, eqGuard_plain (by simp) (by simp)]
    exact eql_run rfl (eq_slice_nil (sliceT_eq hsl))
  · rename_i e hsl
    cases h
    obtain ⟨a, n, c, n', c', rfl, rfl⟩ := key hsl hx hy
    rw [Sem.run_bind, eqGuard_plain (by simp) (by simp)]
    exact neq_run rfl (eq_slice_nil (sliceT_eq hsl))
  · cases h

theorem opEv_ok {id : Nat} (h : (opEv P id (ev st) o.op).val st.hp = some (q, v, d)) (hid : (∃ x, (id, x) ∈ d) → kd st.hp id = none) : OpOk P o st q v d := by
  cases ho : o.op <;> rw [ho] at h <;> (try (simp [opEv, Ask.val] at h; done))
  case slice t x lo hi mx => exact slice_ok ho h
  case makeSlice t x y => exact makeSlice_ok ho h hid
  case buildSlice t n parts => exact buildSlice_ok ho h hid
  all_goals simp only [opEv] at h
  case move x =>
    cases h
    exact .pure fun _ W hp₀ β₀ β a w hr => ⟨a.eval x, by simp [execOp, ho], ev_den hr x⟩
  case assign x =>
    cases h
    exact .pure fun _ W hp₀ β₀ β a w hr => ⟨a.eval x, by simp [execOp, ho], ev_den hr x⟩
  case pick c x y =>
    simp only [Ask.val] at h
    split at h
    · rename_i t hc
      cases h
      refine .pure fun _ W hp₀ β₀ β a w hr => ⟨if t then a.eval x else a.eval y, ?_, ?_⟩
      · have := ev_den hr c; rw [hc] at this
        have e : a.eval c = .bool t := this
        simp [execOp, ho, e, asBool]
      · cases t
        · exact ev_den hr y
        · exact ev_den hr x
    · rename_i t hc
      have hpick : ∀ (a : Act) (w : World) {W : World} {hp₀ : Hp} {β₀ β : Env}, Rel W hp₀ β₀ β st a w → (execOp a.eval o).run P w = .ok (.value (if t then a.eval x else a.eval y)) w := by
        intro a w W hp₀ β₀ β hr
        have := ev_den hr c; rw [hc] at this
        have e : a.eval c = .bool t := this
        simp [execOp, ho, e, asBool]
      split at h
      · rename_i u v hx hy
        cases h
        refine .pure fun _ W hp₀ β₀ β a w hr => ⟨_, hpick a w hr, ?_⟩
        cases t
        · exact joinV_right (J := trivJ) (L₁ := kd st.hp) ⟨fun _ _ h => h, fun _ _ _ _ h => (by cases h), fun _ h => (by cases h)⟩ (hy ▸ ev_den hr y)
        · exact joinV_left (J := trivJ) (L₁ := kd st.hp) ⟨fun _ _ h => h, fun _ _ _ _ h => (by cases h), fun _ h => (by cases h)⟩ (hx ▸ ev_den hr x)
      · rename_i u hx _
        cases h
        refine .pure fun hq W hp₀ β₀ β a w hr => ⟨_, hpick a w hr, ?_⟩
        have ht : t = true := hq
        subst ht
        exact hx ▸ ev_den hr x
      · rename_i u hy _
        cases h
        refine .pure fun hq W hp₀ β₀ β a w hr => ⟨_, hpick a w hr, ?_⟩
        have ht : t = false := hq
        subst ht
        exact hy ▸ ev_den hr y
      · cases h
    · cases h
  case alloc t =>
    simp only [Ask.val] at h
    obtain ⟨l, hl, he⟩ := map_some h
    cases he
    have hid := hid ⟨_, by simp; rfl⟩
    refine opOk_new (mk := fun _ => Instr.alloc t true (.tuple #[])) (fun a => by simp [execOp, ho]) (fun W hp₀ β₀ β a w hr => ?_) hid
    obtain ⟨z, hz, hd⟩ := run_zero (P := P) (w := w) (β := β) (L := kd st.hp) hl
    refine ⟨_, hd, ?_⟩
    simp only [Instr.alloc, Sem.run_bind, hz, Result.andThen_ok, newVar, newRow, run_newObj, Sem.run_pure]
    simp
  case box t x =>
    simp only [Ask.val] at h
    obtain ⟨l, hl, he⟩ := map_some h
    cases he
    have hid := hid ⟨_, by simp; rfl⟩
    refine opOk_new (mk := fun a => Instr.box t (a.eval x)) (fun a => by simp [execOp, ho]) (fun W hp₀ β₀ β a w hr => ?_) hid
    obtain ⟨cs, hcs, hd⟩ := cellsOf_den hl (ev_den hr x)
    refine ⟨_, hd, ?_⟩
    simp only [Instr.box, Sem.run_bind, Result.andThen_ok, newVar, newRow, run_newObj, Sem.run_pure, hcs]
    rfl
  case build t parts =>
    simp only [Ask.val] at h
    split at h
    · rename_i z place hz hpl
      obtain ⟨l, hl, he⟩ := map_some h
      cases he
      refine .pure fun _ W hp₀ β₀ β a w hr => ?_
      obtain ⟨zv, hzv, hzd⟩ := run_zero (P := P) (w := w) (β := β) (L := kd st.hp) hz
      obtain ⟨c, hc, hd⟩ := fill_ok (β := β) (L := kd st.hp) (place := place) _ (parts.toList.map fun p => (p.1, a.eval p.2)) z zv.cells.toList l hzd
        (All2.of_map _ _ _ fun p _ => ⟨rfl, ev_den hr p.2⟩) hl
      refine ⟨.agg c.toArray, ?_, c, rfl, hd⟩
      unfold placesT at hpl
      split at hpl
      · rename_i fs hu
        obtain ⟨pl, hpl1, rfl⟩ := map_some hpl
        have := run_mapM_places (P := P) (w := w) fs.toList pl hpl1
        simp only [execOp, ho, Instr.build, Sem.run_bind, hzv, Result.andThen_ok, underlying, run_program, hu, Sem.run_pure]
        rw [Array.mapM_eq_mapM_toList]
        simp only [Sem.run_map, this, Result.andThen_ok]
        simp at hc
        simp [hc]
      · rename_i n e hu
        obtain ⟨s, hs, rfl⟩ := map_some hpl
        simp only [execOp, ho, Instr.build, Sem.run_bind, hzv, Result.andThen_ok, underlying, run_program, hu, Sem.run_pure, run_sizeOf hs]
        simp at hc
        simp [hc]
      · simp at hpl
    · cases h
  case load t x =>
    split at h
    · rename_i s hx; exact load_ok ho hx h
    · simp [Ask.val] at h
  case store t x y =>
    split at h
    · rename_i s l hx hl; exact store_ok ho hx hl h
    · simp [Ask.val] at h
  case nilCheck x =>
    simp only [Ask.val] at h
    split at h
    · rename_i b off hx
      cases h
      refine .pure fun _ W hp₀ β₀ β a w hr => ?_
      have hd := ev_den hr x; rw [hx] at hd
      obtain ⟨hlt, e⟩ : kd st.hp b = some .blk ∧ a.eval x = .pointer (some ⟨β.b b, off, none⟩) := hd
      exact ⟨_, by simp [execOp, ho, e], hlt, rfl⟩
    · rename_i s wd z f hx
      cases h
      refine .pure fun _ W hp₀ β₀ β a w hr => ?_
      have hd := ev_den hr x; rw [hx] at hd
      have hd' := hd
      obtain ⟨ad, n, c, h1, h2, h3, e⟩ := hd
      refine ⟨.pointer (some (ad.add (z.toNat * wd + f))), by simp [execOp, ho, e], ?_⟩
      rw [e] at hd'; exact hd'
    · cases h
  case binOp op t x y yt =>
    simp only [Ask.val] at h
    split at h
    · rename_i b hn
      cases h
      refine .pure fun hq W hp₀ β₀ β a w hr => ⟨.bool b, ?_, rfl⟩
      have := nilCmp_ok (w := w) (ox := x) (oy := y) hn (ev_den hr x) (ev_den hr y)
      simp only [execOp, ho]
      rw [Sem.run_bind, this]; rfl
    · obtain ⟨r, hr1, he⟩ := map_some h
      cases he
      refine .pure fun hq W hp₀ β₀ β a w hr => ?_
      obtain ⟨val, e1, e2⟩ := binLV_ok (P := P) (w := w) (ox := x) (oy := y) (s := r.2) (q := r.1) (by rw [hr1]) hq (ev_den hr x) (ev_den hr y)
      refine ⟨val, ?_, e2⟩
      simp only [execOp, ho]
      rw [Sem.run_bind, e1]; rfl
  case unOp op t x =>
    simp only [Ask.val] at h
    split at h
    · rename_i s h1
      obtain ⟨r, hr1, he⟩ := map_some h
      cases he
      refine .pure fun hq W hp₀ β₀ β a w hr => ?_
      have hd := opSc_den h1 (ev_den hr x)
      cases s <;> simp only [unEv] at hr1 <;> try (simp at hr1; done)
      · cases op <;> simp at hr1 <;> subst hr1 <;> (have e : a.eval x = _ := hd)
        · exact ⟨_, by simp [execOp, ho, e, Op.unary, Op.intArith]; rfl, by simp only [LV.den, VV.den, SV.den, map2_val]; simp [SI.val]⟩
        · exact ⟨_, by simp only [execOp, ho, e, Op.unary, Op.intBits]; rfl, by simp only [LV.den, VV.den, SV.den, map2_val]; rfl⟩
      · rename_i b
        cases op <;> simp at hr1 <;> subst hr1
        have e : a.eval x = _ := hd
        exact ⟨_, by simp [execOp, ho, e, Op.unary]; rfl, by cases b <;> simp [LV.den, VV.den, SV.den, SB.val]⟩
    · cases h
  case convert src dst x =>
    split at h
    · rename_i s hx; exact conv_ok ho hx h hid
    · simp [Ask.val] at h
  case sliceToArrayPointer t x =>
    split at h
    · rename_i b off len cap n e hx ha
      simp only [Ask.val] at h
      split at h
      · rename_i hle
        cases h
        refine .pure fun _ W hp₀ β₀ β a w hr => ?_
        obtain ⟨hlt, ex⟩ := opSc_den hx (ev_den hr x)
        have hu := arrayT_eq ha
        exact ⟨_, by simp [execOp, ho, ex, Instr.arrayAt, underlying, hu, Nat.not_lt.2 hle], hlt, rfl⟩
      · cases h
    · rename_i s n e hns hx ha
      rw [Ask.val_map] at h
      split at h
      · rename_i pm ty l hc
        split at h
        · rename_i hcond
          obtain ⟨hn0, hs⟩ := hcond
          cases h
          refine .pure fun hq W hp₀ β₀ β a w hr => ?_
          have hq' : n ≤ l.length := hq
          have hd := opSc_den hx (ev_den hr x)
          obtain ⟨a', n', c', ex, hn, hnc, _, hrest⟩ := contOf_ok hr.heap hc hd
          obtain ⟨a0, _, rfl, _⟩ := hrest (by omega)
          have hu := arrayT_eq ha
          rw [ex] at hd
          refine ⟨.pointer (some a0), ?_, a0, n', c', hd, Int.le_refl _, by omega, by simp [Addr.add]⟩
          simp [execOp, ho, ex, Instr.arrayAt, underlying, hu, show ¬ n' < n by omega]
        · cases h
      · cases h
    · simp [Ask.val] at h
  case fieldAddr s x f =>
    simp only [Ask.val] at h
    split at h
    · rename_i av fs hx hf
      have hu := fieldsT_eq hf
      split at h
      · rename_i fd hfd
        have hfd' : fs.toArray[f]? = some fd := by simpa using hfd
        split at h
        · rename_i n hn
          split at h
          · cases h
          · rename_i hn0
            split at h
            · rename_i b off
              cases h
              refine .pure fun _ W hp₀ β₀ β a w hr => ?_
              obtain ⟨hlt, ex⟩ := opSc_den hx (ev_den hr x)
              refine ⟨.pointer (some ⟨β.b b, off + fd.offset, none⟩), ?_, hlt, rfl⟩
              simp only [execOp, ho, ex, Instr.fieldAt, underlying, Sem.run_bind, run_program, Result.andThen_ok, hu, Sem.run_pure, hfd', Instr.sureAddr, fieldPlace, run_sizeOf hn, hn0, if_false, addr_add]
            · rename_i s' wd z f0
              cases h
              refine .pure fun _ W hp₀ β₀ β a w hr => ?_
              obtain ⟨ad, n', c, h1, h2, h3, ex⟩ := opSc_den hx (ev_den hr x)
              refine ⟨.pointer (some (ad.add (z.toNat * wd + (f0 + fd.offset)))), ?_, ad, n', c, h1, h2, h3, rfl⟩
              simp only [execOp, ho, ex, Instr.fieldAt, underlying, Sem.run_bind, run_program, Result.andThen_ok, hu, Sem.run_pure, hfd', Instr.sureAddr, fieldPlace, run_sizeOf hn, hn0, if_false, add_add', Nat.add_assoc]
            · cases h
        · cases h
      · cases h
    · cases h
  case field s x f =>
    simp only [Ask.val] at h
    split at h
    · rename_i l fs hx hf
      split at h
      · rename_i fd hfd
        obtain ⟨y, hy, he⟩ := map_some h
        cases he
        refine .pure fun _ W hp₀ β₀ β a w hr => ?_
        have hd := ev_den hr x; rw [hx] at hd
        obtain ⟨cs, ex, hd⟩ := hd
        have hu := fieldsT_eq hf
        have hfd' : fs.toArray[f]? = some fd := by simpa using hfd
        obtain ⟨val, h1, h2⟩ := run_part (P := P) (w := w) hd hy
        refine ⟨val, ?_, h2⟩
        simp [execOp, ho, ex, Instr.field, underlying, hu, hfd', asAgg, h1]
      · cases h
    · cases h
  case indexAddr t x i =>
    split at h
    · rename_i s hx; exact idxAddr_ok ho hx h
    · simp [Ask.val] at h
  case index t x i =>
    simp only [Ask.val] at h
    obtain ⟨r, hr1, he⟩ := map_some h
    cases he
    exact idx_ok ho (by rw [hr1])
  case extract x i =>
    simp only [Ask.val] at h
    split at h
    · rename_i l hx
      obtain ⟨y, hy, he⟩ := map_some h
      cases he
      refine .pure fun _ W hp₀ β₀ β a w hr => ?_
      have hd := ev_den hr x; rw [hx] at hd
      obtain ⟨cs, ex, hd⟩ := hd
      obtain ⟨val, h1, h2⟩ := hd.get hy
      have h1' : cs.toArray[i]? = some val := by simpa using h1
      exact ⟨val, by simp [execOp, ho, ex, Instr.extract, h1'], h2⟩
    · cases h
end
end Go.Ev
