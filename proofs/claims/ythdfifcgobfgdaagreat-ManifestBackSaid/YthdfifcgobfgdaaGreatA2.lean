/- What the laws lean on, part 2: a reader of code, plain facts, and what each function gives; no conditions. -/
import Derived.Deep.AppendSrc
import Derived.Lib.AppendZerosOnto
import Derived.LoopN
import Derived.Orders
import Derived.Test.YthdfifcgobfgdaaGreatA1
section
set_option linter.unusedVariables false
set_option linter.unusedSimpArgs false
namespace Go.Ev
open Go
section
variable {P : Program} {st : St} {o : Oper} {q : Option Prop} {v : LV} {d : List (Nat × Item)}
theorem slice_ok {id : Nat} {t : TypeId} {x : Operand} {lo hi mx : Option Operand} (ho : o.op = .slice t x lo hi mx)
    (h : ((opEv P id (ev st) (.slice t x lo hi mx)).val st.hp) = some (q, v, d)) : OpOk P o st q v d := by
  have h0 := h
  simp only [opEv] at h
  split at h
  · rename_i b off n el _ hx harr
    refine sliceArr_ok ho hx harr ?_
    simp only [opEv] at h0 ⊢
    exact h0
  · rename_i b off len cap el hx harr hsl
    have hu := sliceT_eq hsl
    simp only [Ask.val] at h
    split at h
    · rename_i l hh m sz hsp hs
      cases h
      refine OpOk.pure fun _ W hp₀ β₀ β a w hr => ?_
      obtain ⟨hb2, ex⟩ := opSc_den hx (ev_den hr x)
      have hsb := litS (P := P) hr (isS := true) hsp
      refine ⟨.slice (some ⟨β.b b, if m = l then off else off + l * sz, none⟩) (hh - l) (m - l), ?_, hb2, rfl⟩
      simp only [execOp, ho, ex, Instr.sliceAt, Instr.slice, underlying, Sem.run_bind, run_program, Result.andThen_ok, hu, Sem.run_pure, hsb, run_sizeOf hs]
      split <;> simp [addr_add]
    · cases h
  · rename_i s el hx harr hsl
    have hu := sliceT_eq hsl
    rw [Ask.val_map] at h
    split at h
    · rename_i pm ty l sz hc hs
      split at h
      · rename_i x' y' hlo hhi
        split at h
        · rename_i hw; subst hw
          obtain ⟨r, hr1, he⟩ := map_some h
          cases he
          intro hq W hp₀ β₀ β a w hr
          obtain ⟨q1, q2, q3⟩ : 0 ≤ x' ∧ x' ≤ y' ∧ y' ≤ (l.length : Int) := hq
          have hd := opSc_den hx (ev_den hr x)
          obtain ⟨a', n', c', ex, hn, hnc, _⟩ := contOf_ok hr.heap hc hd
          rw [ex] at hd
          rw [← hn] at hhi q3
          have hsb := run_sliceSym (P := P) hr (isS := true) hlo hhi q1 q2 q3 hnc
          obtain ⟨β', k1, k2, k3⟩ := subS_ok hr.heap hc hr1 hd q1 q2 (by rw [← hn]; exact q3)
          refine ⟨β', w, _, _, ?_, .inl rfl, k3, k1, k2⟩
          simp only [execOp, ho, ex, Instr.sliceAt, Instr.slice, underlying, Sem.run_bind, run_program, Result.andThen_ok, hu, Sem.run_pure, Option.map_none]
          rw [hsb]
          simp only [Result.andThen_ok, run_sizeOf hs, Sem.run_pure]
        · cases h
      · cases h
    · cases h
  · simp [Ask.val] at h
theorem makeSlice_ok {id : Nat} {t : TypeId} {x y : Operand} (ho : o.op = .makeSlice t x y) (h : ((opEv P id (ev st) (.makeSlice t x y)).val st.hp) = some (q, v, d)) (hid : (∃ x, (id, x) ∈ d) → kd st.hp id = none) : OpOk P o st q v d := by
  simp only [opEv, Ask.val] at h
  split at h
  · rename_i el k1 n k2 c hsl hn hc
    have hu := sliceT_eq hsl
    split at h
    · rename_i ty sz z by_ hty hs hz hby
      split at h
      · rename_i hcond
        obtain ⟨rfl, hpos, hwz⟩ := hcond
        split at h
        · rename_i z0 hz0
          cases h
          have hid0 := hid ⟨_, by simp; rfl⟩
          intro hq W hp₀ β₀ β a w hr
          obtain ⟨rfl, hn0, hb46, hn46⟩ : c = n ∧ 0 ≤ n ∧ (by_ : Int) * n ≤ 2 ^ 46 ∧ n ≤ 2 ^ 46 := hq
          have en := anyInt_den hn (ev_den hr x)
          have ec := anyInt_den hc (ev_den hr y)
          obtain ⟨zv, hzv, hzd⟩ := run_zero (P := P) (w := w) (β := β) (L := kd st.hp) hz
          have hzs : zv.cells.size = ty.w := by have := hzd.length; simp at this; omega
          have hzh := ty.read_ok hz0 hzd
          have hw64 := wrap_small (n := c) hn0 (by omega)
          have hby' : ∃ i, P.info? el = some i ∧ i.bytes = by_ := by
            unfold bytesT at hby
            obtain ⟨i, h1, h2⟩ := map_some hby
            exact ⟨i, h1, h2⟩
          obtain ⟨i, hi, hib⟩ := hby'
          have hrow : HasL (ty.has β true) (List.replicate c.toNat z0) ((List.replicate c.toNat zv.cells.toList).flatten) := hasL_rep hzh _
          have hown := ownOk_new (β := β) (w := w.alloc (.cells ((List.replicate c.toNat zv.cells.toList).flatten ++ []).toArray el)) (b := w.heap.size) (elem := el) (fz := (0, 0)) (rest := []) (c := c.toNat) (heap_alloc_new w _) hrow (by simp) (by simp) (.inl rfl)
          rw [List.append_nil, List.length_replicate] at hown
          obtain ⟨β', h1, h2, h3⟩ := hr.heap.newOwn hid0 (ver := 0) (w' := w.alloc (.cells ((List.replicate c.toNat zv.cells.toList).flatten).toArray el)) (by rw [World.size_alloc]; exact Nat.le_succ _) rfl rfl (fun b hb => heap_alloc_old w _ b hb) hown (fun a n c e _ => by simp at e; obtain ⟨rfl, _⟩ := e; exact Nat.le_refl _)
          refine ⟨β', _, _, .slice (some ⟨w.heap.size, 0, none⟩) c.toNat c.toNat, ?_, .inl rfl, ?_, h1, h2⟩
          · have hti : (typeInfo el).run P w = .ok i w := by simp [typeInfo, hi]
            have hsmall : ¬ ((c < 0) ∨ ((i.bytes : Int) * c > 2 ^ 48)) := by
              rw [hib]
              intro hh
              rcases hh with hh | hh <;> omega
            have hsmall' : (decide (c < 0) || decide ((i.bytes : Int) * c > 2 ^ 48)) = false := by
              have : ¬ (c < 0) ∧ ¬ ((i.bytes : Int) * c > 2 ^ 48) := ⟨fun hh => hsmall (.inl hh), fun hh => hsmall (.inr hh)⟩
              simp only [this.1, this.2, decide_false, Bool.or_self]
            simp only [execOp, ho, en, ec, Instr.makeSlice, Sem.run_bind, run_underlying hu, Result.andThen_ok, asInt, asIntOf, Sem.run_pure, hti, hw64, hsmall', Bool.false_or]
            rw [if_neg (by simp; omega)]
            simp only [Sem.run_bind, run_askRoom, Result.andThen_ok, run_sizeOf hs]
            by_cases h00 : c.toNat * ty.w = 0
            · have h01 : c.toNat = 0 := by
                rcases Nat.mul_eq_zero.1 h00 with k | k
                · exact k
                · omega
              rw [if_pos h00]
              simp only [Sem.run_bind, Result.andThen_ok, newRow, run_newObj, Sem.run_pure, h01]
              have hr0 : (Array.range 0).map (fun x => (#[] : Array Value)[x % (#[] : Array Value).size]!) = #[] := by simp
              rw [Nat.zero_mul, hr0]
              simp
            · rw [if_neg h00]
              simp only [Sem.run_bind, hzv, Result.andThen_ok, newRow, run_newObj, Sem.run_pure, arr_range_map c.toNat hzs]
              rfl
          · refine ⟨rfl, 0, ?_, Nat.le_refl _, fun _ => h3.symm⟩
            show kd (setAt st.hp id _) id = _
            rw [kd_setAt, if_pos rfl]; rfl
        · cases h
      · cases h
    · cases h
  · cases h
theorem buildSlice_ok {id : Nat} {t : TypeId} {len : Nat} {parts : Array (Nat × Operand)} (ho : o.op = .buildSlice t len parts) (h : ((opEv P id (ev st) (.buildSlice t len parts)).val st.hp) = some (q, v, d)) (hid : (∃ x, (id, x) ∈ d) → kd st.hp id = none) : OpOk P o st q v d := by
  simp only [opEv, Ask.val] at h
  split at h
  · rename_i el hsl
    have hu := sliceT_eq hsl
    split at h
    · rename_i sz z hs hz
      split at h
      · rename_i hcond
        obtain ⟨h16, hwz, hpos⟩ := hcond
        split at h
        · rename_i l hl
          have base : ∀ (W : World) (hp₀ : Hp) (β₀ β : Env) (a : Act) (w : World), Rel W hp₀ β₀ β st a w →
              ∃ c : List Value, DenL β (kd st.hp) l c ∧ (execOp a.eval o).run P w = .ok (.value (.slice (some ⟨w.heap.size, 0, none⟩) len len)) (w.alloc (.cells c.toArray el)) := by
            intro W hp₀ β₀ β a w hr
            obtain ⟨zv, hzv, hzd⟩ := run_zero (P := P) (w := w) (β := β) (L := kd st.hp) hz
            have hzs : zv.cells.size = sz := by have := hzd.length; simp at this; omega
            obtain ⟨c, hcc, hd⟩ := fill_ok (β := β) (L := kd st.hp) (place := fun i => some (i * sz, sz)) _ (parts.toList.map fun p => (p.1, a.eval p.2)) _ _ l (denL_rep hzd len)
              (All2.of_map _ _ _ fun p _ => ⟨rfl, ev_den hr p.2⟩) hl
            refine ⟨c, hd, ?_⟩
            simp only [execOp, ho, Instr.buildSlice, Sem.run_bind, run_underlying hu, Result.andThen_ok, run_sizeOf hs]
            rw [if_neg (by omega)]
            have hcc' : Instr.fill (fun i => some (i * sz, sz)) ((List.replicate len zv.cells.toList).flatten).toArray (Array.map (fun x => match x with | (i, x) => (i, a.eval x)) parts).toList = some c.toArray := by
              rw [← hcc]; simp
            by_cases h00 : len * sz = 0
            · have h01 : len = 0 := by
                rcases Nat.mul_eq_zero.1 h00 with k | k
                · exact k
                · omega
              rw [if_pos h00]
              have hcc2 : Instr.fill (fun i => some (i * sz, sz)) #[] (Array.map (fun x => match x with | (i, x) => (i, a.eval x)) parts).toList = some c.toArray := by
                rw [← hcc', h01]; simp
              simp only [Sem.run_bind, Result.andThen_ok, Sem.run_pure, h00]
              have hr0 : (Array.range 0).map (fun x => (#[] : Array Value)[x % (#[] : Array Value).size]!) = #[] := by simp
              rw [hr0, hcc2]
              simp [newRow]
            · rw [if_neg h00]
              simp only [Sem.run_bind, hzv, Result.andThen_ok, Sem.run_pure, arr_range_map len hzs]
              rw [hcc']
              simp [newRow]
          have hexp : some (q, v, d) = some ((none : Option Prop), LV.one (.sc (.slice id 0 len len)), [(id, Item.blk l el)]) → OpOk P o st q v d := by
            intro he; cases he
            have hid := hid ⟨_, by simp; rfl⟩
            intro _ W hp₀ β₀ β a w hr
            obtain ⟨c, hd, hrun⟩ := base W hp₀ β₀ β a w hr
            obtain ⟨β', h1, h2, h3⟩ := hr.heap.newBlk hid el hd
            refine ⟨β', _, _, _, hrun, .inl rfl, ⟨?_, by rw [h3]⟩, h1, h2⟩
            show kd (setAt st.hp id _) id = _
            rw [kd_setAt, if_pos rfl]; rfl
          split at h
          · rename_i ty hty
            split at h
            · rename_i hw; subst hw
              split at h
              · rename_i xs hxs
                cases h
                have hid := hid ⟨_, by simp; rfl⟩
                intro _ W hp₀ β₀ β a w hr
                obtain ⟨c, hd, hrun⟩ := base W hp₀ β₀ β a w hr
                obtain ⟨hh, hlen⟩ := readN_ok (R := ty.has β true) (fun a x vs h hd => ty.read_ok h hd) _ hxs hd
                have hown := ownOk_new (β := β) (w := w.alloc (.cells (c ++ []).toArray el)) (b := w.heap.size) (elem := el) (fz := (0, 0)) (rest := []) (c := len) (heap_alloc_new w _) hh (by omega) (by simp [hlen]) (.inl rfl)
                rw [List.append_nil, hlen] at hown
                obtain ⟨β', h1, h2, h3⟩ := hr.heap.newOwn hid (ver := 0) (w' := w.alloc (.cells c.toArray el)) (by rw [World.size_alloc]; exact Nat.le_succ _) rfl rfl (fun b hb => heap_alloc_old w _ b hb) hown (fun a n c e _ => by simp at e; obtain ⟨rfl, _⟩ := e; exact Nat.le_refl _)
                refine ⟨β', _, _, _, hrun, .inl rfl, ⟨rfl, 0, ?_, Nat.le_refl _, fun _ => h3.symm⟩, h1, h2⟩
                show kd (setAt st.hp id _) id = _
                rw [kd_setAt, if_pos rfl]; rfl
              · exact hexp h.symm
            · cases h
          · exact hexp h.symm
        · cases h
      · cases h
    · cases h
  · cases h
theorem nilCmp_ok {op : BinOp} {t : TypeId} {ox oy : Operand} {x y : LV} {b : Bool} (h : nilCmp P op t x y = some b) {w : World} {β : Env} {L : Nat → Option Kd} {xv yv : Value} (hx : x.den β L xv) (hy : y.den β L yv) :
    (do eqGuard op t ox oy xv yv; binOp op t xv yv : Sem Value).run P w = .ok (.bool b) w := by
  unfold nilCmp at h
  have key : ∀ {pm : Bool} {ty : Ty} {l : List ty.D} {n c : Nat} {e : TypeId}, sliceT P t = some e → (LV.one (.sc (.rd pm true ty l))).den β L xv → (LV.one (.sc (.con (.slice none n c)))).den β L yv →
      ∃ a n c n' c', xv = .slice (some a) n c ∧ yv = .slice none n' c' := by
    intro pm ty l n c e _ h1 h2
    obtain ⟨_, h3, _⟩ := h1
    obtain ⟨_, rfl⟩ := h2
    have := h3 rfl
    cases xv with
    | slice a n' c' => cases a with
      | none => exact absurd rfl this
      | some a => exact ⟨a, n', c', n, c, rfl, rfl⟩
    | _ => exact this.elim
  split at h
  · rename_i e hsl
    cases h
    obtain ⟨a, n, c, n', c', rfl, rfl⟩ := key hsl hx hy
    rw [Sem.run_bind, eqGuard_plain (by simp) (by simp)]
    exact eql_run rfl (eq_slice_nil (sliceT_eq hsl))
  · rename_i e hsl
    cases h
    obtain ⟨a, n, c, n', c', rfl, rfl⟩ := key hsl hx hy
    rw [Sem.run_bind, eqGuard_plain (by simp) (by simp)]
    exact neq_run rfl (eq_slice_nil (sliceT_eq hsl))
  · cases h
theorem opEv_ok {id : Nat} (h : (opEv P id (ev st) o.op).val st.hp = some (q, v, d)) (hid : (∃ x, (id, x) ∈ d) → kd st.hp id = none) : OpOk P o st q v d := by
  cases ho : o.op <;> rw [ho] at h <;> (try (simp [opEv, Ask.val] at h; done))
  case slice t x lo hi mx => exact slice_ok ho h
  case makeSlice t x y => exact makeSlice_ok ho h hid
  case buildSlice t n parts => exact buildSlice_ok ho h hid
  all_goals simp only [opEv] at h
  case move x =>
    cases h
    exact .pure fun _ W hp₀ β₀ β a w hr => ⟨a.eval x, by simp [execOp, ho], ev_den hr x⟩
  case assign x =>
    cases h
    exact .pure fun _ W hp₀ β₀ β a w hr => ⟨a.eval x, by simp [execOp, ho], ev_den hr x⟩
  case pick c x y =>
    simp only [Ask.val] at h
    split at h
    · rename_i t hc
      cases h
      refine .pure fun _ W hp₀ β₀ β a w hr => ⟨if t then a.eval x else a.eval y, ?_, ?_⟩
      · have := ev_den hr c; rw [hc] at this
        have e : a.eval c = .bool t := this
        simp [execOp, ho, e, asBool]
      · cases t
        · exact ev_den hr y
        · exact ev_den hr x
    · rename_i t hc
      have hpick : ∀ (a : Act) (w : World) {W : World} {hp₀ : Hp} {β₀ β : Env}, Rel W hp₀ β₀ β st a w → (execOp a.eval o).run P w = .ok (.value (if t then a.eval x else a.eval y)) w := by
        intro a w W hp₀ β₀ β hr
        have := ev_den hr c; rw [hc] at this
        have e : a.eval c = .bool t := this
        simp [execOp, ho, e, asBool]
      split at h
      · rename_i u v hx hy
        cases h
        refine .pure fun _ W hp₀ β₀ β a w hr => ⟨_, hpick a w hr, ?_⟩
        cases t
        · exact joinV_right (J := trivJ) (L₁ := kd st.hp) ⟨fun _ _ h => h, fun _ _ _ _ h => (by cases h), fun _ h => (by cases h)⟩ (hy ▸ ev_den hr y)
        · exact joinV_left (J := trivJ) (L₁ := kd st.hp) ⟨fun _ _ h => h, fun _ _ _ _ h => (by cases h), fun _ h => (by cases h)⟩ (hx ▸ ev_den hr x)
      · rename_i u hx _
        cases h
        refine .pure fun hq W hp₀ β₀ β a w hr => ⟨_, hpick a w hr, ?_⟩
        have ht : t = true := hq
        subst ht
        exact hx ▸ ev_den hr x
      · rename_i u hy _
        cases h
        refine .pure fun hq W hp₀ β₀ β a w hr => ⟨_, hpick a w hr, ?_⟩
        have ht : t = false := hq
        subst ht
        exact hy ▸ ev_den hr y
      · cases h
    · cases h
  case alloc t =>
    simp only [Ask.val] at h
    obtain ⟨l, hl, he⟩ := map_some h
    cases he
    have hid := hid ⟨_, by simp; rfl⟩
    refine opOk_new (mk := fun _ => Instr.alloc t true (.tuple #[])) (fun a => by simp [execOp, ho]) (fun W hp₀ β₀ β a w hr => ?_) hid
    obtain ⟨z, hz, hd⟩ := run_zero (P := P) (w := w) (β := β) (L := kd st.hp) hl
    refine ⟨_, hd, ?_⟩
    simp only [Instr.alloc, Sem.run_bind, hz, Result.andThen_ok, newVar, newRow, run_newObj, Sem.run_pure]
    simp
  case box t x =>
    simp only [Ask.val] at h
    obtain ⟨l, hl, he⟩ := map_some h
    cases he
    have hid := hid ⟨_, by simp; rfl⟩
    refine opOk_new (mk := fun a => Instr.box t (a.eval x)) (fun a => by simp [execOp, ho]) (fun W hp₀ β₀ β a w hr => ?_) hid
    obtain ⟨cs, hcs, hd⟩ := cellsOf_den hl (ev_den hr x)
    refine ⟨_, hd, ?_⟩
    simp only [Instr.box, Sem.run_bind, Result.andThen_ok, newVar, newRow, run_newObj, Sem.run_pure, hcs]
    rfl
  case build t parts =>
    simp only [Ask.val] at h
    split at h
    · rename_i z place hz hpl
      obtain ⟨l, hl, he⟩ := map_some h
      cases he
      refine .pure fun _ W hp₀ β₀ β a w hr => ?_
      obtain ⟨zv, hzv, hzd⟩ := run_zero (P := P) (w := w) (β := β) (L := kd st.hp) hz
      obtain ⟨c, hc, hd⟩ := fill_ok (β := β) (L := kd st.hp) (place := place) _ (parts.toList.map fun p => (p.1, a.eval p.2)) z zv.cells.toList l hzd
        (All2.of_map _ _ _ fun p _ => ⟨rfl, ev_den hr p.2⟩) hl
      refine ⟨.agg c.toArray, ?_, c, rfl, hd⟩
      unfold placesT at hpl
      split at hpl
      · rename_i fs hu
        obtain ⟨pl, hpl1, rfl⟩ := map_some hpl
        have := run_mapM_places (P := P) (w := w) fs.toList pl hpl1
        simp only [execOp, ho, Instr.build, Sem.run_bind, hzv, Result.andThen_ok, underlying, run_program, hu, Sem.run_pure]
        rw [Array.mapM_eq_mapM_toList]
        simp only [Sem.run_map, this, Result.andThen_ok]
        simp at hc
        simp [hc]
      · rename_i n e hu
        obtain ⟨s, hs, rfl⟩ := map_some hpl
        simp only [execOp, ho, Instr.build, Sem.run_bind, hzv, Result.andThen_ok, underlying, run_program, hu, Sem.run_pure, run_sizeOf hs]
        simp at hc
        simp [hc]
      · simp at hpl
    · cases h
  case load t x =>
    split at h
    · rename_i s hx; exact load_ok ho hx h
    · simp [Ask.val] at h
  case store t x y =>
    split at h
    · rename_i s l hx hl; exact store_ok ho hx hl h
    · simp [Ask.val] at h
  case nilCheck x =>
    simp only [Ask.val] at h
    split at h
    · rename_i b off hx
      cases h
      refine .pure fun _ W hp₀ β₀ β a w hr => ?_
      have hd := ev_den hr x; rw [hx] at hd
      obtain ⟨hlt, e⟩ : kd st.hp b = some .blk ∧ a.eval x = .pointer (some ⟨β.b b, off, none⟩) := hd
      exact ⟨_, by simp [execOp, ho, e], hlt, rfl⟩
    · rename_i s wd z f hx
      cases h
      refine .pure fun _ W hp₀ β₀ β a w hr => ?_
      have hd := ev_den hr x; rw [hx] at hd
      have hd' := hd
      obtain ⟨ad, n, c, h1, h2, h3, e⟩ := hd
      refine ⟨.pointer (some (ad.add (z.toNat * wd + f))), by simp [execOp, ho, e], ?_⟩
      rw [e] at hd'; exact hd'
    · cases h
  case binOp op t x y yt =>
    simp only [Ask.val] at h
    split at h
    · rename_i b hn
      cases h
      refine .pure fun hq W hp₀ β₀ β a w hr => ⟨.bool b, ?_, rfl⟩
      have := nilCmp_ok (w := w) (ox := x) (oy := y) hn (ev_den hr x) (ev_den hr y)
      simp only [execOp, ho]
      rw [Sem.run_bind, this]; rfl
    · obtain ⟨r, hr1, he⟩ := map_some h
      cases he
      refine .pure fun hq W hp₀ β₀ β a w hr => ?_
      obtain ⟨val, e1, e2⟩ := binLV_ok (P := P) (w := w) (ox := x) (oy := y) (s := r.2) (q := r.1) (by rw [hr1]) hq (ev_den hr x) (ev_den hr y)
      refine ⟨val, ?_, e2⟩
      simp only [execOp, ho]
      rw [Sem.run_bind, e1]; rfl
  case unOp op t x =>
    simp only [Ask.val] at h
    split at h
    · rename_i s h1
      obtain ⟨r, hr1, he⟩ := map_some h
      cases he
      refine .pure fun hq W hp₀ β₀ β a w hr => ?_
      have hd := opSc_den h1 (ev_den hr x)
      cases s <;> simp only [unEv] at hr1 <;> try (simp at hr1; done)
      · cases op <;> simp at hr1 <;> subst hr1 <;> (have e : a.eval x = _ := hd)
        · exact ⟨_, by simp [execOp, ho, e, Op.unary, Op.intArith]; rfl, by simp only [LV.den, VV.den, SV.den, map2_val]; simp [SI.val]⟩
        · exact ⟨_, by simp only [execOp, ho, e, Op.unary, Op.intBits]; rfl, by simp only [LV.den, VV.den, SV.den, map2_val]; rfl⟩
      · rename_i b
        cases op <;> simp at hr1 <;> subst hr1
        have e : a.eval x = _ := hd
        exact ⟨_, by simp [execOp, ho, e, Op.unary]; rfl, by cases b <;> simp [LV.den, VV.den, SV.den, SB.val]⟩
    · cases h
  case convert src dst x =>
    split at h
    · rename_i s hx; exact conv_ok ho hx h hid
    · simp [Ask.val] at h
  case sliceToArrayPointer t x =>
    split at h
    · rename_i b off len cap n e hx ha
      simp only [Ask.val] at h
      split at h
      · rename_i hle
        cases h
        refine .pure fun _ W hp₀ β₀ β a w hr => ?_
        obtain ⟨hlt, ex⟩ := opSc_den hx (ev_den hr x)
        have hu := arrayT_eq ha
        exact ⟨_, by simp [execOp, ho, ex, Instr.arrayAt, underlying, hu, Nat.not_lt.2 hle], hlt, rfl⟩
      · cases h
    · rename_i s n e hns hx ha
      rw [Ask.val_map] at h
      split at h
      · rename_i pm ty l hc
        split at h
        · rename_i hcond
          obtain ⟨hn0, hs⟩ := hcond
          cases h
          refine .pure fun hq W hp₀ β₀ β a w hr => ?_
          have hq' : n ≤ l.length := hq
          have hd := opSc_den hx (ev_den hr x)
          obtain ⟨a', n', c', ex, hn, hnc, _, hrest⟩ := contOf_ok hr.heap hc hd
          obtain ⟨a0, _, rfl, _⟩ := hrest (by omega)
          have hu := arrayT_eq ha
          rw [ex] at hd
          refine ⟨.pointer (some a0), ?_, a0, n', c', hd, Int.le_refl _, by omega, by simp [Addr.add]⟩
          simp [execOp, ho, ex, Instr.arrayAt, underlying, hu, show ¬ n' < n by omega]
        · cases h
      · cases h
    · simp [Ask.val] at h
  case fieldAddr s x f =>
    simp only [Ask.val] at h
    split at h
    · rename_i av fs hx hf
      have hu := fieldsT_eq hf
      split at h
      · rename_i fd hfd
        have hfd' : fs.toArray[f]? = some fd := by simpa using hfd
        split at h
        · rename_i n hn
          split at h
          · cases h
          · rename_i hn0
            split at h
            · rename_i b off
              cases h
              refine .pure fun _ W hp₀ β₀ β a w hr => ?_
              obtain ⟨hlt, ex⟩ := opSc_den hx (ev_den hr x)
              refine ⟨.pointer (some ⟨β.b b, off + fd.offset, none⟩), ?_, hlt, rfl⟩
              simp only [execOp, ho, ex, Instr.fieldAt, underlying, Sem.run_bind, run_program, Result.andThen_ok, hu, Sem.run_pure, hfd', Instr.sureAddr, fieldPlace, run_sizeOf hn, hn0, if_false, addr_add]
            · rename_i s' wd z f0
              cases h
              refine .pure fun _ W hp₀ β₀ β a w hr => ?_
              obtain ⟨ad, n', c, h1, h2, h3, ex⟩ := opSc_den hx (ev_den hr x)
              refine ⟨.pointer (some (ad.add (z.toNat * wd + (f0 + fd.offset)))), ?_, ad, n', c, h1, h2, h3, rfl⟩
              simp only [execOp, ho, ex, Instr.fieldAt, underlying, Sem.run_bind, run_program, Result.andThen_ok, hu, Sem.run_pure, hfd', Instr.sureAddr, fieldPlace, run_sizeOf hn, hn0, if_false, add_add', Nat.add_assoc]
            · cases h
        · cases h
      · cases h
    · cases h
  case field s x f =>
    simp only [Ask.val] at h
    split at h
    · rename_i l fs hx hf
      split at h
      · rename_i fd hfd
        obtain ⟨y, hy, he⟩ := map_some h
        cases he
        refine .pure fun _ W hp₀ β₀ β a w hr => ?_
        have hd := ev_den hr x; rw [hx] at hd
        obtain ⟨cs, ex, hd⟩ := hd
        have hu := fieldsT_eq hf
        have hfd' : fs.toArray[f]? = some fd := by simpa using hfd
        obtain ⟨val, h1, h2⟩ := run_part (P := P) (w := w) hd hy
        refine ⟨val, ?_, h2⟩
        simp [execOp, ho, ex, Instr.field, underlying, hu, hfd', asAgg, h1]
      · cases h
    · cases h
  case indexAddr t x i =>
    split at h
    · rename_i s hx; exact idxAddr_ok ho hx h
    · simp [Ask.val] at h
  case index t x i =>
    simp only [Ask.val] at h
    obtain ⟨r, hr1, he⟩ := map_some h
    cases he
    exact idx_ok ho (by rw [hr1])
  case extract x i =>
    simp only [Ask.val] at h
    split at h
    · rename_i l hx
      obtain ⟨y, hy, he⟩ := map_some h
      cases he
      refine .pure fun _ W hp₀ β₀ β a w hr => ?_
      have hd := ev_den hr x; rw [hx] at hd
      obtain ⟨cs, ex, hd⟩ := hd
      obtain ⟨val, h1, h2⟩ := hd.get hy
      have h1' : cs.toArray[i]? = some val := by simpa using h1
      exact ⟨val, by simp [execOp, ho, ex, Instr.extract, h1'], h2⟩
    · cases h
end
end Go.Ev
end

section
set_option linter.unusedVariables false
set_option linter.unusedSimpArgs false
namespace Go.Ev
open Go
/-- what is appended or copied -/
def srcAs (P : Program) (ty : Ty) (t : TypeId) (x : SV) : Ask (Option (Bool × List ty.D)) :=
  match sliceT P t with
  | some _ => contAs ty x
  | none => match P.underlying t with
    | some .string => .ret (if h : Ty.int .u8 = ty then (strOfS x).map fun l => (true, h ▸ (l.map fun n => ((UInt8.ofNat n.toNat).toNat : Int))) else none)
    | _ => .ret none
def lenS (P : Program) (t : TypeId) (x : SV) : Ask (Option SI) :=
  match x with
  | .con (.slice _ n _) => .ret ((sliceT P t).map fun _ => .lit n)
  | .slice _ _ n _ => .ret ((sliceT P t).map fun _ => .lit n)
  | .str l => .ret (if P.underlying t matches some .string then some (.sym l.length) else none)
  | .con (.string s) => .ret (if P.underlying t matches some .string then some (.lit s.size) else none)
  | x => match sliceT P t with
    | some _ => (contOf x).map fun c => c.map fun c => .sym c.2.2.length
    | none => .ret none
def minmax (f : Int → Int → Int) (k : IntKind) : SI → List SV → Option SI
  | x, [] => some x
  | x, .int k' y :: l => if k' = k then minmax f k (map2 f x y) l else none
  | _, _ => none
def min2I (x y : Int) : Int := if y < x then y else x
def max2I (x y : Int) : Int := if y > x then y else x
/-- n elements put over others, from z on, no more than up to z + len -/
def overL {α : Type} (l : List α) (z len : Nat) (m : List α) : List α := l.take z ++ (m.take len ++ l.drop (z + min len m.length))
def appEv (P : Program) (id : Nat) (t u : TypeId) (s x : SV) : Ask Stp :=
  match sliceT P t with
  | none => .ret none
  | some el => match tyOf P 8 el, sizeT P el, zeroT P el, bytesT P el with
    | some ty, some sz, some z, some by_ =>
      if sz = ty.w ∧ 0 < ty.w ∧ wL z = ty.w then
        (srcAs P ty u x).bind fun c => match c with
          | some (pm, m) => if pm || ty.flat then
              match s with
              | .con (.slice none 0 0) => .ret (some (some (m.length * by_ ≤ 70368744177664 ∧ m.length ≤ 70368744177664), .one (.sc (.sl id 0)), [(id, .own 0 ty m)]))
              | .sl i ver => .get i fun y => .ret (match y with
                | some (.own ver' ty' l) => if h : ty' = ty then (if ver = ver' then some (some ((l.length + m.length) * by_ ≤ 70368744177664 ∧ l.length + m.length ≤ 70368744177664), .one (.sc (.sl i (ver + 1))), [(i, .own (ver + 1) ty ((h ▸ l : List ty.D) ++ m))]) else none) else none
                | _ => none)
              | _ => .ret none
            else .ret none
          | none => .ret none
      else .ret none
    | _, _, _, _ => .ret none
/-- so many zero values appended -/
def appZEv (P : Program) (id : Nat) (t u : TypeId) (s : SV) (n : Int) : Ask Stp :=
  match sliceT P t, P.underlying u with
  | some el, some (.int _) => match tyOf P 8 el, sizeT P el, zeroT P el, bytesT P el with
    | some ty, some sz, some z, some by_ =>
      if sz = ty.w ∧ 0 < ty.w ∧ wL z = ty.w then
        match ty.read true z with
        | some z0 => match s with
          | .con (.slice none 0 0) => .ret (some (some (0 ≤ n ∧ n.toNat * by_ ≤ 70368744177664 ∧ n.toNat ≤ 70368744177664), .one (.sc (.sl id 0)), [(id, .own 0 ty (List.replicate n.toNat z0))]))
          | .sl i ver => .get i fun y => .ret (match y with
            | some (.own ver' ty' l) => if h : ty' = ty then (if ver = ver' then some (some (0 ≤ n ∧ (l.length + n.toNat) * by_ ≤ 70368744177664 ∧ l.length + n.toNat ≤ 70368744177664), .one (.sc (.sl i (ver + 1))), [(i, .own (ver + 1) ty ((h ▸ l : List ty.D) ++ List.replicate n.toNat z0))]) else none) else none
            | _ => none)
          | _ => .ret none
        | none => .ret none
      else .ret none
    | _, _, _, _ => .ret none
  | _, _ => .ret none
def copyEv (P : Program) (t u : TypeId) (d x : SV) : Ask Stp :=
  match sliceT P t with
  | none => .ret none
  | some el => match tyOf P 8 el, sizeT P el with
    | some ty, some sz =>
      if sz = ty.w ∧ 0 < ty.w then
        (match sliceT P u with | some _ => contAs ty x | none => .ret none).bind fun c => match c with
          | some (pm, m) => if pm || ty.flat then
              match d with
              | .sl i ver => .get i fun y => .ret (match y with
                | some (.own ver' ty' l) => if h : ty' = ty then (if ver = ver' then some (none, .one (.sc (.int .i64 (.sym (min m.length l.length : Nat)))), [(i, .own ver' ty (overL (h ▸ l) 0 l.length m))]) else none) else none
                | _ => none)
              | .vw i ver w z n => .get i fun y => .ret (match y with
                | some (.own ver' ty' l) => if h : ty' = ty then (if ver = ver' ∧ w = ty.w then some (none, .one (.sc (.int .i64 (.sym (min m.length n.toNat : Nat)))), [(i, .own ver' ty (overL (h ▸ l) z.toNat n.toNat m))]) else none) else none
                | _ => none)
              | .vb b o' ty' k z n => .get b fun y => .ret (match y with
                | some (.blk cells elem) => match rowAt cells o' with
                  | some (.arr ty'' k' l) => if h : ty'' = ty then (if ty' = ty ∧ k' = k then (setRowAt cells o' (.arr ty k' (overL (h ▸ l) z.toNat n.toNat m))).map fun c => (none, .one (.sc (.int .i64 (.sym (min m.length n.toNat : Nat)))), [(b, .blk c elem)]) else none) else none
                  | _ => none
                | _ => none)
              | .slice b o' n _ => .get b fun y => .ret (match y with
                | some (.blk cells elem) => match subL cells o' (n * ty.w) with
                  | some s => match readN (ty.read true) ty.w n s with
                    | some l => (cutput cells o' ((List.range n).flatMap fun j => ty.svs true ((overL l 0 n m).getD j ty.z))).map fun c => (none, .one (.sc (.int .i64 (.sym (min m.length n : Nat)))), [(b, .blk c elem)])
                    | none => none
                  | none => none
                | _ => none)
              | _ => .ret none
            else .ret none
          | none => .ret none
      else .ret none
    | _, _ => .ret none
def biEv (P : Program) (id : Nat) (b : Builtin) (ts : List TypeId) (xs : List LV) : Ask Stp :=
  match b, ts, xs with
  | .len, [t], [x] => match opSc x with
    | some x => (lenS P t x).map fun n => n.map fun n => (none, .one (.sc (.int .i64 n)), [])
    | none => .ret none
  | .append, [t, u], [s, x] => match opSc s, opSc x with
    | some s, some (.int _ n) => appZEv P id t u s n.val
    | some s, some x => appEv P id t u s x
    | _, _ => .ret none
  | .copy, [t, u], [s, x] => match opSc s, opSc x with
    | some s, some x => copyEv P t u s x
    | _, _ => .ret none
  | .min, _, x :: l => .ret (match opSc x, optAll opSc l with
    | some (.int k x), some l => (minmax min2I k x l).map fun n => (none, .one (.sc (.int k n)), [])
    | _, _ => none)
  | .max, _, x :: l => .ret (match opSc x, optAll opSc l with
    | some (.int k x), some l => (minmax max2I k x l).map fun n => (none, .one (.sc (.int k n)), [])
    | _, _ => none)
  | _, _, _ => .ret none
section
variable {P : Program} {W : World} {hp₀ : Hp} {β₀ β : Env} {hp : Hp} {w : World}
theorem src_slice {β : Env} {pm : Bool} {ty : Ty} {t e : TypeId} (hu : P.underlying t = some (.slice e)) {v : Value} {m : List ty.D} (h : ReadsAs β pm w v ty m) :
    ∃ news, Src P ty.w t v m.length news w ∧ HasL (ty.has β pm) m news := by
  obtain ⟨a, n, c, rfl, rfl, hc, _, hr⟩ := h
  rcases Nat.eq_zero_or_pos m.length with h0 | h0
  · have : m = [] := List.eq_nil_of_length_eq_zero h0
    subst this
    refine ⟨[], ?_, .nil⟩
    cases a with
    | none => exact Src.ofNil w hu c
    | some a => exact Src.ofSlice w hu a 0 c [] (by simp) (fun j u h => by simp at h) (fun u h => by cases h)
  · obtain ⟨a0, vss, rfl, h1, h2, h3⟩ := hr h0
    exact ⟨vss, Src.ofSlice w hu a0 m.length c vss (hasL_length h2) (fun j u hj => h3 j u hj) (hasL_one h2), h2⟩
theorem byteCells_has {β : Env} (l : List Int) : HasL ((Ty.int .u8).has β true) (l.map fun n => ((UInt8.ofNat n.toNat).toNat : Int)) (byteCells (strOf l)) := by
  have : byteCells (strOf l) = (l.map fun n => ((UInt8.ofNat n.toNat).toNat : Int)).map (Value.int .u8) := by
    simp [byteCells, strOf]
  rw [this]
  generalize (l.map fun n => ((UInt8.ofNat n.toNat).toNat : Int)) = m
  induction m with
  | nil => exact .nil
  | cons x m ih => exact HasL.cons (vs := [_]) rfl ih
theorem srcAs_ok (h : HRel W hp₀ β₀ β hp w) {ty : Ty} {t : TypeId} {x : SV} {pm : Bool} {m : List ty.D} (hs : (srcAs P ty t x).val hp = some (pm, m)) (hf : (pm || ty.flat) = true) {v : Value} (hd : x.den β (kd hp) v) :
    ∃ news, Src P ty.w t v m.length news w ∧ HasL (ty.has β true) m news := by
  unfold srcAs at hs
  split at hs
  · rename_i e hsl
    obtain ⟨news, h1, h2⟩ := src_slice (P := P) (sliceT_eq hsl) (contAs_ok h hs hd)
    refine ⟨news, h1, ?_⟩
    cases pm with
    | true => exact h2
    | false => exact h2.imp fun _ _ => ty.has_pm (by simpa using hf)
  · split at hs
    · rename_i hu
      simp only [Ask.val] at hs
      split at hs
      · rename_i e; subst e
        obtain ⟨l, hl, he⟩ := map_some hs
        cases he
        have hv := strOfS_den hl hd
        subst hv
        refine ⟨byteCells (strOf l), ?_, byteCells_has l⟩
        have := Src.ofString (P := P) w hu (strOf l)
        rw [strOf_size] at this
        rw [List.length_map]; exact this
      · cases hs
    · simp [Ask.val] at hs
theorem zero_cells {el : TypeId} {z : List SV} {n : Nat} (hz : zeroT P el = some z) (hw : wL z = n) : ∃ i zv, P.info? el = some i ∧ i.zero = some zv ∧ zv.cells.size = n := by
  unfold zeroT at hz
  split at hz
  · rename_i i lay hi _
    split at hz
    · rename_i zv hzv
      have := (zeroBy_ok (β := ⟨fun _ => 0, fun _ => .nilIface, fun _ _ _ _ => False⟩) (L := fun _ => none) _ _ hz).length
      exact ⟨i, zv, hi, hzv, by simpa [hw] using this⟩
    · cases hz
  · cases hz
/-- elements appended to an own slice, or to none -/
theorem append_own {t u el ty_ : TypeId} {ty : Ty} {z : List SV} {by_ : Nat} (hsl : sliceT P t = some el) (hs : sizeT P el = some ty.w) (hpos : 0 < ty.w) (hz : zeroT P el = some z) (hwz : wL z = ty.w) (hby : bytesT P el = some by_)
    {hd : Value} {l m : List ty.D} (hok : OwnOk β w hd ty l) {x : Value} {news : List Value} (hsrc : Src P ty.w u x m.length news w) (hnews : HasL (ty.has β true) m news)
    (hb1 : (l.length + m.length) * by_ ≤ 70368744177664) (hb2 : l.length + m.length ≤ 70368744177664) :
    ∃ v' w', (Builtin.append_ #[t, u] ty_ #[hd, x]).run P w = .ok v' w' ∧ OwnOk β w' v' ty (l ++ m) ∧ w.heap.size ≤ w'.heap.size ∧ w'.os = w.os ∧ w'.output = w.output ∧
      (∀ b, b < w.heap.size → ¬ (∃ a n c, hd = .slice (some a) n c ∧ 0 < c ∧ a.block = b) → w'.heap[b]? = w.heap[b]?) ∧
      (∀ a n c, v' = .slice (some a) n c → 0 < c → (∃ n' c', hd = .slice (some a) n' c' ∧ 0 < c') ∨ w.heap.size ≤ a.block) := by
  obtain ⟨base, n, c, rfl, hn, hnc, hnone, hrest⟩ := hok
  have hu := sliceT_eq hsl
  obtain ⟨i, zv, hi, hzv, hzs⟩ := zero_cells (P := P) hz hwz
  have his : i.size = ty.w := by unfold sizeT at hs; rw [hi] at hs; simpa using hs
  have hib : i.bytes = by_ := by unfold bytesT at hby; rw [hi] at hby; simpa using hby
  by_cases hroom : n + m.length ≤ c
  · -- room
    rcases Nat.eq_zero_or_pos c with h0 | h0
    · have hl0 : l = [] := List.eq_nil_of_length_eq_zero (by omega)
      have hm0 : m = [] := List.eq_nil_of_length_eq_zero (by omega)
      subst hl0 hm0
      have hnw : news = [] := by cases hnews; rfl
      subst hnw
      refine ⟨.slice base n c, w, ?_, ⟨base, n, c, rfl, hn, hnc, hnone, hrest⟩, Nat.le_refl _, rfl, rfl, fun _ _ _ => rfl, fun a n' c' e h => by simp at e; omega⟩
      have hle : n ≤ c := hnc
      have hcells := hsrc.cells
      have hlen := hsrc.len
      have hr2 : n + 0 ≤ c := by simpa using hnc
      simp only [List.length_nil] at hlen hcells
      rcases hsrc.kind with ⟨e', hk⟩ | hk <;> cases base <;> simp [Builtin.append_, run_underlying hu, run_underlying hk, sizeOf, typeInfo, hi, his, hlen, hcells, hle, storeCells]
    · obtain ⟨a0, pre, vss, rest, elem, fz, rfl, k1, k2, k3, k4, k5, k6⟩ := hrest h0
      have hnl : news.length = m.length * ty.w := hasL_length hnews
      have hvl : vss.length = n * ty.w := by rw [hasL_length k4, hn]
      have hrl : m.length * ty.w ≤ rest.length := Nat.le_trans (Nat.mul_le_mul_right _ (by omega)) k5
      obtain ⟨w', r1, r2, r3, r4, r5, r6⟩ := run_storeRow (P := P) (a := a0.add (n * ty.w)) (add_spot k1 _) (elem := elem) (fz := fz) news 0 (pre ++ vss) (rest.take (m.length * ty.w)) (rest.drop (m.length * ty.w)) w
        (by rw [add_block, k2]; simp) (by
          obtain ⟨b0, o0, s0⟩ := a0
          simp at k1 k3; subst k1
          rw [addr_add]; simp [k3, hvl]) (by rw [hnl, List.length_take, Nat.min_eq_left hrl]) (hasL_one hnews) (fun off q1 q2 => k6.not (by simp [hnl] at q2 ⊢; omega))
      rw [add_block] at r2 r3
      refine ⟨.slice (some a0) (n + m.length) c, w', ?_, ⟨some a0, n + m.length, c, rfl, by simp [hn], hroom, by simp, fun _ => ⟨a0, pre, vss ++ news, rest.drop (m.length * ty.w), elem, fz, rfl, k1, ?_, k3, k4.append hnews, ?_, ?_⟩⟩, by omega, r5, r6, fun b _ hno => r3 b fun e => hno ⟨a0, n, c, rfl, h0, e.symm⟩, fun a n' c' e _ => .inl (by simp at e; obtain ⟨rfl, _, _⟩ := e; exact ⟨n, c, rfl, h0⟩)⟩
      · rcases hsrc.kind with ⟨e', hk⟩ | hk <;> simp [Builtin.append_, run_underlying hu, run_underlying hk, sizeOf, typeInfo, hi, his, hsrc.len, hroom, hsrc.cells, r1]
      · rw [r2]; simp
      · rw [List.length_drop]
        have : (c - (n + m.length)) * ty.w = (c - n) * ty.w - m.length * ty.w := by rw [← Nat.sub_sub, Nat.sub_mul]
        omega
      · have : (pre ++ ((vss ++ news) ++ rest.drop (m.length * ty.w))).length = (pre ++ (vss ++ rest)).length := by simp [hnl]; omega
        rw [this]; exact k6
  · -- none
    have hg : c < n + m.length := by omega
    have hfit : Builtin.nextslicecap (n + m.length) c * i.bytes ≤ 281474976710656 := growslice_fits hg (by rw [hib, hn]; omega)
    have holds : ∃ olds, HasL (ty.has β true) l olds ∧ ∀ (w' : World), (∀ b, b < w.heap.size → w'.heap[b]? = w.heap[b]?) → (Builtin.firstCells i.size n (.slice base n c)).run P w' = .ok olds.toArray w' := by
      rcases Nat.eq_zero_or_pos c with h0 | h0
      · have hl0 : l = [] := List.eq_nil_of_length_eq_zero (by omega)
        have hn0 : n = 0 := by omega
        subst hl0 hn0
        refine ⟨[], .nil, fun w' _ => ?_⟩
        cases base with
        | none => simp [Builtin.firstCells]
        | some a => simp [Builtin.firstCells, loadCells, loadCellsFrom]
      · obtain ⟨a0, pre, vss, rest, elem, fz, rfl, k1, k2, k3, k4, k5, k6⟩ := hrest h0
        refine ⟨vss, k4, fun w' hw' => ?_⟩
        have hvl : vss.length = n * i.size := by rw [hasL_length k4, hn, his]
        have hlt : a0.block < w.heap.size := (Array.getElem?_eq_some_iff.1 k2).1
        refine run_firstCells_some (P := P) w' i.size n a0 n c vss hvl fun j u hj => ?_
        have hh : HoldsAt w a0 vss := by
          have := holdsAt_cells k2
          obtain ⟨b0, o0, s0⟩ := a0
          simp at k1 k3; subst k1 k3
          exact this
        exact hh.of (fun _ => hw' _ hlt) j u hj
    obtain ⟨olds, ho1, ho2⟩ := holds
    have hs' : Src P i.size u x m.length news w := by rw [his]; exact hsrc
    have hrun := run_append_grow_src (P := P) w t u ty_ el i zv hu hi hzv base n c olds (ho2 _ (fun _ _ => rfl)) x m.length news hs' hg (by omega) hfit
    have hcap := grownCap_ge w (n + m.length) c el
    have hzc : (Builtin.zeroCells zv.cells (grownCap w (n + m.length) c el - (n + m.length))).size = (grownCap w (n + m.length) c el - (n + m.length)) * ty.w := by simp [Builtin.zeroCells, hzs]
    generalize hcapg : grownCap w (n + m.length) c el = cap at hrun hcap hzc
    have harr : ((olds ++ news).toArray ++ Builtin.zeroCells zv.cells (cap - (n + m.length))) = ((olds ++ news) ++ (Builtin.zeroCells zv.cells (cap - (n + m.length))).toList).toArray := by
      apply Array.ext'; simp
    rw [harr] at hrun
    have hown := ownOk_new (β := β) (w := w.drew.alloc (.cells ((olds ++ news) ++ (Builtin.zeroCells zv.cells (cap - (n + m.length))).toList).toArray el)) (b := w.heap.size) (t := ty) (l := l ++ m) (elem := el) (fz := (0, 0)) (c := cap)
      (heap_alloc_new w.drew _) (ho1.append hnews) (by simp; omega) (Nat.le_of_eq (by rw [List.length_append, ← hn]; exact (Array.length_toList.trans hzc).symm)) (.inl rfl)
    refine ⟨_, _, hrun, ?_, ?_, rfl, rfl, fun b hb _ => heap_alloc_old w.drew _ b hb, fun a n' c' e _ => .inr (by simp at e; obtain ⟨rfl, _, _⟩ := e; exact Nat.le_refl _)⟩
    · rw [List.length_append, ← hn] at hown; exact hown
    · show w.heap.size ≤ (w.drew.alloc _).heap.size
      rw [World.size_alloc]; exact Nat.le_succ _
/-- zero values appended -/
theorem append_zeros {t u el ty_ : TypeId} {ty : Ty} {z : List SV} {by_ : Nat} (hsl : sliceT P t = some el) (hs : sizeT P el = some ty.w) (hpos : 0 < ty.w) (hz : zeroT P el = some z) (hwz : wL z = ty.w) (hby : bytesT P el = some by_)
    {hd : Value} {l : List ty.D} (hok : OwnOk β w hd ty l) {kn kq : IntKind} (hku : P.underlying u = some (.int kn)) {z0 : ty.D} (hz0 : ty.read true z = some z0) (k : Nat)
    (hb1 : (l.length + k) * by_ ≤ 70368744177664) (hb2 : l.length + k ≤ 70368744177664) :
    ∃ v' w', (Builtin.append_ #[t, u] ty_ #[hd, .int kq k]).run P w = .ok v' w' ∧ OwnOk β w' v' ty (l ++ List.replicate k z0) ∧ w.heap.size ≤ w'.heap.size ∧ w'.os = w.os ∧ w'.output = w.output ∧
      (∀ b, b < w.heap.size → ¬ (∃ a n c, hd = .slice (some a) n c ∧ 0 < c ∧ a.block = b) → w'.heap[b]? = w.heap[b]?) ∧
      (∀ a n c, v' = .slice (some a) n c → 0 < c → (∃ n' c', hd = .slice (some a) n' c' ∧ 0 < c') ∨ w.heap.size ≤ a.block) := by
  obtain ⟨base, n, c, rfl, hn, hnc, hnone, hrest⟩ := hok
  have hu := sliceT_eq hsl
  obtain ⟨i, zv, hi, hzv, hzs⟩ := zero_cells (P := P) hz hwz
  have his : i.size = ty.w := by unfold sizeT at hs; rw [hi] at hs; simpa using hs
  have hib : i.bytes = by_ := by unfold bytesT at hby; rw [hi] at hby; simpa using hby
  have hzr : (zeroValue el).run P w = .ok zv w := by simp [zeroValue, typeInfo, hi, hzv]
  obtain ⟨zv', hzv', hzd⟩ := run_zero (P := P) (w := w) (β := β) (L := fun _ => none) hz
  obtain rfl : zv' = zv := by rw [hzr] at hzv'; injection hzv' with e; exact e.symm
  have hzh := ty.read_ok hz0 hzd
  have hnews : HasL (ty.has β true) (List.replicate k z0) ((List.replicate k zv'.cells.toList).flatten) := hasL_rep hzh _
  have hzc0 : ∀ m, Builtin.zeroCells zv'.cells m = ((List.replicate m zv'.cells.toList).flatten).toArray := fun m => by
    rw [← arr_range_map m hzs]; unfold Builtin.zeroCells; rw [hzs]
  have hw64 : IntKind.i64.wrap (k : Int) = k := by rw [IntKind.wrap_i64]; omega
  have hneg : ¬ ((k : Int) < 0) := by omega
  have h48i : ¬ (281474976710656 < (k : Int) * (i.bytes : Int)) := by
    rw [← Int.natCast_mul, hib]
    have : k * by_ ≤ (l.length + k) * by_ := Nat.mul_le_mul_right _ (by omega)
    omega
  generalize hnw : (List.replicate k zv'.cells.toList).flatten = news at hnews
  by_cases hroom : n + k ≤ c
  · -- room
    rcases Nat.eq_zero_or_pos c with h0 | h0
    · have hl0 : l = [] := List.eq_nil_of_length_eq_zero (by omega)
      have hm0 : k = 0 := by omega
      subst hl0 hm0
      refine ⟨.slice base n c, w, ?_, ⟨base, n, c, rfl, hn, hnc, hnone, hrest⟩, Nat.le_refl _, rfl, rfl, fun _ _ _ => rfl, fun a n' c' e h => by simp at e; omega⟩
      have hle : n ≤ c := hnc
      have hw0 : IntKind.i64.wrap 0 = 0 := rfl
      cases base <;> simp [Builtin.append_, run_underlying hu, run_underlying hku, sizeOf, typeInfo, hi, his, hle, storeCells, asInt, asIntOf, hw0]
    · obtain ⟨a0, pre, vss, rest, elem, fz, rfl, k1, k2, k3, k4, k5, k6⟩ := hrest h0
      have hnl : news.length = k * ty.w := by rw [hasL_length hnews, List.length_replicate]
      have hvl : vss.length = n * ty.w := by rw [hasL_length k4, hn]
      have hrl : k * ty.w ≤ rest.length := Nat.le_trans (Nat.mul_le_mul_right _ (by omega)) k5
      obtain ⟨w', r1, r2, r3, r4, r5, r6⟩ := run_storeRow (P := P) (a := a0.add (n * ty.w)) (add_spot k1 _) (elem := elem) (fz := fz) news 0 (pre ++ vss) (rest.take (k * ty.w)) (rest.drop (k * ty.w)) w
        (by rw [add_block, k2]; simp) (by
          obtain ⟨b0, o0, s0⟩ := a0
          simp at k1 k3; subst k1
          rw [addr_add]; simp [k3, hvl]) (by rw [hnl, List.length_take, Nat.min_eq_left hrl]) (hasL_one hnews) (fun off q1 q2 => k6.not (by simp [hnl] at q2 ⊢; omega))
      rw [add_block] at r2 r3
      refine ⟨.slice (some a0) (n + k) c, w', ?_, ⟨some a0, n + k, c, rfl, by simp [hn], hroom, by simp, fun _ => ⟨a0, pre, vss ++ news, rest.drop (k * ty.w), elem, fz, rfl, k1, ?_, k3, k4.append hnews, ?_, ?_⟩⟩, by omega, r5, r6, fun b _ hno => r3 b fun e => hno ⟨a0, n, c, rfl, h0, e.symm⟩, fun a n' c' e _ => .inl (by simp at e; obtain ⟨rfl, _, _⟩ := e; exact ⟨n, c, rfl, h0⟩)⟩
      · rcases Nat.eq_zero_or_pos k with hk0 | hk0
        · subst hk0
          have hw0 : IntKind.i64.wrap 0 = 0 := rfl
          have hn0 : news = [] := by rw [← hnw]; rfl
          rw [hn0] at r1
          have hroom' : n ≤ c := hnc
          simp [Builtin.append_, run_underlying hu, run_underlying hku, sizeOf, typeInfo, hi, his, hroom', r1, asInt, asIntOf, hw0]
        · have hns : ¬ (k * ty.w = 0) := Nat.mul_ne_zero (by omega) (by omega)
          have hzk : Builtin.zeroCells zv'.cells k = news.toArray := by rw [hzc0 k, hnw]
          simp [Builtin.append_, run_underlying hu, run_underlying hku, sizeOf, typeInfo, hi, hzv, zeroValue, his, hroom, r1, asInt, asIntOf, hw64, hneg, h48i, hns, hzk]
      · rw [r2]; simp
      · rw [List.length_drop]
        have : (c - (n + k)) * ty.w = (c - n) * ty.w - k * ty.w := by rw [← Nat.sub_sub, Nat.sub_mul]
        omega
      · have : (pre ++ ((vss ++ news) ++ rest.drop (k * ty.w))).length = (pre ++ (vss ++ rest)).length := by simp [hnl]; omega
        rw [this]; exact k6
  · -- none
    have hg : c < n + k := by omega
    have hfit : Builtin.nextslicecap (n + k) c * i.bytes ≤ 281474976710656 := growslice_fits hg (by rw [hib, hn]; omega)
    have holds : ∃ olds, HasL (ty.has β true) l olds ∧ ∀ (w' : World), (∀ b, b < w.heap.size → w'.heap[b]? = w.heap[b]?) → (Builtin.firstCells i.size n (.slice base n c)).run P w' = .ok olds.toArray w' := by
      rcases Nat.eq_zero_or_pos c with h0 | h0
      · have hl0 : l = [] := List.eq_nil_of_length_eq_zero (by omega)
        have hn0 : n = 0 := by omega
        subst hl0 hn0
        refine ⟨[], .nil, fun w' _ => ?_⟩
        cases base with
        | none => simp [Builtin.firstCells]
        | some a => simp [Builtin.firstCells, loadCells, loadCellsFrom]
      · obtain ⟨a0, pre, vss, rest, elem, fz, rfl, k1, k2, k3, k4, k5, k6⟩ := hrest h0
        refine ⟨vss, k4, fun w' hw' => ?_⟩
        have hvl : vss.length = n * i.size := by rw [hasL_length k4, hn, his]
        have hlt : a0.block < w.heap.size := (Array.getElem?_eq_some_iff.1 k2).1
        refine run_firstCells_some (P := P) w' i.size n a0 n c vss hvl fun j u hj => ?_
        have hh : HoldsAt w a0 vss := by
          have := holdsAt_cells k2
          obtain ⟨b0, o0, s0⟩ := a0
          simp at k1 k3; subst k1 k3
          exact this
        exact hh.of (fun _ => hw' _ hlt) j u hj
    obtain ⟨olds, ho1, ho2⟩ := holds
    have hrun := Go.Lib.run_append_grow_zeros (P := P) w t u ty_ el i zv' kq kn hu hku hi hzv base n c olds (ho2 _ (fun _ _ => rfl)) k (by omega) (by omega) hg (by omega) (by
      have : k * by_ ≤ (l.length + k) * by_ := Nat.mul_le_mul_right _ (by omega)
      rw [hib]; omega) hfit
    rw [show (olds.toArray ++ Builtin.zeroCells zv'.cells k) = (olds ++ news).toArray from by rw [hzc0 k, hnw]; simp] at hrun
    have hcap := grownCap_ge w (n + k) c el
    have hzc : (Builtin.zeroCells zv'.cells (grownCap w (n + k) c el - (n + k))).size = (grownCap w (n + k) c el - (n + k)) * ty.w := by simp [Builtin.zeroCells, hzs]
    generalize hcapg : grownCap w (n + k) c el = cap at hrun hcap hzc
    have harr : ((olds ++ news).toArray ++ Builtin.zeroCells zv'.cells (cap - (n + k))) = ((olds ++ news) ++ (Builtin.zeroCells zv'.cells (cap - (n + k))).toList).toArray := by
      apply Array.ext'; simp
    rw [harr] at hrun
    have hown := ownOk_new (β := β) (w := w.drew.alloc (.cells ((olds ++ news) ++ (Builtin.zeroCells zv'.cells (cap - (n + k))).toList).toArray el)) (b := w.heap.size) (t := ty) (l := l ++ List.replicate k z0) (elem := el) (fz := (0, 0)) (c := cap)
      (heap_alloc_new w.drew _) (ho1.append hnews) (by simp; omega) (Nat.le_of_eq (by rw [List.length_append, List.length_replicate, ← hn]; exact (Array.length_toList.trans hzc).symm)) (.inl rfl)
    refine ⟨_, _, hrun, ?_, ?_, rfl, rfl, fun b hb _ => heap_alloc_old w.drew _ b hb, fun a n' c' e _ => .inr (by simp at e; obtain ⟨rfl, _, _⟩ := e; exact Nat.le_refl _)⟩
    · rw [List.length_append, List.length_replicate, ← hn] at hown; exact hown
    · show w.heap.size ≤ (w.drew.alloc _).heap.size
      rw [World.size_alloc]; exact Nat.le_succ _
end
end Go.Ev
end

section
set_option linter.unusedVariables false
set_option linter.unusedSimpArgs false
namespace Go.Ev
open Go
section
variable {P : Program} {W : World} {hp₀ : Hp} {β₀ β : Env} {hp : Hp} {w : World}
theorem over_eq {α : Type} (l : List α) (z len : Nat) (m : List α) : overL l z len m = l.take z ++ (m.take (min m.length len) ++ l.drop (z + min m.length len)) := by
  unfold overL
  rw [Nat.min_comm len m.length]
  congr 2
  rcases Nat.le_total m.length len with h | h
  · rw [Nat.min_eq_left h, List.take_of_length_le h, List.take_length]
  · rw [Nat.min_eq_right h]
theorem over_length {α : Type} {l : List α} {z len : Nat} {m : List α} (h : z + len ≤ l.length) : (overL l z len m).length = l.length := by
  rw [over_eq]
  simp only [List.length_append, List.length_take, List.length_drop]
  omega
theorem run_copy {β : Env} {pm : Bool} {t u el e' ty_ : TypeId} {ty : Ty} (hsl : sliceT P t = some el) (hu : sliceT P u = some e') (hs : sizeT P el = some ty.w) {v : Value} {m : List ty.D} (hr : ReadsAs β pm w v ty m) (dLen c : Nat) :
    ∃ ws, HasL (ty.has β pm) (m.take (min m.length dLen)) ws ∧ ∀ (base : Option Addr) (w' : World), (∀ a, base = some a → (storeCells a ws).run P w = .ok () w') → (base = none → w' = w) →
      (Builtin.copy_ #[t, u] ty_ #[.slice base dLen c, v]).run P w = .ok (.int .i64 ((min m.length dLen : Nat) : Int)) w' := by
  obtain ⟨a, n, c', rfl, rfl, hc, _, hrest⟩ := hr
  have key : ∃ ws, HasL (ty.has β pm) (m.take (min m.length dLen)) ws ∧ (Builtin.firstCells ty.w (min m.length dLen) (.slice a m.length c')).run P w = .ok ws.toArray w := by
    rcases Nat.eq_zero_or_pos m.length with h0 | h0
    · have : m = [] := List.eq_nil_of_length_eq_zero h0
      subst this
      refine ⟨[], by simpa using HasL.nil, ?_⟩
      cases a with
      | none => simp [Builtin.firstCells]
      | some a => simp [Builtin.firstCells, loadCells, loadCellsFrom]
    · obtain ⟨a0, vss, rfl, h1, h2, h3⟩ := hrest h0
      obtain ⟨v1, v2, rfl, k1, k2⟩ := hasL_take h2 (min m.length dLen)
      refine ⟨v1, k1, ?_⟩
      have hl : v1.length = min m.length dLen * ty.w := by rw [hasL_length k1, List.length_take]; congr 1; omega
      have hh : HoldsAt w a0 v1 := fun i x hi => h3 i x (by rw [List.getElem?_append_left (List.getElem?_eq_some_iff.1 hi).1]; exact hi)
      have := run_loadRow (P := P) hh
      rw [hl] at this
      exact this
  obtain ⟨ws, h1, h2⟩ := key
  refine ⟨ws, h1, fun base w' hw hn => ?_⟩
  have hmin : Nat.min m.length dLen = min m.length dLen := rfl
  unfold Builtin.copy_
  simp only [List.getElem?_toArray, List.getElem?_cons_zero, List.getElem?_cons_succ, Sem.run_bind, run_underlying (sliceT_eq hsl), Result.andThen_ok, Builtin.lenOf, Sem.run_pure, run_sizeOf hs, hmin, h2]
  cases base with
  | none => rw [hn rfl]; rfl
  | some a => simp only [Sem.run_bind, hw a rfl]; rfl
/-- elements put over others, in a row of cells -/
theorem hasL_over {β : Env} {ty : Ty} {l m : List ty.D} {z len : Nat} {vss ws : List Value} (h : HasL (ty.has β true) l vss) (hz : z + len ≤ l.length) (hw : HasL (ty.has β true) (m.take (min m.length len)) ws) :
    ∃ p old r, vss = p ++ (old ++ r) ∧ p.length = z * ty.w ∧ old.length = ws.length ∧ HasL (ty.has β true) (overL l z len m) (p ++ (ws ++ r)) := by
  obtain ⟨p, v2, rfl, k1, k2⟩ := hasL_take h z
  obtain ⟨old, r, rfl, k3, k4⟩ := hasL_take k2 (min m.length len)
  refine ⟨p, old, r, rfl, ?_, ?_, ?_⟩
  · rw [hasL_length k1, List.length_take, Nat.min_eq_left (by omega)]
  · rw [hasL_length k3, hasL_length hw, List.length_take, List.length_take, List.length_drop]
    congr 1; omega
  · rw [over_eq]
    rw [List.drop_drop] at k4
    exact k1.append (hw.append k4)
theorem HRel.overOwn (h : HRel W hp₀ β₀ β hp w) {i ver : Nat} {t : Ty} {l m : List t.D} (hi : hp[i]? = some (some (.own ver t l))) {a : Option Addr} {n c : Nat} (he : β.h i = .slice a n c) {z len : Nat} (hz : z + len ≤ l.length)
    {ws : List Value} (hw : HasL (t.has β true) (m.take (min m.length len)) ws) :
    ∃ w' β', (∀ a0, a = some a0 → (storeCells (a0.add (z * t.w)) ws).run P w = .ok () w') ∧ (a = none → w' = w) ∧ (ws = [] → w' = w) ∧ HRel W hp₀ β₀ β' (setAt hp i (.own ver t (overL l z len m))) w' ∧ Agree β β' (kd hp) (kd (setAt hp i (.own ver t (overL l z len m)))) := by
  have hit : OwnOk β w (β.h i) t l := h.items _ _ hi
  have hit0 := hit
  obtain ⟨a', n', c', e, hn1, hn2, hnone, h4⟩ := hit
  rw [he] at e; simp at e; obtain ⟨rfl, rfl, rfl⟩ := e
  rcases Nat.eq_zero_or_pos c with hc | hc
  · have hl0 : l = [] := List.eq_nil_of_length_eq_zero (by omega)
    subst hl0
    have hlen : len = 0 := by simp at hz; omega
    subst hlen
    have hws : ws = [] := by
      have := hasL_length hw
      simp only [Nat.min_zero, List.take_zero, List.length_nil, Nat.zero_mul] at this
      exact List.eq_nil_of_length_eq_zero this
    subst hws
    have hov : overL ([] : List t.D) z 0 m = [] := by rw [over_eq]; simp
    rw [hov]
    obtain ⟨β', s1, s2, _⟩ := h.updOwn hi (ver' := ver) (l' := []) (v := β.h i) (w' := w) (.inr ⟨rfl, rfl⟩) (Nat.le_refl _) rfl rfl (fun _ _ _ => rfl) hit0 (fun a n c e h0 => .inl ⟨a, n, c, e, h0, rfl⟩)
    exact ⟨w, β', fun a0 _ => rfl, fun _ => rfl, fun _ => rfl, s1, s2⟩
  · obtain ⟨a0, pre, vss, rest, elem, fz, rfl, k1, k2, k3, k4, k5, k6⟩ := h4 hc
    obtain ⟨p, old, r, rfl, e1, e2, h9⟩ := hasL_over k4 hz hw
    obtain ⟨w', r1, r2, r3, r4, r5, r6⟩ := run_storeRow (P := P) (a := a0.add (z * t.w)) (add_spot k1 _) (elem := elem) (fz := fz) ws 0 (pre ++ p) old (r ++ rest) w
      (by rw [add_block, k2]; simp) (by
        obtain ⟨b0, o0, s0⟩ := a0
        simp at k1 k3; subst k1
        rw [addr_add]; simp [k3, e1]) e2 (hasL_one hw) (fun off q1 q2 => k6.not (by simp at q2 ⊢; omega))
    rw [add_block] at r2 r3
    obtain ⟨β', s1, s2, s3⟩ := h.updOwn hi (ver' := ver) (l' := overL l z len m) (v := β.h i) (w' := w') (.inr ⟨rfl, rfl⟩) (by omega) r5 r6 (fun b hb hno => by
        refine r3 b fun e => hno ?_
        subst e
        exact ⟨a0, n, c, he, hc, rfl⟩)
      (by
        rw [he]
        refine ⟨some a0, n, c, rfl, by rw [over_length hz]; exact hn1, hn2, by simp, fun _ => ⟨a0, pre, p ++ (ws ++ r), rest, elem, fz, rfl, k1, ?_, k3, h9, k5, ?_⟩⟩
        · rw [r2]; simp
        · have : (pre ++ (p ++ (ws ++ r) ++ rest)).length = (pre ++ (p ++ (old ++ r) ++ rest)).length := by simp [e2]
          rw [this]; exact k6)
      (fun a n c e h0 => .inl ⟨a, n, c, e, h0, rfl⟩)
    refine ⟨w', β', fun a1 e => by simp at e; subst e; exact r1, fun e => (by cases e), fun e => ?_, s1, s2⟩
    subst e
    have : (storeCells (a0.add (z * t.w)) []).run P w = .ok () w := rfl
    rw [this] at r1; cases r1; rfl
/-- elements put over others, in a block's row -/
theorem HRel.overRow (h : HRel W hp₀ β₀ β hp w) {b o : Nat} {t : Ty} {k : Nat} {cells cells' : List SV} {elem : TypeId} {l m : List t.D} (hi : hp[b]? = some (some (.blk cells elem))) (hrow : rowAt cells o = some (.arr t k l)) {z len : Nat} (hz : z + len ≤ k)
    (hset : setRowAt cells o (.arr t k (overL l z len m)) = some cells') {ws : List Value} (hw : HasL (t.has β true) (m.take (min m.length len)) ws) :
    ∃ w', (storeCells ((⟨β.b b, o, none⟩ : Addr).add (z * t.w)) ws).run P w = .ok () w' ∧ (ws = [] → w' = w) ∧ HRel W hp₀ β₀ β (setAt hp b (.blk cells' elem)) w' ∧ Agree β β (kd hp) (kd (setAt hp b (.blk cells' elem))) := by
  obtain ⟨cs, fz, g1, g2, g3, _⟩ := h.blkAt hi
  have hlk : l.length = k := by
    obtain ⟨_, _, _, _, _, hh, _⟩ := rowAt_ok _ _ hrow g3; exact hh
  obtain ⟨pre, mid, post, rfl, e3, _, h6, h7⟩ := setRowAt_ok _ _ hrow hset g3 (by rw [over_length (by omega)]; exact hlk)
  obtain ⟨p, old, r, rfl, e1, e2, h9⟩ := hasL_over (z := z) (len := len) h6 (by rw [hlk]; exact hz) hw
  obtain ⟨w', r1, r2, r3, r4, r5, r6⟩ := run_storeRow (P := P) (a := ⟨β.b b, o + z * t.w, none⟩) rfl (elem := elem) (fz := fz) ws 0 (pre ++ p) old (r ++ post) w
    (by rw [g1]; simp) (by simp [e3, e1]) e2 (hasL_one hw) (fun off q1 q2 => g2.not (by simp at q2 ⊢; omega))
  obtain ⟨s1, s2⟩ := h.updBlk hi (cells' := cells') (w' := w') (by omega) r5 r6 r3 (c := pre ++ ((p ++ (ws ++ r)) ++ post)) (fz := fz)
    (by rw [r2]; simp) (by
      have : (pre ++ ((p ++ (ws ++ r)) ++ post)).length = (pre ++ ((p ++ (old ++ r)) ++ post)).length := by simp [e2]
      rw [this]; exact g2) (h7 _ h9)
  refine ⟨w', by rw [addr_add]; exact r1, fun e => ?_, s1, s2⟩
  subst e
  have : (storeCells ⟨β.b b, o + z * t.w, none⟩ []).run P w = .ok () w := rfl
  rw [this] at r1; cases r1; rfl
theorem flatMap_den {L : Nat → Option Kd} {ty : Ty} : ∀ {l : List ty.D} {vs : List Value}, HasL (ty.has β true) l vs → DenL β L (l.flatMap (ty.svs true)) vs
  | [], _, h => by cases h; exact .nil
  | x :: l, _, .cons h t => by rw [List.flatMap_cons]; exact (ty.svs_ok h).append (flatMap_den t)
theorem range_getD_map {α : Type} (l : List α) (d : α) : (List.range l.length).map (fun j => l.getD j d) = l := by
  apply List.ext_getElem
  · simp
  · intro i h1 h2; simp at h1 ⊢; simp [h1]
theorem copy_ok {st : St} {a : Act} (hr : Rel W hp₀ β₀ β st a w) {t u ty_ : TypeId} {d x : SV} {q : Option Prop} {v : LV} {dl : List (Nat × Item)} (h : (copyEv P t u d x).val st.hp = some (q, v, dl)) {dv xv : Value} (hd : d.den β (kd st.hp) dv) (hx : x.den β (kd st.hp) xv) :
    ∃ (β' : Env) (w' : World) (val : Value), (Builtin.copy_ #[t, u] ty_ #[dv, xv]).run P w = .ok val w' ∧ v.den β' (kd (applyD dl st.hp)) val ∧ HRel W hp₀ β₀ β' (applyD dl st.hp) w' ∧ Agree β β' (kd st.hp) (kd (applyD dl st.hp)) := by
  unfold copyEv at h
  split at h
  · simp [Ask.val] at h
  rename_i el hsl
  split at h
  rotate_left
  · simp [Ask.val] at h
  rename_i ty sz hty hs
  split at h
  rotate_left
  · simp [Ask.val] at h
  rename_i hcond
  obtain ⟨rfl, hpos⟩ := hcond
  rw [Ask.val_bind] at h
  split at h
  rotate_left
  · simp [Ask.val] at h
  rename_i pm m hc
  split at h
  rotate_left
  · simp [Ask.val] at h
  rename_i hf
  have hu : ∃ e', sliceT P u = some e' ∧ (contAs ty x).val st.hp = some (pm, m) := by
    split at hc
    · rename_i e' he; exact ⟨e', he, hc⟩
    · simp [Ask.val] at hc
  obtain ⟨e', hu, hc⟩ := hu
  have hread := contAs_ok hr.heap hc hx
  have hperm : ∀ {k : Nat} {ws : List Value}, HasL (ty.has β pm) (m.take k) ws → HasL (ty.has β true) (m.take k) ws := by
    intro k ws hh
    cases pm with
    | true => exact hh
    | false => exact hh.imp fun _ _ => ty.has_pm (by simpa using hf)
  split at h
  · -- own
    rename_i i ver
    simp only [Ask.val] at h
    split at h
    · rename_i ver' ty' l hi
      split at h
      · rename_i e; subst e
        split at h
        · rename_i e; subst e
          cases h
          obtain ⟨hok, hh⟩ := hr.heap.ownOf (p := fun v => dv = v) (itemAt_some hi) hd.2
          obtain ⟨base, n, c, e1, hn, _⟩ := hok
          obtain ⟨ws, k1, k2⟩ := run_copy (ty_ := ty_) hsl hu hs hread n c
          rw [hn] at k1
          obtain ⟨w', β', r1, r2, _, r3, r4⟩ := hr.heap.overOwn (P := P) (itemAt_some hi) e1 (z := 0) (len := l.length) (by omega) (hperm k1)
          have hrun := k2 base w' (fun a0 e => by have := r1 a0 e; rw [Nat.zero_mul] at this; exact this) r2
          refine ⟨β', w', _, by rw [hh, e1]; exact hrun, ?_, r3, r4⟩
          rw [hn]; rfl
        · cases h
      · cases h
    · cases h
  · -- a part of an own one
    rename_i i ver w0 z n
    simp only [Ask.val] at h
    split at h
    · rename_i ver' ty' l hi
      split at h
      · rename_i e; subst e
        split at h
        · rename_i e; obtain ⟨rfl, rfl⟩ := e
          cases h
          obtain ⟨hok, hh⟩ := hr.heap.ownOf (p := fun v => SubOf v ty'.w z n dv) (itemAt_some hi) hd.2
          obtain ⟨base, n1, c1, e1, hn, _⟩ := hok
          obtain ⟨a2, m2, c2, a3, c3, e2, z0, n0, hle, rfl, _, _, hadr⟩ := hh
          rw [e1] at e2; simp at e2; obtain ⟨rfl, rfl, rfl⟩ := e2
          obtain ⟨ws, k1, k2⟩ := run_copy (ty_ := ty_) hsl hu hs hread n.toNat c3
          obtain ⟨w', β', r1, r2, r0, r3, r4⟩ := hr.heap.overOwn (P := P) (itemAt_some hi) e1 (z := z.toNat) (len := n.toNat) (by omega) (hperm k1)
          refine ⟨β', w', _, k2 a3 w' (fun a0 e => ?_) (fun e => ?_), rfl, r3, r4⟩
          · rcases Int.lt_or_le 0 n with h0 | h0
            · obtain ⟨a4, e4, e5⟩ := hadr h0
              rw [e] at e5; simp at e5; subst e5
              exact r1 _ e4
            · have : ws = [] := by
                have := hasL_length k1
                rw [show n.toNat = 0 from by omega] at this
                simp at this; exact this
              subst this
              rw [r0 rfl]; rfl
          · rcases Int.lt_or_le 0 n with h0 | h0
            · obtain ⟨a4, e4, e5⟩ := hadr h0
              rw [e] at e5; cases e5
            · have : ws = [] := by
                have := hasL_length k1
                rw [show n.toNat = 0 from by omega] at this
                simp at this; exact this
              exact r0 this
        · cases h
      · cases h
    · cases h
  · -- a part of a row
    rename_i b o' ty0 k z n
    simp only [Ask.val] at h
    split at h
    · rename_i cells elem hi
      split at h
      · rename_i ty' k' l hrow
        split at h
        · rename_i e; subst e
          split at h
          · rename_i e; obtain ⟨rfl, rfl⟩ := e
            obtain ⟨cells', hset, he⟩ := map_some h
            cases he
            obtain ⟨hb, z0, n0, zn, a3, c3, rfl, _, _, hadr⟩ := hd
            obtain ⟨ws, k1, k2⟩ := run_copy (ty_ := ty_) hsl hu hs hread n.toNat c3
            obtain ⟨w', r1, r0, r3, r4⟩ := hr.heap.overRow (P := P) (itemAt_some hi) hrow (z := z.toNat) (len := n.toNat) (by omega) hset (hperm k1)
            refine ⟨β, w', _, k2 a3 w' (fun a0 e => ?_) (fun e => ?_), rfl, r3, r4⟩
            · rcases Int.lt_or_le 0 n with h0 | h0
              · have e5 := hadr h0
                rw [e] at e5; simp at e5; subst e5
                exact r1
              · have : ws = [] := by
                  have := hasL_length k1
                  rw [show n.toNat = 0 from by omega] at this
                  simp at this; exact this
                subst this
                rw [r0 rfl]; rfl
            · rcases Int.lt_or_le 0 n with h0 | h0
              · have e5 := hadr h0
                rw [e] at e5; cases e5
              · have : ws = [] := by
                  have := hasL_length k1
                  rw [show n.toNat = 0 from by omega] at this
                  simp at this; exact this
                exact r0 this
          · cases h
        · cases h
      · cases h
    · cases h
  · -- cells that are written out
    rename_i b o' n cp
    simp only [Ask.val] at h
    split at h
    · rename_i cells elem hi
      split at h
      · rename_i s hsub
        split at h
        · rename_i l hl
          obtain ⟨cells', hput, he⟩ := map_some h
          cases he
          obtain ⟨hb, rfl⟩ := hd
          obtain ⟨ws, k1, k2⟩ := run_copy (ty_ := ty_) hsl hu hs hread n cp
          obtain ⟨cs, fz, g1, g2, g3, _⟩ := hr.heap.blkAt (itemAt_some hi)
          obtain ⟨pre, mid, post, e1, e2, e3, h4⟩ := subL_ok hsub g3
          obtain ⟨h5, h6⟩ := readN_ok (R := ty.has β true) (fun a x vs h hd => ty.read_ok h hd) _ hl h4
          obtain ⟨p, old, r, e4, e5, e6, h9⟩ := hasL_over h5 (z := 0) (len := n) (by omega) (hperm k1)
          have hp0 : p = [] := List.eq_nil_of_length_eq_zero (by rw [e5]; simp)
          subst hp0
          have hnew : DenL β (kd st.hp) ((List.range n).flatMap fun j => ty.svs true ((overL l 0 n m).getD j ty.z)) (ws ++ r) := by
            have : ((List.range n).flatMap fun j => ty.svs true ((overL l 0 n m).getD j ty.z)) = (overL l 0 n m).flatMap (ty.svs true) := by
              have hlen : (overL l 0 n m).length = n := by rw [over_length (by omega)]; exact h6
              conv => rhs; rw [← range_getD_map (overL l 0 n m) ty.z, hlen]
              rw [List.flatMap_map]
            rw [this]
            exact flatMap_den (by simpa using h9)
          obtain ⟨pre', mid', post', f1, f2, f3, f4⟩ := cutput_ok hput _ _ g3 hnew
          have hpm : pre = pre' ∧ mid = mid' ∧ post = post' := by
            have hml : mid.length = mid'.length := by
              rw [f3, e4]; simp [e6]
            rw [e1] at f1
            obtain ⟨g, g'⟩ := List.append_inj f1 (by rw [e2, f2])
            obtain ⟨g4, g5⟩ := List.append_inj g' hml
            exact ⟨g, g4, g5⟩
          obtain ⟨rfl, rfl, rfl⟩ := hpm
          subst e4
          obtain ⟨w', r1, r2, r3, r4, r5, r6⟩ := run_storeRow (P := P) (a := ⟨β.b b, o', none⟩) rfl (elem := elem) (fz := fz) ws 0 pre old (r ++ post) w
            (by rw [g1, e1]; simp) (by simp [e2]) e6 (hasL_one k1) (fun off q1 q2 => g2.not (by rw [e1]; simp at q2 ⊢; omega))
          obtain ⟨s1, s2⟩ := hr.heap.updBlk (itemAt_some hi) (cells' := cells') (w' := w') (by omega) r5 r6 r3 (c := pre ++ ((ws ++ r) ++ post)) (fz := fz)
            (by rw [r2]; simp) (by
              have : (pre ++ ((ws ++ r) ++ post)).length = cs.length := by rw [e1]; simp [e6]
              rw [this]; exact g2) f4
          exact ⟨β, w', _, k2 _ w' (fun a0 e => by simp at e; subst e; exact r1) (fun e => by cases e), rfl, s1, s2⟩
        · cases h
      · cases h
    · cases h
  · simp [Ask.val] at h
end
end Go.Ev
end

section
set_option linter.unusedVariables false
set_option linter.unusedSimpArgs false
namespace Go.Ev
open Go
section
variable {P : Program} {W : World} {hp₀ : Hp} {β₀ β : Env} {w : World} {st : St} {a : Act}
/-- the outcome of a builtin function -/
def BiOk (P : Program) (W : World) (hp₀ : Hp) (β₀ β : Env) (st : St) (w : World) (s : Sem Next) (v : LV) (d : List (Nat × Item)) : Prop :=
  ∃ (β' : Env) (w' : World) (val : Value), s.run P w = .ok (.value val) w' ∧ v.den β' (kd (applyD d st.hp)) val ∧ HRel W hp₀ β₀ β' (applyD d st.hp) w' ∧ Agree β β' (kd st.hp) (kd (applyD d st.hp))
theorem len_ok (hr : Rel W hp₀ β₀ β st a w) {t ty : TypeId} {x : SV} {n : SI} {v : Value} (hl : (lenS P t x).val st.hp = some n) (hd : x.den β (kd st.hp) v) : (Builtin.len_ #[t] ty #[v]).run P w = .ok (.int .i64 n.val) w := by
  have hs : ∀ {e : TypeId} {b : Option Addr} {k c : Nat}, sliceT P t = some e → (Builtin.len_ #[t] ty #[.slice b k c]).run P w = .ok (goInt k) w := fun he => by
    have hu := sliceT_eq he
    simp [Builtin.len_, run_underlying hu]
  have hstr : ∀ {s : ByteArray}, P.underlying t = some .string → (Builtin.len_ #[t] ty #[.string s]).run P w = .ok (goInt s.size) w := fun hu => by
    simp [Builtin.len_, run_underlying hu]
  have hisS : ∀ {α : Type} {x y : α}, (if P.underlying t matches some .string then some x else none) = some y → P.underlying t = some .string ∧ x = y := by
    intro α x y h
    split at h
    · rename_i hm
      refine ⟨?_, by simpa using h⟩
      revert hm
      cases hu : P.underlying t with
      | none => simp
      | some d => cases d <;> simp
    · cases h
  unfold lenS at hl
  split at hl
  · simp only [Ask.val] at hl
    obtain ⟨e, he, rfl⟩ := map_some hl
    obtain ⟨_, rfl⟩ := hd
    exact hs he
  · simp only [Ask.val] at hl
    obtain ⟨e, he, rfl⟩ := map_some hl
    obtain ⟨_, rfl⟩ := hd
    exact hs he
  · simp only [Ask.val] at hl
    obtain ⟨hu, rfl⟩ := hisS hl
    have e : v = .string _ := hd
    rw [e, hstr hu, strOf_size]; rfl
  · simp only [Ask.val] at hl
    obtain ⟨hu, rfl⟩ := hisS hl
    obtain ⟨_, rfl⟩ := hd
    exact hstr hu
  · split at hl
    · rename_i e he
      rw [Ask.val_map] at hl
      obtain ⟨⟨pm, ty', l⟩, hc, rfl⟩ := map_some hl
      obtain ⟨b, c, rfl⟩ := (contOf_ok hr.heap hc hd).len
      exact hs he
    · simp [Ask.val] at hl
theorem minmax_ok {f : Int → Int → Int} {g : Value → Value → Sem Value} {k : IntKind} (hg : ∀ x y : Int, (g (.int k x) (.int k y)).run P w = .ok (.int k (f x y)) w) {β : Env} {L : Nat → Option Kd} :
    ∀ (l : List SV) (vs : List Value) (x n : SI), All2 (SV.den β L) l vs → minmax f k x l = some n → (vs.foldlM g (.int k x.val)).run P w = .ok (.int k n.val) w
  | [], vs, x, n, hd, h => by
    cases hd
    simp [minmax] at h; subst h
    simp
  | .int k' y :: l, _, x, n, .cons (b := b) (m := vs) h1 h2, h => by
    simp only [minmax] at h
    split at h
    · rename_i hk; subst hk
      have e : b = .int k' y.val := h1
      subst e
      simp only [List.foldlM_cons, Sem.run_bind, hg, Result.andThen_ok]
      have := minmax_ok hg l vs _ n h2 h
      rw [map2_val] at this
      exact this
    · cases h
theorem opSc_all {β : Env} {L : Nat → Option Kd} : ∀ {xs : List LV} {ss : List SV} {vs : List Value}, optAll opSc xs = some ss → All2 (LV.den β L) xs vs → All2 (SV.den β L) ss vs
  | [], _, _, h, hd => by simp [optAll] at h; subst h; cases hd; exact .nil
  | x :: xs, ss, _, h, .cons h1 h2 => by
    simp only [optAll] at h
    split at h
    · rename_i s m hs hm
      simp at h; subst h
      exact .cons (opSc_den hs h1) (opSc_all hm h2)
    · cases h
theorem append_ok (hr : Rel W hp₀ β₀ β st a w) {id : Nat} {t u ty_ : TypeId} {s x : SV} {q : Option Prop} {v : LV} {d : List (Nat × Item)} (h : (appEv P id t u s x).val st.hp = some (q, v, d)) (hq : needs q) (hid : (∃ x, (id, x) ∈ d) → kd st.hp id = none)
    {sv xv : Value} (hs0 : s.den β (kd st.hp) sv) (hx0 : x.den β (kd st.hp) xv) :
    ∃ (β' : Env) (w' : World) (val : Value), (Builtin.append_ #[t, u] ty_ #[sv, xv]).run P w = .ok val w' ∧ v.den β' (kd (applyD d st.hp)) val ∧ HRel W hp₀ β₀ β' (applyD d st.hp) w' ∧ Agree β β' (kd st.hp) (kd (applyD d st.hp)) := by
  unfold appEv at h
  split at h
  · simp [Ask.val] at h
  rename_i el hsl
  split at h
  rotate_left
  · simp [Ask.val] at h
  rename_i ty sz z by_ hty hs hz hby
  split at h
  rotate_left
  · simp [Ask.val] at h
  rename_i hcond
  obtain ⟨rfl, hpos, hwz⟩ := hcond
  rw [Ask.val_bind] at h
  split at h
  rotate_left
  · simp [Ask.val] at h
  rename_i pm m hc
  split at h
  rotate_left
  · simp [Ask.val] at h
  rename_i hf
  obtain ⟨news, hsrc, hnews⟩ := srcAs_ok hr.heap hc hf hx0
  split at h
  · simp only [Ask.val] at h
    cases h
    have hid0 := hid ⟨_, by simp; rfl⟩
    obtain ⟨_, rfl⟩ := hs0
    have hq' : m.length * by_ ≤ 70368744177664 ∧ m.length ≤ 70368744177664 := hq
    have hnil : OwnOk β w (.slice none 0 0) ty [] := ⟨none, 0, 0, rfl, rfl, Nat.le_refl _, fun _ => rfl, fun h => absurd h (by omega)⟩
    obtain ⟨v', w', h1, h2, h3, h4, h5, h6, h7⟩ := append_own (ty_ := ty_) hsl hs hpos hz hwz hby hnil hsrc hnews (by simpa using hq'.1) (by simpa using hq'.2)
    rw [List.nil_append] at h2
    obtain ⟨β', k1, k2, k3⟩ := hr.heap.newOwn hid0 (ver := 0) h3 h4 h5 (fun b hb => h6 b hb (by rintro ⟨_, _, _, e, _⟩; simp at e)) h2 (fun a n c e h0 => (h7 a n c e h0).resolve_left (by rintro ⟨_, _, e, _⟩; simp at e))
    refine ⟨β', w', v', h1, ⟨?_, 0, ?_, Nat.le_refl _, fun _ => k3.symm⟩, k1, k2⟩
    · obtain ⟨_, _, _, rfl, _⟩ := h2; rfl
    · show kd (setAt st.hp id _) id = _
      rw [kd_setAt, if_pos rfl]; rfl
  · rename_i i ver
    simp only [Ask.val] at h
    split at h
    · rename_i ver' ty' l hi
      split at h
      · rename_i e; subst e
        split at h
        · rename_i e; subst e
          cases h
          obtain ⟨hok, hh⟩ := hr.heap.ownOf (p := fun v => sv = v) (itemAt_some hi) hs0.2
          have hq' : (l.length + m.length) * by_ ≤ 70368744177664 ∧ l.length + m.length ≤ 70368744177664 := hq
          obtain ⟨v', w', h1, h2, h3, h4, h5, h6, h7⟩ := append_own (ty_ := ty_) hsl hs hpos hz hwz hby hok hsrc hnews hq'.1 hq'.2
          obtain ⟨β', k1, k2, k3⟩ := hr.heap.updOwn (itemAt_some hi) (ver' := ver + 1) (l' := l ++ m) (v := v') (w' := w') (.inl (Nat.lt_succ_self _)) h3 h4 h5 (fun b hb hno => h6 b hb hno) h2
            (fun a n c e h0 => (h7 a n c e h0).imp (fun ⟨n', c', e', h'⟩ => ⟨a, n', c', e', h', rfl⟩) fun h => h)
          refine ⟨β', w', v', by rw [hh]; exact h1, ⟨?_, ver + 1, ?_, Nat.le_refl _, fun _ => k3.symm⟩, k1, k2⟩
          · obtain ⟨_, _, _, rfl, _⟩ := h2; rfl
          · show kd (setAt st.hp i _) i = _
            rw [kd_setAt, if_pos rfl]; rfl
        · cases h
      · cases h
    · cases h
  · simp [Ask.val] at h
theorem appZ_ok (hr : Rel W hp₀ β₀ β st a w) {id : Nat} {t u ty_ : TypeId} {s : SV} {k : IntKind} {n : Int} {q : Option Prop} {v : LV} {d : List (Nat × Item)} (h : (appZEv P id t u s n).val st.hp = some (q, v, d)) (hq : needs q) (hid : (∃ x, (id, x) ∈ d) → kd st.hp id = none)
    {sv : Value} (hs0 : s.den β (kd st.hp) sv) :
    ∃ (β' : Env) (w' : World) (val : Value), (Builtin.append_ #[t, u] ty_ #[sv, .int k n]).run P w = .ok val w' ∧ v.den β' (kd (applyD d st.hp)) val ∧ HRel W hp₀ β₀ β' (applyD d st.hp) w' ∧ Agree β β' (kd st.hp) (kd (applyD d st.hp)) := by
  unfold appZEv at h
  split at h
  rotate_left
  · simp [Ask.val] at h
  rename_i el kn hsl hku
  split at h
  rotate_left
  · simp [Ask.val] at h
  rename_i ty sz z by_ hty hs hz hby
  split at h
  rotate_left
  · simp [Ask.val] at h
  rename_i hcond
  obtain ⟨rfl, hpos, hwz⟩ := hcond
  split at h
  rotate_left
  · simp [Ask.val] at h
  rename_i z0 hz0
  split at h
  · simp only [Ask.val] at h
    cases h
    have hid0 := hid ⟨_, by simp; rfl⟩
    obtain ⟨_, rfl⟩ := hs0
    obtain ⟨hn0, hq1, hq2⟩ : 0 ≤ n ∧ n.toNat * by_ ≤ 70368744177664 ∧ n.toNat ≤ 70368744177664 := hq
    obtain ⟨m, rfl⟩ := Int.eq_ofNat_of_zero_le hn0
    simp only [Int.toNat_natCast] at hq1 hq2 ⊢
    have hnil : OwnOk β w (.slice none 0 0) ty [] := ⟨none, 0, 0, rfl, rfl, Nat.le_refl _, fun _ => rfl, fun h => absurd h (by omega)⟩
    obtain ⟨v', w', h1, h2, h3, h4, h5, h6, h7⟩ := append_zeros (ty_ := ty_) (kq := k) hsl hs hpos hz hwz hby hnil hku hz0 m (by simpa using hq1) (by simpa using hq2)
    rw [List.nil_append] at h2
    obtain ⟨β', k1, k2, k3⟩ := hr.heap.newOwn hid0 (ver := 0) h3 h4 h5 (fun b hb => h6 b hb (by rintro ⟨_, _, _, e, _⟩; simp at e)) h2 (fun a n c e h0 => (h7 a n c e h0).resolve_left (by rintro ⟨_, _, e, _⟩; simp at e))
    refine ⟨β', w', v', h1, ⟨?_, 0, ?_, Nat.le_refl _, fun _ => k3.symm⟩, k1, k2⟩
    · obtain ⟨_, _, _, rfl, _⟩ := h2; rfl
    · show kd (setAt st.hp id _) id = _
      rw [kd_setAt, if_pos rfl]; rfl
  · rename_i i ver
    simp only [Ask.val] at h
    split at h
    · rename_i ver' ty' l hi
      split at h
      · rename_i e; subst e
        split at h
        · rename_i e; subst e
          cases h
          obtain ⟨hok, hh⟩ := hr.heap.ownOf (p := fun v => sv = v) (itemAt_some hi) hs0.2
          obtain ⟨hn0, hq1, hq2⟩ : 0 ≤ n ∧ (l.length + n.toNat) * by_ ≤ 70368744177664 ∧ l.length + n.toNat ≤ 70368744177664 := hq
          obtain ⟨m, rfl⟩ := Int.eq_ofNat_of_zero_le hn0
          simp only [Int.toNat_natCast] at hq1 hq2 ⊢
          obtain ⟨v', w', h1, h2, h3, h4, h5, h6, h7⟩ := append_zeros (ty_ := ty_) (kq := k) hsl hs hpos hz hwz hby hok hku hz0 m hq1 hq2
          obtain ⟨β', k1, k2, k3⟩ := hr.heap.updOwn (itemAt_some hi) (ver' := ver + 1) (l' := l ++ List.replicate m z0) (v := v') (w' := w') (.inl (Nat.lt_succ_self _)) h3 h4 h5 (fun b hb hno => h6 b hb hno) h2
            (fun a n c e h0 => (h7 a n c e h0).imp (fun ⟨n', c', e', h'⟩ => ⟨a, n', c', e', h', rfl⟩) fun h => h)
          refine ⟨β', w', v', by rw [hh]; exact h1, ⟨?_, ver + 1, ?_, Nat.le_refl _, fun _ => k3.symm⟩, k1, k2⟩
          · obtain ⟨_, _, _, rfl, _⟩ := h2; rfl
          · show kd (setAt st.hp i _) i = _
            rw [kd_setAt, if_pos rfl]; rfl
        · cases h
      · cases h
    · cases h
  · simp [Ask.val] at h
theorem bi_ok (hr : Rel W hp₀ β₀ β st a w) {id : Nat} {b : Builtin} {ts : List TypeId} {xs : List LV} {vs : List Value} {q : Option Prop} {v : LV} {d : List (Nat × Item)}
    (h : (biEv P id b ts xs).val st.hp = some (q, v, d)) (hq : needs q) (hid : (∃ x, (id, x) ∈ d) → kd st.hp id = none) (hd : All2 (LV.den β (kd st.hp)) xs vs) (ty : TypeId) (cs : Array Bool) :
    BiOk P W hp₀ β₀ β st w (builtin b ts.toArray ty cs vs.toArray) v d := by
  have hpure : ∀ {s : Sem Value} {val : Value} {x : SV}, s.run P w = .ok val w → x.den β (kd st.hp) val → BiOk P W hp₀ β₀ β st w (do pure (.value (← s))) (.one (.sc x)) [] := by
    intro s val x h1 h2
    exact ⟨β, w, val, by rw [Sem.run_bind, h1]; rfl, h2, hr.heap, Agree.refl _ _⟩
  unfold biEv at h
  split at h
  · rename_i t x
    split at h
    · rename_i s hs
      rw [Ask.val_map] at h
      obtain ⟨n, hn, he⟩ := map_some h
      cases he
      cases hd with
      | cons h1 h2 =>
        cases h2
        exact hpure (len_ok hr hn (opSc_den hs h1)) rfl
    · simp [Ask.val] at h
  · rename_i t u s x
    split at h
    · rename_i s' k n hs hx
      cases hd with
      | cons h1 h2 =>
        cases h2 with
        | cons h2 h3 =>
          cases h3
          have e := opSc_den hx h2
          simp only [SV.den] at e
          subst e
          obtain ⟨β', w', val, k1, k2, k3, k4⟩ := appZ_ok (ty_ := ty) (k := k) hr h hq hid (opSc_den hs h1)
          exact ⟨β', w', val, by show (do pure (Next.value (← Builtin.append_ #[t, u] ty _)) : Sem Next).run P w = _; rw [Sem.run_bind, k1]; rfl, k2, k3, k4⟩
    · rename_i s' x' _ hs hx
      cases hd with
      | cons h1 h2 =>
        cases h2 with
        | cons h2 h3 =>
          cases h3
          obtain ⟨β', w', val, k1, k2, k3, k4⟩ := append_ok (ty_ := ty) hr h hq hid (opSc_den hs h1) (opSc_den hx h2)
          exact ⟨β', w', val, by show (do pure (Next.value (← Builtin.append_ #[t, u] ty _)) : Sem Next).run P w = _; rw [Sem.run_bind, k1]; rfl, k2, k3, k4⟩
    · simp [Ask.val] at h
  · rename_i t u s x
    split at h
    · rename_i s' x' hs hx
      cases hd with
      | cons h1 h2 =>
        cases h2 with
        | cons h2 h3 =>
          cases h3
          obtain ⟨β', w', val, k1, k2, k3, k4⟩ := copy_ok (ty_ := ty) hr h (opSc_den hs h1) (opSc_den hx h2)
          exact ⟨β', w', val, by show (do pure (Next.value (← Builtin.copy_ #[t, u] ty _)) : Sem Next).run P w = _; rw [Sem.run_bind, k1]; rfl, k2, k3, k4⟩
    · simp [Ask.val] at h
  · rename_i x l
    simp only [Ask.val] at h
    split at h
    · rename_i k x0 l0 hx hl
      obtain ⟨n, hn, he⟩ := map_some h
      cases he
      cases hd with
      | cons h1 h2 =>
        rename_i v0 vs0
        have e : v0 = .int k x0.val := opSc_den hx h1
        subst e
        have := minmax_ok (P := P) (w := w) (f := min2I) (g := Builtin.min2) (k := k) (fun x y => by simp [Builtin.min2, min2I]) l0 vs0 x0 n (opSc_all hl h2) hn
        refine hpure (s := Builtin.min_ ts.toArray ty (Value.int k x0.val :: vs0).toArray) (val := .int k n.val) ?_ rfl
        simp only [Builtin.min_]
        exact this
    · cases h
  · rename_i x l
    simp only [Ask.val] at h
    split at h
    · rename_i k x0 l0 hx hl
      obtain ⟨n, hn, he⟩ := map_some h
      cases he
      cases hd with
      | cons h1 h2 =>
        rename_i v0 vs0
        have e : v0 = .int k x0.val := opSc_den hx h1
        subst e
        have := minmax_ok (P := P) (w := w) (f := max2I) (g := Builtin.max2) (k := k) (fun x y => by simp [Builtin.max2, max2I]) l0 vs0 x0 n (opSc_all hl h2) hn
        refine hpure (s := Builtin.max_ ts.toArray ty (Value.int k x0.val :: vs0).toArray) (val := .int k n.val) ?_ rfl
        simp only [Builtin.max_]
        exact this
    · cases h
  · simp [Ask.val] at h
end
/-- what a step may come to -/
inductive Out where
  | leaf (q : Option Prop) (v : LV) (d : List (Nat × Item))
  | ite (b : Bool) (x y : Out)
  | fail
def Out.of : Stp → Out
  | some (q, v, d) => .leaf q v d
  | none => .fail
/-- all that is asked is given, and whichever end is reached is as Q says -/
def Out.holds (Q : LV → List (Nat × Item) → Prop) : Out → Prop
  | .leaf q v d => needs q ∧ Q v d
  | .ite b x y => (b = true → x.holds Q) ∧ (b = false → y.holds Q)
  | .fail => False
/-- what comes new has no item's place -/
def Fresh (id : Nat) (hp : Hp) (d : List (Nat × Item)) : Prop := ∀ j x, (j, x) ∈ d → id ≤ j → kd hp j = none
def Out.fresh (id : Nat) (hp : Hp) : Out → Prop
  | .leaf _ _ d => Fresh id hp d
  | .ite _ x y => x.fresh id hp ∧ y.fresh id hp
  | .fail => True
structure Gam where
  run : FuncId → Nat → List LV → Ask Out
/-- a call that is answered at once, or entered -/
def Done (P : Program) (f : FuncId) (vals : Array Value) (w : World) (Q : Ending → World → Prop) : Prop :=
  (∃ val, (callFunc f vals).run P w = .ok (.value val) w ∧ Q (.returned val) w) ∨
    ((∀ (as : Array Value) (w : World), (callFunc f as).run P w = .ok (.enter f as) w) ∧ Calls P f vals w Q)
theorem Done.mono {P : Program} {f : FuncId} {vals : Array Value} {w : World} {Q Q' : Ending → World → Prop} (h : Done P f vals w Q) (hq : ∀ e w', Q e w' → Q' e w') : Done P f vals w Q' :=
  h.imp (fun ⟨v, h1, h2⟩ => ⟨v, h1, hq _ _ h2⟩) fun ⟨h1, h2⟩ => ⟨h1, h2.mono hq⟩
structure GOk (P : Program) (G : Gam) : Prop where
  calls : ∀ f id args hp, ((G.run f id args).val hp).fresh id hp → ∀ Q, ((G.run f id args).val hp).holds Q →
    ∀ (W : World) (hp₀ : Hp) (β₀ β : Env) (w : World) (vals : List Value), HRel W hp₀ β₀ β hp w → All2 (LV.den β (kd hp)) args vals →
      Done P f vals.toArray w fun e w' => ∃ v d val β', Q v d ∧ e = .returned val ∧ v.den β' (kd (applyD d hp)) val ∧ HRel W hp₀ β₀ β' (applyD d hp) w' ∧ Agree β β' (kd hp) (kd (applyD d hp))
def put (st : St) (dst : Option Tmp) (v : LV) (hp : Hp) : St :=
  match dst with
  | some d => ⟨st.fr.set d v, hp⟩
  | none => ⟨st.fr, hp⟩
theorem Rel.put {W : World} {hp₀ : Hp} {β₀ β β' : Env} {st : St} {a : Act} {w w' : World} (h : Rel W hp₀ β₀ β st a w) {dst : Option Tmp} {v : LV} {val : Value} {hp : Hp}
    (hv : v.den β' (kd hp) val) (hh : HRel W hp₀ β₀ β' hp w') (ha : Agree β β' (kd st.hp) (kd hp)) :
    Rel W hp₀ β₀ β' (put st dst v hp) (a.put dst val) w' := by
  have hfr : All2 (LV.den β' (kd hp)) st.fr a.tmps.toList := h.fr.imp fun _ _ => LV.den_mono ha
  cases dst with
  | none => exact ⟨h.defers, hfr, hh⟩
  | some d => exact ⟨h.defers, by
      show All2 (LV.den β' (kd hp)) (st.fr.set d v) (a.tmps.setIfInBounds d val).toList
      rw [Array.toList_setIfInBounds]
      exact hfr.set d hv, hh⟩
/-- the function that is called -/
def calleeOf : LV → Option FuncId
  | .one (.sc (.con (.func (.func f) fs cs))) => if fs.isEmpty && cs.isEmpty then some f else none
  | _ => none
/-- one operation -/
def stepA (P : Program) (G : Gam) (id : Nat) (e : Operand → LV) (op : Op) : Ask Out :=
  match op with
  | .call c => match c.callee with
    | .builtin b => (biEv P id b c.argTypes.toList (c.args.toList.map e)).map Out.of
    | .value f => match calleeOf (e f) with
      | some f => G.run f id (c.args.toList.map e)
      | none => .ret .fail
    | _ => .ret .fail
  | op => (opEv P id e op).map Out.of
/-- an operation, a choice's outcome being known -/
def stepH (P : Program) (G : Gam) (h : Option Bool) (id : Nat) (e : Operand → LV) (op : Op) : Ask Out :=
  match h, op with
  | some v, .pick c x y => match e c with
    | .one (.sc (.bool t)) => .ret (.leaf (some (t.val = v)) (if v then e x else e y) [])
    | _ => .ret .fail
  | _, op => stepA P G id e op
theorem stepA_ok {P : Program} {G : Gam} (hG : GOk P G) {id : Nat} {st : St} {o : Oper} (hf : ((stepA P G id (ev st) o.op).val st.hp).fresh id st.hp) {K : LV → List (Nat × Item) → Prop} (h : ((stepA P G id (ev st) o.op).val st.hp).holds K)
    {W : World} {hp₀ : Hp} {β₀ β : Env} {a : Act} {w : World} (hr : Rel W hp₀ β₀ β st a w) {next : Act → World → Prop} {Q : Exit → Act → World → Prop}
    (hn : ∀ v d β' a' w', K v d → Rel W hp₀ β₀ β' (put st o.dst v (applyD d st.hp)) a' w' → next a' w') : o.wp P a w next Q := by
  unfold stepA at h hf
  split at h
  · rename_i c hc
    have hargs : All2 (LV.den β (kd st.hp)) (c.args.toList.map (ev st)) (c.args.toList.map a.eval) := All2.of_map _ _ _ fun x _ => ev_den hr x
    have e2 : (c.args.toList.map a.eval).toArray = c.args.map a.eval := by rw [← Array.toList_map, Array.toArray_toList]
    simp only [hc] at hf
    split at h
    · rename_i b hb
      simp only [hb] at hf
      rw [Ask.val_map] at h hf
      cases hs : (biEv P id b c.argTypes.toList (c.args.toList.map (ev st))).val st.hp with
      | none => rw [hs] at h; exact h.elim
      | some r =>
        obtain ⟨q, v, d⟩ := r
        rw [hs] at h hf
        obtain ⟨hq, hk⟩ := h
        obtain ⟨β', w', val, h1, h2, h3, h4⟩ := bi_ok hr hs hq (fun ⟨x, hx⟩ => hf id x hx (Nat.le_refl _)) hargs o.type (c.args.map fun | .const _ => true | _ => false)
        rw [e2, Array.toArray_toList] at h1
        have hrun : (execOp a.eval o).run P w = .ok (.value val) w' := by
          simp only [execOp, hc, resolve, hb, Sem.run_bind, Sem.run_pure, Result.andThen_ok, invoke]
          exact h1
        unfold Oper.wp
        rw [hrun]
        exact hn v d β' _ w' hk (hr.put (dst := o.dst) h2 h3 h4)
    · rename_i x hx
      simp only [hx] at hf
      split at h
      · rename_i f hfn
        simp only [hfn] at hf
        have hdone := hG.calls f id _ _ hf K h W hp₀ β₀ β w _ hr.heap hargs
        unfold calleeOf at hfn
        split at hfn
        · rename_i g fs cs hx2
          split at hfn
          · rename_i hemp
            simp at hfn; subst hfn
            have hd := ev_den hr x
            rw [hx2] at hd
            have e : a.eval x = .func (.func g) fs cs := hd.2
            simp at hemp
            obtain ⟨rfl, rfl⟩ := hemp
            unfold Oper.wp
            rcases hdone with ⟨val, h1, v, d, val', β', hk, he, h3, h4, h5⟩ | ⟨h1, h2⟩
            · have hrun : (execOp a.eval o).run P w = .ok (.value val) w := by
                rw [e2] at h1
                simp only [execOp, hc, resolve, hx, e, Deferred.ofValue, Sem.run_bind, Sem.run_pure, Result.andThen_ok, invoke, Array.append_empty, Array.empty_append]
                exact h1
              rw [hrun]
              cases he
              exact hn v d β' _ w hk (hr.put (dst := o.dst) h3 h4 h5)
            · have hrun : (execOp a.eval o).run P w = .ok (.enter g (c.args.toList.map a.eval).toArray) w := by
                simp only [execOp, hc, resolve, hx, e, Deferred.ofValue, Sem.run_bind, Sem.run_pure, Result.andThen_ok, invoke, h1, e2]
                simp
              rw [hrun]
              refine h2.mono ?_
              rintro e w' ⟨v, d, val, β', hk, rfl, h3, h4, h5⟩
              exact hn v d β' _ w' hk (hr.put (dst := o.dst) h3 h4 h5)
          · cases hfn
        · cases hfn
      · exact h.elim
    · exact h.elim
  · rename_i hno
    have hf' : ((opEv P id (ev st) o.op).map Out.of).val st.hp |>.fresh id st.hp := by
      split at hf
      · rename_i c hc; exact absurd hc (hno c)
      · exact hf
    rw [Ask.val_map] at h hf'
    cases hs : (opEv P id (ev st) o.op).val st.hp with
    | none => rw [hs] at h; exact h.elim
    | some r =>
      obtain ⟨q, v, d⟩ := r
      rw [hs] at h hf'
      obtain ⟨hq, hk⟩ := h
      obtain ⟨β', w', r, val, h1, h2, h3, h4, h5⟩ := opEv_ok hs (fun ⟨x, hx⟩ => hf' id x hx (Nat.le_refl _)) hq W hp₀ β₀ β a w hr
      have := hn v d β' _ w' hk (hr.put (dst := o.dst) h3 h4 h5)
      unfold Oper.wp
      rw [h1]
      rcases h2 with rfl | ⟨rfl, rfl⟩
      · exact this
      · exact this
theorem stepH_ok {P : Program} {G : Gam} (hG : GOk P G) {g : Option Bool} {id : Nat} {st : St} {o : Oper} (hf : ((stepH P G g id (ev st) o.op).val st.hp).fresh id st.hp) {K : LV → List (Nat × Item) → Prop} (h : ((stepH P G g id (ev st) o.op).val st.hp).holds K)
    {W : World} {hp₀ : Hp} {β₀ β : Env} {a : Act} {w : World} (hr : Rel W hp₀ β₀ β st a w) {next : Act → World → Prop} {Q : Exit → Act → World → Prop}
    (hn : ∀ v d β' a' w', K v d → Rel W hp₀ β₀ β' (put st o.dst v (applyD d st.hp)) a' w' → next a' w') : o.wp P a w next Q := by
  unfold stepH at h hf
  split at h
  · rename_i b c x y ho
    split at h
    · rename_i t ht
      obtain ⟨hq, hk⟩ := h
      have htb : t.val = b := hq
      have hc := ev_den hr c; rw [ht] at hc
      have e : a.eval c = .bool t.val := hc
      have hrun : (execOp a.eval o).run P w = .ok (.value (if b then a.eval x else a.eval y)) w := by
        simp [execOp, ho, e, asBool, htb]
      unfold Oper.wp
      rw [hrun]
      refine hn _ _ β _ w hk (hr.put (dst := o.dst) (hp := st.hp) ?_ hr.heap (Agree.refl _ _))
      cases b
      · exact ev_den hr y
      · exact ev_den hr x
    · exact h.elim
  · rename_i hno
    have hf' : ((stepA P G id (ev st) o.op).val st.hp).fresh id st.hp := by
      split at hf
      · rename_i b c x y ho; exact absurd ho (hno b c x y rfl)
      · exact hf
    exact stepA_ok hG hf' h hr hn
/-- is an operation carried out? -/
def wantedEv (st : St) (ops : Array Oper) (o : Oper) : Option SB :=
  match o.guard with
  | none => some (.lit true)
  | some (j, want) => match (ops[j]?).bind (·.dst) with
    | none => some (.lit false)
    | some d => match st.fr[d]? with
      | some (.one (.sc (.bool (.lit b)))) => some (.lit (b == want))
      | some (.one (.sc (.bool (.sym b)))) => some (.sym (b == want))
      | some (.tup _) => some (.lit false)
      | some (.one (.sc (.int _ _))) => some (.lit false)
      | none => some (.lit false)
      | _ => none
theorem wantedEv_ok {W : World} {hp₀ : Hp} {β₀ β : Env} {st : St} {a : Act} {w : World} (h : Rel W hp₀ β₀ β st a w) {ops : Array Oper} {o : Oper} {b : SB}
    (hb : wantedEv st ops o = some b) : Region.wanted o (yielded ops a.tmps) = b.val := by
  unfold wantedEv at hb
  unfold Region.wanted
  split at hb
  · rename_i hg; simp at hb; subst hb; simp [hg, SB.val]
  · rename_i j want hg
    simp only [hg]
    unfold yielded
    split at hb
    · rename_i hd; simp at hb; subst hb; simp [hd, SB.val]
    · rename_i d hd
      simp only [hd, Option.bind_some]
      have hlen := h.fr.length
      split at hb
      · rename_i x hx
        obtain ⟨v, hv, hden⟩ := h.fr.get hx
        have hv' : a.tmps[d]? = some v := by simpa using hv
        have e : v = .bool x := hden
        simp at hb; subst hb; simp [hv', e, SB.val]
      · rename_i x hx
        obtain ⟨v, hv, hden⟩ := h.fr.get hx
        have hv' : a.tmps[d]? = some v := by simpa using hv
        have e : v = .bool x := hden
        simp at hb; subst hb; simp [hv', e, SB.val]
      · rename_i l hx
        obtain ⟨v, hv, vs, e, _⟩ := h.fr.get hx
        have hv' : a.tmps[d]? = some v := by simpa using hv
        simp at hb; subst hb; simp [hv', e, SB.val]
      · rename_i k i hx
        obtain ⟨v, hv, hden⟩ := h.fr.get hx
        have hv' : a.tmps[d]? = some v := by simpa using hv
        have e : v = .int k i.val := hden
        simp at hb; subst hb; simp [hv', e, SB.val]
      · rename_i hx
        have hv' : a.tmps[d]? = none := by
          have := List.getElem?_eq_none_iff.1 hx
          rw [Array.getElem?_eq_none_iff, ← Array.length_toList]
          omega
        simp at hb; subst hb; simp [hv', SB.val]
      · simp at hb
abbrev Asm := List (Tmp × Bool)
def known : Asm → Tmp → Option Bool
  | [], _ => none
  | (d, v) :: l, t => if d = t then some v else known l t
def forget (a : Asm) : Option Tmp → Asm
  | none => a
  | some d => a.filter fun p => p.1 != d
def wantedA (a : Asm) (st : St) (ops : Array Oper) (o : Oper) : Option SB :=
  match o.guard with
  | none => some (.lit true)
  | some (j, want) => match (ops[j]?).bind (·.dst) with
    | none => some (.lit false)
    | some d => match known a d with
      | some v => some (.lit (v == want))
      | none => wantedEv st ops o
def learn (a : Asm) (ops : Array Oper) (o : Oper) (v : Bool) : Asm :=
  match o.guard with
  | none => a
  | some (j, want) => match (ops[j]?).bind (·.dst) with
    | none => a
    | some d => (d, v == want) :: a
def AsmOk (a : Asm) (st : St) : Prop := ∀ d v, known a d = some v → ∃ x : SB, st.fr[d]? = some (.one (.sc (.bool x))) ∧ x.val = v
theorem known_forget {a : Asm} {e d : Tmp} {v : Bool} (h : known (forget a (some e)) d = some v) : d ≠ e ∧ known a d = some v := by
  induction a with
  | nil => simp [forget, known] at h
  | cons p a ih =>
    obtain ⟨t, u⟩ := p
    simp only [forget, List.filter_cons] at h ih
    split at h
    · rename_i hne
      simp only [known] at h ⊢
      split at h
      · rename_i htd; subst htd
        simp at h hne; exact ⟨hne, by simp [h]⟩
      · rename_i htd
        rw [if_neg htd]; exact ih h
    · rename_i hne
      simp at hne; subst hne
      obtain ⟨h1, h2⟩ := ih h
      exact ⟨h1, by simp only [known, if_neg (Ne.symm h1)]; exact h2⟩
theorem AsmOk.put {a : Asm} {st : St} (h : AsmOk a st) {dst : Option Tmp} {v : LV} {hp : Hp} : AsmOk (forget a dst) (put st dst v hp) := by
  intro d u hd
  cases dst with
  | none => exact h d u hd
  | some e =>
    obtain ⟨h1, h2⟩ := known_forget hd
    obtain ⟨x, hx, hv⟩ := h d u h2
    exact ⟨x, by simp only [Ev.put]; rw [List.getElem?_set_ne (Ne.symm h1)]; exact hx, hv⟩
theorem wantedA_ok {a : Asm} {st : St} (h : AsmOk a st) {ops : Array Oper} {o : Oper} {b : SB} (hb : wantedA a st ops o = some b) : ∃ b', wantedEv st ops o = some b' ∧ b'.val = b.val := by
  unfold wantedA at hb
  split at hb
  · rename_i hg; simp at hb; subst hb; exact ⟨.lit true, by simp [wantedEv, hg], rfl⟩
  · rename_i j want hg
    split at hb
    · rename_i hd; simp at hb; subst hb; exact ⟨.lit false, by simp [wantedEv, hg, hd], rfl⟩
    · rename_i d hd
      split at hb
      · rename_i v hk
        simp at hb; subst hb
        obtain ⟨x, hx, hv⟩ := h d v hk
        cases x with
        | lit x => exact ⟨.lit (x == want), by simp [wantedEv, hg, hd, hx], by simp only [SB.val] at hv ⊢; rw [hv]⟩
        | sym x => exact ⟨.sym (x == want), by simp [wantedEv, hg, hd, hx], by simp only [SB.val] at hv ⊢; rw [hv]⟩
      · exact ⟨b, hb, rfl⟩
theorem learn_ok {a : Asm} {st : St} (h : AsmOk a st) {ops : Array Oper} {o : Oper} {b : Bool} (hb : wantedA a st ops o = some (.sym b)) : AsmOk (learn a ops o b) st := by
  unfold wantedA at hb
  split at hb
  · simp at hb
  · rename_i j want hg
    split at hb
    · simp at hb
    · rename_i d hd
      have hl : learn a ops o b = (d, b == want) :: a := by simp only [learn, hg, hd]
      rw [hl]
      split at hb
      · simp at hb
      · intro e v he
        simp only [known] at he
        split at he
        · rename_i hde; subst hde
          simp at he; subst he
          simp only [wantedEv, hg, hd] at hb
          split at hb <;> simp at hb
          rename_i x hx
          subst hb
          exact ⟨.sym x, hx, by cases x <;> cases want <;> rfl⟩
        · exact h e v he
end Go.Ev
end

section
set_option linter.unusedVariables false
set_option linter.unusedSimpArgs false
namespace Go.Ev
open Go
inductive Res where
  | leaf (e : Exit) (st : St)
  | ite (b : Bool) (t e : Res)
  | need (p : Prop) (r : Res)
  | fail
def Res.sat (Q : Exit → St → Prop) : Res → Prop
  | .leaf e st => Q e st
  | .ite b t e => (b = true → t.sat Q) ∧ (b = false → e.sat Q)
  | .need p r => p ∧ r.sat Q
  | .fail => False
def Res.bind (f : St → Res) : Res → Res
  | .leaf .normal st => f st
  | .leaf e st => .leaf e st
  | .ite b t e => .ite b (t.bind f) (e.bind f)
  | .need p r => .need p (r.bind f)
  | .fail => .fail
def Res.block (id : Nat) : Res → Res
  | .leaf (.exit i) st => if i = id then .leaf .normal st else .leaf (.exit i) st
  | .leaf e st => .leaf e st
  | .ite b t e => .ite b (t.block id) (e.block id)
  | .need p r => .need p (r.block id)
  | .fail => .fail
def Res.needs (q : Option Prop) (r : Res) : Res :=
  match q with
  | none => r
  | some p => .need p r
theorem needs_sat {q : Option Prop} {r : Res} {R : Exit → St → Prop} (h : (r.needs q).sat R) : needs q ∧ r.sat R := by
  cases q with
  | none => exact ⟨trivial, h⟩
  | some p => exact h
/-- what is known at the end of a piece of code -/
def Post (W : World) (hp₀ : Hp) (β₀ : Env) (R : Exit → St → Prop) : Exit → Act → World → Prop :=
  fun e a w => ∃ st β, R e st ∧ Rel W hp₀ β₀ β st a w
/-- how two ways are put together -/
structure Alt where
  f : Bool → Hp → Res → Res → Res
  yes : ∀ {m : Hp} {t e : Res} {R : Exit → St → Prop} {W : World} {β₀ : Env}, (f true m t e).sat R → ∃ R', t.sat R' ∧ ∀ e a w, Post W m β₀ R' e a w → Post W m β₀ R e a w
  no : ∀ {m : Hp} {t e : Res} {R : Exit → St → Prop} {W : World} {β₀ : Env}, (f false m t e).sat R → ∃ R', e.sat R' ∧ ∀ e a w, Post W m β₀ R' e a w → Post W m β₀ R e a w
/-- they are kept apart -/
def fork : Alt where
  f b _ t e := .ite b t e
  yes h := ⟨_, h.1 rfl, fun _ _ _ h => h⟩
  no h := ⟨_, h.2 rfl, fun _ _ _ h => h⟩
/-- what an operation looked at, what it wrote -/
abbrev FP := Option (List Nat × List Nat)
def Out.toRes (dr : Bool) (k : LV → List (Nat × Item) → Res) : Out → Res
  | .leaf q v d => (k v d).needs q
  | .ite b x y => if dr then .fail else .ite b (x.toRes dr k) (y.toRes dr k)
  | .fail => .fail
def hintOf (k : Asm) : Op → Option Bool
  | .pick (.tmp d) _ _ => known k d
  | _ => none
/-- one operation, where some choices' outcomes are known -/
def stepK (P : Program) (G : Gam) (k : Asm) (id : Nat) (e : Operand → LV) (op : Op) : Ask Out :=
  match hintOf k op, op with
  | some v, .pick _ x y => .ret (.leaf none (if v then e x else e y) [])
  | _, _ => stepA P G id e op
def opsEv (P : Program) (G : Gam) (A : Alt) (m : Hp) (dr : Bool) (chk : List FP → Bool) (ops : Array Oper) : List Oper → Asm → List FP → St → Res
  | [], _, acc, st => if chk acc then .leaf .normal st else .fail
  | o :: rest, k, acc, st =>
    match wantedA k st ops o with
    | some (.lit true) => ((stepK P G k st.hp.length (ev st) o.op).val st.hp).toRes dr fun v d =>
        opsEv P G A m dr chk ops rest (forget k o.dst) (acc ++ [some ((stepK P G k st.hp.length (ev st) o.op).log st.hp, d.map (·.1))]) (put st o.dst v (applyD d st.hp))
    | some (.lit false) => opsEv P G A m dr chk ops rest (forget k o.dst) (acc ++ [none]) (put st o.dst (.tup []) st.hp)
    | some (.sym b) => A.f b m
        (((stepK P G (learn k ops o true) st.hp.length (ev st) o.op).val st.hp).toRes dr fun v d =>
          opsEv P G A m dr chk ops rest (forget (learn k ops o true) o.dst) (acc ++ [some ((stepK P G (learn k ops o true) st.hp.length (ev st) o.op).log st.hp, d.map (·.1))]) (put st o.dst v (applyD d st.hp)))
        (opsEv P G A m dr chk ops rest (forget (learn k ops o false) o.dst) (acc ++ [none]) (put st o.dst (.tup []) st.hp))
    | none => .fail
theorem kd_length {hp : Hp} {j : Nat} (h : hp.length ≤ j) : kd hp j = none := by
  unfold kd
  rw [List.getElem?_eq_none h]
theorem fresh_length (hp : Hp) (d : List (Nat × Item)) : Fresh hp.length hp d := fun _ _ _ h => kd_length h
theorem out_fresh (hp : Hp) : ∀ o : Out, o.fresh hp.length hp
  | .leaf _ _ d => fresh_length hp d
  | .ite _ x y => ⟨out_fresh hp x, out_fresh hp y⟩
  | .fail => trivial
theorem toRes_holds {dr : Bool} {k : LV → List (Nat × Item) → Res} {R : Exit → St → Prop} : ∀ {o : Out}, (o.toRes dr k).sat R → o.holds fun v d => (k v d).sat R
  | .leaf q v d, h => needs_sat h
  | .ite b x y, h => by
    simp only [Out.toRes] at h
    split at h
    · exact h.elim
    · exact ⟨fun e => toRes_holds (h.1 e), fun e => toRes_holds (h.2 e)⟩
  | .fail, h => h
theorem toRes_leaf {k : LV → List (Nat × Item) → Res} {R : Exit → St → Prop} {o : Out} (h : (o.toRes true k).sat R) : ∃ q v d, o = .leaf q v d ∧ needs q ∧ (k v d).sat R := by
  cases o with
  | leaf q v d => exact ⟨q, v, d, rfl, (needs_sat h).1, (needs_sat h).2⟩
  | ite b x y => simp [Out.toRes, Res.sat] at h
  | fail => exact h.elim
/-- what is known is true: the same operation -/
theorem stepK_H {P : Program} {G : Gam} {k : Asm} {id : Nat} {st : St} {op : Op} (hk : AsmOk k st) :
    (stepK P G k id (ev st) op = stepH P G (hintOf k op) id (ev st) op) ∨
    ∃ v p, stepK P G k id (ev st) op = .ret (.leaf none v []) ∧ stepH P G (hintOf k op) id (ev st) op = .ret (.leaf (some p) v []) ∧ p := by
  unfold stepK
  split
  · rename_i v c x y hh
    right
    unfold hintOf at hh
    split at hh
    · rename_i d x' y' e
      simp at e; obtain ⟨rfl, rfl, rfl⟩ := e
      obtain ⟨t, ht, hv⟩ := hk _ _ hh
      have hev : ev st (.tmp d) = .one (.sc (.bool t)) := by simp [ev, List.getD_eq_getElem?_getD, ht]
      refine ⟨_, t.val = v, rfl, ?_, hv⟩
      simp only [stepH, hintOf, hh, hev]
    · cases hh
  · rename_i hno
    left
    unfold stepH
    split
    · rename_i v c x y hh
      exact absurd hh (by intro h; exact hno v c x y h rfl)
    · rfl
theorem stepK_ok {P : Program} {G : Gam} (hG : GOk P G) {k : Asm} {id : Nat} {st : St} {o : Oper} (hk : AsmOk k st) (hf : ∀ o : Out, o.fresh id st.hp) {K : LV → List (Nat × Item) → Prop} (h : ((stepK P G k id (ev st) o.op).val st.hp).holds K)
    {W : World} {hp₀ : Hp} {β₀ β : Env} {a : Act} {w : World} (hr : Rel W hp₀ β₀ β st a w) {next : Act → World → Prop} {Q : Exit → Act → World → Prop}
    (hn : ∀ v d β' a' w', K v d → Rel W hp₀ β₀ β' (put st o.dst v (applyD d st.hp)) a' w' → next a' w') : o.wp P a w next Q := by
  have hs : ((stepH P G (hintOf k o.op) id (ev st) o.op).val st.hp).holds K := by
    rcases stepK_H (P := P) (G := G) (id := id) (op := o.op) hk with e | ⟨v, p, e1, e2, hp⟩
    · rw [← e]; exact h
    · rw [e1] at h; rw [e2]; exact ⟨hp, h.2⟩
  exact stepH_ok hG (hf _) hs hr hn
theorem opsEv_ok {P : Program} {G : Gam} {A : Alt} (hG : GOk P G) {W : World} {m : Hp} {β₀ : Env} {dr : Bool} {chk : List FP → Bool} {ops : Array Oper} {Q : Exit → Act → World → Prop} :
    ∀ (l : List Oper) (k : Asm) (acc : List FP) (st : St) (R : Exit → St → Prop), AsmOk k st → (opsEv P G A m dr chk ops l k acc st).sat R → (∀ e a w, Post W m β₀ R e a w → Q e a w) →
      ∀ β a w, Rel W m β₀ β st a w → wpList P ops Q l a w
  | [], k, acc, st, R, hk, h, hq, β, a, w, hr => by
    simp only [opsEv] at h
    split at h
    · exact hq _ _ _ ⟨st, β, h, hr⟩
    · exact h.elim
  | o :: rest, k, acc, st, R, hk, h, hq, β, a, w, hr => by
    have hrun : ∀ (k : Asm) (acc : List (Nat × Item) → List FP), AsmOk k st → ∀ (R : Exit → St → Prop), (((stepK P G k st.hp.length (ev st) o.op).val st.hp).toRes dr fun v d =>
        opsEv P G A m dr chk ops rest (forget k o.dst) (acc d) (put st o.dst v (applyD d st.hp))).sat R → (∀ e a w, Post W m β₀ R e a w → Q e a w) → o.wp P a w (wpList P ops Q rest) Q := by
      intro k acc hk R h hq
      exact stepK_ok hG hk (out_fresh _) (toRes_holds h) hr fun v d β' a' w' hkv hr' => opsEv_ok hG rest _ _ _ R hk.put hkv hq β' a' w' hr'
    have hskip : ∀ (k : Asm) (acc : List FP), AsmOk k st → ∀ (R : Exit → St → Prop), (opsEv P G A m dr chk ops rest (forget k o.dst) acc (put st o.dst (.tup []) st.hp)).sat R → (∀ e a w, Post W m β₀ R e a w → Q e a w) →
        wpList P ops Q rest (a.put o.dst undef) w := by
      intro k acc hk R h hq
      exact opsEv_ok hG rest _ _ _ R hk.put h hq β _ w (hr.put (dst := o.dst) ⟨[], rfl, .nil⟩ hr.heap (Agree.refl _ _))
    simp only [opsEv] at h
    cases hb : wantedA k st ops o with
    | none => simp only [hb] at h; exact h.elim
    | some b =>
      obtain ⟨b', hb', hbv⟩ := wantedA_ok hk hb
      have hw := wantedEv_ok hr hb'
      rw [hbv] at hw
      simp only [hb] at h
      simp only [wpList, hw]
      cases b with
      | lit b =>
        cases b with
        | true => exact .inl (hrun k _ hk R h hq)
        | false => exact hskip k _ hk R h hq
      | sym b =>
        cases b with
        | true =>
          obtain ⟨R', h1, h2⟩ := A.yes (W := W) (β₀ := β₀) h
          exact .inl (hrun _ _ (learn_ok hk hb) R' h1 fun e a w hp => hq e a w (h2 e a w hp))
        | false =>
          obtain ⟨R', h1, h2⟩ := A.no (W := W) (β₀ := β₀) h
          exact hskip _ _ (learn_ok hk hb) R' h1 fun e a w hp => hq e a w (h2 e a w hp)
theorem put_comm (st : St) {x y : Option Tmp} (v u : LV) (h1 h2 h : Hp) (hne : ∀ d, x = some d → y ≠ some d) : put (put st x v h1) y u h = put (put st y u h2) x v h := by
  cases x with
  | none => cases y <;> rfl
  | some d =>
    cases y with
    | none => rfl
    | some e =>
      have : d ≠ e := fun he => hne d rfl (he ▸ rfl)
      simp only [put]
      rw [List.set_comm _ _ this]
theorem mem_looks {ops : Array Oper} {o : Oper} {t : Tmp} (h : Operand.tmp t ∈ o.op.operands) : t ∈ o.looksAt ops := by
  unfold Oper.looksAt
  rw [List.mem_append]
  refine .inl (List.mem_filterMap.2 ⟨.tmp t, by simpa using h, rfl⟩)
theorem ev_put {st : St} {dst : Option Tmp} {v : LV} {hp : Hp} {x : Operand} (h : ∀ d, dst = some d → x ≠ .tmp d) : ev (put st dst v hp) x = ev st x := by
  cases dst with
  | none => cases x <;> rfl
  | some d =>
    cases x with
    | tmp t =>
      have hne : t ≠ d := fun e => h d rfl (e ▸ rfl)
      simp only [ev, put, List.getD_eq_getElem?_getD]
      rw [List.getElem?_set_ne (Ne.symm hne)]
    | _ => rfl
theorem ev_apart {ops : Array Oper} {o : Oper} {dst : Option Tmp} (h : ∀ d, dst = some d → d ∉ o.looksAt ops) {st : St} {v : LV} {hp : Hp} : ∀ x ∈ o.op.operands, ev (put st dst v hp) x = ev st x :=
  fun _x hx => ev_put fun d hd e => h d hd (mem_looks (e ▸ hx))
theorem wanted_apart {ops : Array Oper} {o : Oper} {dst : Option Tmp} (h : ∀ d, dst = some d → d ∉ o.looksAt ops) {st : St} {v : LV} {hp : Hp} :
    wantedEv (put st dst v hp) ops o = wantedEv st ops o := by
  unfold wantedEv
  cases hg : o.guard with
  | none => rfl
  | some p =>
    obtain ⟨j, want⟩ := p
    cases ht : (ops[j]?).bind (·.dst) with
    | none => simp [ht]
    | some t =>
      have : (put st dst v hp).fr[t]? = st.fr[t]? := by
        cases dst with
        | none => rfl
        | some d =>
          have hne : d ≠ t := fun e => h d rfl (by subst e; simp [Oper.looksAt, hg, ht])
          simp only [put]
          rw [List.getElem?_set_ne hne]
      simp only [ht, this]
theorem opEv_congr {P : Program} {id : Nat} {e e2 : Operand → LV} {op : Op} (h : ∀ x ∈ op.operands, e2 x = e x) : opEv P id e2 op = opEv P id e op := by
  cases op <;> simp only [Op.operands] at h <;> (try rfl)
  case move x => simp only [opEv, h x (by simp)]
  case assign x => simp only [opEv, h x (by simp)]
  case pick c x y => simp only [opEv, h c (by simp), h x (by simp), h y (by simp)]
  case box t x => simp only [opEv, h x (by simp)]
  case build t parts =>
    have e : (parts.toList.map fun p => (p.1, e2 p.2)) = parts.toList.map fun p => (p.1, e p.2) := List.map_congr_left fun p hp => by
      rw [h p.2 (by rw [List.mem_toArray]; exact List.mem_map.2 ⟨p, hp, rfl⟩)]
    simp only [opEv, e]
  case buildSlice t len parts =>
    have e : (parts.toList.map fun p => (p.1, e2 p.2)) = parts.toList.map fun p => (p.1, e p.2) := List.map_congr_left fun p hp => by
      rw [h p.2 (by rw [List.mem_toArray]; exact List.mem_map.2 ⟨p, hp, rfl⟩)]
    simp only [opEv, e]
  case load t x => simp only [opEv, h x (by simp)]
  case store t x y => simp only [opEv, h x (by simp), h y (by simp)]
  case nilCheck x => simp only [opEv, h x (by simp)]
  case binOp op t x y yt => simp only [opEv, h x (by simp), h y (by simp)]
  case unOp op t x => simp only [opEv, h x (by simp)]
  case convert s d x => simp only [opEv, h x (by simp)]
  case sliceToArrayPointer t x => simp only [opEv, h x (by simp)]
  case makeSlice t x y => simp only [opEv, h x (by simp), h y (by simp)]
  case slice t x lo hi mx =>
    have e1 : lo.map e2 = lo.map e := by cases lo <;> simp_all
    have e3 : hi.map e2 = hi.map e := by cases hi <;> simp_all
    have e4 : mx.map e2 = mx.map e := by cases mx <;> simp_all
    simp only [opEv, h x (by simp), e1, e3, e4]
  case fieldAddr s x f => simp only [opEv, h x (by simp)]
  case field s x f => simp only [opEv, h x (by simp)]
  case indexAddr t x i => simp only [opEv, h x (by simp), h i (by simp)]
  case index t x i => simp only [opEv, h x (by simp), h i (by simp)]
  case extract x i => simp only [opEv, h x (by simp)]
theorem stepA_congr {P : Program} {G : Gam} {id : Nat} {e e2 : Operand → LV} {op : Op} (h : ∀ x ∈ op.operands, e2 x = e x) : stepA P G id e2 op = stepA P G id e op := by
  unfold stepA
  split
  · rename_i c
    have hargs : c.args.toList.map e2 = c.args.toList.map e := List.map_congr_left fun x hx => h x (by simp only [Op.operands, Call.operands, Array.mem_append]; exact .inr (by simpa using hx))
    rw [hargs]
    split
    · rfl
    · rename_i f hf
      rw [h f (by simp [Op.operands, Call.operands, hf])]
    · rfl
  · rw [opEv_congr h]
theorem stepH_congr {P : Program} {G : Gam} {g : Option Bool} {id : Nat} {e e2 : Operand → LV} {op : Op} (h : ∀ x ∈ op.operands, e2 x = e x) : stepH P G g id e2 op = stepH P G g id e op := by
  unfold stepH
  split
  · rename_i v c x y
    rw [h c (by simp [Op.operands]), h x (by simp [Op.operands]), h y (by simp [Op.operands])]
  · exact stepA_congr h
theorem itemAt_setAt {hp : Hp} {i k : Nat} {x : Item} (h : k ≠ i) : itemAt (setAt hp i x) k = itemAt hp k := by
  unfold itemAt
  split
  · rename_i y hy
    rw [(setAt_other hp i x k y h).1 hy]
  · rename_i hn
    split
    · rename_i y hy; exact absurd ((setAt_other hp i x k y h).2 hy) (hn y)
    · rfl
theorem itemAt_applyD : ∀ {d : List (Nat × Item)} {hp : Hp} {k : Nat}, k ∉ d.map (·.1) → itemAt (applyD d hp) k = itemAt hp k
  | [], _, _, _ => rfl
  | (i, x) :: d, hp, k, h => by
    simp only [List.map_cons, List.mem_cons, not_or] at h
    show itemAt (applyD d (setAt hp i x)) k = _
    rw [itemAt_applyD h.2, itemAt_setAt h.1]
theorem kd_itemAt (hp : Hp) (k : Nat) : kd hp k = (itemAt hp k).map Item.kd := by
  unfold kd itemAt
  cases hp[k]? with
  | none => rfl
  | some x => cases x <;> rfl
theorem kd_applyD {d : List (Nat × Item)} {hp : Hp} {k : Nat} (h : k ∉ d.map (·.1)) : kd (applyD d hp) k = kd hp k := by rw [kd_itemAt, kd_itemAt, itemAt_applyD h]
theorem kd_applyD_none : ∀ {d : List (Nat × Item)} {hp : Hp} {k : Nat}, kd (applyD d hp) k = none → kd hp k = none
  | [], _, _, h => h
  | (i, x) :: d, hp, k, h => by
    have := kd_applyD_none (d := d) (hp := setAt hp i x) h
    rw [kd_setAt] at this
    split at this
    · cases this
    · exact this
theorem setAt_comm : ∀ (hp : Hp) (i j : Nat) (a b : Item), i ≠ j → setAt (setAt hp i a) j b = setAt (setAt hp j b) i a
  | [], 0, 0, _, _, h => absurd rfl h
  | [], 0, j + 1, a, b, _ => by simp [setAt]
  | [], i + 1, 0, a, b, _ => by simp [setAt]
  | [], i + 1, j + 1, a, b, h => by simp only [setAt]; rw [setAt_comm [] i j a b (by omega)]
  | _ :: _, 0, 0, _, _, h => absurd rfl h
  | _ :: _, 0, j + 1, _, _, _ => by simp [setAt]
  | _ :: _, i + 1, 0, _, _, _ => by simp [setAt]
  | _ :: l, i + 1, j + 1, a, b, h => by simp only [setAt]; rw [setAt_comm l i j a b (by omega)]
theorem applyD_setAt : ∀ (d : List (Nat × Item)) (hp : Hp) (i : Nat) (x : Item), i ∉ d.map (·.1) → applyD d (setAt hp i x) = setAt (applyD d hp) i x
  | [], _, _, _, _ => rfl
  | (j, y) :: d, hp, i, x, h => by
    simp only [List.map_cons, List.mem_cons, not_or] at h
    show applyD d (setAt (setAt hp i x) j y) = setAt (applyD d (setAt hp j y)) i x
    rw [setAt_comm _ _ _ _ _ h.1, applyD_setAt d _ _ _ h.2]
theorem applyD_comm : ∀ (d d2 : List (Nat × Item)) (hp : Hp), (∀ k ∈ d.map (·.1), k ∉ d2.map (·.1)) → applyD d2 (applyD d hp) = applyD d (applyD d2 hp)
  | [], _, _, _ => rfl
  | (i, x) :: d, d2, hp, h => by
    show applyD d2 (applyD d (setAt hp i x)) = applyD d (setAt (applyD d2 hp) i x)
    rw [applyD_comm d d2 (setAt hp i x) fun k hk => h k (by simp [List.map_cons]; exact .inr (by simpa using hk)), applyD_setAt d2 _ _ _ (h i (by simp))]
def StepD (P : Program) (G : Gam) (ops : Array Oper) (ids : Nat → Nat) (fp : Nat → FP) (i : Nat) (st st' : St) : Prop :=
  ∃ o b, ops[i]? = some o ∧ wantedEv st ops o = some b ∧
    ((b.val = true ∧ ∃ q v d g, (stepH P G g (ids i) (ev st) o.op).val st.hp = .leaf q v d ∧ needs q ∧ fp i = some ((stepH P G g (ids i) (ev st) o.op).log st.hp, d.map (·.1)) ∧ Fresh (ids i) st.hp d ∧ st' = put st o.dst v (applyD d st.hp)) ∨
     (b.val = false ∧ fp i = none ∧ st' = put st o.dst (.tup []) st.hp))
def disj : FP → FP → Bool
  | some (r1, w1), some (r2, w2) => w1.all (fun k => !(r2.contains k) && !(w2.contains k)) && w2.all fun k => !(r1.contains k)
  | _, _ => true
theorem put_hp {st : St} {dst : Option Tmp} {v : LV} {hp : Hp} : (put st dst v hp).hp = hp := by cases dst <;> rfl
section
variable {P : Program} {G : Gam} {ops : Array Oper} {ids : Nat → Nat} {fp : Nat → FP}
/-- two operations that have nothing to do with each other -/
theorem step_comm {i j : Nat} {oi oj : Oper} (hoi : ops[i]? = some oi) (hoj : ops[j]? = some oj) (hap : oj.apart ops oi = true) (hdis : disj (fp j) (fp i) = true)
    {st s1 s2 : St} (h1 : StepD P G ops ids fp j st s1) (h2 : StepD P G ops ids fp i s1 s2) : ∃ s1', StepD P G ops ids fp i st s1' ∧ StepD P G ops ids fp j s1' s2 := by
  obtain ⟨a1, a2, a3⟩ := Oper.apart_spec hap
  obtain ⟨o, bj, ho, hwj, h1⟩ := h1
  rw [hoj] at ho; simp at ho; subst ho
  obtain ⟨o, bi, ho, hwi, h2⟩ := h2
  rw [hoi] at ho; simp at ho; subst ho
  rcases h1 with ⟨hbj, qj, vj, dj, gj, ej, nj, fj, rj, rfl⟩ | ⟨hbj, fj, rfl⟩
  · rw [wanted_apart a1] at hwi
    have evi : ∀ x ∈ oi.op.operands, ev (put st oj.dst vj (applyD dj st.hp)) x = ev st x := ev_apart a1
    rcases h2 with ⟨hbi, qi, vi, di, gi, ei, ni, fi, ri, rfl⟩ | ⟨hbi, fi, rfl⟩
    · rw [stepH_congr evi, put_hp] at ei fi
      rw [put_hp] at ri
      rw [fj, fi] at hdis
      simp only [disj, Bool.and_eq_true, List.all_eq_true, Bool.not_eq_true', List.contains_eq_mem, decide_eq_false_iff_not] at hdis
      obtain ⟨d1, d2⟩ := hdis
      have hli : ∀ k ∈ (stepH P G gi (ids i) (ev st) oi.op).log (applyD dj st.hp), itemAt st.hp k = itemAt (applyD dj st.hp) k := fun k hk => (itemAt_applyD fun hm => (d1 k hm).1 hk).symm
      obtain ⟨k1, k2⟩ := Ask.local_ _ hli
      have hlj : ∀ k ∈ (stepH P G gj (ids j) (ev st) oj.op).log st.hp, itemAt (applyD di st.hp) k = itemAt st.hp k := fun k hk => itemAt_applyD fun hm => d2 k hm hk
      obtain ⟨k3, k4⟩ := Ask.local_ _ hlj
      have evj : ∀ x ∈ oj.op.operands, ev (put st oi.dst vi (applyD di st.hp)) x = ev st x := ev_apart a3
      refine ⟨put st oi.dst vi (applyD di st.hp), ⟨oi, bi, hoi, hwi, .inl ⟨hbi, qi, vi, di, gi, by rw [k1]; exact ei, ni, by rw [k2]; exact fi, fun k x hk hle => kd_applyD_none (ri k x hk hle), rfl⟩⟩,
        ⟨oj, bj, hoj, by rw [wanted_apart a3]; exact hwj, .inl ⟨hbj, qj, vj, dj, gj, by rw [stepH_congr evj, put_hp, k3]; exact ej, nj, by rw [stepH_congr evj, put_hp, k4]; exact fj, ?_, ?_⟩⟩⟩
      · intro k x hk hle
        rw [put_hp, kd_applyD (fun hm => (d1 k (List.mem_map.2 ⟨_, hk, rfl⟩)).2 hm)]
        exact rj k x hk hle
      · rw [put_hp, put_hp, applyD_comm dj di st.hp (fun k hk => (d1 k hk).2)]
        exact put_comm st vj vi _ _ _ a2
    · refine ⟨put st oi.dst (.tup []) st.hp, ⟨oi, bi, hoi, hwi, .inr ⟨hbi, fi, rfl⟩⟩, ⟨oj, bj, hoj, by rw [wanted_apart a3]; exact hwj, .inl ⟨hbj, qj, vj, dj, gj, ?_, nj, ?_, ?_, ?_⟩⟩⟩
      · rw [stepH_congr (ev_apart a3), put_hp]; exact ej
      · rw [stepH_congr (ev_apart a3), put_hp]; exact fj
      · rw [put_hp]; exact rj
      · rw [put_hp, put_hp]; exact put_comm st vj _ _ _ _ a2
  · rw [wanted_apart a1] at hwi
    have evi : ∀ x ∈ oi.op.operands, ev (put st oj.dst (.tup []) st.hp) x = ev st x := ev_apart a1
    rcases h2 with ⟨hbi, qi, vi, di, gi, ei, ni, fi, ri, rfl⟩ | ⟨hbi, fi, rfl⟩
    · rw [stepH_congr evi, put_hp] at ei fi
      rw [put_hp] at ri
      refine ⟨put st oi.dst vi (applyD di st.hp), ⟨oi, bi, hoi, hwi, .inl ⟨hbi, qi, vi, di, gi, ei, ni, fi, ri, rfl⟩⟩, ⟨oj, bj, hoj, by rw [wanted_apart a3]; exact hwj, .inr ⟨hbj, fj, ?_⟩⟩⟩
      rw [put_hp, put_hp]; exact put_comm st _ vi _ _ _ a2
    · refine ⟨put st oi.dst (.tup []) st.hp, ⟨oi, bi, hoi, hwi, .inr ⟨hbi, fi, rfl⟩⟩, ⟨oj, bj, hoj, by rw [wanted_apart a3]; exact hwj, .inr ⟨hbj, fj, ?_⟩⟩⟩
      rw [put_hp, put_hp]; exact put_comm st _ _ _ _ _ a2
end
inductive ExecD (P : Program) (G : Gam) (ops : Array Oper) (ids : Nat → Nat) (fp : Nat → FP) : List Nat → St → St → Prop where
  | nil {st} : ExecD P G ops ids fp [] st st
  | cons {i l st s s'} (h : StepD P G ops ids fp i st s) (t : ExecD P G ops ids fp l s s') : ExecD P G ops ids fp (i :: l) st s'
/-- which operations an operation waits for, itself or through others: a number's bits -/
def waitsFor (acc : List Nat) (o : Oper) : Nat :=
  o.after.toList.foldr (fun e s => if Region.binds .any e then s ||| 2 ^ e.on ||| acc.getD e.on 0 else s) 0
def masks : List Oper → List Nat → List Nat
  | [], acc => acc
  | o :: l, acc => masks l (acc ++ [waitsFor acc o])
theorem testBit_waits {acc : List Nat} {o : Oper} {j : Nat} (h : Nat.testBit (waitsFor acc o) j = true) :
    ∃ e ∈ o.after, Region.binds .any e = true ∧ (e.on = j ∨ Nat.testBit (acc.getD e.on 0) j = true) := by
  unfold waitsFor at h
  have key : ∀ l : List Edge, Nat.testBit (l.foldr (fun e s => if Region.binds .any e then s ||| 2 ^ e.on ||| acc.getD e.on 0 else s) 0) j = true →
      ∃ e ∈ l, Region.binds .any e = true ∧ (e.on = j ∨ Nat.testBit (acc.getD e.on 0) j = true) := by
    intro l
    induction l with
    | nil => intro h; simp at h
    | cons e l ih =>
      intro h
      simp only [List.foldr_cons] at h
      split at h
      · rename_i hb
        simp only [Nat.testBit_or, Bool.or_eq_true, Nat.testBit_two_pow, decide_eq_true_eq] at h
        rcases h with (h | h) | h
        · obtain ⟨e', h1, h2⟩ := ih h; exact ⟨e', by simp [h1], h2⟩
        · exact ⟨e, by simp, hb, .inl h⟩
        · exact ⟨e, by simp, hb, .inr h⟩
      · obtain ⟨e', h1, h2⟩ := ih h; exact ⟨e', by simp [h1], h2⟩
  obtain ⟨e, h1, h2⟩ := key _ h
  exact ⟨e, by simpa using h1, h2⟩
/-- each operation waits for earlier ones alone -/
def earlyOk : List Oper → Nat → Bool
  | [], _ => true
  | o :: l, n => (o.after.all fun e => !Region.binds .any e || decide (e.on < n)) && earlyOk l (n + 1)
def pairsOk (ops : Array Oper) (oi : Oper) (mask : Nat) (fi : FP) : List Oper → List FP → Nat → Bool
  | [], _, _ => true
  | oj :: l, fs, j => (Nat.testBit mask j || (oj.apart ops oi && disj (fs.headD none) fi)) && pairsOk ops oi mask fi l fs.tail (j + 1)
/-- and for each earlier one with which it has to do -/
def allPairs (ops : Array Oper) (ms : List Nat) (fs : List FP) : List Oper → Nat → Bool
  | [], _ => true
  | o :: l, i => pairsOk ops o (ms.getD i 0) (fs.getD i none) (ops.toList.take i) fs 0 && allPairs ops ms fs l (i + 1)
structure OpAt (ops : Array Oper) (M : Nat → Nat) (fp : Nat → FP) (i : Nat) (o : Oper) : Prop where
  early : ∀ e ∈ o.after, Region.binds .any e = true → e.on < i
  pairs : ∀ j oj, j < i → ops[j]? = some oj → Nat.testBit (M i) j = true ∨ (oj.apart ops o = true ∧ disj (fp j) (fp i) = true)
  waits : ∀ j, Nat.testBit (M i) j = true → ∃ e ∈ o.after, Region.binds .any e = true ∧ (e.on = j ∨ Nat.testBit (M e.on) j = true)
theorem pairsOk_spec {ops : Array Oper} {oi : Oper} {mask : Nat} {fi : FP} : ∀ (l : List Oper) (fs : List FP) (k : Nat), pairsOk ops oi mask fi l fs k = true → ∀ j oj, l[j]? = some oj → Nat.testBit mask (k + j) = true ∨ (oj.apart ops oi = true ∧ disj (fs.getD j none) fi = true)
  | [], _, _, _, j, oj, hj => by simp at hj
  | o :: l, fs, k, h, j, oj, hj => by
    simp only [pairsOk, Bool.and_eq_true, Bool.or_eq_true] at h
    cases j with
    | zero =>
      simp at hj; subst hj
      have e : fs.headD none = fs.getD 0 none := by cases fs <;> rfl
      rw [← e]; simpa using h.1
    | succ j =>
      have := pairsOk_spec l fs.tail (k + 1) h.2 j oj (by simpa using hj)
      have e : fs.tail.getD j none = fs.getD (j + 1) none := by cases fs <;> simp [List.getD]
      rw [e] at this
      rwa [show k + 1 + j = k + (j + 1) by omega] at this
theorem allPairs_spec {ops : Array Oper} {ms : List Nat} {fs : List FP} : ∀ (l : List Oper) (k : Nat), (∀ j, l[j]? = ops[k + j]?) → allPairs ops ms fs l k = true → ∀ i o, k ≤ i → ops[i]? = some o → ∀ j oj, j < i → ops[j]? = some oj → Nat.testBit (ms.getD i 0) j = true ∨ (oj.apart ops o = true ∧ disj (fs.getD j none) (fs.getD i none) = true)
  | [], k, hl, _, i, o, hi, ho, _, _, _, _ => by
    have := hl (i - k)
    rw [show k + (i - k) = i by omega, ho] at this
    simp at this
  | x :: l, k, hl, h, i, o, hi, ho, j, oj, hj, hoj => by
    simp only [allPairs, Bool.and_eq_true] at h
    by_cases e : i = k
    · subst e
      have hx : o = x := by
        have := hl 0
        rw [Nat.add_zero, ho] at this
        simpa using this.symm
      subst hx
      have := pairsOk_spec _ _ 0 h.1 j oj (by rw [List.getElem?_take]; simp [hj, hoj])
      rwa [Nat.zero_add] at this
    · exact allPairs_spec l (k + 1) (fun j => by have := hl (j + 1); simpa [Nat.add_assoc, Nat.add_comm 1 j] using this) h.2 i o (by omega) ho j oj hj hoj
theorem early_spec {ops : Array Oper} : ∀ (l before : List Oper) (acc : List Nat), before ++ l = ops.toList → acc.length = before.length → earlyOk l before.length = true →
    (∀ M : Nat → Nat, (∀ i, M i = (masks l acc).getD i 0) → ∀ i o, before.length ≤ i → ops[i]? = some o → (∀ e ∈ o.after, Region.binds .any e = true → e.on < i) ∧
      (∀ j, Nat.testBit (M i) j = true → ∃ e ∈ o.after, Region.binds .any e = true ∧ (e.on = j ∨ Nat.testBit (M e.on) j = true))) ∧ (∀ i, i < acc.length → (masks l acc).getD i 0 = acc.getD i 0)
  | [], before, acc, hb, ha, _ => by
    have hs : before.length = ops.size := by
      have := congrArg List.length hb; simpa using this
    refine ⟨fun M hM i o hi ho => ?_, fun _ _ => rfl⟩
    have := (Array.getElem?_eq_some_iff.1 ho).1; omega
  | o :: l, before, acc, hb, ha, h => by
    simp only [earlyOk, Bool.and_eq_true] at h
    obtain ⟨h1, h4⟩ := h
    obtain ⟨i1, i3⟩ := early_spec l (before ++ [o]) (acc ++ [waitsFor acc o]) (by simpa using hb) (by simp [ha]) (by simpa using h4)
    have hmk : masks (o :: l) acc = masks l (acc ++ [waitsFor acc o]) := rfl
    have hlow : ∀ i, i < acc.length → (masks (o :: l) acc).getD i 0 = acc.getD i 0 := fun i hi => by
      rw [hmk, i3 i (by simp; omega)]
      simp only [List.getD_eq_getElem?_getD]
      rw [List.getElem?_append_left hi]
    refine ⟨fun M hM i oi hi ho => ?_, hlow⟩
    by_cases hie : i = before.length
    · subst hie
      have hoo : oi = o := by
        have e : ops.toList[before.length]? = some oi := by simpa using ho
        rw [← hb] at e
        simp at e; exact e.symm
      subst hoo
      have hMi : M before.length = waitsFor acc oi := by
        rw [hM, hmk, i3 _ (by simp [ha])]
        simp only [List.getD_eq_getElem?_getD]
        rw [← ha]; simp
      have hearly : ∀ e ∈ oi.after, Region.binds .any e = true → e.on < before.length := by
        intro e he hbind
        have := Array.all_eq_true'.1 h1 e he
        simpa [hbind] using this
      refine ⟨hearly, fun j hj => ?_⟩
      rw [hMi] at hj
      obtain ⟨e, he, hbind, hor⟩ := testBit_waits hj
      refine ⟨e, he, hbind, hor.imp id fun ht => ?_⟩
      rw [hM, hlow _ (by rw [ha]; exact hearly e he hbind)]
      exact ht
    · exact i1 M (fun i => hM i) i oi (by simp; omega) ho
section
variable {P : Program} {G : Gam} {ops : Array Oper} {ids : Nat → Nat} {M : Nat → Nat} {fp : Nat → FP}
/-- an operation that need not wait is taken first -/
theorem exec_first (hM : ∀ i o, ops[i]? = some o → OpAt ops M fp i o) {i : Nat} {oi : Oper} (hoi : ops[i]? = some oi) :
    ∀ (l1 l2 : List Nat) (st sf : St), (∀ j ∈ l1, j < i ∧ Nat.testBit (M i) j = false) → ExecD P G ops ids fp (l1 ++ i :: l2) st sf → ∃ s, StepD P G ops ids fp i st s ∧ ExecD P G ops ids fp (l1 ++ l2) s sf
  | [], l2, st, sf, _, h => by
    cases h with
    | cons h t => exact ⟨_, h, t⟩
  | j :: l1, l2, st, sf, hl, h => by
    cases h with
    | cons h t =>
      rename_i s
      obtain ⟨s1, h1, h2⟩ := exec_first hM hoi l1 l2 s sf (fun k hk => hl k (by simp [hk])) t
      obtain ⟨hji, hbit⟩ := hl j (by simp)
      have hoj' := h
      obtain ⟨oj, _, hoj, _⟩ := hoj'
      have hp := ((hM i oi hoi).pairs j oj hji hoj).resolve_left (by rw [hbit]; simp)
      obtain ⟨s1', k1, k2⟩ := step_comm hoi hoj hp.1 hp.2 h h1
      exact ⟨s1', k1, .cons k2 h2⟩
theorem stepD_wp (hG : GOk P G) {i : Nat} {st s : St} (h : StepD P G ops ids fp i st s) {W : World} {hp₀ : Hp} {β₀ β : Env} {a : Act} {w : World} (hr : Rel W hp₀ β₀ β st a w)
    {K : Act → World → Prop} {Q : Exit → Act → World → Prop} (hK : ∀ β' a' w', Rel W hp₀ β₀ β' s a' w' → K a' w') : wpOp P ops Q i K a w := by
  obtain ⟨o, b, ho, hw, h⟩ := h
  unfold wpOp
  simp only [ho, wantedEv_ok hr hw]
  rcases h with ⟨hb, q, v, d, g, e, hq, _, hf, rfl⟩ | ⟨hb, _, rfl⟩
  · rw [if_pos hb]
    exact .inl (stepH_ok hG (K := fun v' d' => v' = v ∧ d' = d) (by rw [e]; exact hf) (by rw [e]; exact ⟨hq, rfl, rfl⟩) hr fun v' d' β' a' w' hk hr' => by
      obtain ⟨rfl, rfl⟩ := hk
      exact hK β' a' w' hr')
  · rw [if_neg (by rw [hb]; simp)]
    exact hK β _ w (hr.put (dst := o.dst) ⟨[], rfl, .nil⟩ hr.heap (Agree.refl _ _))
/-- the places that have not come up, in the text's order -/
def unlisted (ops : Array Oper) (listed : Array Bool) : List Nat := (List.range ops.size).filter fun i => !listed.getD i true
theorem wpAny_of_exec (hG : GOk P G) (hM : ∀ i o, ops[i]? = some o → OpAt ops M fp i o)
    {W : World} {hp₀ : Hp} {β₀ : Env} {Q : Exit → Act → World → Prop} {sf : St} (hQ : ∀ β a w, Rel W hp₀ β₀ β sf a w → Q .normal a w) :
    ∀ (fuel : Nat) (listed : Array Bool) (st : St) (β : Env) (a : Act) (w : World), listed.size = ops.size → (unlisted ops listed).length = fuel →
      (∀ j oj, ops[j]? = some oj → listed.getD j false = true → ∀ e ∈ oj.after, Region.binds .any e = true → listed.getD e.on false = true) →
      ExecD P G ops ids fp (unlisted ops listed) st sf → Rel W hp₀ β₀ β st a w → wpAny P .any ops Q fuel listed a w := by
  intro fuel
  induction fuel with
  | zero =>
    intro listed st β a w hsz hlen hclosed hex hr
    have h0 : unlisted ops listed = [] := List.eq_nil_of_length_eq_zero hlen
    rw [h0] at hex
    cases hex
    refine ⟨?_, hQ β a w hr⟩
    refine List.eq_nil_iff_forall_not_mem.2 fun i hi => ?_
    have : i ∈ unlisted ops listed := by
      simp only [Region.ready, List.mem_filter, Bool.and_eq_true] at hi
      simp only [unlisted, List.mem_filter]
      exact ⟨hi.1, hi.2.1⟩
    rw [h0] at this; cases this
  | succ fuel ih =>
    intro listed st β a w hsz hlen hclosed hex hr
    constructor
    · intro hnone
      exfalso
      -- the first one that has not come up is ready
      cases hu : unlisted ops listed with
      | nil => rw [hu] at hlen; simp at hlen
      | cons i l =>
        have hmem : i ∈ unlisted ops listed := by rw [hu]; simp
        have hi : i < ops.size ∧ (!listed.getD i true) = true := by
          simpa [unlisted] using hmem
        have hfirst : ∀ j, j < i → listed.getD j true = true := by
          intro j hj
          refine Classical.byContradiction fun hno => ?_
          have hjm : j ∈ unlisted ops listed := by
            simp only [unlisted, List.mem_filter, List.mem_range]
            exact ⟨by omega, by simpa using hno⟩
          have hpw : (unlisted ops listed).Pairwise (· < ·) := (List.pairwise_lt_range (n := ops.size)).filter _
          rw [hu] at hpw hjm
          rcases List.mem_cons.1 hjm with rfl | hjm
          · omega
          · have := List.rel_of_pairwise_cons hpw hjm; omega
        have hr' : i ∈ Region.ready .any ops listed := by
          rw [mem_ready]
          obtain ⟨oi, hoi⟩ : ∃ oi, ops[i]? = some oi := ⟨ops[i]'hi.1, by simp [hi.1]⟩
          refine ⟨by simpa using hi.2, oi, hoi, fun e he hb => ?_⟩
          have hlt := (hM i oi hoi).early e he hb
          have h1 := hfirst e.on hlt
          have : e.on < listed.size := by omega
          simp [this] at h1 ⊢
          exact h1
        rw [hnone] at hr'; cases hr'
    · intro i hi
      obtain ⟨hun, oi, hoi, hall⟩ := mem_ready.1 hi
      have hilt : i < ops.size := (Array.getElem?_eq_some_iff.1 hoi).1
      have himem : i ∈ unlisted ops listed := by
        simp only [unlisted, List.mem_filter, List.mem_range]
        exact ⟨hilt, by simpa using hun⟩
      obtain ⟨l1, l2, hl⟩ := List.append_of_mem himem
      have hpw : (unlisted ops listed).Pairwise (· < ·) := (List.pairwise_lt_range (n := ops.size)).filter _
      rw [hl] at hpw hex
      obtain ⟨p1, p2, p3⟩ := List.pairwise_append.1 hpw
      have hbits : ∀ j, listed.getD j false = false → ∀ i oi, ops[i]? = some oi → (∀ e ∈ oi.after, Region.binds .any e = true → listed.getD e.on false = true) → Nat.testBit (M i) j = false := by
        intro j hj i
        induction i using Nat.strongRecOn with
        | _ i ih2 =>
          intro oi hoi hall
          refine Bool.eq_false_iff.2 fun ht => ?_
          obtain ⟨e, he, hb, hor⟩ := (hM i oi hoi).waits j ht
          have hle := hall e he hb
          rcases hor with rfl | ht'
          · rw [hj] at hle; cases hle
          · have hlt := (hM i oi hoi).early e he hb
            obtain ⟨oe, hoe⟩ : ∃ oe, ops[e.on]? = some oe := ⟨ops[e.on]'(by have := (Array.getElem?_eq_some_iff.1 hoi).1; omega), by
              have := (Array.getElem?_eq_some_iff.1 hoi).1
              simp [show e.on < ops.size by omega]⟩
            have := ih2 e.on hlt oe hoe (hclosed e.on oe hoe hle)
            rw [this] at ht'; cases ht'
      have hl1 : ∀ j ∈ l1, j < i ∧ Nat.testBit (M i) j = false := by
        intro j hj
        refine ⟨p3 j hj i (by simp), hbits j ?_ i oi hoi hall⟩
        have hjm : j ∈ unlisted ops listed := by rw [hl]; simp [hj]
        simp only [unlisted, List.mem_filter, List.mem_range] at hjm
        have : j < listed.size := by omega
        simp [this] at hjm ⊢
        exact hjm.2
      obtain ⟨s, h1, h2⟩ := exec_first hM hoi l1 l2 st sf hl1 hex
      refine stepD_wp hG h1 hr fun β' a' w' hr' => ?_
      have hul : unlisted ops (listed.setIfInBounds i true) = l1 ++ l2 := by
        have e1 : unlisted ops (listed.setIfInBounds i true) = (unlisted ops listed).filter (fun k => k != i) := by
          unfold unlisted
          rw [List.filter_filter]
          apply List.filter_congr
          intro k hk
          have hk' : k < ops.size := List.mem_range.1 hk
          by_cases hki : k = i
          · subst hki
            simp [Array.getD_eq_getD_getElem?, hsz, hk']
          · rw [getD_set_ne true (Ne.symm hki)]
            simp [hki]
        rw [e1, hl, List.filter_append]
        have f1 : l1.filter (fun k => k != i) = l1 := List.filter_eq_self.2 fun k hk => by have := (hl1 k hk).1; simp; omega
        have f2 : (i :: l2).filter (fun k => k != i) = l2 := by
          rw [List.filter_cons]
          simp only [bne_self_eq_false, Bool.false_eq_true, if_false]
          exact List.filter_eq_self.2 fun k hk => by
            have := List.rel_of_pairwise_cons p2 hk; simp; omega
        rw [f1, f2]
      refine ih (listed.setIfInBounds i true) s β' a' w' (by simpa using hsz) ?_ ?_ (by rw [hul]; exact h2) hr'
      · rw [hul]
        have : (unlisted ops listed).length = (l1 ++ i :: l2).length := by rw [hl]
        simp at this ⊢
        omega
      · intro j oj hoj hlj e he hb
        by_cases hji : j = i
        · subst hji
          rw [hoi] at hoj; simp at hoj; subst hoj
          exact getD_set_true (hall e he hb)
        · rw [getD_set_ne false (Ne.symm hji)] at hlj
          exact getD_set_true (hclosed j oj hoj hlj e he hb)
end
/-- may the order be any? -/
def drawChk (ops : Array Oper) (fs : List FP) : Bool := allPairs ops (masks ops.toList []) fs ops.toList 0
def TextOk (P : Program) (G : Gam) (ops : Array Oper) (chk : List FP → Bool) (W : World) (m : Hp) (β₀ : Env) (R : Exit → St → Prop) (acc : List FP) (k n : Nat) (st : St) : Prop :=
  ∃ (ids : Nat → Nat) (fs : List FP) (sf : St), fs.length = n ∧ ExecD P G ops ids (fun i => fs.getD (i - k) none) (List.range' k n) st sf ∧ chk (acc ++ fs) = true ∧ (∀ β a w, Rel W m β₀ β sf a w → Post W m β₀ R .normal a w)
theorem exec_of_ops {P : Program} {G : Gam} {A : Alt} {m : Hp} {chk : List FP → Bool} {ops : Array Oper} {W : World} {β₀ : Env} :
    ∀ (l : List Oper) (k : Nat) (B : Asm) (acc : List FP) (st : St) (R : Exit → St → Prop), (∀ j, l[j]? = ops[k + j]?) → AsmOk B st → (opsEv P G A m true chk ops l B acc st).sat R →
      TextOk P G ops chk W m β₀ R acc k l.length st
  | [], k, B, acc, st, R, _, _, h => by
    simp only [opsEv] at h
    split at h
    · rename_i hc
      exact ⟨fun _ => 0, [], st, rfl, .nil, by simpa using hc, fun β a w hr => ⟨st, β, h, hr⟩⟩
    · exact h.elim
  | o :: rest, k, B, acc, st, R, hl, hB, h => by
    have h0 : ops[k]? = some o := by simpa using (hl 0).symm
    have hl' : ∀ j, rest[j]? = ops[k + 1 + j]? := fun j => by
      have := hl (j + 1)
      simpa [Nat.add_assoc, Nat.add_comm 1 j] using this
    have build : ∀ (s : St) (f : FP), (∀ ids fp, ids k = st.hp.length → fp k = f → StepD P G ops ids fp k st s) →
        ∀ (B : Asm) (R' : Exit → St → Prop), AsmOk B s → (opsEv P G A m true chk ops rest B (acc ++ [f]) s).sat R' → (∀ e a w, Post W m β₀ R' e a w → Post W m β₀ R e a w) →
        TextOk P G ops chk W m β₀ R acc k (o :: rest).length st := by
      intro s f hstep B R' hB hs hR
      obtain ⟨ids, fs, sf, e0, e1, e2, e3⟩ := exec_of_ops rest (k + 1) B (acc ++ [f]) s R' hl' hB hs
      refine ⟨fun i => if i = k then st.hp.length else ids i, f :: fs, sf, by simp [e0], ?_, by simpa using e2, fun β a w hr => hR _ _ _ (e3 β a w hr)⟩
      simp only [List.length_cons, List.range'_succ]
      refine .cons (hstep _ _ (if_pos rfl) (by simp)) ?_
      have key : ∀ (l : List Nat) (x y : St), (∀ i ∈ l, k + 1 ≤ i) → ExecD P G ops ids (fun i => fs.getD (i - (k + 1)) none) l x y → ExecD P G ops (fun i => if i = k then st.hp.length else ids i) (fun i => (f :: fs).getD (i - k) none) l x y := by
        intro l x y hne hx
        induction hx with
        | nil => exact .nil
        | cons h t ih =>
          rename_i i l s1 s2 s3
          refine .cons ?_ (ih fun i hi => hne i (by simp [hi]))
          have hik := hne i (by simp)
          unfold StepD at h ⊢
          have e1 : (f :: fs).getD (i - k) none = fs.getD (i - (k + 1)) none := by
            rw [show i - k = (i - (k + 1)) + 1 by omega]; rfl
          have e2 : (fun i => if i = k then st.hp.length else ids i) i = ids i := if_neg (by omega)
          simp only [e2, e1]
          exact h
      exact key _ _ _ (fun i hi => by have := List.mem_range'_1.1 hi; omega) e1
    have hrun : ∀ (b : SB), wantedEv st ops o = some b → b.val = true → ∀ (B : Asm) (R' : Exit → St → Prop), AsmOk B st → (((stepK P G B st.hp.length (ev st) o.op).val st.hp).toRes true fun v d =>
        opsEv P G A m true chk ops rest (forget B o.dst) (acc ++ [some ((stepK P G B st.hp.length (ev st) o.op).log st.hp, d.map (·.1))]) (put st o.dst v (applyD d st.hp))).sat R' → (∀ e a w, Post W m β₀ R' e a w → Post W m β₀ R e a w) → TextOk P G ops chk W m β₀ R acc k (o :: rest).length st := by
      intro b hb hbv B R' hB hs hR
      obtain ⟨q, v, d, hst, n1, n2⟩ := toRes_leaf hs
      have hH : ∃ q', (stepH P G (hintOf B o.op) st.hp.length (ev st) o.op).val st.hp = .leaf q' v d ∧ needs q' ∧ (stepH P G (hintOf B o.op) st.hp.length (ev st) o.op).log st.hp = (stepK P G B st.hp.length (ev st) o.op).log st.hp := by
        rcases stepK_H (P := P) (G := G) (id := st.hp.length) (op := o.op) hB with e | ⟨v', p, e1, e2, hp⟩
        · rw [← e]; exact ⟨q, hst, n1, rfl⟩
        · rw [e1] at hst
          simp only [Ask.val] at hst
          cases hst
          exact ⟨some p, by rw [e2]; rfl, hp, by rw [e1, e2]; rfl⟩
      obtain ⟨q', k1, k2, k3⟩ := hH
      exact build _ _ (fun ids fp hids hfp => ⟨o, b, h0, hb, .inl ⟨hbv, q', v, d, _, by rw [hids]; exact k1, k2, by rw [hids, hfp, k3], by rw [hids]; exact fresh_length _ _, rfl⟩⟩) _ R' hB.put n2 hR
    have hskip : ∀ (b : SB), wantedEv st ops o = some b → b.val = false → ∀ (B : Asm) (R' : Exit → St → Prop), AsmOk B st → (opsEv P G A m true chk ops rest (forget B o.dst) (acc ++ [none]) (put st o.dst (.tup []) st.hp)).sat R' →
        (∀ e a w, Post W m β₀ R' e a w → Post W m β₀ R e a w) → TextOk P G ops chk W m β₀ R acc k (o :: rest).length st := by
      intro b hb hbv B R' hB hs hR
      exact build (put st o.dst (.tup []) st.hp) none (fun ids fp _ hfp => ⟨o, b, h0, hb, .inr ⟨hbv, hfp, rfl⟩⟩) _ R' hB.put hs hR
    simp only [opsEv] at h
    cases hb0 : wantedA B st ops o with
    | none => simp only [hb0] at h; exact h.elim
    | some b =>
      obtain ⟨b', hb, hbv⟩ := wantedA_ok hB hb0
      simp only [hb0] at h
      cases b with
      | lit b =>
        cases b with
        | true => exact hrun _ hb hbv B R hB h fun _ _ _ h => h
        | false => exact hskip _ hb hbv B R hB h fun _ _ _ h => h
      | sym b =>
        cases b with
        | true =>
          obtain ⟨R', h1, h2⟩ := A.yes (W := W) (β₀ := β₀) h
          exact hrun _ hb hbv _ R' (learn_ok hB hb0) h1 h2
        | false =>
          obtain ⟨R', h1, h2⟩ := A.no (W := W) (β₀ := β₀) h
          exact hskip _ hb hbv _ R' (learn_ok hB hb0) h1 h2
section
variable {P : Program} {G : Gam}
/-- **A region whose order is open**: read in the text's order. -/
theorem region_draw_ok (hG : GOk P G) {A : Alt} (hmix : P.follows .mixedOrders = true) {m : Hp} {ops : Array Oper} {id : Nat} {st : St} (hd : earlyOk ops.toList 0 = true) {R : Exit → St → Prop}
    (h : (opsEv P G A m true (drawChk ops) ops ops.toList [] [] st).sat R) {W : World} {β₀ : Env} {Q : Exit → Act → World → Prop} (hq : ∀ e a w, Post W m β₀ R e a w → Q e a w) {β : Env} {a : Act} {w : World}
    (hr : Rel W m β₀ β st a w) : (Code.region id ops true).wp P Q a w := by
  obtain ⟨ids, fs, sf, e0, e1, e2, e3⟩ := exec_of_ops (W := W) (β₀ := β₀) ops.toList 0 [] [] st R (fun j => by simp) (fun _ _ h => by simp [known] at h) h
  obtain ⟨hE, _⟩ := early_spec (ops := ops) ops.toList [] [] (by simp) rfl hd
  have hM : ∀ i o, ops[i]? = some o → OpAt ops (fun i => (masks ops.toList []).getD i 0) (fun i => fs.getD (i - 0) none) i o := by
    intro i o ho
    obtain ⟨k1, k2⟩ := hE _ (fun _ => rfl) i o (Nat.zero_le _) ho
    exact ⟨k1, fun j oj hj hoj => allPairs_spec ops.toList 0 (fun j => by simp) (by simpa [drawChk] using e2) i o (Nat.zero_le _) ho j oj hj hoj, k2⟩
  refine wp_region_any hmix ?_
  have hul : unlisted ops (Array.replicate ops.size false) = List.range' 0 ops.toList.length := by
    unfold unlisted
    rw [List.filter_eq_self.2 fun i hi => ?_]
    · rw [List.range_eq_range']; simp
    · have := List.mem_range.1 hi
      simp [this]
  refine wpAny_of_exec hG hM (ids := ids) (sf := sf) (fun β a w hr => hq _ _ _ (e3 β a w hr)) ops.size _ st β a _ (by simp) (by rw [hul]; simp) ?_ (by rw [hul]; exact e1) ?_
  · intro j oj _ hl
    exfalso
    by_cases hj : j < ops.size
    · simp [hj] at hl
    · simp [hj] at hl
  · exact ⟨hr.defers, hr.fr, hr.heap.drew _ _⟩
end
end Go.Ev
end

section
set_option linter.unusedVariables false
set_option linter.unusedSimpArgs false
namespace Go.Ev
open Go
def loopN : Nat → (St → Res) → St → Res
  | 0, _, _ => .fail
  | k + 1, f, st => (f st).bind (loopN k f)
/-- how many rounds a loop may have -/
def most : Nat := 100000
def Ex (P : Program) (m : Hp) (c : Code) (st : St) (r : Res) : Prop :=
  ∀ (W : World) (β₀ : Env) (R : Exit → St → Prop) (Q : Exit → Act → World → Prop), r.sat R → (∀ e a w, Post W m β₀ R e a w → Q e a w) →
    ∀ β a w, Rel W m β₀ β st a w → c.wp P Q a w
/-- what is known of some blocks' insides -/
abbrev LTab := List (Nat × (St → Res))
def lookL : LTab → Nat → Option (St → Res)
  | [], _ => none
  | (i, f) :: l, id => if i = id then some f else lookL l id
def LOk (P : Program) (m : Hp) (LT : LTab) : Code → Prop
  | .seq a b | .cond _ a b => LOk P m LT a ∧ LOk P m LT b
  | .block id c => LOk P m LT c ∧ ∀ f, lookL LT id = some f → ∀ st, Ex P m c st (f st)
  | .loop c => LOk P m LT c
  | _ => True
theorem LOk.nil {P : Program} {m : Hp} : ∀ c : Code, LOk P m [] c := by
  intro c
  induction c with
  | seq a b iha ihb => exact ⟨iha, ihb⟩
  | cond _ a b iha ihb => exact ⟨iha, ihb⟩
  | block id c ih => exact ⟨ih, fun f h => by cases h⟩
  | loop c ih => exact ih
  | _ => trivial
def blks : Code → List (Nat × Code)
  | .seq a b | .cond _ a b => blks a ++ blks b
  | .block id c => (id, c) :: blks c
  | .loop c => blks c
  | _ => []
theorem LOk.of {P : Program} {m : Hp} {LT : LTab} : ∀ {c : Code}, (∀ id f c', lookL LT id = some f → (id, c') ∈ blks c → ∀ st, Ex P m c' st (f st)) → LOk P m LT c := by
  intro c
  induction c with
  | seq a b iha ihb => exact fun h => ⟨iha fun id f c' hf hm => h id f c' hf (List.mem_append_left _ hm), ihb fun id f c' hf hm => h id f c' hf (List.mem_append_right _ hm)⟩
  | cond _ a b iha ihb => exact fun h => ⟨iha fun id f c' hf hm => h id f c' hf (List.mem_append_left _ hm), ihb fun id f c' hf hm => h id f c' hf (List.mem_append_right _ hm)⟩
  | block id c ih => exact fun h => ⟨ih fun id f c' hf hm => h id f c' hf (List.mem_cons_of_mem _ hm), fun f hf => h id f c hf (by simp [blks])⟩
  | loop c ih => exact fun h => ih h
  | _ => exact fun _ => trivial
/-- the reader -/
def exec (P : Program) (G : Gam) (A : Alt) (m : Hp) (LT : LTab) : Code → St → Res
  | .skip, st => .leaf .normal st
  | .seq a b, st => (exec P G A m LT a st).bind (exec P G A m LT b)
  | .cond c x y, st => match ev st c with
    | .one (.sc (.bool (.lit true))) => exec P G A m LT x st
    | .one (.sc (.bool (.lit false))) => exec P G A m LT y st
    | .one (.sc (.bool (.sym b))) => A.f b m (exec P G A m LT x st) (exec P G A m LT y st)
    | _ => .fail
  | .block id c, st => match lookL LT id with
    | some f => (f st).block id
    | none => (exec P G A m LT c st).block id
  | .exit id, st => .leaf (.exit id) st
  | .ret, st => .leaf .ret st
  | .loop c, st => loopN most (exec P G A m LT c) st
  | .region _ ops false, st => opsEv P G A m false (fun _ => true) ops ops.toList [] [] st
  | .region _ ops true, st => if earlyOk ops.toList 0 = true then opsEv P G A m true (drawChk ops) ops ops.toList [] [] st else .fail
  | _, _ => .fail
def bindQ (R : Exit → St → Prop) (f : St → Res) : Exit → St → Prop
  | .normal, st => (f st).sat R
  | e, st => R e st
theorem bind_sat {f : St → Res} {R : Exit → St → Prop} : ∀ {r : Res}, (r.bind f).sat R → r.sat (bindQ R f)
  | .leaf .normal _, h => h
  | .leaf (.exit _) _, h => h
  | .leaf (.goto _) _, h => h
  | .leaf .ret _, h => h
  | .leaf (.panic _) _, h => h
  | .leaf .outgrown _, h => h
  | .ite _ _ _, h => ⟨fun e => bind_sat (h.1 e), fun e => bind_sat (h.2 e)⟩
  | .need _ _, h => ⟨h.1, bind_sat h.2⟩
  | .fail, h => h
def blockQ (R : Exit → St → Prop) (id : Nat) : Exit → St → Prop
  | .exit i, st => if i = id then R .normal st else R (.exit i) st
  | e, st => R e st
theorem block_sat {id : Nat} {R : Exit → St → Prop} : ∀ {r : Res}, (r.block id).sat R → r.sat (blockQ R id)
  | .leaf (.exit i) st, h => by
    simp only [Res.block] at h
    show if i = id then R .normal st else R (.exit i) st
    split at h
    · rename_i hi; rw [if_pos hi]; exact h
    · rename_i hi; rw [if_neg hi]; exact h
  | .leaf .normal _, h => h
  | .leaf (.goto _) _, h => h
  | .leaf .ret _, h => h
  | .leaf (.panic _) _, h => h
  | .leaf .outgrown _, h => h
  | .ite _ _ _, h => ⟨fun e => block_sat (h.1 e), fun e => block_sat (h.2 e)⟩
  | .need _ _, h => ⟨h.1, block_sat h.2⟩
  | .fail, h => h
theorem exec_ok {P : Program} {G : Gam} {A : Alt} (hG : GOk P G) (hmix : P.follows .mixedOrders = true) {W : World} {m : Hp} {LT : LTab} {β₀ : Env} :
    ∀ (c : Code), LOk P m LT c → ∀ (st : St) (R : Exit → St → Prop) (Q : Exit → Act → World → Prop), (exec P G A m LT c st).sat R → (∀ e a w, Post W m β₀ R e a w → Q e a w) →
      ∀ β a w, Rel W m β₀ β st a w → c.wp P Q a w := by
  intro c
  induction c with
  | skip => intro hL st R Q h hq β a w hr; exact wp_skip (hq _ _ _ ⟨st, β, h, hr⟩)
  | exit id => intro hL st R Q h hq β a w hr; exact wp_exit (hq _ _ _ ⟨st, β, h, hr⟩)
  | ret => intro hL st R Q h hq β a w hr; exact wp_ret (hq _ _ _ ⟨st, β, h, hr⟩)
  | seq x y ihx ihy =>
    intro hL st R Q h hq β a w hr
    refine wp_seq (ihx hL.1 st _ _ (bind_sat h) ?_ β a w hr)
    rintro e a w ⟨s, β', h1, h2⟩
    cases e with
    | normal => exact ihy hL.2 s R Q h1 hq β' a w h2
    | exit _ => exact hq _ _ _ ⟨s, β', h1, h2⟩
    | goto _ => exact hq _ _ _ ⟨s, β', h1, h2⟩
    | ret => exact hq _ _ _ ⟨s, β', h1, h2⟩
    | panic _ => exact hq _ _ _ ⟨s, β', h1, h2⟩
    | outgrown => exact hq _ _ _ ⟨s, β', h1, h2⟩
  | cond c x y ihx ihy =>
    intro hL st R Q h hq β a w hr
    have hc := ev_den hr c
    simp only [exec] at h
    split at h
    · rename_i he
      rw [he] at hc
      exact wp_cond_true hc (ihx hL.1 st R Q h hq β a w hr)
    · rename_i he
      rw [he] at hc
      exact wp_cond_false hc (ihy hL.2 st R Q h hq β a w hr)
    · rename_i b he
      rw [he] at hc
      cases b with
      | true =>
        obtain ⟨R', h1, h2⟩ := A.yes (W := W) (β₀ := β₀) h
        exact wp_cond_true hc (ihx hL.1 st R' Q h1 (fun e a w hp => hq e a w (h2 e a w hp)) β a w hr)
      | false =>
        obtain ⟨R', h1, h2⟩ := A.no (W := W) (β₀ := β₀) h
        exact wp_cond_false hc (ihy hL.2 st R' Q h1 (fun e a w hp => hq e a w (h2 e a w hp)) β a w hr)
    · exact h.elim
  | block id c ih =>
    intro hL st R Q h hq β a w hr
    have hin : ∀ Q', (∀ e a w, Post W m β₀ (blockQ R id) e a w → Q' e a w) → c.wp P Q' a w := by
      intro Q' hq'
      simp only [exec] at h
      split at h
      · rename_i f hf
        exact hL.2 f hf st W β₀ _ _ (block_sat h) hq' β a w hr
      · exact ih hL.1 st _ _ (block_sat h) hq' β a w hr
    refine wp_block (hin _ ?_)
    rintro e a w ⟨s, β', h1, h2⟩
    cases e with
    | exit i =>
      simp only [blockQ] at h1
      simp only [Exit.inBlock]
      split at h1
      · rename_i hi; rw [if_pos hi]; exact hq _ _ _ ⟨s, β', h1, h2⟩
      · rename_i hi; rw [if_neg hi]; exact hq _ _ _ ⟨s, β', h1, h2⟩
    | normal => exact hq _ _ _ ⟨s, β', h1, h2⟩
    | goto _ => exact hq _ _ _ ⟨s, β', h1, h2⟩
    | ret => exact hq _ _ _ ⟨s, β', h1, h2⟩
    | panic _ => exact hq _ _ _ ⟨s, β', h1, h2⟩
    | outgrown => exact hq _ _ _ ⟨s, β', h1, h2⟩
  | loop c ih =>
    intro hL st R Q h hq β a w hr
    have key : ∀ (n : Nat) (st : St), (loopN n (exec P G A m LT c) st).sat R → ∀ β a w, Rel W m β₀ β st a w → Code.rounds P c Q n a w := by
      intro n
      induction n with
      | zero => intro st h; exact h.elim
      | succ n ihn =>
        intro st h β a w hr
        rw [rounds_succ]
        refine ih hL st _ _ (bind_sat h) ?_ β a w hr
        rintro e a w ⟨s, β', h1, h2⟩
        cases e with
        | normal => exact ihn s h1 β' a w h2
        | exit _ => exact hq _ _ _ ⟨s, β', h1, h2⟩
        | goto _ => exact hq _ _ _ ⟨s, β', h1, h2⟩
        | ret => exact hq _ _ _ ⟨s, β', h1, h2⟩
        | panic _ => exact hq _ _ _ ⟨s, β', h1, h2⟩
        | outgrown => exact hq _ _ _ ⟨s, β', h1, h2⟩
    exact wp_loop_rounds most (key most st h β a w hr)
  | region id ops d =>
    intro hL st R Q h hq β a w hr
    cases d with
    | false => exact wp_region_list (opsEv_ok hG ops.toList [] [] st R (fun _ _ h => by simp [known] at h) h hq β a w hr)
    | true =>
      simp only [exec] at h
      split at h
      · rename_i hd; exact region_draw_ok hG hmix hd h hq hr
      · exact h.elim
  | _ => intro hL st R Q h; exact h.elim
theorem Ex.of_exec {P : Program} {G : Gam} {A : Alt} (hG : GOk P G) (hmix : P.follows .mixedOrders = true) {m : Hp} {LT : LTab} {c : Code} (hL : LOk P m LT c) {st : St} {r : Res} (h : exec P G A m LT c st = r) : Ex P m c st r :=
  fun _ _ R Q hs hq β a w hr => exec_ok hG hmix c hL st R Q (h ▸ hs) hq β a w hr
theorem Ex.weak {P : Program} {m : Hp} {c : Code} {st : St} {r r' : Res} (h : Ex P m c st r) (hw : ∀ R, r'.sat R → r.sat R) : Ex P m c st r' :=
  fun W β₀ R Q hs hq β a w hr => h W β₀ R Q (hw R hs) hq β a w hr
/-- one piece behind the other -/
theorem Ex.bind {P : Program} {m : Hp} {x y : Code} {st : St} {r : Res} {f : St → Res} (h1 : Ex P m x st r) (h2 : ∀ s, Ex P m y s (f s)) : Ex P m (.seq x y) st (r.bind f) := by
  intro W β₀ R Q hs hq β a w hr
  refine wp_seq (h1 W β₀ _ _ (bind_sat hs) ?_ β a w hr)
  rintro e a w ⟨t, β', h3, h4⟩
  cases e with
  | normal => exact h2 t W β₀ R Q h3 hq β' a w h4
  | exit _ => exact hq _ _ _ ⟨t, β', h3, h4⟩
  | goto _ => exact hq _ _ _ ⟨t, β', h3, h4⟩
  | ret => exact hq _ _ _ ⟨t, β', h3, h4⟩
  | panic _ => exact hq _ _ _ ⟨t, β', h3, h4⟩
  | outgrown => exact hq _ _ _ ⟨t, β', h3, h4⟩
/-- one piece whose normal ends are known, behind it another one from each of them -/
def Res.nor (R : St → Prop) : Res → Prop := Res.sat fun e s => e = .normal → R s
theorem Ex.bindOn {P : Program} {m : Hp} {x y : Code} {st : St} {r : Res} {f : St → Res} (S : St → Prop) (h1 : Ex P m x st r) (h2 : ∀ s, S s → Ex P m y s (f s)) (hS : r.nor S) : Ex P m (.seq x y) st (r.bind f) := by
  intro W β₀ R Q hs hq β a w hr
  have hboth : ∀ {r : Res}, r.sat (bindQ R f) → r.nor S → r.sat fun e s => bindQ R f e s ∧ (e = .normal → S s) := by
    intro r
    induction r with
    | leaf e s => exact fun h1 h2 => ⟨h1, h2⟩
    | ite b t e iht ihe => exact fun h1 h2 => ⟨fun hb => iht (h1.1 hb) (h2.1 hb), fun hb => ihe (h1.2 hb) (h2.2 hb)⟩
    | need p r ih => exact fun h1 h2 => ⟨h1.1, ih h1.2 h2.2⟩
    | fail => exact fun h1 _ => h1
  refine wp_seq (h1 W β₀ _ _ (hboth (bind_sat hs) hS) ?_ β a w hr)
  rintro e a w ⟨t, β', ⟨h3, h5⟩, h4⟩
  cases e with
  | normal => exact h2 t (h5 rfl) W β₀ R Q h3 hq β' a w h4
  | exit _ => exact hq _ _ _ ⟨t, β', h3, h4⟩
  | goto _ => exact hq _ _ _ ⟨t, β', h3, h4⟩
  | ret => exact hq _ _ _ ⟨t, β', h3, h4⟩
  | panic _ => exact hq _ _ _ ⟨t, β', h3, h4⟩
  | outgrown => exact hq _ _ _ ⟨t, β', h3, h4⟩
theorem Ex.seq {P : Program} {m : Hp} {x y : Code} {st s : St} {r : Res} (h1 : Ex P m x st (.leaf .normal s)) (h2 : Ex P m y s r) : Ex P m (.seq x y) st r := by
  have := Ex.bindOn (f := fun _ => r) (fun t => t = s) h1 (fun t ht => ht ▸ h2) (fun _ => rfl)
  exact this
theorem Ex.block {P : Program} {m : Hp} {id : Nat} {c : Code} {st : St} {r : Res} (h : Ex P m c st r) : Ex P m (.block id c) st (r.block id) := by
  intro W β₀ R Q hs hq β a w hr
  refine wp_block (h W β₀ _ _ (block_sat hs) ?_ β a w hr)
  rintro e a w ⟨s, β', h1, h2⟩
  cases e with
  | exit i =>
    simp only [blockQ] at h1
    simp only [Exit.inBlock]
    split at h1
    · rename_i hi; rw [if_pos hi]; exact hq _ _ _ ⟨s, β', h1, h2⟩
    · rename_i hi; rw [if_neg hi]; exact hq _ _ _ ⟨s, β', h1, h2⟩
  | normal => exact hq _ _ _ ⟨s, β', h1, h2⟩
  | goto _ => exact hq _ _ _ ⟨s, β', h1, h2⟩
  | ret => exact hq _ _ _ ⟨s, β', h1, h2⟩
  | panic _ => exact hq _ _ _ ⟨s, β', h1, h2⟩
  | outgrown => exact hq _ _ _ ⟨s, β', h1, h2⟩
/-- a loop: X is what is known at the beginning of a round, μ goes down -/
theorem Ex.loop {P : Program} {m : Hp} {c : Code} {X : Type} (μ : X → Nat) (S : X → St) (I : X → Prop) (rnd : X → Res) (h : ∀ x, I x → Ex P m c (S x) (rnd x)) {R : X → Exit → St → Prop}
    (hr : ∀ x, I x → (rnd x).sat fun e s => (e = .normal ∧ ∃ y, s = S y ∧ I y ∧ μ y < μ x ∧ ∀ e s, R y e s → R x e s) ∨ (e ≠ .normal ∧ R x e s)) {x : X} (hx : I x) {r : Res} (hR : ∀ R', r.sat R' → ∀ e s, R x e s → R' e s) : Ex P m (.loop c) (S x) r := by
  intro W β₀ R0 Q hs hq β a w hrel
  have key : ∀ (n : Nat) (y : X), I y → μ y < n → (∀ e s, R y e s → R0 e s) → ∀ β a w, Rel W m β₀ β (S y) a w → Code.rounds P c Q n a w := by
    intro n
    induction n with
    | zero => intro y _ h0; omega
    | succ n ih =>
      intro y hy hn hRy β a w hr'
      rw [rounds_succ]
      refine h y hy W β₀ _ _ (hr y hy) ?_ β a w hr'
      rintro e a w ⟨t, β', h1, h2⟩
      rcases h1 with ⟨rfl, z, rfl, hz, hlt, hmono⟩ | ⟨hne, h1⟩
      · exact ih z hz (by omega) (fun e s h => hRy e s (hmono e s h)) β' a w h2
      · cases e with
        | normal => exact absurd rfl hne
        | exit _ => exact hq _ _ _ ⟨t, β', hRy _ _ h1, h2⟩
        | goto _ => exact hq _ _ _ ⟨t, β', hRy _ _ h1, h2⟩
        | ret => exact hq _ _ _ ⟨t, β', hRy _ _ h1, h2⟩
        | panic _ => exact hq _ _ _ ⟨t, β', hRy _ _ h1, h2⟩
        | outgrown => exact hq _ _ _ ⟨t, β', hRy _ _ h1, h2⟩
  exact wp_loop_rounds (μ x + 1) (key _ x hx (Nat.lt_succ_self _) (fun e s h => hR R0 hs e s h) β a w hrel)
def resOne (P : Program) (st : St) : ResultVar → Option VV
  | .tmp t => match ev st (.tmp t) with
    | .one x => some x
    | _ => none
  | .cell a t => match ev st (.tmp a) with
    | .one (.sc (.ptr b off)) => match itemAt st.hp b with
      | some (.blk cells _) => partEv P t cells off
      | _ => none
    | _ => none
def resEv (P : Program) (fn : Func) (st : St) : Option LV :=
  match optAll (resOne P st) fn.results.toList with
  | some [x] => some (.one x)
  | some l => some (.tup l)
  | none => none
def resRun (a : Act) : ResultVar → Sem Value
  | .tmp t => pure (a.tmps.getD t undef)
  | .cell b t => do loadVar t (← asAddr (a.tmps.getD b undef))
theorem results_eq (fn : Func) (a : Act) : results fn a.tmps = (do let vs ← fn.results.mapM (resRun a); pure (if h : vs.size = 1 then vs[0] else .tuple vs)) := by
  unfold results
  congr 2
theorem run_resOne {P : Program} {W : World} {hp₀ : Hp} {β₀ β : Env} {st : St} {a : Act} {w : World} (hr : Rel W hp₀ β₀ β st a w) {r : ResultVar} {x : VV} (h : resOne P st r = some x) :
    ∃ v, (resRun a r).run P w = .ok v w ∧ x.den β (kd st.hp) v := by
  cases r with
  | tmp t =>
    simp only [resOne] at h
    split at h
    · rename_i y hy
      simp at h; subst h
      have := ev_den hr (.tmp t); rw [hy] at this
      exact ⟨_, rfl, this⟩
    · simp at h
  | cell b t =>
    simp only [resOne] at h
    split at h
    · rename_i i off hy
      split at h
      · rename_i cells elem hb
        have := ev_den hr (.tmp b); rw [hy] at this
        obtain ⟨_, e⟩ := this
        have e' : a.tmps.getD b undef = .pointer (some ⟨β.b i, off, none⟩) := e
        obtain ⟨c, fz, _, _, h3, h4⟩ := hr.heap.blkAt (itemAt_some hb)
        obtain ⟨v, h5, h6⟩ := run_loadPart (P := P) rfl h4 h3 h
        rw [addr_add, Nat.zero_add] at h5
        exact ⟨v, by simp [resRun, e', asAddr, h5], h6⟩
      · simp at h
    · simp at h
theorem run_results {P : Program} {fn : Func} {W : World} {hp₀ : Hp} {β₀ β : Env} {st : St} {a : Act} {w : World} (hr : Rel W hp₀ β₀ β st a w) {r : LV} (h : resEv P fn st = some r) :
    ∃ v, (results fn a.tmps).run P w = .ok v w ∧ r.den β (kd st.hp) v := by
  have key : ∀ (l : List ResultVar) (xs : List VV), optAll (resOne P st) l = some xs → ∃ vs : List Value, (l.mapM (resRun a)).run P w = .ok vs w ∧ All2 (VV.den β (kd st.hp)) xs vs := by
    intro l
    induction l with
    | nil => intro xs h; simp [optAll] at h; subst h; exact ⟨[], by simp, .nil⟩
    | cons r l ih =>
      intro xs h
      simp only [optAll] at h
      split at h
      · rename_i y m' h1 h2
        simp at h; subst h
        obtain ⟨v, e1, e2⟩ := run_resOne hr h1
        obtain ⟨vs, e3, e4⟩ := ih _ h2
        refine ⟨v :: vs, ?_, .cons e2 e4⟩
        simp only [List.mapM_cons, Sem.run_bind]
        rw [e1]
        simp only [Result.andThen_ok, Sem.run_pure, e3]
      · simp at h
  unfold resEv at h
  have hrun : ∀ (vs : List Value) (xs : List VV), optAll (resOne P st) fn.results.toList = some xs → (∀ vs : List Value, All2 (VV.den β (kd st.hp)) xs vs → ∃ v, (if h : vs.toArray.size = 1 then vs.toArray[0] else .tuple vs.toArray) = v ∧ r.den β (kd st.hp) v) →
      ∃ v, (results fn a.tmps).run P w = .ok v w ∧ r.den β (kd st.hp) v := by
    intro _ xs hx hv
    obtain ⟨vs, e1, e2⟩ := key _ _ hx
    obtain ⟨v, e3, e4⟩ := hv vs e2
    refine ⟨v, ?_, e4⟩
    rw [results_eq, Sem.run_bind, Array.mapM_eq_mapM_toList]
    simp only [Sem.run_map, e1, Result.andThen_ok]
    rw [← e3]; rfl
  split at h
  · rename_i x hx
    simp at h; subst h
    refine hrun [] [x] hx fun vs hvs => ?_
    cases hvs with
    | cons h1 h2 =>
      cases h2
      exact ⟨_, rfl, h1⟩
  · rename_i l hne hl
    simp at h; subst h
    refine hrun [] l hl fun vs hvs => ?_
    have hlen := hvs.length
    have : vs.length ≠ 1 := by
      intro e
      rw [e] at hlen
      obtain ⟨x, hx⟩ := List.length_eq_one_iff.1 hlen
      exact hne x hx
    refine ⟨_, by rw [dif_neg (by simpa using this)], vs, rfl, hvs⟩
  · simp at h
theorem HRel.self {W : World} {hp₀ : Hp} {β₀ β : Env} {hp : Hp} {w : World} (h : HRel W hp₀ β₀ β hp w) : HRel w hp β β hp w :=
  ⟨h.items, h.inj, Agree.refl _ _, fun i x b hi ho => .inr ⟨x, hi, ho⟩, rfl, rfl, Nat.le_refl _, fun _ _ _ => rfl, h.reads, fun pm v t l b h1 h2 => .inr ⟨pm, v, t, l, id, h1, h2⟩⟩
theorem HRel.trans {W : World} {hp₀ : Hp} {β₀ β β' : Env} {hp hp' : Hp} {w w' : World} (h : HRel W hp₀ β₀ β hp w) (h' : HRel w hp β β' hp' w') : HRel W hp₀ β₀ β' hp' w' where
  items := h'.items
  inj := h'.inj
  first := h.first.trans h'.first
  own i x b hi ho := by
    rcases h'.own i x b hi ho with h1 | ⟨y, hj, h1⟩
    · exact .inl (Nat.le_trans h.size h1)
    · exact h.own i y b hj h1
  os := h'.os.trans h.os
  output := h'.output.trans h.output
  size := Nat.le_trans h.size h'.size
  keep b hb hne := by
    rw [h'.keep b (by have := h.size; omega) fun ⟨i, x, hi, ho⟩ => ?_]
    · exact h.keep b hb hne
    · rcases h.own i x b hi ho with h1 | ⟨y, h1⟩
      · omega
      · exact hne ⟨i, y, h1⟩
  reads := h'.reads
  from_ pm v t l b h1 h2 := by
    rcases h'.from_ pm v t l b h1 h2 with h3 | ⟨pm', v', t', l', h0, h3, h4⟩
    · exact .inl (Nat.le_trans h.size h3)
    · rcases h.from_ pm' v' t' l' b h3 h4 with h5 | ⟨pm2, v2, t2, l2, h6, h7, h8⟩
      · exact .inl h5
      · exact .inr ⟨pm2, v2, t2, l2, fun e => h6 (h0 e), h7, h8⟩
/-- what a call of a function does: whatever R holds of, of one end it holds -/
def CallsEv (P : Program) (f : FuncId) (args : List LV) (hp : Hp) (R : LV → Hp → Prop) : Prop :=
  ∀ (β : Env) (w : World) (vals : List Value), HRel w hp β β hp w → All2 (LV.den β (kd hp)) args vals →
    Calls P f vals.toArray w fun e w' => ∃ val β' r hp', e = .returned val ∧ R r hp' ∧ r.den β' (kd hp') val ∧ HRel w hp β β' hp' w'
def entry (fn : Func) (args : List LV) (hp : Hp) : St := ⟨args ++ List.replicate (fn.ntmps - args.length) (.tup []), hp⟩
/-- the ends of a function -/
inductive End where
  | leaf (v : LV) (hp : Hp)
  | ite (b : Bool) (x y : End)
  | need (p : Prop) (x : End)
  | fail
def End.sat (R : LV → Hp → Prop) : End → Prop
  | .leaf v hp => R v hp
  | .ite b x y => (b = true → x.sat R) ∧ (b = false → y.sat R)
  | .need p x => p ∧ x.sat R
  | .fail => False
def Res.ends (P : Program) (fn : Func) : Res → End
  | .leaf .normal st | .leaf .ret st => match resEv P fn st with
    | some v => .leaf v st.hp
    | none => .fail
  | .leaf _ _ => .fail
  | .ite b x y => .ite b (x.ends P fn) (y.ends P fn)
  | .need p x => .need p (x.ends P fn)
  | .fail => .fail
theorem ends_sat {P : Program} {fn : Func} {R : LV → Hp → Prop} : ∀ {r : Res}, (r.ends P fn).sat R → r.sat fun e st => (e = .normal ∨ e = .ret) ∧ ∃ v, resEv P fn st = some v ∧ R v st.hp
  | .leaf e st, h => by
    cases e with
    | normal =>
      simp only [Res.ends] at h
      split at h
      · rename_i v hv; exact ⟨.inl rfl, v, hv, h⟩
      · exact h.elim
    | ret =>
      simp only [Res.ends] at h
      split at h
      · rename_i v hv; exact ⟨.inr rfl, v, hv, h⟩
      · exact h.elim
    | exit _ => exact h.elim
    | goto _ => exact h.elim
    | panic _ => exact h.elim
    | outgrown => exact h.elim
  | .ite b x y, h => ⟨fun e => ends_sat (h.1 e), fun e => ends_sat (h.2 e)⟩
  | .need p x, h => ⟨h.1, ends_sat h.2⟩
  | .fail, h => h
/-- what a call of a function comes to -/
def CallsT (P : Program) (f : FuncId) (args : List LV) (hp : Hp) (t : End) : Prop := ∀ R, t.sat R → CallsEv P f args hp R
theorem call_of_ex {P : Program} {f : FuncId} {fn : Func} {c : Code} (hf : P.funcs[f]? = some fn) (hb : fn.body = some c) {args : List LV} {hp : Hp} {r : Res} (hx : Ex P hp c (entry fn args hp) r) : CallsT P f args hp (r.ends P fn) := by
  intro R h β w vals hh hargs
  refine calls_of_wp hf hb ?_
  have hrel : Rel w hp β β (entry fn args hp) { tmps := vals.toArray ++ Array.replicate (fn.ntmps - vals.toArray.size) undef, defers := [] } w := by
    refine ⟨rfl, ?_, hh⟩
    show All2 _ (args ++ List.replicate (fn.ntmps - args.length) (.tup [])) (vals.toArray ++ Array.replicate (fn.ntmps - vals.toArray.size) undef).toList
    have hl := hargs.length
    have e : (vals.toArray ++ Array.replicate (fn.ntmps - vals.toArray.size) undef).toList = vals ++ List.replicate (fn.ntmps - args.length) undef := by
      simp [hl]
    rw [e]
    refine hargs.append ?_
    generalize fn.ntmps - args.length = k
    induction k with
    | zero => exact .nil
    | succ k ih => exact .cons ⟨[], rfl, .nil⟩ ih
  refine hx _ _ _ _ (ends_sat h) ?_ β _ w hrel
  have key : ∀ (a : Act) (w' : World) (st : St) (β' : Env) (x : LV), resEv P fn st = some x → R x st.hp → Rel w hp β β' st a w' →
      a.defers = [] ∧ ∃ v, (results fn a.tmps).run P w' = .ok v w' ∧ (∃ val β' r hp', Ending.returned v = .returned val ∧ R r hp' ∧ r.den β' (kd hp') val ∧ HRel w hp β β' hp' w') := by
    intro a w' st β' x hres hR hr
    obtain ⟨v, h1, h2⟩ := run_results hr hres
    exact ⟨hr.defers, v, h1, v, β', x, st.hp, rfl, hR, h2, hr.heap⟩
  rintro e a w' ⟨st, β', ⟨he, x, hres, hR⟩, hr⟩
  rcases he with rfl | rfl
  · exact key a w' st β' x hres hR hr
  · exact key a w' st β' x hres hR hr
def Enters (P : Program) (f : FuncId) : Prop := ∀ (as : Array Value) (w : World), (callFunc f as).run P w = .ok (.enter f as) w
end Go.Ev
end

section
set_option linter.unusedVariables false
set_option linter.unusedSimpArgs false
namespace Go.Ev
open Go
/-- the place in a list -/
def posn : List Nat → Nat → Option Nat
  | [], _ => none
  | x :: l, i => if x = i then some 0 else (posn l i).map (· + 1)
theorem posn_get : ∀ {l : List Nat} {i j : Nat}, posn l i = some j → l[j]? = some i
  | [], _, _, h => by cases h
  | x :: l, i, j, h => by
    simp only [posn] at h
    split at h
    · rename_i e; subst e; simp at h; subst h; rfl
    · obtain ⟨k, hk, rfl⟩ := map_some h
      simpa using posn_get hk
theorem posn_mem : ∀ {l : List Nat} {i : Nat}, i ∈ l → ∃ j, posn l i = some j
  | x :: l, i, h => by
    simp only [posn]
    split
    · exact ⟨0, rfl⟩
    · rename_i hne
      obtain ⟨j, hj⟩ := posn_mem (l := l) (i := i) (by simpa [Ne.symm hne] using h)
      exact ⟨j + 1, by rw [hj]; rfl⟩
theorem posn_of : ∀ {l : List Nat} {j i : Nat}, l.Nodup → l[j]? = some i → posn l i = some j
  | [], _, _, _, h => by simp at h
  | x :: l, 0, i, _, h => by simp at h; subst h; simp [posn]
  | x :: l, j + 1, i, hn, h => by
    simp at h
    have hi : i ∈ l := List.mem_of_getElem? h
    have hne : x ≠ i := fun e => by subst e; exact (List.nodup_cons.1 hn).1 hi
    simp only [posn, if_neg hne, posn_of (List.nodup_cons.1 hn).2 h]; rfl
theorem posn_none {l : List Nat} {i : Nat} (h : posn l i = none) : i ∉ l := fun hm => by
  obtain ⟨j, hj⟩ := posn_mem hm; rw [hj] at h; cases h
def SV.mapo (f : Nat → Option Nat) : SV → SV
  | .ptr b o => match f b with | some j => .ptr j o | none => .junk
  | .ptrx b base st n z => match f b with | some j => .ptrx j base st n z | none => .junk
  | .slice b o l c => match f b with | some j => .slice j o l c | none => .junk
  | .sl i v => match f i with | some j => .sl j v | none => .junk
  | .vw i v w z n => match f i with | some j => .vw j v w z n | none => .junk
  | .vb b o t m z n => match f b with | some j => .vb j o t m z n | none => .junk
  | .ep s w z g => .ep (s.mapo f) w z g
  | s => s
def VV.mapo (f : Nat → Option Nat) : VV → VV
  | .sc s => .sc (s.mapo f)
  | .agg l => .agg (l.map (SV.mapo f))
def LV.mapo (f : Nat → Option Nat) : LV → LV
  | .one x => .one (x.mapo f)
  | .tup l => .tup (l.map (VV.mapo f))
  | .junk => .junk
def Item.mapo (f : Nat → Option Nat) : Item → Item
  | .blk cells e => .blk (cells.map (SV.mapo f)) e
  | x => x
def SV.refs : SV → List Nat
  | .ptr b _ | .ptrx b _ _ _ _ | .slice b _ _ _ | .sl b _ | .vw b _ _ _ _ | .vb b _ _ _ _ _ => [b]
  | .ep s _ _ _ => s.refs
  | _ => []
def VV.refs : VV → List Nat
  | .sc s => s.refs
  | .agg l => l.flatMap SV.refs
def LV.refs : LV → List Nat
  | .one x => x.refs
  | .tup l => l.flatMap VV.refs
  | .junk => []
def Item.refs : Item → List Nat
  | .blk cells _ => cells.flatMap SV.refs
  | _ => []
/-- no slice that is read for now alone -/
def SV.nr : SV → Bool
  | .rd pm _ _ _ => pm
  | .ep s _ _ _ => s.nr
  | _ => true
def VV.nr : VV → Bool
  | .sc s => s.nr
  | .agg l => l.all SV.nr
def LV.nr : LV → Bool
  | .one x => x.nr
  | .tup l => l.all VV.nr
  | .junk => true
def Item.nr : Item → Bool
  | .blk cells _ => cells.all SV.nr
  | _ => true
theorem Item.mapo_kd (f : Nat → Option Nat) (x : Item) : (x.mapo f).kd = x.kd := by cases x <;> rfl
/-- what goes over to other numbers -/
structure Over (f : Nat → Option Nat) (β β' : Env) (L L' : Nat → Option Kd) (nr : Bool) : Prop where
  blk : ∀ b j, f b = some j → L b = some .blk → L' j = some .blk ∧ β'.b j = β.b b
  own : ∀ i j c, f i = some j → L i = some (.own c) → L' j = some (.own c) ∧ β'.h j = β.h i
  rdt : ∀ v t l, β.rd true v t l → β'.rd true v t l
  rdf : nr = false → ∀ v t l, β.rd false v t l → β'.rd false v t l
section
variable {f : Nat → Option Nat} {β β' : Env} {L L' : Nat → Option Kd} {nr : Bool}
theorem RdOk.over (h : Over f β β' L L' nr) {pm : Bool} {v : Value} {t : Ty} {l : List t.D} (hn : nr = true → pm = true) (hr : RdOk β pm v t l) : RdOk β' pm v t l := by
  rcases hr with hr | ⟨rfl, hr⟩ | hr
  · exact .inl (h.rdt _ _ _ hr)
  · cases nr with
    | true => exact absurd (hn rfl) (by simp)
    | false => exact .inr (.inl ⟨rfl, h.rdf rfl _ _ _ hr⟩)
  · exact .inr (.inr hr)
theorem Ty.has_over (h : ∀ v t l, β.rd true v t l → β'.rd true v t l) : ∀ (t : Ty) {x : t.D} {vs : List Value}, t.has β true x vs → t.has β' true x vs
  | .int _, _, _, h => h
  | .bool, _, _, h => h
  | .flt, _, _, h => h
  | .str, _, _, h => h
  | .sl _, _, _, ⟨v, h1, h2, h3⟩ => ⟨v, h1, h2, by
    rcases h3 with h3 | ⟨h3, _⟩ | h3
    · exact .inl (h _ _ _ h3)
    · cases h3
    · exact .inr (.inr h3)⟩
  | .pair a b, _, _, ⟨u, w, h0, h1, h2⟩ => ⟨u, w, h0, a.has_over h h1, b.has_over h h2⟩
  | .arr t _, _, _, ⟨h1, h2⟩ => ⟨h1, h2.imp fun _ _ => t.has_over h⟩
theorem SV.den_over (h : Over f β β' L L' nr) : ∀ {s : SV} {v : Value}, (nr = true → s.nr = true) → s.den β L v → (s.mapo f).den β' L' v
  | .int _ _, _, _, hd => hd
  | .bool _, _, _, hd => hd
  | .flt _, _, _, hd => hd
  | .str _, _, _, hd => hd
  | .con _, _, _, hd => hd
  | .junk, _, _, hd => hd
  | .arr _ _ _, _, _, hd => hd.elim
  | .rd _ _ _ _, _, hn, ⟨h1, h2, h3⟩ => ⟨h1, h2, h3.over h hn⟩
  | .ptr b o, v, _, hd => by
    simp only [SV.mapo]
    split
    · rename_i j hj
      obtain ⟨k1, k2⟩ := h.blk b j hj hd.1
      exact ⟨k1, by rw [k2]; exact hd.2⟩
    · exact SV.den_oneCell hd
  | .ptrx b base st n z, v, _, hd => by
    simp only [SV.mapo]
    split
    · rename_i j hj
      obtain ⟨k1, k2⟩ := h.blk b j hj hd.1
      exact ⟨k1, hd.2.1, by rw [k2]; exact hd.2.2⟩
    · exact SV.den_oneCell hd
  | .slice b o l c, v, _, hd => by
    simp only [SV.mapo]
    split
    · rename_i j hj
      obtain ⟨k1, k2⟩ := h.blk b j hj hd.1
      exact ⟨k1, by rw [k2]; exact hd.2⟩
    · exact SV.den_oneCell hd
  | .sl i ver, v, _, hd => by
    simp only [SV.mapo]
    split
    · rename_i j hj
      obtain ⟨h1, c, h2, h3, h4⟩ := hd
      obtain ⟨k1, k2⟩ := h.own i j c hj h2
      exact ⟨h1, c, k1, h3, fun e => by rw [k2]; exact h4 e⟩
    · exact SV.den_oneCell hd
  | .vw i ver w z n, v, _, hd => by
    simp only [SV.mapo]
    split
    · rename_i j hj
      obtain ⟨h1, c, h2, h3, h4⟩ := hd
      obtain ⟨k1, k2⟩ := h.own i j c hj h2
      exact ⟨h1, c, k1, h3, fun e => by rw [k2]; exact h4 e⟩
    · exact SV.den_oneCell hd
  | .vb b o t m z n, v, _, hd => by
    simp only [SV.mapo]
    split
    · rename_i j hj
      obtain ⟨h1, h2⟩ := hd
      obtain ⟨k1, k2⟩ := h.blk b j hj h1
      exact ⟨k1, by rw [k2]; exact h2⟩
    · exact SV.den_oneCell hd
  | .ep s w z g, v, hn, ⟨a, n, c, h1, h2⟩ => ⟨a, n, c, SV.den_over h hn h1, h2⟩
theorem DenL.over (h : Over f β β' L L' nr) {l : List SV} {vs : List Value} (hn : nr = true → l.all SV.nr = true) (hd : DenL β L l vs) : DenL β' L' (l.map (SV.mapo f)) vs := by
  induction l generalizing vs with
  | nil => cases hd; exact HasL.nil
  | cons s l ih =>
    have hn1 : nr = true → s.nr = true := fun e => by have := hn e; simp only [List.all_cons, Bool.and_eq_true] at this; exact this.1
    have hn2 : nr = true → l.all SV.nr = true := fun e => by have := hn e; simp only [List.all_cons, Bool.and_eq_true] at this; exact this.2
    cases hd with
    | cons h1 h2 =>
      refine HasL.cons ?_ (ih hn2 h2)
      cases s with
      | arr t n x => exact ⟨h1.1, h1.2.imp fun _ _ => t.has_over h.rdt⟩
      | _ =>
        obtain ⟨v, rfl, h3⟩ := h1
        exact SV.dens_of (SV.den_over h hn1 h3)
theorem VV.den_over (h : Over f β β' L L' nr) {s : VV} {v : Value} (hn : nr = true → s.nr = true) (hd : s.den β L v) : (s.mapo f).den β' L' v := by
  cases s with
  | sc s => exact SV.den_over h hn hd
  | agg l => obtain ⟨cs, rfl, hd⟩ := hd; exact ⟨cs, rfl, DenL.over h hn hd⟩
theorem LV.den_over (h : Over f β β' L L' nr) {s : LV} {v : Value} (hn : nr = true → s.nr = true) (hd : s.den β L v) : (s.mapo f).den β' L' v := by
  cases s with
  | one x => exact VV.den_over h hn hd
  | tup l =>
    obtain ⟨vs, rfl, hd⟩ := hd
    refine ⟨vs, rfl, ?_⟩
    simp only [LV.nr] at hn
    induction hd with
    | nil => exact .nil
    | cons h1 h2 ih =>
      exact .cons (VV.den_over h (fun e => by have := hn e; simp only [List.all_cons, Bool.and_eq_true] at this; exact this.1) h1) (ih fun e => by have := hn e; simp only [List.all_cons, Bool.and_eq_true] at this; exact this.2)
  | junk => trivial
theorem ItemOk.over (h : Over f β β' L L' nr) {w : World} {i j : Nat} {x : Item} (hn : nr = true → x.nr = true) (hb : x.kd = .blk → β'.b j = β.b i) (hh : ∀ c, x.kd = .own c → β'.h j = β.h i) (hd : ItemOk β L w i x) : ItemOk β' L' w j (x.mapo f) := by
  cases x with
  | blk cells e =>
    obtain ⟨c, fz, h1, h2, h3⟩ := hd
    exact ⟨c, fz, by rw [hb rfl]; exact h1, h2, DenL.over h hn h3⟩
  | own ver t l =>
    show OwnOk β' w (β'.h j) t l
    rw [hh ver rfl]
    obtain ⟨a, n, c, e, h1, h2, h3, h4⟩ := (hd : OwnOk β w (β.h i) t l)
    refine ⟨a, n, c, e, h1, h2, h3, fun h0 => ?_⟩
    obtain ⟨a0, pre, vss, rest, elem, fz, k0, k1, k2, k3, k4, k5⟩ := h4 h0
    exact ⟨a0, pre, vss, rest, elem, fz, k0, k1, k2, k3, k4.imp fun _ _ => t.has_over h.rdt, k5⟩
  | gone v => trivial
end
theorem mapo_back {f : Nat → Option Nat} {g : Nat → Nat} : ∀ {s : SV}, (∀ r ∈ s.refs, ∃ j, f r = some j ∧ g j = r) → (s.mapo f).mapo (fun j => some (g j)) = s
  | .ptr b o, h => by obtain ⟨j, h1, h2⟩ := h b (by simp [SV.refs]); simp only [SV.mapo, h1, h2]
  | .ptrx b base st n z, h => by obtain ⟨j, h1, h2⟩ := h b (by simp [SV.refs]); simp only [SV.mapo, h1, h2]
  | .slice b o l c, h => by obtain ⟨j, h1, h2⟩ := h b (by simp [SV.refs]); simp only [SV.mapo, h1, h2]
  | .sl b v, h => by obtain ⟨j, h1, h2⟩ := h b (by simp [SV.refs]); simp only [SV.mapo, h1, h2]
  | .vw b v w z n, h => by obtain ⟨j, h1, h2⟩ := h b (by simp [SV.refs]); simp only [SV.mapo, h1, h2]
  | .vb b o t m z n, h => by obtain ⟨j, h1, h2⟩ := h b (by simp [SV.refs]); simp only [SV.mapo, h1, h2]
  | .ep s w z g', h => by simp only [SV.mapo]; rw [mapo_back (s := s) h]
  | .int _ _, _ | .bool _, _ | .flt _, _ | .str _, _ | .con _, _ | .junk, _ | .arr _ _ _, _ | .rd _ _ _ _, _ => rfl
theorem item_back {f : Nat → Option Nat} {g : Nat → Nat} {x : Item} (h : ∀ r ∈ x.refs, ∃ j, f r = some j ∧ g j = r) : (x.mapo f).mapo (fun j => some (g j)) = x := by
  cases x with
  | blk cells e =>
    have hm : (cells.map (SV.mapo f)).map (SV.mapo fun j => some (g j)) = cells := by
      rw [List.map_map]
      have := List.map_congr_left (l := cells) (f := (SV.mapo fun j => some (g j)) ∘ SV.mapo f) (g := id) fun s hs => mapo_back fun r hr => h r (by simp only [Item.refs, List.mem_flatMap]; exact ⟨s, hs, hr⟩)
      rw [this, List.map_id]
    simp only [Item.mapo, hm]
  | _ => rfl
theorem SV.nr_mapo {f : Nat → Option Nat} : ∀ {s : SV}, s.nr = true → (s.mapo f).nr = true
  | .ptr b o, _ => by simp only [SV.mapo]; split <;> rfl
  | .ptrx .., _ => by simp only [SV.mapo]; split <;> rfl
  | .slice .., _ => by simp only [SV.mapo]; split <;> rfl
  | .sl .., _ => by simp only [SV.mapo]; split <;> rfl
  | .vw .., _ => by simp only [SV.mapo]; split <;> rfl
  | .vb .., _ => by simp only [SV.mapo]; split <;> rfl
  | .ep s w z g, h => SV.nr_mapo (s := s) h
  | .int _ _, h | .bool _, h | .flt _, h | .str _, h | .con _, h | .junk, h | .arr _ _ _, h | .rd _ _ _ _, h => h
def reachA : Nat → List Nat → List Nat → List Item → Ask (Option (List Nat × List Item))
  | 0, _, _, _ => .ret none
  | _ + 1, [], acc, its => .ret (some (acc, its))
  | n + 1, i :: todo, acc, its => if i ∈ acc then reachA n todo acc its else
      .get i fun x => match x with
        | some x => reachA n (x.refs ++ todo) (acc ++ [i]) (its ++ [x])
        | none => .ret none
structure Reached (hp : Hp) (roots acc : List Nat) (its : List Item) (todo : List Nat) : Prop where
  nodup : acc.Nodup
  len : acc.length = its.length
  at_ : ∀ (j : Nat) (i : Nat) (x : Item), acc[j]? = some i → its[j]? = some x → itemAt hp i = some x
  refs : ∀ x ∈ its, ∀ r ∈ x.refs, r ∈ acc ∨ r ∈ todo
  root : ∀ r ∈ roots, r ∈ acc ∨ r ∈ todo
theorem reach_ok {hp : Hp} {roots : List Nat} : ∀ (n : Nat) (todo acc : List Nat) (its : List Item) {ids : List Nat} {xs : List Item}, Reached hp roots acc its todo → (reachA n todo acc its).val hp = some (ids, xs) → Reached hp roots ids xs []
  | 0, _, _, _, _, _, _, h => by cases h
  | n + 1, [], acc, its, _, _, hr, h => by
    simp only [reachA, Ask.val] at h
    cases h
    exact hr
  | n + 1, i :: todo, acc, its, ids, xs, hr, h => by
    simp only [reachA] at h
    split at h
    · rename_i hm
      have hm' : i ∈ acc := hm
      refine reach_ok n todo acc its ⟨hr.nodup, hr.len, hr.at_, fun x hx r hr' => ?_, fun r hr' => ?_⟩ h
      · rcases hr.refs x hx r hr' with h1 | h1
        · exact .inl h1
        · rcases List.mem_cons.1 h1 with rfl | h1
          · exact .inl hm'
          · exact .inr h1
      · rcases hr.root r hr' with h1 | h1
        · exact .inl h1
        · rcases List.mem_cons.1 h1 with rfl | h1
          · exact .inl hm'
          · exact .inr h1
    · rename_i hm
      have hm' : i ∉ acc := hm
      simp only [Ask.val] at h
      split at h
      · rename_i x hx
        refine reach_ok n (x.refs ++ todo) (acc ++ [i]) (its ++ [x]) ⟨?_, by simp [hr.len], ?_, ?_, ?_⟩ h
        · rw [List.nodup_append]
          refine ⟨hr.nodup, by simp, fun a ha b hb => ?_⟩
          simp at hb; subst hb
          exact fun e => hm' (e ▸ ha)
        · intro j i' x' h1 h2
          by_cases hj : j < acc.length
          · rw [List.getElem?_append_left hj] at h1
            rw [List.getElem?_append_left (by rw [← hr.len]; exact hj)] at h2
            exact hr.at_ j i' x' h1 h2
          · rw [List.getElem?_append_right (by omega)] at h1
            rw [List.getElem?_append_right (by rw [← hr.len]; omega), ← hr.len] at h2
            have hj0 : j - acc.length = 0 := by
              have := (List.getElem?_eq_some_iff.1 h1).1
              simpa using this
            rw [hj0] at h1 h2
            simp at h1 h2; subst h1 h2
            exact hx
        · intro y hy r hr'
          rcases List.mem_append.1 hy with hy | hy
          · rcases hr.refs y hy r hr' with h1 | h1
            · exact .inl (by simp [h1])
            · rcases List.mem_cons.1 h1 with rfl | h1
              · exact .inl (by simp)
              · exact .inr (by simp [h1])
          · simp at hy; subst hy
            exact .inr (by simp [hr'])
        · intro r hr'
          rcases hr.root r hr' with h1 | h1
          · exact .inl (by simp [h1])
          · rcases List.mem_cons.1 h1 with rfl | h1
            · exact .inl (by simp)
            · exact .inr (by simp [h1])
      · simp [Ask.val] at h
end Go.Ev
end

section
set_option linter.unusedVariables false
set_option linter.unusedSimpArgs false
namespace Go.Ev
open Go
section
variable {W : World} {hp₀ : Hp} {β₀ β : Env} {hp : Hp} {w : World}
theorem own_blk {h : Value} {t : Ty} {l : List t.D} (hk : OwnOk β w h t l) {b : Nat} (hb : inBlock h b) : ∃ a n c, h = .slice (some a) n c ∧ 0 < c ∧ a.block = b := by
  obtain ⟨a, n, c, rfl, h1, h2, h3, _⟩ := hk
  cases a with
  | none => exact hb.elim
  | some a => exact ⟨a, n, c, rfl, by have := hb.1; omega, hb.2⟩
theorem sub_blk {h v : Value} {k : Nat} {z n : Int} (hs : SubOf h k z n v) {b : Nat} (hb : inBlock v b) : inBlock h b := by
  obtain ⟨a, m, c, a', c', rfl, z0, n0, hle, rfl, hc', _, ha⟩ := hs
  cases a' with
  | none => exact hb.elim
  | some a2 =>
    have h0 := hb.1
    obtain ⟨a0, rfl, e⟩ := ha (by omega)
    simp at e; subst e
    exact ⟨by omega, by have := hb.2; rwa [add_block] at this⟩
/-- where what a slice reads as lies -/
theorem contAs_blk (h : HRel W hp₀ β₀ β hp w) {t : Ty} {s : SV} {pm : Bool} {l : List t.D} {v : Value} (hc : (contAs t s).val hp = some (pm, l)) (hd : s.den β (kd hp) v) {b : Nat} (hb : inBlock v b) :
    (b < w.heap.size ∧ ¬ Owned hp β b) ∨ ∃ i x, hp[i]? = some (some x) ∧ Owns β x i b ∧ i ∈ s.refs := by
  unfold contAs at hc
  split at hc
  · exact .inl ((h.rdOk hd.2.2).2 b hb)
  · obtain ⟨_, rfl⟩ := hd
    exact hb.elim
  · rename_i i ver
    simp only [Ask.val] at hc
    split at hc
    · rename_i ver' t' l' hi
      split at hc
      · split at hc
        · rename_i e; subst e
          obtain ⟨_, hd⟩ := hd
          obtain ⟨h1, rfl⟩ := h.ownOf (p := fun x => v = x) (itemAt_some hi) hd
          exact .inr ⟨i, _, itemAt_some hi, own_blk h1 hb, by simp [SV.refs]⟩
        · cases hc
      · cases hc
    · cases hc
  · rename_i i ver w' z n
    simp only [Ask.val] at hc
    split at hc
    · rename_i ver' t' l' hi
      split at hc
      · split at hc
        · rename_i e; obtain ⟨rfl, rfl⟩ := e
          obtain ⟨_, hd⟩ := hd
          obtain ⟨h1, h2⟩ := h.ownOf (p := fun x => SubOf x _ z n v) (itemAt_some hi) hd
          exact .inr ⟨i, _, itemAt_some hi, own_blk h1 (sub_blk h2 hb), by simp [SV.refs]⟩
        · cases hc
      · cases hc
    · cases hc
  · rename_i b' o t' m z n
    simp only [Ask.val] at hc
    split at hc
    · rename_i cells elem hi
      obtain ⟨_, z0, n0, zn, a', c', rfl, hc', _, ha⟩ := hd
      refine .inr ⟨b', _, itemAt_some hi, ?_, by simp [SV.refs]⟩
      show b = β.b b'
      cases a' with
      | none => exact hb.elim
      | some a' =>
        have h0 := hb.1
        have e := ha (by omega)
        simp at e; subst e
        rw [← hb.2, add_block]
    · cases hc
  · rename_i b' o len cap
    simp only [Ask.val] at hc
    split at hc
    · rename_i cells elem hi
      obtain ⟨_, rfl⟩ := hd
      exact .inr ⟨b', _, itemAt_some hi, hb.2.symm, by simp [SV.refs]⟩
    · cases hc
  · simp [Ask.val] at hc
def lent1 (β : Env) (own : Nat → Prop) (w : World) (v : Value) (t : Ty) (l : List t.D) : Prop := ReadsAs β false w v t l ∧ ∀ b, inBlock v b → b < w.heap.size ∧ ¬ own b
def Env.with1 (β : Env) (own : Nat → Prop) (w : World) : Env := ⟨β.b, β.h, fun pm v t l => match pm with
  | true => β.rd true v t l
  | false => lent1 β own w v t l⟩
def lent2 (β : Env) (own : Nat → Prop) (w : World) (v : Value) (t : Ty) (l : List t.D) : Prop := ReadsAs (β.with1 own w) false w v t l ∧ ∀ b, inBlock v b → b < w.heap.size ∧ ¬ own b
def Env.can (β : Env) (own : Nat → Prop) (w : World) (lent : Bool) (ids : List Nat) : Env := ⟨fun j => β.b (ids.getD j 0), fun j => β.h (ids.getD j 0), fun pm v t l => match pm with
  | true => β.rd true v t l
  | false => β.rd false v t l ∨ (lent = true ∧ lent2 β own w v t l)⟩
theorem HRel.with1 (h : HRel W hp₀ β₀ β hp w) {own : Nat → Prop} (ho : ∀ b, own b → Owned hp β b) : ∀ pm v t l, β.rd pm v t l → (β.with1 own w).rd pm v t l := by
  intro pm v t l hr
  cases pm with
  | true => exact hr
  | false =>
    obtain ⟨h1, h2⟩ := h.reads _ _ _ _ hr
    exact ⟨h1, fun b hb => ⟨(h2 b hb).1, fun k => (h2 b hb).2 (ho b k)⟩⟩
theorem HRel.lent12 (h : HRel W hp₀ β₀ β hp w) {own : Nat → Prop} (ho : ∀ b, own b → Owned hp β b) {v : Value} {t : Ty} {l : List t.D} (hl : lent1 β own w v t l) : lent2 β own w v t l :=
  ⟨hl.1.mono (h.with1 ho), hl.2⟩
def lendA (t : Ty) (s : SV) : Ask (Option (List t.D)) := (contAs t s).map (·.map (·.2))
theorem lendA_ok (h : HRel W hp₀ β₀ β hp w) {t : Ty} {s : SV} {l : List t.D} {v : Value} (hc : (lendA t s).val hp = some l) (hd : s.den β (kd hp) v) {own : Nat → Prop}
    (ho : ∀ b, own b → ∃ i x, hp[i]? = some (some x) ∧ Owns β x i b ∧ i ∉ s.refs) : lent1 β own w v t l := by
  unfold lendA at hc
  rw [Ask.val_map] at hc
  obtain ⟨⟨pm, l'⟩, hc1, he⟩ := map_some hc
  clear hc
  cases he
  have hc := hc1
  have h1 := contAs_ok h hc hd
  have h2 : ReadsAs β false w v t l' := by
    cases pm with
    | true => exact h1.weak
    | false => exact h1
  refine ⟨h2, fun b hb => ?_⟩
  rcases contAs_blk h hc hd hb with ⟨h3, h4⟩ | ⟨i, x, h3, h4, h5⟩
  · refine ⟨h3, fun k => ?_⟩
    obtain ⟨i, x, k1, k2, _⟩ := ho b k
    exact h4 ⟨i, x, k1, k2⟩
  · refine ⟨(h.items i x h3).lt h4, fun k => ?_⟩
    obtain ⟨j, y, k1, k2, k3⟩ := ho b k
    have := h.inj i j x y b h3 k1 h4 k2
    subst this
    exact k3 h5
def lendL (t : Ty) : List SV → Ask (Option (List (List t.D)))
  | [] => .ret (some [])
  | s :: r => (lendA t s).bind fun x => match x with
    | some l => (lendL t r).map (·.map (l :: ·))
    | none => .ret none
theorem lendL_ok (h : HRel W hp₀ β₀ β hp w) {t : Ty} {own : Nat → Prop} : ∀ {row : List SV} {ls : List (List t.D)} {vs : List Value}, (lendL t row).val hp = some ls → DenL β (kd hp) row vs →
    (∀ b, own b → ∃ i x, hp[i]? = some (some x) ∧ Owns β x i b ∧ i ∉ row.flatMap SV.refs) → HasL ((Ty.sl t).has (β.with1 own w) false) ls vs
  | [], ls, vs, hc, hd, _ => by
    simp [lendL, Ask.val] at hc; subst hc
    cases hd; exact .nil
  | s :: row, ls, _, hc, .cons (vs := us) h1 h2, ho => by
    simp only [lendL] at hc
    rw [Ask.val_bind] at hc
    split at hc
    · rename_i l hl
      rw [Ask.val_map] at hc
      obtain ⟨ls', hc', rfl⟩ := map_some hc
      have hs : ∀ t n l, s ≠ .arr t n l := by
        intro t' n l' e; subst e
        simp [lendA, contAs, Ask.val, Ask.map, Ask.bind] at hl
      obtain ⟨v, rfl, hv⟩ := SV.den_of h1 hs
      refine .cons ⟨v, rfl, SV.den_oneCell hv, .inr (.inl ⟨rfl, ?_⟩)⟩ (lendL_ok h hc' h2 fun b hb => ?_)
      · exact lendA_ok h hl hv fun b hb => by
          obtain ⟨i, x, k1, k2, k3⟩ := ho b hb
          exact ⟨i, x, k1, k2, fun hm => k3 (by simp [hm])⟩
      · obtain ⟨i, x, k1, k2, k3⟩ := ho b hb
        exact ⟨i, x, k1, k2, fun hm => k3 (by rw [List.flatMap_cons]; exact List.mem_append_right _ hm)⟩
    · simp [Ask.val] at hc
def lend (t : Ty) (s : SV) : Ask (Option (SV × List Nat)) :=
  match t, s with
  | .sl t', .slice b o len cap => .get b fun x => match x with
    | some (.blk cells _) => match (if len ≤ cap then subL cells o len else none) with
      | some row => (lendL t' row).map (·.map fun ls => (.rd false false (.sl t') ls, b :: row.flatMap SV.refs))
      | none => .ret none
    | _ => .ret none
  | t, s => (lendA t s).map (·.map fun l => (.rd false false t l, s.refs))
theorem lend_ok (h : HRel W hp₀ β₀ β hp w) {t : Ty} {s s' : SV} {lids : List Nat} {v : Value} (hc : (lend t s).val hp = some (s', lids)) (hd : s.den β (kd hp) v) {own : Nat → Prop}
    (ho : ∀ b, own b → ∃ i x, hp[i]? = some (some x) ∧ Owns β x i b ∧ i ∉ lids) : ∃ l, s' = .rd false false t l ∧ lent2 β own w v t l := by
  have howned : ∀ b, own b → Owned hp β b := fun b hb => let ⟨i, x, h1, h2, _⟩ := ho b hb; ⟨i, x, h1, h2⟩
  unfold lend at hc
  split at hc
  · rename_i t' b o len cap
    simp only [Ask.val] at hc
    split at hc
    · rename_i cells elem hi
      split at hc
      · rename_i row hrow
        rw [Ask.val_map] at hc
        obtain ⟨ls, hl, he⟩ := map_some hc
        cases he
        split at hrow
        · rename_i hlc
          obtain ⟨_, rfl⟩ := hd
          obtain ⟨cs, fz, h1, h2, h3⟩ := h.items _ _ (itemAt_some hi)
          obtain ⟨pre, mid, post, rfl, e1, e2, h4⟩ := subL_ok hrow h3
          have h5 := lendL_ok h hl h4 (own := own) fun b hb => by
            obtain ⟨i, x, k1, k2, k3⟩ := ho b hb
            exact ⟨i, x, k1, k2, fun hm => k3 (List.mem_cons_of_mem _ hm)⟩
          have hlen : mid.length = ls.length := by rw [hasL_length h5]; simp [Ty.w]
          subst e1
          refine ⟨ls, rfl, ⟨_, _, _, rfl, by omega, hlc, (fun e => by cases e), fun _ => ⟨_, mid, rfl, rfl, h5, holdsAt_cells h1⟩⟩, fun b' hb' => ?_⟩
          have eb : b' = β.b b := hb'.2.symm
          subst eb
          refine ⟨(Array.getElem?_eq_some_iff.1 h1).1, fun k => ?_⟩
          obtain ⟨i, x, k1, k2, k3⟩ := ho _ k
          have := h.inj i b x _ _ k1 (itemAt_some hi) k2 rfl
          subst this
          exact k3 (by simp)
        · cases hrow
      · simp [Ask.val] at hc
    · simp [Ask.val] at hc
  · rw [Ask.val_map] at hc
    obtain ⟨l, hl, he⟩ := map_some hc
    cases he
    exact ⟨l, rfl, h.lent12 howned (lendA_ok h hl hd ho)⟩
def lendArgs : List (Option Ty) → List LV → Ask (Option (List LV × List Nat))
  | _, [] => .ret (some ([], []))
  | [], x :: xs => (lendArgs [] xs).map (·.map fun (l, b) => (x :: l, b))
  | none :: ts, x :: xs => (lendArgs ts xs).map (·.map fun (l, b) => (x :: l, b))
  | some t :: ts, .one (.sc s) :: xs => (lend t s).bind fun y => match y with
    | some (s', b1) => (lendArgs ts xs).map (·.map fun (l, b) => (.one (.sc s') :: l, b1 ++ b))
    | none => .ret none
  | some _ :: _, _ => .ret none
theorem lendArgs_ok (h : HRel W hp₀ β₀ β hp w) {f : Nat → Option Nat} {βc : Env} {L' : Nat → Option Kd} (hov : Over f β βc (kd hp) L' false) {own : Nat → Prop} :
    ∀ {ts : List (Option Ty)} {xs cs : List LV} {lids : List Nat} {vs : List Value}, (lendArgs ts xs).val hp = some (cs, lids) → All2 (LV.den β (kd hp)) xs vs →
      (∀ t, some t ∈ ts → ∀ v l, lent2 β own w v t l → βc.rd false v t l) →
      (∀ b, own b → ∃ i x, hp[i]? = some (some x) ∧ Owns β x i b ∧ i ∉ lids) → All2 (LV.den βc L') (cs.map (LV.mapo f)) vs
  | ts, [], cs, lids, _, hc, hd, _, _ => by
    cases hd
    have hc' : some (([] : List LV), ([] : List Nat)) = some (cs, lids) := by
      cases ts with
      | nil => exact hc
      | cons a b => cases a <;> exact hc
    cases hc'
    exact .nil
  | [], x :: xs, _, _, _, hc, .cons h1 h2, hl, ho => by
    simp only [lendArgs] at hc
    rw [Ask.val_map] at hc
    obtain ⟨⟨l, b⟩, hc', he⟩ := map_some hc
    cases he
    exact .cons (LV.den_over hov (by simp) h1) (lendArgs_ok h hov hc' h2 hl ho)
  | none :: ts, x :: xs, _, _, _, hc, .cons h1 h2, hl, ho => by
    simp only [lendArgs] at hc
    rw [Ask.val_map] at hc
    obtain ⟨⟨l, b⟩, hc', he⟩ := map_some hc
    cases he
    exact .cons (LV.den_over hov (by simp) h1) (lendArgs_ok h hov hc' h2 (fun t ht => hl t (List.mem_cons_of_mem _ ht)) ho)
  | some t :: ts, x :: xs, _, _, _, hc, .cons h1 h2, hl, ho => by
    cases x with
    | one x =>
      cases x with
      | sc s =>
        simp only [lendArgs] at hc
        rw [Ask.val_bind] at hc
        split at hc
        · rename_i s' b1 hs
          rw [Ask.val_map] at hc
          obtain ⟨⟨l, b⟩, hc', he⟩ := map_some hc
          cases he
          obtain ⟨l', rfl, h3⟩ := lend_ok h hs h1 (own := own) fun b hb => by
            obtain ⟨i, x, k1, k2, k3⟩ := ho b hb
            exact ⟨i, x, k1, k2, fun hm => k3 (List.mem_append_left _ hm)⟩
          refine .cons ⟨SV.den_oneCell h1, (fun e => by cases e), .inr (.inl ⟨rfl, hl t (by simp) _ _ h3⟩)⟩ (lendArgs_ok h hov hc' h2 (fun t ht => hl t (List.mem_cons_of_mem _ ht)) fun b hb => ?_)
          obtain ⟨i, x, k1, k2, k3⟩ := ho b hb
          exact ⟨i, x, k1, k2, fun hm => k3 (List.mem_append_right _ hm)⟩
        · simp [Ask.val] at hc
      | agg l => simp [lendArgs, Ask.val] at hc
    | tup l => simp [lendArgs, Ask.val] at hc
    | junk => simp [lendArgs, Ask.val] at hc
theorem Owns.mapo {f : Nat → Option Nat} {β β' : Env} {x : Item} {i j b : Nat} (hb : β'.b j = β.b i) (hh : β'.h j = β.h i) : Owns β' (x.mapo f) j b ↔ Owns β x i b := by
  cases x <;> simp only [Item.mapo, Owns, hb, hh]
def chpOf (ids : List Nat) (xs : List Item) : Hp := xs.map fun x => some (x.mapo (posn ids))
theorem chp_get {roots ids : List Nat} {xs : List Item} (hr : Reached hp roots ids xs []) {j : Nat} {y : Item} (h : (chpOf ids xs)[j]? = some (some y)) : ∃ i x, ids[j]? = some i ∧ hp[i]? = some (some x) ∧ xs[j]? = some x ∧ y = x.mapo (posn ids) := by
  unfold chpOf at h
  rw [List.getElem?_map] at h
  obtain ⟨x, hx, he⟩ := map_some h
  simp at he; subst he
  have hj : j < ids.length := by rw [hr.len]; exact (List.getElem?_eq_some_iff.1 hx).1
  have hi : ids[j]? = some ids[j] := List.getElem?_eq_getElem hj
  exact ⟨_, x, hi, itemAt_some (hr.at_ _ _ _ hi hx), hx, rfl⟩
theorem chp_of {roots ids : List Nat} {xs : List Item} (hr : Reached hp roots ids xs []) {i j : Nat} (h : ids[j]? = some i) : ∃ x, hp[i]? = some (some x) ∧ xs[j]? = some x ∧ (chpOf ids xs)[j]? = some (some (x.mapo (posn ids))) := by
  have hj : j < xs.length := by rw [← hr.len]; exact (List.getElem?_eq_some_iff.1 h).1
  have hx : xs[j]? = some xs[j] := List.getElem?_eq_getElem hj
  refine ⟨_, itemAt_some (hr.at_ _ _ _ h hx), hx, ?_⟩
  unfold chpOf
  rw [List.getElem?_map, hx]; rfl
def OwnBy (hp : Hp) (β : Env) (ids : List Nat) (b : Nat) : Prop := ∃ i x, hp[i]? = some (some x) ∧ Owns β x i b ∧ i ∈ ids
theorem getD_of {l : List Nat} {j i : Nat} (h : l[j]? = some i) : l.getD j 0 = i := by rw [List.getD_eq_getElem?_getD, h]; rfl
theorem can_owned {roots ids : List Nat} {xs : List Item} (hr : Reached hp roots ids xs []) {own : Nat → Prop} {lent : Bool} {b : Nat} (h : Owned (chpOf ids xs) (β.can own w lent ids) b) : OwnBy hp β ids b := by
  obtain ⟨j, y, hj, ho⟩ := h
  obtain ⟨i, x, h1, h2, _, rfl⟩ := chp_get hr hj
  refine ⟨i, x, h2, ?_, List.mem_of_getElem? h1⟩
  exact (Owns.mapo (by show β.b _ = _; rw [getD_of h1]) (by show β.h _ = _; rw [getD_of h1])).1 ho
theorem can_over {roots ids : List Nat} {xs : List Item} (hr : Reached hp roots ids xs []) {own : Nat → Prop} {lent : Bool} : Over (posn ids) β (β.can own w lent ids) (kd hp) (kd (chpOf ids xs)) false := by
  refine ⟨fun b j hj hb => ?_, fun i j c hj hi => ?_, fun v t l h => h, fun _ v t l h => .inl h⟩
  · have h1 := posn_get hj
    obtain ⟨x, h2, h3, h4⟩ := chp_of hr h1
    refine ⟨?_, by show β.b _ = _; rw [getD_of h1]⟩
    rw [kd_of h4, Item.mapo_kd, ← kd_of h2]; exact hb
  · have h1 := posn_get hj
    obtain ⟨x, h2, h3, h4⟩ := chp_of hr h1
    refine ⟨?_, by show β.h _ = _; rw [getD_of h1]⟩
    rw [kd_of h4, Item.mapo_kd, ← kd_of h2]; exact hi
theorem can_rel (h : HRel W hp₀ β₀ β hp w) {roots ids : List Nat} {xs : List Item} (hr : Reached hp roots ids xs []) {lent : Bool} :
    HRel w (chpOf ids xs) (β.can (OwnBy hp β ids) w lent ids) (β.can (OwnBy hp β ids) w lent ids) (chpOf ids xs) w := by
  have howned : ∀ b, OwnBy hp β ids b → Owned hp β b := fun b ⟨i, x, h1, h2, _⟩ => ⟨i, x, h1, h2⟩
  refine ⟨fun j y hj => ?_, fun j k y z b hj hk h1 h2 => ?_, Agree.refl _ _, fun i x b hi ho => .inr ⟨x, hi, ho⟩, rfl, rfl, Nat.le_refl _, fun _ _ _ => rfl, fun pm v t l hrd => ?_, fun pm v t l b h1 h2 => .inr ⟨pm, v, t, l, id, h1, h2⟩⟩
  · obtain ⟨i, x, h1, h2, _, rfl⟩ := chp_get hr hj
    refine ItemOk.over (can_over hr) (by simp) (fun _ => ?_) (fun _ _ => ?_) (h.items i x h2)
    · show β.b _ = _; rw [getD_of h1]
    · show β.h _ = _; rw [getD_of h1]
  · obtain ⟨i1, x1, a1, a2, _, rfl⟩ := chp_get hr hj
    obtain ⟨i2, x2, b1, b2, _, rfl⟩ := chp_get hr hk
    have e := h.inj i1 i2 x1 x2 b a2 b2 ((Owns.mapo (by show β.b _ = _; rw [getD_of a1]) (by show β.h _ = _; rw [getD_of a1])).1 h1) ((Owns.mapo (by show β.b _ = _; rw [getD_of b1]) (by show β.h _ = _; rw [getD_of b1])).1 h2)
    subst e
    have e1 := posn_of hr.nodup a1
    have e2 := posn_of hr.nodup b1
    rw [e1] at e2; exact Option.some.inj e2
  · have hmono : ∀ pm v t l, β.rd pm v t l → (β.can (OwnBy hp β ids) w lent ids).rd pm v t l := by
      intro pm v t l hr
      cases pm with
      | true => exact hr
      | false => exact .inl hr
    have hold : ∀ pm v t l, β.rd pm v t l → ReadsAs (β.can (OwnBy hp β ids) w lent ids) pm w v t l ∧ ∀ b, inBlock v b → b < w.heap.size ∧ ¬ Owned (chpOf ids xs) (β.can (OwnBy hp β ids) w lent ids) b := by
      intro pm v t l hrd
      obtain ⟨h1, h2⟩ := h.reads _ _ _ _ hrd
      exact ⟨h1.mono hmono, fun b hb => ⟨(h2 b hb).1, fun k => (h2 b hb).2 (howned b (can_owned hr k))⟩⟩
    cases pm with
    | true => exact hold true v t l hrd
    | false =>
      rcases hrd with hrd | ⟨hl, h1, h2⟩
      · exact hold false v t l hrd
      · refine ⟨h1.mono fun pm v t l hr => ?_, fun b hb => ⟨(h2 b hb).1, fun k => (h2 b hb).2 (can_owned hr k)⟩⟩
        cases pm with
        | true => exact hr
        | false => exact .inr ⟨hl, h.lent12 howned hr⟩
end
def mapD (g : Nat → Nat) (d : List (Nat × Item)) : List (Nat × Item) := d.map fun (j, x) => (g j, x.mapo fun j => some (g j))
theorem mem_mapD {g : Nat → Nat} {d : List (Nat × Item)} {i : Nat} {y : Item} : (i, y) ∈ mapD g d ↔ ∃ j x, (j, x) ∈ d ∧ i = g j ∧ y = x.mapo fun j => some (g j) := by
  unfold mapD
  rw [List.mem_map]
  constructor
  · rintro ⟨⟨j, x⟩, h, e⟩
    simp at e; exact ⟨j, x, h, e.1.symm, e.2.symm⟩
  · rintro ⟨j, x, h, rfl, rfl⟩
    exact ⟨(j, x), h, rfl⟩
structure Mir (g : Nat → Nat) (J U : Nat → Prop) (lent : Bool) (hp0 hpc hp : Hp) : Prop where
  live : ∀ (j : Nat) (y : Item), hpc[j]? = some (some y) → J j
  fwd : ∀ (j : Nat) (y : Item), hpc[j]? = some (some y) → hp[g j]? = some (some (y.mapo fun j => some (g j)))
  bwd : ∀ (i : Nat) (x : Item), hp[i]? = some (some x) → (∃ (j : Nat) (y : Item), hpc[j]? = some (some y) ∧ g j = i) ∨ (hp0[i]? = some (some x) ∧ U i)
  nr : lent = true → ∀ (j : Nat) (y : Item), hpc[j]? = some (some y) → y.nr = true
theorem mir_apply {g : Nat → Nat} {J U : Nat → Prop} {lent : Bool} {hp0 : Hp} (hinj : ∀ j k, J j → J k → g j = g k → j = k) :
    ∀ (d : List (Nat × Item)) {hpc hp : Hp}, (∀ j x, (j, x) ∈ d → J j) → (lent = true → d.all (fun p => p.2.nr) = true) → Mir g J U lent hp0 hpc hp → Mir g J U lent hp0 (applyD d hpc) (applyD (mapD g d) hp)
  | [], _, _, _, _, h => h
  | (j, x) :: d, hpc, hp, hJ, hn, h => by
    refine mir_apply hinj d (hpc := setAt hpc j x) (hp := setAt hp (g j) (x.mapo fun j => some (g j))) (fun j' x' hm => hJ j' x' (List.mem_cons_of_mem _ hm)) (fun e => by have := hn e; simp only [List.all_cons, Bool.and_eq_true] at this; exact this.2) ?_
    have hj : J j := hJ j x (by simp)
    refine ⟨fun k y hk => ?_, fun k y hk => ?_, fun i z hi => ?_, fun e k y hk => ?_⟩
    · by_cases hkj : k = j
      · exact hkj ▸ hj
      · exact h.live k y ((setAt_other hpc j x k y hkj).1 hk)
    · by_cases hkj : k = j
      · subst hkj
        rw [setAt_same] at hk; simp at hk; subst hk
        exact setAt_same _ _ _
      · have hk' := (setAt_other hpc j x k y hkj).1 hk
        have hne : g k ≠ g j := fun e => hkj (hinj k j (h.live k y hk') hj e)
        exact (setAt_other hp (g j) _ (g k) _ hne).2 (h.fwd k y hk')
    · by_cases hij : i = g j
      · subst hij
        exact .inl ⟨j, x, setAt_same _ _ _, rfl⟩
      · rcases h.bwd i z ((setAt_other hp (g j) _ i z hij).1 hi) with ⟨k, y, hk, e⟩ | k
        · refine .inl ⟨k, y, (setAt_other hpc j x k y fun e' => hij ?_).2 hk, e⟩
          rw [← e, e']
        · exact .inr k
    · by_cases hkj : k = j
      · subst hkj
        rw [setAt_same] at hk; simp at hk; subst hk
        have := hn e; simp only [List.all_cons, Bool.and_eq_true] at this; exact this.1
      · exact h.nr e k y ((setAt_other hpc j x k y hkj).1 hk)
/-- a function's law: which arguments are read alone, and what comes out -/
structure Ent where
  tys : List (Option Ty)
  run : List LV → Hp → Out
/-- called, or answered at once -/
def DoneEv (P : Program) (f : FuncId) (args : List LV) (hp : Hp) (R : LV → Hp → Prop) : Prop :=
  ∀ (β : Env) (w : World) (vals : List Value), HRel w hp β β hp w → All2 (LV.den β (kd hp)) args vals →
    Done P f vals.toArray w fun e w' => ∃ val β' r hp', e = .returned val ∧ R r hp' ∧ r.den β' (kd hp') val ∧ HRel w hp β β' hp' w'
theorem CallsEv.done {P : Program} {f : FuncId} (he : Enters P f) {args : List LV} {hp : Hp} {R : LV → Hp → Prop} (h : CallsEv P f args hp R) : DoneEv P f args hp R :=
  fun β w vals hh ha => .inr ⟨he, h β w vals hh ha⟩
structure Ent.Ok (P : Program) (f : FuncId) (e : Ent) : Prop where
  calls : ∀ args hp Q, (e.run args hp).holds Q → DoneEv P f args hp fun v hp' => ∃ d, Q v d ∧ hp' = applyD d hp
def Out.back (g : Nat → Nat) (lent : Bool) : Out → Out
  | .leaf q v d => if lent = true ∧ (v.nr && d.all fun p => p.2.nr) = false then .fail else .leaf q (v.mapo fun j => some (g j)) (mapD g d)
  | .ite b x y => .ite b (x.back g lent) (y.back g lent)
  | .fail => .fail
theorem back_holds {g : Nat → Nat} {lent : Bool} {id : Nat} {hp : Hp} {Q : LV → List (Nat × Item) → Prop} : ∀ {o : Out}, (o.back g lent).fresh id hp → (o.back g lent).holds Q →
    o.holds fun v d => (lent = true → v.nr = true ∧ (d.all fun p => p.2.nr) = true) ∧ Fresh id hp (mapD g d) ∧ Q (v.mapo fun j => some (g j)) (mapD g d)
  | .leaf q v d, hf, h => by
    simp only [Out.back] at hf h
    split at h
    · exact h.elim
    · rename_i hc
      rw [if_neg hc] at hf
      refine ⟨h.1, fun e => ?_, hf, h.2⟩
      have : (v.nr && d.all fun p => p.2.nr) = true := by
        cases hx : (v.nr && d.all fun p => p.2.nr) with
        | true => rfl
        | false => exact absurd ⟨e, hx⟩ hc
      simpa using this
  | .ite b x y, hf, h => ⟨fun e => back_holds hf.1 (h.1 e), fun e => back_holds hf.2 (h.2 e)⟩
  | .fail, _, h => h
def gOf (ids : List Nat) (id : Nat) (j : Nat) : Nat := match ids[j]? with
  | some i => i
  | none => id + (j - ids.length)
def callA (e : Ent) (id : Nat) (args : List LV) : Ask Out :=
  (lendArgs e.tys args).bind fun x => match x with
  | none => .ret .fail
  | some (cargs, lids) => (reachA 1000 (cargs.flatMap LV.refs) [] []).bind fun y => match y with
    | none => .ret .fail
    | some (ids, xs) =>
      if lids.any (fun i => decide (i ∈ ids)) = true ∨ (e.tys.any (·.isSome) = true ∧ xs.all Item.nr = false) then .ret .fail
      else .ret ((e.run (cargs.map (LV.mapo (posn ids))) (chpOf ids xs)).back (gOf ids id) (e.tys.any (·.isSome)))
section
variable {α : Type}
/-- what is said of the numbers there, said of those here -/
def backTo (hp : Hp) (ids : List Nat) (id : Nat) (F F0 : Nat → α) (i : Nat) : α := match posn ids i with
  | some j => F j
  | none => if kd hp i = none ∧ id ≤ i then F (ids.length + (i - id)) else F0 i
end
theorem callA_ok {P : Program} {f : FuncId} {e : Ent} (he : e.Ok P f) {id : Nat} {args : List LV} {hp : Hp} (hf : ((callA e id args).val hp).fresh id hp) {Q : LV → List (Nat × Item) → Prop} (h : ((callA e id args).val hp).holds Q)
    {β : Env} {w : World} {vals : List Value} (hh : HRel w hp β β hp w) (hargs : All2 (LV.den β (kd hp)) args vals) :
    Done P f vals.toArray w fun e w' => ∃ v d val β', Q v d ∧ e = .returned val ∧ v.den β' (kd (applyD d hp)) val ∧ HRel w hp β β' (applyD d hp) w' := by
  unfold callA at h hf
  rw [Ask.val_bind] at h hf
  split at h
  · exact h.elim
  rename_i cargs lids hl
  rw [hl] at hf
  simp only at hf
  rw [Ask.val_bind] at h hf
  split at h
  · exact h.elim
  rename_i ids xs hreach
  rw [hreach] at hf
  simp only at hf
  split at h
  · exact h.elim
  rename_i hno
  rw [if_neg hno] at hf
  simp only [Ask.val] at h hf
  have hdis : ∀ i ∈ lids, i ∉ ids := fun i hi hm => hno (.inl (by rw [List.any_eq_true]; exact ⟨i, hi, by simpa using hm⟩))
  have hnrx : e.tys.any (·.isSome) = true → xs.all Item.nr = true := fun e1 => by
    cases hx : xs.all Item.nr with
    | true => rfl
    | false => exact absurd (.inr ⟨e1, hx⟩) hno
  have hlent : ∀ t, some t ∈ e.tys → e.tys.any (·.isSome) = true := fun t ht => by rw [List.any_eq_true]; exact ⟨_, ht, rfl⟩
  generalize e.tys.any (·.isSome) = lent at *
  have hR : Reached hp (cargs.flatMap LV.refs) ids xs [] := reach_ok 1000 _ [] [] ⟨List.nodup_nil, rfl, fun _ _ _ h => by simp at h, fun _ h => by simp at h, fun r h => .inr h⟩ hreach
  generalize hβc : β.can (OwnBy hp β ids) w lent ids = βc
  have hcan : HRel w (chpOf ids xs) βc βc (chpOf ids xs) w := hβc ▸ can_rel hh hR
  have hover : Over (posn ids) β βc (kd hp) (kd (chpOf ids xs)) false := hβc ▸ can_over hR
  have hcb : ∀ {j i}, ids[j]? = some i → βc.b j = β.b i := fun hj => by subst hβc; show β.b _ = _; rw [getD_of hj]
  have hch : ∀ {j i}, ids[j]? = some i → βc.h j = β.h i := fun hj => by subst hβc; show β.h _ = _; rw [getD_of hj]
  have hcargs : All2 (LV.den βc (kd (chpOf ids xs))) (cargs.map (LV.mapo (posn ids))) vals := by
    refine lendArgs_ok hh hover (own := OwnBy hp β ids) hl hargs (fun t ht v l hlt => ?_) fun b ⟨i, x, h1, h2, h3⟩ => ⟨i, x, h1, h2, fun hm => hdis i hm h3⟩
    subst hβc
    exact .inr ⟨hlent t ht, hlt⟩
  refine (he.calls _ _ _ (back_holds hf h) βc w vals hcan hcargs).mono ?_
  rintro en w' ⟨val, βr, r, hp', rfl, ⟨d, ⟨hnr, hfresh, hq⟩, rfl⟩, hden, h'⟩
  -- the numbers
  have hgid : ∀ {j i}, ids[j]? = some i → gOf ids id j = i := fun hj => by simp only [gOf, hj]
  have hgnew : ∀ {j : Nat}, ids.length ≤ j → gOf ids id j = id + (j - ids.length) := by
    intro j hj
    have : ids[j]? = none := List.getElem?_eq_none hj
    simp only [gOf, this]
  have hlen : (chpOf ids xs).length = ids.length := by simp [chpOf, hR.len]
  have hnone : ∀ {j x}, (j, x) ∈ d → ids.length ≤ j → kd hp (gOf ids id j) = none := fun hm hj => hfresh _ _ (mem_mapD.2 ⟨_, _, hm, rfl, rfl⟩) (by rw [hgnew hj]; omega)
  let J : Nat → Prop := fun j => j < ids.length ∨ ∃ x, (j, x) ∈ d
  let U : Nat → Prop := fun i => posn ids i = none
  have hsome : ∀ {j i}, ids[j]? = some i → kd hp i ≠ none := fun hj e => by
    obtain ⟨x, h1, _⟩ := chp_of hR hj
    rw [kd_of h1] at e; cases e
  have hinj : ∀ j k, J j → J k → gOf ids id j = gOf ids id k → j = k := by
    intro j k hj hk e
    by_cases h1 : j < ids.length <;> by_cases h2 : k < ids.length
    · have e1 := List.getElem?_eq_getElem h1
      have e2 := List.getElem?_eq_getElem h2
      rw [hgid e1, hgid e2] at e
      have k1 := posn_of hR.nodup e1
      have k2 := posn_of hR.nodup e2
      rw [e, k2] at k1; exact (Option.some.inj k1).symm
    · have e1 := List.getElem?_eq_getElem h1
      obtain ⟨x, hx⟩ := hk.resolve_left h2
      exact absurd (by rw [← hgid e1, e]; exact hnone hx (by omega)) (hsome e1)
    · have e2 := List.getElem?_eq_getElem h2
      obtain ⟨x, hx⟩ := hj.resolve_left h1
      exact absurd (by rw [← hgid e2, ← e]; exact hnone hx (by omega)) (hsome e2)
    · rw [hgnew (by omega), hgnew (by omega)] at e; omega
  have hmir0 : Mir (gOf ids id) J U lent hp (chpOf ids xs) hp := by
    refine ⟨fun j y hj => .inl ?_, fun j y hj => ?_, fun i x hi => ?_, fun e1 j y hj => ?_⟩
    · rw [← hlen]; exact (List.getElem?_eq_some_iff.1 hj).1
    · obtain ⟨i, x, h1, h2, h3, rfl⟩ := chp_get hR hj
      rw [hgid h1, item_back fun r hr => ?_]
      · exact h2
      · have hm := (hR.refs x (List.mem_of_getElem? h3) r hr).resolve_right (by simp)
        obtain ⟨k, hk⟩ := posn_mem hm
        exact ⟨k, hk, hgid (posn_get hk)⟩
    · cases hpos : posn ids i with
      | none => exact .inr ⟨hi, hpos⟩
      | some j =>
        obtain ⟨x', h1, h2, h3⟩ := chp_of hR (posn_get hpos)
        exact .inl ⟨j, _, h3, hgid (posn_get hpos)⟩
    · obtain ⟨i, x, h1, h2, h3, rfl⟩ := chp_get hR hj
      have hx := hnrx e1
      rw [List.all_eq_true] at hx
      have hx' := hx x (List.mem_of_getElem? h3)
      cases x with
      | blk cells el =>
        simp only [Item.mapo, Item.nr, List.all_map] at hx' ⊢
        rw [List.all_eq_true] at hx' ⊢
        exact fun s hs => SV.nr_mapo (hx' s hs)
      | _ => rfl
  have hmir := mir_apply hinj d (fun j x hm => .inr ⟨x, hm⟩) (fun e1 => (hnr e1).2) hmir0
  generalize hhp2 : applyD (mapD (gOf ids id) d) hp = hp2 at *
  generalize applyD d (chpOf ids xs) = hp1 at *
  -- the new environment
  let β2 : Env := ⟨backTo hp ids id βr.b β.b, backTo hp ids id βr.h β.h, fun pm v t l => match pm with
    | true => βr.rd true v t l
    | false => if lent = true then β.rd false v t l else βr.rd false v t l⟩
  have back_g : ∀ {α : Type} (F F0 : Nat → α) {j : Nat}, J j → backTo hp ids id F F0 (gOf ids id j) = F j := by
    intro α F F0 j hj
    by_cases h1 : j < ids.length
    · have e1 := List.getElem?_eq_getElem h1
      simp only [backTo, hgid e1, posn_of hR.nodup e1]
    · obtain ⟨x, hx⟩ := hj.resolve_left h1
      have hn := hnone hx (by omega)
      have hp0 : posn ids (gOf ids id j) = none := by
        cases hq : posn ids (gOf ids id j) with
        | none => rfl
        | some k => exact absurd hn (hsome (posn_get hq))
      simp only [backTo, hp0]
      rw [if_pos ⟨hn, by rw [hgnew (by omega)]; omega⟩, hgnew (by omega)]
      congr 1; omega
  have back_u : ∀ {α : Type} (F F0 : Nat → α) {i : Nat} {k : Kd}, kd hp i = some k → posn ids i = none → backTo hp ids id F F0 i = F0 i := by
    intro α F F0 i k hi hp0
    simp only [backTo, hp0]
    rw [if_neg (by rw [hi]; simp)]
  have hover2 : Over (fun j => some (gOf ids id j)) βr β2 (kd hp1) (kd hp2) lent := by
    refine ⟨fun b j hj hb => ?_, fun i j c hj hi => ?_, fun v t l h => h, fun e1 v t l h => by show (if lent = true then _ else _ : Prop); rw [if_neg (by simp [e1])]; exact h⟩
    · cases hj
      obtain ⟨y, h1, h2⟩ := kd_some hb
      exact ⟨by rw [kd_of (hmir.fwd _ _ h1), Item.mapo_kd, h2], back_g _ _ (hmir.live _ _ h1)⟩
    · cases hj
      obtain ⟨y, h1, h2⟩ := kd_some hi
      exact ⟨by rw [kd_of (hmir.fwd _ _ h1), Item.mapo_kd, h2], back_g _ _ (hmir.live _ _ h1)⟩
  have hrd2 : ∀ pm v t l, β.rd pm v t l → β2.rd pm v t l := by
    intro pm v t l hr
    cases pm with
    | true => exact h'.first.rd true v t l (hover.rdt _ _ _ hr)
    | false =>
      show (if lent = true then _ else _ : Prop)
      split
      · exact hr
      · exact h'.first.rd false v t l (hover.rdf rfl _ _ _ hr)
  -- an item that was not reached
  have hunown : ∀ {i x b}, hp[i]? = some (some x) → posn ids i = none → Owns β x i b → b < w.heap.size ∧ ¬ OwnBy hp β ids b := by
    intro i x b hi hp0 ho
    refine ⟨(hh.items i x hi).lt ho, fun ⟨k, y, h1, h2, h3⟩ => ?_⟩
    have := hh.inj i k x y b hi h1 ho h2
    subst this
    exact posn_none hp0 h3
  have hkeep : ∀ {b}, b < w.heap.size → ¬ OwnBy hp β ids b → w'.heap[b]? = w.heap[b]? := fun hb hn => h'.keep _ hb fun k => hn (can_owned hR (hβc ▸ k))
  have hstay : ∀ {i x}, hp[i]? = some (some x) → posn ids i = none → hp2[i]? = some (some x) := by
    intro i x hi hp0
    have : i ∉ (mapD (gOf ids id) d).map (·.1) := by
      intro hm
      obtain ⟨⟨i', z⟩, h1, h2⟩ := List.mem_map.1 hm
      simp at h2; subst h2
      obtain ⟨j, y, h3, e1, e2⟩ := mem_mapD.1 h1
      by_cases hj : j < ids.length
      · have k1 := List.getElem?_eq_getElem hj
        have := posn_none hp0
        exact this (by rw [e1, hgid k1]; exact List.getElem_mem hj)
      · have := hnone h3 (by omega)
        rw [← e1, kd_of hi] at this; cases this
    rw [← hhp2]
    exact itemAt_some (by rw [itemAt_applyD this]; exact itemAt_of hi)
  have hag : Agree β β2 (kd hp) (kd hp2) := by
    refine ⟨fun i hi => ?_, fun i c hi => ?_, hrd2⟩
    · obtain ⟨x, hx, hk⟩ := kd_some hi
      cases hpos : posn ids i with
      | none => exact ⟨by rw [kd_of (hstay hx hpos), hk], back_u _ _ hi hpos⟩
      | some j =>
        have h1 := posn_get hpos
        obtain ⟨k1, k2⟩ := hover.blk _ _ hpos hi
        obtain ⟨k3, k4⟩ := h'.first.blk _ k1
        obtain ⟨k5, k6⟩ := hover2.blk _ _ rfl k3
        rw [hgid h1] at k5 k6
        exact ⟨k5, by rw [k6, k4, k2]⟩
    · obtain ⟨x, hx, hk⟩ := kd_some hi
      cases hpos : posn ids i with
      | none => exact ⟨c, by rw [kd_of (hstay hx hpos), hk], Nat.le_refl _, fun _ => back_u _ _ hi hpos⟩
      | some j =>
        have h1 := posn_get hpos
        obtain ⟨k1, k2⟩ := hover.own _ _ _ hpos hi
        obtain ⟨c', k3, k4, k4'⟩ := h'.first.own _ _ k1
        obtain ⟨k5, k6⟩ := hover2.own _ _ _ rfl k3
        rw [hgid h1] at k5 k6
        exact ⟨c', k5, k4, fun e1 => by rw [k6, k4' e1, k2]⟩
  have hgo : ∀ {j y b}, hp1[j]? = some (some y) → (Owns β2 (y.mapo fun j => some (gOf ids id j)) (gOf ids id j) b ↔ Owns βr y j b) := fun hj => Owns.mapo (back_g _ _ (hmir.live _ _ hj)) (back_g _ _ (hmir.live _ _ hj))
  have huo : ∀ {i x b}, hp[i]? = some (some x) → posn ids i = none → (Owns β2 x i b ↔ Owns β x i b) := fun hi hp0 => Owns.congr (back_u _ _ (kd_of hi) hp0) (back_u _ _ (kd_of hi) hp0)
  have hgown : ∀ {j y b}, hp1[j]? = some (some y) → Owns βr y j b → w.heap.size ≤ b ∨ OwnBy hp β ids b := fun hj ho => (h'.own _ _ _ hj ho).imp (fun h => h) fun ⟨y, k⟩ => can_owned (own := OwnBy hp β ids) (w := w) (lent := lent) hR (hβc.symm ▸ ⟨_, y, k⟩)
  have hsplit : ∀ {i z}, hp2[i]? = some (some z) → (∃ j y, hp1[j]? = some (some y) ∧ i = gOf ids id j ∧ z = y.mapo fun j => some (gOf ids id j)) ∨ (hp[i]? = some (some z) ∧ posn ids i = none) := by
    intro i z hi
    rcases hmir.bwd i z hi with ⟨j, y, h1, h2⟩ | h1
    · have := hmir.fwd j y h1
      rw [h2, hi] at this
      exact .inl ⟨j, y, h1, h2.symm, by simpa using this⟩
    · exact .inr h1
  have howned2 : ∀ {b}, Owned hp2 β2 b → Owned hp1 βr b ∨ ∃ i x, hp[i]? = some (some x) ∧ posn ids i = none ∧ Owns β x i b := by
    rintro b ⟨i, z, hi, ho⟩
    rcases hsplit hi with ⟨j, y, h1, rfl, rfl⟩ | ⟨h1, h2⟩
    · exact .inl ⟨j, y, h1, (hgo h1).1 ho⟩
    · exact .inr ⟨i, z, h1, h2, (huo h1 h2).1 ho⟩
  refine ⟨r.mapo fun j => some (gOf ids id j), mapD (gOf ids id) d, val, β2, hq, rfl, ?_, ?_⟩
  · rw [hhp2]
    exact LV.den_over hover2 (fun e1 => (hnr e1).1) hden
  rw [hhp2]
  refine ⟨fun i z hi => ?_, fun i k x y b hi hk h1 h2 => ?_, hag, fun i z b hi ho => ?_, h'.os, h'.output, h'.size, fun b hb hno2 => ?_, fun pm v t l hr => ?_, fun pm v t l b hr hb => ?_⟩
  · rcases hsplit hi with ⟨j, y, h1, rfl, rfl⟩ | ⟨h1, h2⟩
    · exact ItemOk.over hover2 (fun e1 => hmir.nr e1 _ _ h1) (fun _ => back_g _ _ (hmir.live _ _ h1)) (fun _ _ => back_g _ _ (hmir.live _ _ h1)) (h'.items j y h1)
    · exact (hh.items i z h1).of hag (back_u _ _ (kd_of h1) h2) (back_u _ _ (kd_of h1) h2) fun b ho => hkeep (hunown h1 h2 ho).1 (hunown h1 h2 ho).2
  · rcases hsplit hi with ⟨j, y', a1, rfl, rfl⟩ | ⟨a1, a2⟩ <;> rcases hsplit hk with ⟨j2, y2, b1, rfl, rfl⟩ | ⟨b1, b2⟩
    · rw [h'.inj j j2 y' y2 b a1 b1 ((hgo a1).1 h1) ((hgo b1).1 h2)]
    · have k1 := hunown b1 b2 ((huo b1 b2).1 h2)
      rcases hgown a1 ((hgo a1).1 h1) with k2 | k2
      · omega
      · exact absurd k2 k1.2
    · have k1 := hunown a1 a2 ((huo a1 a2).1 h1)
      rcases hgown b1 ((hgo b1).1 h2) with k2 | k2
      · omega
      · exact absurd k2 k1.2
    · exact hh.inj i k x y b a1 b1 ((huo a1 a2).1 h1) ((huo b1 b2).1 h2)
  · rcases hsplit hi with ⟨j, y, a1, rfl, rfl⟩ | ⟨a1, a2⟩
    · refine (h'.own _ _ _ a1 ((hgo a1).1 ho)).imp (fun h => h) fun ⟨y2, k1, k2⟩ => ?_
      obtain ⟨i', x', e1, e2, _, rfl⟩ := chp_get hR k1
      rw [hgid e1]
      exact ⟨x', e2, (Owns.mapo (hcb e1) (hch e1)).1 k2⟩
    · exact .inr ⟨z, a1, (huo a1 a2).1 ho⟩
  · exact hkeep hb fun ⟨k, x, k1, k2, _⟩ => hno2 ⟨k, x, k1, k2⟩
  · have hnotu : ∀ {b}, (b < w'.heap.size ∧ ¬ Owned hp1 βr b) → (∀ i x, hp[i]? = some (some x) → posn ids i = none → ¬ Owns β x i b) → b < w'.heap.size ∧ ¬ Owned hp2 β2 b := by
      rintro b ⟨h1, h2⟩ h3
      refine ⟨h1, fun k => ?_⟩
      rcases howned2 k with k | ⟨i, x, k1, k2, k3⟩
      · exact h2 k
      · exact h3 i x k1 k2 k3
    have hfar : ∀ {pm v t l b}, (pm = true ∨ lent = false) → βr.rd pm v t l → inBlock v b → ∀ i x, hp[i]? = some (some x) → posn ids i = none → ¬ Owns β x i b := by
      intro pm v t l b hpm hr hb i x hi hp0 ho
      have hlt := (hh.items i x hi).lt ho
      rcases h'.from_ pm v t l b hr hb with k | ⟨pm', v', t', l', k0, k1, k2⟩
      · omega
      · have k1' : β.rd pm' v' t' l' := by
          subst hβc
          cases pm' with
          | true => exact k1
          | false =>
            rcases hpm with hpm | hpm
            · cases k0 hpm
            · rcases k1 with k1 | ⟨k1, _⟩
              · exact k1
              · rw [hpm] at k1; cases k1
        exact (hh.reads _ _ _ _ k1').2 b k2 |>.2 ⟨i, x, hi, ho⟩
    have hplain : ∀ {pm v t l}, β.rd pm v t l → ReadsAs β2 pm w' v t l ∧ ∀ b, inBlock v b → b < w'.heap.size ∧ ¬ Owned hp2 β2 b := by
      intro pm v t l hr
      obtain ⟨h1, h2⟩ := hh.reads _ _ _ _ hr
      refine ⟨(h1.of fun b hb hlt => hkeep hlt fun ⟨k, x, k1, k2, _⟩ => (h2 b hb).2 ⟨k, x, k1, k2⟩).mono hrd2, fun b hb => ?_⟩
      refine ⟨Nat.lt_of_lt_of_le (h2 b hb).1 h'.size, fun k => ?_⟩
      rcases howned2 k with ⟨j, y, k1, k2⟩ | ⟨i, x, k1, k2, k3⟩
      · rcases hgown k1 k2 with k3 | ⟨i, x, k3, k4, _⟩
        · have := (h2 b hb).1; omega
        · exact (h2 b hb).2 ⟨i, x, k3, k4⟩
      · exact (h2 b hb).2 ⟨i, x, k1, k3⟩
    cases pm with
    | true =>
      obtain ⟨h1, h2⟩ := h'.reads true v t l hr
      refine ⟨?_, fun b hb => hnotu (h2 b hb) (hfar (.inl rfl) hr hb)⟩
      obtain ⟨a, n, c, rfl, hn, hc, hz, hrr⟩ := h1
      refine ⟨a, n, c, rfl, hn, hc, hz, fun h0 => ?_⟩
      obtain ⟨a0, vss, rfl, k1, k2, k3⟩ := hrr h0
      exact ⟨a0, vss, rfl, k1, k2.imp fun _ _ => t.has_over hover2.rdt, k3⟩
    | false =>
      have hr' : (if lent = true then β.rd false v t l else βr.rd false v t l) := hr
      split at hr'
      · exact hplain hr'
      · rename_i hl0
        have hl0' : lent = false := by simpa using hl0
        obtain ⟨h1, h2⟩ := h'.reads false v t l hr'
        refine ⟨h1.mono fun pm v t l hr => ?_, fun b hb => hnotu (h2 b hb) (hfar (.inr hl0') hr' hb)⟩
        cases pm with
        | true => exact hr
        | false => show (if lent = true then _ else _ : Prop); rw [if_neg hl0]; exact hr
  · have hback : ∀ {pm' v' t' l'}, βc.rd pm' v' t' l' → (pm' = true ∨ lent = false) → β.rd pm' v' t' l' := by
      intro pm' v' t' l' k1 hpm
      subst hβc
      cases pm' with
      | true => exact k1
      | false =>
        rcases k1 with k1 | ⟨k1, _⟩
        · exact k1
        · rcases hpm with hpm | hpm
          · cases hpm
          · rw [hpm] at k1; cases k1
    cases pm with
    | true =>
      rcases h'.from_ true v t l b hr hb with k | ⟨pm', v', t', l', k0, k1, k2⟩
      · exact .inl k
      · exact .inr ⟨pm', v', t', l', k0, hback k1 (.inl (k0 rfl)), k2⟩
    | false =>
      have hr' : (if lent = true then β.rd false v t l else βr.rd false v t l) := hr
      split at hr'
      · exact .inr ⟨false, v, t, l, (fun h => h), hr', hb⟩
      · rename_i hl0
        have hl0' : lent = false := by simpa using hl0
        rcases h'.from_ false v t l b hr' hb with k | ⟨pm', v', t', l', k0, k1, k2⟩
        · exact .inl k
        · exact .inr ⟨pm', v', t', l', k0, hback k1 (.inr hl0'), k2⟩
def look (f : FuncId) : List (FuncId × Ent) → Option Ent
  | [] => none
  | (g, e) :: l => if g = f then some e else look f l
def gamOf (tab : List (FuncId × Ent)) : Gam := ⟨fun f id args => match look f tab with
  | some e => callA e id args
  | none => .ret .fail⟩
theorem look_ok {P : Program} : ∀ {tab : List (FuncId × Ent)} {f : FuncId} {e : Ent}, (∀ p ∈ tab, p.2.Ok P p.1) → look f tab = some e → e.Ok P f
  | [], _, _, _, h => by cases h
  | (g, e') :: l, f, e, hp, h => by
    simp only [look] at h
    split at h
    · rename_i hg; subst hg; obtain rfl := Option.some.inj h; exact hp (g, e') (by simp)
    · exact look_ok (fun p hm => hp p (List.mem_cons_of_mem _ hm)) h
theorem gam_ok {P : Program} {tab : List (FuncId × Ent)} (h : ∀ p ∈ tab, p.2.Ok P p.1) : GOk P (gamOf tab) := by
  refine ⟨fun f id args hp hf Q hq W hp₀ β₀ β w vals hh hargs => ?_⟩
  simp only [gamOf] at hf hq
  split at hq
  · rename_i e he
    rw [he] at hf
    have hok := look_ok h he
    refine (callA_ok hok hf hq hh.self hargs).mono ?_
    rintro en w' ⟨v, d, val, β', h1, h2, h3, h4⟩
    exact ⟨v, d, val, β', h1, h2, h3, hh.trans h4, h4.first⟩
  · exact hq.elim
end Go.Ev
end
