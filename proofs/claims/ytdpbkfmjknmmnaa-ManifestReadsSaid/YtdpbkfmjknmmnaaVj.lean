/- A reader of code, third make: conversions, parts of slices, new slices; every operation. -/
import Derived.Test.YtdpbkfmjknmmnaaVi
import Derived.Laws.BitsLemmas
import Derived.Laws.NewFold
set_option linter.unusedVariables false
set_option linter.unusedSimpArgs false
namespace Go.Ev
open Go

theorem add_add' (a : Addr) (i j : Nat) : (a.add i).add j = a.add (i + j) := by
  obtain ⟨b, o, s⟩ := a
  by_cases hi : i = 0
  · subst hi
    have : (⟨b, o, s⟩ : Addr).add 0 = ⟨b, o, s⟩ := if_pos rfl
    rw [this, Nat.zero_add]
  · have : (⟨b, o, s⟩ : Addr).add i = ⟨b, o + i, none⟩ := if_neg hi
    rw [this, addr_add]
    unfold Addr.add
    rw [if_neg (by omega), Nat.add_assoc]
theorem wrap_small {n : Int} (h0 : 0 ≤ n) (h1 : n ≤ 9223372036854775807) : IntKind.i64.wrap n = n := by rw [IntKind.wrap_i64]; omega

theorem run_markStringish {P : Program} {w : World} {a : Addr} {cs : List Value} {elem : TypeId} {fz : Nat × Nat} (h : w.heap[a.block]? = some (.cells cs.toArray elem fz)) (hf : FzOk fz cs.length) :
    ∃ w' fz', (markStringish a).run P w = .ok () w' ∧ w'.heap[a.block]? = some (.cells cs.toArray elem fz') ∧ FzOk fz' cs.length ∧ (∀ b, b ≠ a.block → w'.heap[b]? = w.heap[b]?) ∧ w'.heap.size = w.heap.size ∧ w'.os = w.os ∧ w'.output = w.output := by
  have hsh : w.shape? a.block = some (elem, cs.length) := by simp [World.shape?, h]
  refine ⟨w.freeze ⟨a.block, cs.length, none⟩ 1, if fz.1 == fz.2 then (cs.length, cs.length + 1) else (min fz.1 cs.length, max fz.2 (cs.length + 1)), ?_, ?_, ?_, ?_, ?_, ?_, ?_⟩
  · simp [markStringish, hsh]
  · obtain ⟨lo, hi⟩ := fz
    simp only [World.freeze, Nat.one_ne_zero, if_false, Array.getElem?_modify, if_true, h]
    rfl
  · unfold FzOk at hf ⊢
    split
    · exact .inr (Nat.le_refl _)
    · rename_i hne
      have : fz.1 ≠ fz.2 := by simpa using hne
      right; simp only; omega
  · intro b hb
    simp only [World.freeze, Nat.one_ne_zero, if_false, Array.getElem?_modify]
    rw [if_neg (fun e => hb e.symm)]
  · simp [World.freeze]
  · simp [World.freeze]
  · simp [World.freeze]

theorem rep_flat {z : List Value} {s : Nat} (hz : z.length = s) (d : Value) : ∀ n : Nat, (List.range (n * s)).map (fun i => z.getD (i % s) d) = (List.replicate n z).flatten
  | 0 => by simp
  | n + 1 => by
    rw [Nat.succ_mul, List.range_add, List.map_append, rep_flat hz d n, List.replicate_succ', List.flatten_append]
    congr 1
    rw [List.map_map]
    simp only [List.flatten_cons, List.flatten_nil, List.append_nil]
    apply List.ext_getElem
    · simp [hz]
    · intro i h1 h2
      have hi : i < s := by simpa using h1
      simp [List.getD, Nat.add_mod, Nat.mod_eq_of_lt hi, hz, hi]
theorem denL_rep {β : Env} {L : Nat → Option Kd} {z : List SV} {zc : List Value} (h : DenL β L z zc) : ∀ n : Nat, DenL β L ((List.replicate n z).flatten) ((List.replicate n zc).flatten)
  | 0 => .nil
  | n + 1 => by simp only [List.replicate_succ, List.flatten_cons]; exact h.append (denL_rep h n)
theorem hasL_rep {α : Type} {R : α → List Value → Prop} {x : α} {zc : List Value} (h : R x zc) : ∀ n : Nat, HasL R (List.replicate n x) ((List.replicate n zc).flatten)
  | 0 => .nil
  | n + 1 => by simp only [List.replicate_succ, List.flatten_cons]; exact .cons h (hasL_rep h n)
theorem arr_range_map {z : Value} {s : Nat} (n : Nat) (hz : z.cells.size = s) : (Array.range (n * s)).map (fun i => z.cells[i % z.cells.size]!) = ((List.replicate n z.cells.toList).flatten).toArray := by
  apply Array.ext'
  rw [← rep_flat (z := z.cells.toList) (s := s) (by simpa using hz) default n, hz]
  simp only [Array.toList_map, Array.toList_range]
  apply List.map_congr_left
  intro i _
  simp [Array.getElem!_eq_getD, Array.getD_eq_getD_getElem?, List.getD]

section
variable {P : Program} {st : St} {o : Oper} {q : Option Prop} {v : LV} {d : List (Nat × Item)}

/-- an own slice in a new block -/
theorem ownOk_new {β : Env} {w : World} {b : Nat} {t : Ty} {l : List t.D} {vss rest : List Value} {elem : TypeId} {fz : Nat × Nat} {c : Nat} (hw : w.heap[b]? = some (.cells (vss ++ rest).toArray elem fz)) (hl : HasL (t.has β true) l vss)
    (hc : l.length ≤ c) (hr : (c - l.length) * t.w ≤ rest.length) (hf : FzOk fz (vss ++ rest).length) : OwnOk β w (.slice (some ⟨b, 0, none⟩) l.length c) t l :=
  ⟨_, _, _, rfl, rfl, hc, by simp, fun _ => ⟨_, [], vss, rest, elem, fz, rfl, rfl, by simpa using hw, rfl, hl, hr, by simpa using hf⟩⟩

theorem conv_ok {id : Nat} {src dst : TypeId} {x : Operand} {s : SV} (ho : o.op = .convert src dst x) (hx : opSc (ev st x) = some s) (h : (convEv P id src dst s).val st.hp = some (q, v, d)) (hid : (∃ x, (id, x) ∈ d) → kd st.hp id = none) : OpOk P o st q v d := by
  unfold convEv at h
  split at h
  · rename_i d' k hs hdst
    simp only [Ask.val] at h
    split at h
    · rename_i k' n
      simp at h; obtain ⟨rfl, rfl, rfl⟩ := h
      refine OpOk.pure fun _ W hp₀ β₀ β a w hr => ?_
      have e : a.eval x = .int k' n.val := opSc_den hx (ev_den hr x)
      refine ⟨.int k (k.wrap n.val), by simp [execOp, ho, e, convert, run_underlying hs, run_underlying hdst, Conv.intToInt], ?_⟩
      show Value.int k (k.wrap n.val) = .int k (wrapI k n).val
      rw [wrapI_val]
    · cases h
  · rename_i e hs hdst
    split at h
    · rename_i he
      rw [Ask.val_map] at h
      obtain ⟨⟨pm, l⟩, hc, he2⟩ := map_some h
      simp at he2; obtain ⟨rfl, rfl, rfl⟩ := he2
      refine OpOk.pure fun _ W hp₀ β₀ β a w hr => ?_
      have hread := contAs_ok hr.heap hc (opSc_den hx (ev_den hr x))
      have hrun := run_bytesToString (P := P) hread
      obtain ⟨aa, n, c, e1, _⟩ := hread
      refine ⟨_, ?_, rfl⟩
      rw [e1] at hrun
      simp [execOp, ho, e1, convert, run_underlying hs, run_underlying hdst, run_underlying he, hrun]
    · simp [Ask.val] at h
  · rename_i hs hdst
    simp only [Ask.val] at h
    split at h
    · rename_i l hl
      simp at h; obtain ⟨rfl, rfl, rfl⟩ := h
      refine OpOk.pure fun _ W hp₀ β₀ β a w hr => ?_
      have e := strOfS_den hl (opSc_den hx (ev_den hr x))
      exact ⟨.string (strOf l), by simp [execOp, ho, e, convert, run_underlying hs, run_underlying hdst], rfl⟩
    · cases h
  · rename_i e hs hdst
    simp only [Ask.val] at h
    split at h
    · rename_i l he hl
      split at h
      · rename_i hsz
        cases h
        have hid := hid ⟨_, by simp; rfl⟩
        intro _ W hp₀ β₀ β a w hr
        have ex := strOfS_den hl (opSc_den hx (ev_den hr x))
        let s := strOf l
        have hlen : s.size = l.length := strOf_size l
        let cap := (Question.appendCap s.size 0 e).cut (w.tape w.drawn (.appendCap s.size 0 e))
        have hcap : s.size ≤ cap := by simp [cap, Question.cut]
        let vss : List Value := (l.map fun n => ((UInt8.ofNat n.toNat).toNat : Int)).map (.int .u8)
        let rest : List Value := List.replicate (cap - s.size) (.int .u8 0)
        let w1 := w.drew.alloc (.cells (vss ++ rest).toArray e)
        have hw1 : w1.heap[w.heap.size]? = some (.cells (vss ++ rest).toArray e (0, 0)) := heap_alloc_new w.drew _
        obtain ⟨w2, fz', r1, r2, r3, r4, r5, r6, r7⟩ := run_markStringish (P := P) (a := ⟨w.heap.size, 0, none⟩) hw1 (.inl rfl)
        have hhas : HasL ((Ty.int .u8).has β true) (l.map fun n => ((UInt8.ofNat n.toNat).toNat : Int)) vss := by
          show HasL _ _ (List.map _ (List.map _ l))
          generalize (l.map fun n => ((UInt8.ofNat n.toNat).toNat : Int)) = m
          induction m with
          | nil => exact .nil
          | cons x m ih => exact HasL.cons (vs := [_]) rfl ih
        have hown := ownOk_new (c := cap) r2 hhas (by simp; omega) (by simp [rest, Ty.w]; omega) r3
        have hll : (l.map fun n => ((UInt8.ofNat n.toNat).toNat : Int)).length = s.size := by simp [hlen]
        rw [hll] at hown
        obtain ⟨β', h1, h2, h3⟩ := hr.heap.newOwn hid (ver := 0) (w' := w2) (by rw [r5]; show w.heap.size ≤ (w.drew.alloc _).heap.size; rw [World.size_alloc]; exact Nat.le_succ _) (by rw [r6]; rfl) (by rw [r7]; rfl) (fun b hb => by
          rw [r4 b (by show b ≠ w.heap.size; omega)]
          exact heap_alloc_old w.drew _ b hb) hown (fun a n c e _ => by simp at e; obtain ⟨rfl, _⟩ := e; exact Nat.le_refl _)
        refine ⟨β', w2, _, .slice (some ⟨w.heap.size, 0, none⟩) s.size cap, ?_, .inl rfl, ?_, h1, h2⟩
        · have hel : (strOf l).data.map (fun b => Value.int .u8 b.toNat) = vss.toArray := by
            apply Array.ext'
            simp [strOf, vss, List.map_map, Function.comp_def]
          have hel2 : (strOf l).data.map (fun b => Value.int .u8 b.toNat) ++ Array.replicate (cap - s.size) (Value.int .u8 0) = (vss ++ rest).toArray := by
            rw [hel]; apply Array.ext'; simp [rest]
          have hq : (Question.appendCap s.size 0 e).forced = false := rfl
          simp only [execOp, ho, ex, convert, Sem.run_bind, run_underlying hs, run_underlying hdst, run_underlying he, Result.andThen_ok, Conv.stringToBytes, run_choose_drew, hq, Bool.false_eq_true, if_false, newRow, run_newObj, Sem.run_pure]
          show ((Sem.run P (markStringish ⟨w.drew.heap.size, 0, none⟩) (w.drew.alloc (.cells ((strOf l).data.map (fun b => Value.int .u8 b.toNat) ++ Array.replicate (cap - s.size) (Value.int .u8 0)) e))).andThen _).andThen _ = _
          rw [hel2]
          show ((Sem.run P (markStringish ⟨w.heap.size, 0, none⟩) w1).andThen _).andThen _ = _
          rw [r1]; rfl
        · refine ⟨rfl, 0, ?_, Nat.le_refl _, fun _ => h3.symm⟩
          show kd (setAt st.hp id _) id = _
          rw [kd_setAt, if_pos rfl]; rfl
      · cases h
    · cases h
  · rename_i e' e hs hdst
    split at h
    · rename_i i ver
      split at h
      · rename_i hsd
        split at h
        · rename_i he
          simp only [Ask.val] at h
          split at h
          · rename_i ver' l hi
            split at h
            · rename_i hc
              obtain ⟨rfl, hne⟩ := hc
              simp at h; obtain ⟨rfl, rfl, rfl⟩ := h
              intro _ W hp₀ β₀ β a w hr
              have hd := opSc_den hx (ev_den hr x)
              obtain ⟨hok, hh⟩ := hr.heap.ownOf (p := fun v => a.eval x = v) (itemAt_some hi) hd.2
              have hok' := hok
              obtain ⟨a0, n, c, e1, hn, hnc, ha, hrest⟩ := hok
              have hc0 : 0 < c := by
                have : 0 < l.length := List.length_pos_iff.2 hne
                omega
              obtain ⟨a1, pre, vss, rest, elem, fz, rfl, k1, k2, k3, k4, k5, k6⟩ := hrest hc0
              obtain ⟨w', fz', r1, r2, r3, r4, r5, r6, r7⟩ := run_markStringish (P := P) k2 k6
              obtain ⟨β', h1, h2, h3⟩ := hr.heap.updOwn (itemAt_some hi) (ver' := ver) (l' := l) (v := β.h i) (w' := w') (.inr ⟨rfl, rfl⟩) (by omega) r6 r7 (fun b hb hno => r4 b fun e => hno (by subst e; exact ⟨a1, n, c, e1, hc0, rfl⟩))
                (by rw [e1]; exact ⟨_, n, c, rfl, hn, hnc, by simp, fun _ => ⟨a1, pre, vss, rest, elem, fz', rfl, k1, r2, k3, k4, k5, r3⟩⟩) (fun a n c e h0 => .inl ⟨a, n, c, e, h0, rfl⟩)
              refine ⟨β', w', _, a.eval x, ?_, .inl rfl, SV.den_mono h2 hd, h1, h2⟩
              rw [hh, e1]
              subst hsd
              have hee : e' = e := by rw [hs] at hdst; simpa using hdst
              subst hee
              have : a.eval x = .slice (some a1) n c := by rw [hh, e1]
              simp [execOp, ho, this, convert, run_underlying hs, run_underlying he, r1]
            · cases h
          · cases h
        · simp [Ask.val] at h
      · simp [Ask.val] at h
    · simp [Ask.val] at h
  · simp [Ask.val] at h
end
end Go.Ev
