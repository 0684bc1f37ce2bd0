/- A reader of code, third make: the laws of the other operations. -/
import Derived.Test.YtdpbkfmjknmmnaaVh
set_option linter.unusedVariables false
set_option linter.unusedSimpArgs false
namespace Go.Ev
open Go

section
variable {P : Program} {st : St} {o : Oper} {q : Option Prop} {v : LV} {d : List (Nat × Item)}

theorem contOf_ty {hp : Hp} {s : SV} {c : Bool × (t : Ty) × List t.D} (h : (contOf s).val hp = some c) : (contTy s).val hp = some c.2.1 := by
  unfold contOf at h
  rw [Ask.val_bind] at h
  split at h
  · rename_i t ht
    rw [Ask.val_map] at h
    obtain ⟨⟨pm', l'⟩, h1, h2⟩ := map_some h
    subst h2; exact ht
  · cases h

theorem idxAddr_ok {t : TypeId} {x i : Operand} {s : SV} (ho : o.op = .indexAddr t x i) (hx : opSc (ev st x) = some s) (h : (idxAddrEv P t s (ev st i)).val st.hp = some (q, v, d)) : OpOk P o st q v d := by
  unfold idxAddrEv at h
  split at h
  · rename_i b off n e harr
    have hu := arrayT_eq harr
    split at h
    · rename_i sz hs
      split at h
      · rename_i k j hi
        simp only [Ask.val] at h
        split at h
        · rename_i hj
          simp at h; obtain ⟨rfl, rfl, rfl⟩ := h
          refine OpOk.pure fun hq W hp₀ β₀ β a w hr => ?_
          have ei := litNat_den hi (ev_den hr i)
          obtain ⟨hb, ex⟩ := opSc_den hx (ev_den hr x)
          refine ⟨.pointer (some ⟨β.b b, off + j * sz, none⟩), ?_, hb, rfl⟩
          have hb : (0 : Int) ≤ j ∧ (j : Int) < n := by omega
          simp [execOp, ho, ex, ei, Instr.indexAt, asIntOf, underlying, hu, Instr.sureAddr, hb, run_sizeOf hs, addr_add]
          omega
        · cases h
      · split at h
        · rename_i k z hi
          simp only [Ask.val] at h
          have hrun : ∀ {W : World} {hp₀ : Hp} {β₀ β : Env} {a : Act} {w : World}, Rel W hp₀ β₀ β st a w → 0 ≤ z ∧ z < (n : Int) → (execOp a.eval o).run P w = .ok (.value (.pointer (some ⟨β.b b, off + z.toNat * sz, none⟩))) w := by
            intro W hp₀ β₀ β a w hr hb
            have ei := anyInt_den hi (ev_den hr i)
            obtain ⟨_, ex⟩ := opSc_den hx (ev_den hr x)
            simp [execOp, ho, ex, ei, Instr.indexAt, asIntOf, underlying, hu, Instr.sureAddr, hb, run_sizeOf hs, addr_add]
          split at h
          · rename_i cells elem hb
            split at h
            · rename_i ty n' l hrow
              split at h
              · rename_i hc
                obtain ⟨rfl, rfl⟩ := hc
                simp at h; obtain ⟨rfl, rfl, rfl⟩ := h
                refine OpOk.pure fun hq W hp₀ β₀ β a w hr => ?_
                have hb : 0 ≤ z ∧ z < (n' : Int) := hq
                obtain ⟨hb2, _⟩ := opSc_den hx (ev_den hr x)
                refine ⟨_, hrun hr hb, ⟨β.b b, off, none⟩, n', n', ⟨hb2, by omega, by omega, by omega, _, _, rfl, Nat.le_refl _, (fun e => by cases e), fun _ => by simp [addr_add]⟩, hb.1, hb.2, by rw [addr_add, Nat.add_zero]⟩
              · cases h
            · simp at h; obtain ⟨rfl, rfl, rfl⟩ := h
              refine OpOk.pure fun hq W hp₀ β₀ β a w hr => ?_
              have hb : 0 ≤ z ∧ z < (n : Int) := hq
              obtain ⟨hb2, _⟩ := opSc_den hx (ev_den hr x)
              exact ⟨_, hrun hr hb, hb2, by omega, rfl⟩
          · cases h
        · simp [Ask.val] at h
    · simp [Ask.val] at h
  · rename_i b off len cap e harr hsl
    have hu := sliceT_eq hsl
    simp only [Ask.val] at h
    split at h
    · rename_i sz hs
      split at h
      · rename_i k j hi
        split at h
        · rename_i hj
          simp at h; obtain ⟨rfl, rfl, rfl⟩ := h
          refine OpOk.pure fun hq W hp₀ β₀ β a w hr => ?_
          have ei := litNat_den hi (ev_den hr i)
          obtain ⟨hb, ex⟩ := opSc_den hx (ev_den hr x)
          refine ⟨.pointer (some ⟨β.b b, off + j * sz, none⟩), ?_, hb, rfl⟩
          have hb : (0 : Int) ≤ j ∧ (j : Int) < len := by omega
          simp [execOp, ho, ex, ei, Instr.indexAt, asIntOf, underlying, hu, Instr.sureAddr, hb, run_sizeOf hs, addr_add]
          omega
        · cases h
      · split at h
        · rename_i k z hi
          simp at h; obtain ⟨rfl, rfl, rfl⟩ := h
          refine OpOk.pure fun hq W hp₀ β₀ β a w hr => ?_
          have hb : 0 ≤ z ∧ z < (len : Int) := hq
          have ei := anyInt_den hi (ev_den hr i)
          obtain ⟨hb2, ex⟩ := opSc_den hx (ev_den hr x)
          refine ⟨.pointer (some ⟨β.b b, off + z.toNat * sz, none⟩), ?_, hb2, by omega, rfl⟩
          simp [execOp, ho, ex, ei, Instr.indexAt, asIntOf, underlying, hu, Instr.sureAddr, hb, run_sizeOf hs, addr_add]
        · cases h
    · cases h
  · rename_i harr hsl
    have hu := sliceT_eq hsl
    rw [Ask.val_map] at h
    split at h
    · rename_i pm ty l sz k z hc hs hi
      split at h
      · rename_i hw; subst hw
        simp at h; obtain ⟨rfl, rfl, rfl⟩ := h
        refine OpOk.pure fun hq W hp₀ β₀ β a w hr => ?_
        have hb : 0 ≤ z ∧ z < (l.length : Int) := hq
        have ei := anyInt_den hi (ev_den hr i)
        have hd := opSc_den hx (ev_den hr x)
        obtain ⟨a', n', c', ex, hn, _, _, hrest⟩ := contOf_ok hr.heap hc hd
        obtain ⟨a0, _, rfl, _⟩ := hrest (by omega)
        refine ⟨.pointer (some (a0.add (z.toNat * ty.w))), ?_, a0, n', c', by rw [← ex]; exact hd, hb.1, by omega, by rw [Nat.add_zero]⟩
        have hb' : 0 ≤ z ∧ z < (n' : Int) := by omega
        simp [execOp, ho, ex, ei, Instr.indexAt, asIntOf, underlying, hu, Instr.sureAddr, hb', run_sizeOf hs]
      · cases h
    · cases h
  · simp [Ask.val] at h

theorem idx_ok {t : TypeId} {x i : Operand} {y : VV} (ho : o.op = .index t x i) (h : idxEv P t (ev st x) (ev st i) = some (q, y)) : OpOk P o st q (.one y) [] := by
  unfold idxEv at h
  split at h
  · rename_i l n e hx harr
    have hu := arrayT_eq harr
    split at h
    · rename_i sz hs
      split at h
      · rename_i k j hi
        split at h
        · rename_i hj
          obtain ⟨y', hy, he⟩ := map_some h
          simp at he; obtain ⟨rfl, rfl⟩ := he
          refine OpOk.pure fun hq W hp₀ β₀ β a w hr => ?_
          have ei := litNat_den hi (ev_den hr i)
          have hd := ev_den hr x; rw [hx] at hd
          obtain ⟨cs, ex, hd⟩ := hd
          obtain ⟨val, h1, h2⟩ := run_part (P := P) (w := w) hd hy
          refine ⟨val, ?_, h2⟩
          have hb : (0 : Int) ≤ j ∧ (j : Int) < n := by omega
          simp [execOp, ho, ex, ei, Instr.index, asIntOf, underlying, hu, hb, run_sizeOf hs, h1]
          omega
        · cases h
      · split at h
        · rename_i k z hi
          split at h
          · rename_i ty n' m
            split at h
            · rename_i hc
              obtain ⟨rfl, rfl⟩ := hc
              obtain ⟨y', hy, he⟩ := map_some h
              simp at he; obtain ⟨rfl, rfl⟩ := he
              refine OpOk.pure fun hq W hp₀ β₀ β a w hr => ?_
              have hb : 0 ≤ z ∧ z < (n' : Int) := hq
              have ei := anyInt_den hi (ev_den hr i)
              have hd := ev_den hr x; rw [hx] at hd
              obtain ⟨cs, ex, hd⟩ := hd
              obtain ⟨h1, h2⟩ := HasL.of_one hd
              obtain ⟨pa, u, pb, rfl, e1, h3, _⟩ := hasL_elem h2 (j := z.toNat) (by omega)
              have hpart : ∃ val, (part e (pa ++ (u ++ pb)).toArray (z.toNat * ty.w)).run P w = .ok val w ∧ y'.den β (kd st.hp) val := by
                obtain ⟨val, h4, h5⟩ := run_part (P := P) (w := w) (ty.svs_ok (L := kd st.hp) h3) hy
                refine ⟨val, ?_, h5⟩
                have hul := ty.has_length h3
                have hu0 : ∀ m, m ≤ u.length → (u.toArray.extract 0 m) = ((pa ++ (u ++ pb)).toArray.extract (z.toNat * ty.w) (z.toNat * ty.w + m)) := by
                  intro m hm
                  apply Array.ext'
                  simp only [Array.toList_extract, List.extract_eq_take_drop, Nat.sub_zero, List.drop_zero, Nat.add_sub_cancel_left]
                  rw [← e1, List.drop_left, List.take_append_of_le_length hm]
                unfold part at h4 ⊢
                unfold partEv at hy
                split at hy
                · rename_i kk ha hn
                  obtain ⟨s, hs', _⟩ := map_some hy
                  obtain ⟨p1, p2, p3, e2, e3, e4, _⟩ := subL_ok hs' (ty.svs_ok (L := kd st.hp) h3)
                  simp only [Sem.run_bind, run_isAgg ha, Result.andThen_ok, if_true, run_sizeOf hn, Nat.zero_add] at h4 ⊢
                  rw [← hu0 kk (by rw [e2]; simp; omega)]
                  exact h4
                · rename_i kk ha hn
                  obtain ⟨s, hs', _⟩ := map_some hy
                  obtain ⟨vv, hvv, _⟩ := elemL_ok _ _ hs' (ty.svs_ok (L := kd st.hp) h3)
                  simp only [Sem.run_bind, run_isAgg ha, Result.andThen_ok] at h4 ⊢
                  have e5 : (pa ++ (u ++ pb)).toArray[z.toNat * ty.w]? = u.toArray[0]? := by
                    have hlt := (List.getElem?_eq_some_iff.1 hvv).1
                    simp only [List.getElem?_toArray]
                    rw [← e1, List.getElem?_append_right (Nat.le_refl _), Nat.sub_self, List.getElem?_append_left hlt]
                  rw [e5]; exact h4
                · cases hy
              obtain ⟨val, h4, h5⟩ := hpart
              refine ⟨val, ?_, h5⟩
              simp [execOp, ho, ex, ei, Instr.index, asIntOf, underlying, hu, hb, run_sizeOf hs, h4]
            · cases h
          · split at h
            · rename_i items hit
              obtain ⟨y', hy, he⟩ := map_some h
              simp at he; obtain ⟨rfl, rfl⟩ := he
              refine OpOk.pure fun hq W hp₀ β₀ β a w hr => ?_
              have hb : 0 ≤ z ∧ z < (n : Int) := hq
              have ei := anyInt_den hi (ev_den hr i)
              have hd := ev_den hr x; rw [hx] at hd
              obtain ⟨cs, ex, hd⟩ := hd
              obtain ⟨it, hi1, hi2⟩ := partsEv_get hit (j := z.toNat) (by omega)
              rw [Nat.zero_add] at hi2
              obtain ⟨val, h1, h2⟩ := run_part (P := P) (w := w) hd hi2
              refine ⟨val, ?_, selV_ok hi1 h2 hy⟩
              simp [execOp, ho, ex, ei, Instr.index, asIntOf, underlying, hu, hb, run_sizeOf hs, h1]
            · cases h
        · cases h
    · cases h
  · cases h

theorem run_bytesToString {w : World} {β : Env} {pm : Bool} {l : List Int} {v : Value} (h : ReadsAs β pm w v (.int .u8) l) : (Conv.bytesToString v).run P w = .ok (.string (strOf l)) w := by
  obtain ⟨a, n, c, rfl, hn, _, _, hr⟩ := h
  have key : ∀ (l : List Int) (acc : ByteArray), (forIn (l.map (Value.int .u8)) acc (fun c r => (match c with
      | .int .u8 n => Pure.pure (ForInStep.yield (r.push (UInt8.ofNat n.toNat)))
      | _ => do stuck "bytesToString: byte expected"; Pure.pure (ForInStep.yield r) : Sem (ForInStep ByteArray)))).run P w = .ok ⟨acc.data ++ (l.map fun n => UInt8.ofNat n.toNat).toArray⟩ w := by
    intro l
    induction l with
    | nil => intro acc; simp
    | cons x l ih =>
      intro acc
      simp only [List.map_cons, List.forIn_cons, Sem.run_bind, Sem.run_pure, Result.andThen_ok]
      rw [ih]
      simp [ByteArray.push]
  unfold Conv.bytesToString
  cases a with
  | none =>
    rcases Nat.eq_zero_or_pos n with h0 | h0
    · have : l = [] := List.eq_nil_of_length_eq_zero (by omega)
      subst this
      simp; rfl
    · obtain ⟨_, _, e, _⟩ := hr h0; cases e
  | some a =>
    have hload : (loadCells a n).run P w = .ok (l.map (Value.int .u8)).toArray w := by
      rcases Nat.eq_zero_or_pos n with h0 | h0
      · have : l = [] := List.eq_nil_of_length_eq_zero (by omega)
        subst this h0
        rfl
      · obtain ⟨a0, vss, e, _, h2, h3⟩ := hr h0
        simp at e; subst e
        have := ints_has h2
        subst this
        have h4 := run_loadRow (P := P) h3
        rw [List.length_map, ← hn] at h4
        exact h4
    simp only [Sem.run_bind, hload, Result.andThen_ok]
    have := key l ByteArray.empty
    rw [List.forIn_toArray]
    have e := congrArg (fun r => Result.andThen r (fun a w' => Sem.run P (Pure.pure (Value.string a)) w')) this
    refine Eq.trans e ?_
    simp [strOf]
end
end Go.Ev
