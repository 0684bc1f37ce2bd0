/- The reader of code: rounds whose number is not written out; pieces with several ends. -/
import Derived.Test.YtndiiabkoeblgaaEvh
namespace Go.Ev
open Go

/-! ### Written-out numbers forgotten -/
def Blk.norm (b : Blk) : Blk := ⟨b.cells.map SV.norm, b.elem, b.more⟩
/-- the blocks that are named -/
def normH : List Bool → Hp → Hp
  | true :: k, o :: l => o.map Blk.norm :: normH k l
  | false :: k, o :: l => o :: normH k l
  | [], l => l
  | _, [] => []
def St.norm (nb : List Bool) (st : St) : St := ⟨st.fr.map LV.norm, normH nb st.hp⟩

theorem normH_get : ∀ (k : List Bool) (hp : Hp) (i : Nat) (blk : Blk), (normH k hp)[i]? = some (some blk) → ∃ b, hp[i]? = some (some b) ∧ (blk = b ∨ blk = b.norm)
  | true :: k, o :: l, 0, blk, h => by
    simp [normH] at h
    obtain ⟨b, rfl, rfl⟩ := h
    exact ⟨b, rfl, .inr rfl⟩
  | true :: k, o :: l, i + 1, blk, h => by
    simp only [normH, List.getElem?_cons_succ] at h ⊢
    exact normH_get k l i blk h
  | false :: k, o :: l, 0, blk, h => ⟨blk, by simpa [normH] using h, .inl rfl⟩
  | false :: k, o :: l, i + 1, blk, h => by
    simp only [normH, List.getElem?_cons_succ] at h ⊢
    exact normH_get k l i blk h
  | [], l, i, blk, h => ⟨blk, h, .inl rfl⟩
  | true :: _, [], i, blk, h => by simp [normH] at h
  | false :: _, [], i, blk, h => by simp [normH] at h
theorem live_normH : ∀ (k : List Bool) (hp : Hp) (i : Nat), Live (normH k hp) i ↔ Live hp i
  | true :: k, o :: l, 0 => by
    cases o with
    | none => simp [Live, normH]
    | some b => exact ⟨fun _ => ⟨b, rfl⟩, fun _ => ⟨b.norm, rfl⟩⟩
  | true :: k, o :: l, i + 1 => by
    have := live_normH k l i
    simpa [Live, normH] using this
  | false :: k, o :: l, 0 => by simp [Live, normH]
  | false :: k, o :: l, i + 1 => by
    have := live_normH k l i
    simpa [Live, normH] using this
  | [], l, i => Iff.rfl
  | true :: _, [], i => by simp [Live, normH]
  | false :: _, [], i => by simp [Live, normH]
theorem live_normH_eq (k : List Bool) (hp : Hp) : Live (normH k hp) = Live hp := funext fun i => propext (live_normH k hp i)

theorem Rel.norm {W : World} {m : Nat → Prop} {β₀ β : Nat → Nat} {st : St} {a : Act} {w : World} (nb : List Bool) (h : Rel W m β₀ β st a w) : Rel W m β₀ β (st.norm nb) a w := by
  refine ⟨h.defers, ?_, ?_⟩
  · show All2 (LV.den β (Live (normH nb st.hp))) (st.fr.map LV.norm) _
    rw [live_normH_eq]
    exact h.fr.map_left fun _ _ => LV.norm_den
  · constructor
    · intro i blk hi
      show RowOk β (Live (normH nb st.hp)) blk _
      rw [live_normH_eq]
      obtain ⟨b, h1, rfl | rfl⟩ := normH_get _ _ _ _ hi
      · exact h.heap.rows i _ h1
      · obtain ⟨c, rest, fz, h2, h3, h4, h5⟩ := h.heap.rows i b h1
        exact ⟨c, rest, fz, h2, h3, h4, h5.map_left fun _ _ => SV.norm_den⟩
    · intro i j hi hj; exact h.heap.inj i j ((live_normH _ _ _).1 hi) ((live_normH _ _ _).1 hj)
    · intro i hi; exact ⟨(h.heap.first i hi).1, (live_normH _ _ _).2 (h.heap.first i hi).2⟩
    · intro i h1 hi; exact h.heap.new i h1 ((live_normH _ _ _).1 hi)
    · exact h.heap.os
    · exact h.heap.output
    · exact h.heap.size
    · exact h.heap.keep

/-- some slots and the first blocks, as numbers -/
def St.cutn (keep : List Bool) (nb : List Bool) (n : Nat) (st : St) : St := (st.cut keep n).norm nb
theorem Rel.cutn {W : World} {m : Hp} {β₀ β : Nat → Nat} {st : St} {a : Act} {w : World} (h : Rel W (Live m) β₀ β st a w) (keep nb : List Bool) {n : Nat} (hm : m.length ≤ n) : Rel W (Live m) β₀ β (st.cutn keep nb n) a w :=
  (h.cut keep hm).norm nb

section
variable {P : Program} {m : Hp} {c : Code} {st s : St} {r : Res} {keep nb : List Bool} {n : Nat}

theorem Ex.from_cutn (h : Ex P m c (st.cutn keep nb n) r) (hm : m.length ≤ n) : Ex P m c st r :=
  fun W β₀ R Q hs hq β a w hr => h W β₀ R Q hs hq β a w (hr.cutn keep nb hm)

/-- one end is known -/
theorem Ex.of_sat {e : Exit} (h : Ex P m c st r) (hs : r.sat fun e' s' => e' = e ∧ s'.cutn keep nb n = s) (hm : m.length ≤ n) : Ex P m c st (.leaf e s) := by
  intro W β₀ R Q hR hq β a w hr
  refine h W β₀ _ Q hs ?_ β a w hr
  rintro e' a w ⟨t, β', ⟨rfl, rfl⟩, h2⟩
  exact hq _ _ _ ⟨_, β', hR, h2.cutn keep nb hm⟩
theorem Ex.sat (h : Ex P m c st r) {e : Exit} (hs : r.sat fun e' s' => e' = e ∧ s' = s) : Ex P m c st (.leaf e s) := by
  intro W β₀ R Q hR hq β a w hr
  refine h W β₀ _ Q hs ?_ β a w hr
  rintro e' a w ⟨t, β', ⟨rfl, rfl⟩, h2⟩
  exact hq _ _ _ ⟨_, β', hR, h2⟩

/-- the ends, each cut -/
def Res.cutn (keep nb : List Bool) (n : Nat) : Res → Res
  | .leaf e s => .leaf e (s.cutn keep nb n)
  | .ite b t e => .ite b (t.cutn keep nb n) (e.cutn keep nb n)
  | .need p r => .need p (r.cutn keep nb n)
  | .fail => .fail
theorem cutn_sat {keep nb : List Bool} {n : Nat} {R : Exit → St → Prop} : ∀ {r : Res}, (r.cutn keep nb n).sat R → r.sat fun e s => R e (s.cutn keep nb n)
  | .leaf _ _, h => h
  | .ite _ _ _, h => ⟨fun e => cutn_sat (h.1 e), fun e => cutn_sat (h.2 e)⟩
  | .need _ _, h => ⟨h.1, cutn_sat h.2⟩
  | .fail, h => h
theorem Ex.cutn (h : Ex P m c st r) (keep nb : List Bool) (n : Nat) (hm : m.length ≤ n) : Ex P m c st (r.cutn keep nb n) := by
  intro W β₀ R Q hR hq β a w hr
  refine h W β₀ _ Q (cutn_sat hR) ?_ β a w hr
  rintro e a w ⟨t, β', h1, h2⟩
  exact hq _ _ _ ⟨_, β', h1, h2.cutn keep nb hm⟩
theorem ex_cutn {G : Gam} (hG : GOk P G) (hmix : P.follows .mixedOrders = true) (hm : m.length ≤ n) (h : (exec P G m c st).cutn keep nb n = r) : Ex P m c st r :=
  h ▸ (Ex.of_exec hG hmix rfl).cutn keep nb n hm

/-- the way that is gone -/
def Way (r : Res) (e : Exit) (s : St) : Prop := r.sat fun e' s' => e' = e ∧ s' = s
theorem Ex.way (h : Ex P m c st r) {e : Exit} (hs : Way r e s) : Ex P m c st (.leaf e s) := h.sat hs
theorem Way.leaf (e : Exit) (s : St) : Way (.leaf e s) e s := ⟨rfl, rfl⟩
theorem Way.yes {b : Bool} {t f : Res} {e : Exit} (hb : b = true) (h : Way t e s) : Way (.ite b t f) e s := ⟨fun _ => h, fun h' => (by rw [hb] at h'; cases h')⟩
theorem Way.no {b : Bool} {t f : Res} {e : Exit} (hb : b = false) (h : Way f e s) : Way (.ite b t f) e s := ⟨fun h' => (by rw [hb] at h'; cases h'), fun _ => h⟩
theorem Way.need {p : Prop} {t : Res} {e : Exit} (hp : p) (h : Way t e s) : Way (.need p t) e s := ⟨hp, h⟩

/-- a sequence: the first part has one normal end, another one is the function's -/
theorem Ex.bind {x y : Code} {f : St → Res} (h1 : Ex P m x st r) (h2 : ∀ s, Ex P m y s (f s)) : Ex P m (.seq x y) st (r.bind f) := by
  intro W β₀ R Q hs hq β a w hr
  refine wp_seq (h1 W β₀ _ _ (bind_sat hs) ?_ β a w hr)
  rintro e a w ⟨t, β', h3, h4⟩
  cases e with
  | normal => exact h2 t W β₀ R Q h3 hq β' a w h4
  | exit _ => exact hq _ _ _ ⟨t, β', h3, h4⟩
  | goto _ => exact hq _ _ _ ⟨t, β', h3, h4⟩
  | ret => exact hq _ _ _ ⟨t, β', h3, h4⟩
  | panic _ => exact hq _ _ _ ⟨t, β', h3, h4⟩
  | outgrown => exact hq _ _ _ ⟨t, β', h3, h4⟩
theorem Ex.seq2 {x y : Code} {b : Bool} {s1 s2 : St} {e : Exit} (he : e ≠ .normal) (h1 : Ex P m x st (.ite b (.leaf e s1) (.leaf .normal s2))) (h2 : Ex P m y s2 r) : Ex P m (.seq x y) st (.ite b (.leaf e s1) r) := by
  intro W β₀ R Q hs hq β a w hr
  refine wp_seq (h1 W β₀ (fun e' t => (b = true ∧ e' = e ∧ t = s1) ∨ (b = false ∧ e' = .normal ∧ t = s2)) _ ⟨fun e => .inl ⟨e, rfl, rfl⟩, fun e => .inr ⟨e, rfl, rfl⟩⟩ ?_ β a w hr)
  rintro e' a w ⟨t, β', ⟨hb, rfl, rfl⟩ | ⟨hb, rfl, rfl⟩, h⟩
  · cases e' with
    | normal => exact absurd rfl he
    | exit _ => exact hq _ _ _ ⟨_, β', hs.1 hb, h⟩
    | goto _ => exact hq _ _ _ ⟨_, β', hs.1 hb, h⟩
    | ret => exact hq _ _ _ ⟨_, β', hs.1 hb, h⟩
    | panic _ => exact hq _ _ _ ⟨_, β', hs.1 hb, h⟩
    | outgrown => exact hq _ _ _ ⟨_, β', hs.1 hb, h⟩
  · exact h2 W β₀ R Q (hs.2 hb) hq β' a w h

/-- a loop, behind what is ahead of it -/
theorem Ex.looped {c2 L : Code} {i : Nat} (k : Nat) (S : Nat → St) (h0 : Ex P m c2 st (.leaf .normal (S 0))) (hr : ∀ j, j < k → Ex P m L (S j) (.leaf .normal (S (j + 1)))) (hx : Ex P m L (S k) (.leaf (.exit i) s)) :
    Ex P m (.seq c2 (.block i (.loop L))) st (.leaf .normal s) := by
  refine h0.seq ?_
  have := (Ex.loop k S hr hx).block (id := i)
  simpa [Res.block] using this
end

/-- a loop behind pieces of code that are gone through -/
theorem ex_looped' {P : Program} {G : Gam} {m : Hp} (hG : GOk P G) (hmix : P.follows .mixedOrders = true) {pre : List Code} {c2 L c3 : Code} {i : Nat} {st s' : St} {keep nb : List Bool} {h : Nat} (hm : m.length ≤ h) (k : Nat) (S : Nat → St)
    (h0 : (execL P G m (pre ++ [c2]) st).map (St.cutn keep nb h) = some (S 0))
    (hr : ∀ j, j < k → Ex P m L (S j) (.leaf .normal (S (j + 1)))) (hx : Ex P m L (S k) (.leaf (.exit i) s')) {r : Res} (h3 : Ex P m c3 s' r) :
    Ex P m (chain pre (.seq (.seq c2 (.block i (.loop L))) c3)) st r := by
  obtain ⟨s, hs, he⟩ := Option.map_eq_some_iff.1 h0
  have hloop : Ex P m (.block i (.loop L)) s (.leaf .normal s') := by
    refine Ex.from_cutn (keep := keep) (nb := nb) (n := h) ?_ hm
    rw [he]
    have := (Ex.loop k S hr hx).block (id := i)
    simpa [Res.block] using this
  have key : ∀ (pre : List Code) (st : St), execL P G m (pre ++ [c2]) st = some s → Ex P m (Go.Ev.chain pre (.seq (.seq c2 (.block i (.loop L))) c3)) st r := by
    intro pre
    induction pre with
    | nil =>
      intro st hs
      simp only [List.nil_append, execL] at hs
      split at hs
      · rename_i s1 h1
        simp at hs; subst hs
        exact Ex.seq (Ex.seq (.of_exec hG hmix h1) hloop) h3
      · simp at hs
    | cons x pre ih =>
      intro st hs
      simp only [List.cons_append, execL] at hs
      split at hs
      · rename_i s1 h1
        exact Ex.seq (.of_exec hG hmix h1) (ih s1 hs)
      · simp at hs
  exact key pre st hs

/-- pieces of code, then a choice whose first way is the function's end -/
theorem ex_ret {P : Program} {G : Gam} {m : Hp} (hG : GOk P G) (hmix : P.follows .mixedOrders = true) {A : List Code} {cI rest : Code} {st sA s1 s2 : St} {b : Bool} {r : Res} (hA : execL P G m A st = some sA)
    (hB : exec P G m cI sA = .ite b (.leaf .ret s1) (.leaf .normal s2)) (h : Ex P m rest s2 r) : Ex P m (chain A (.seq cI rest)) st (.ite b (.leaf .ret s1) r) :=
  Ex.chain hG hmix hA (Ex.seq2 (by simp) (.of_exec hG hmix hB) h)
def Res.norS : Res → St
  | .leaf _ s => s
  | .ite _ _ e => Res.norS e
  | .need _ r => Res.norS r
  | .fail => ⟨[], []⟩
def Res.retS : Res → St
  | .leaf _ s => s
  | .ite _ t _ => Res.retS t
  | .need _ r => Res.retS r
  | .fail => ⟨[], []⟩

/-- the outcome of a function, of what is known of its code -/
theorem gives_of_ex' {P : Program} {f : FuncId} {fn : Func} {c : Code} (hf : P.funcs[f]? = some fn) (hb : fn.body = some c) {args : List LV} {r : Res} (hx : Ex P [] c (entry fn args []) r) {v : LV}
    (h : ((r.ends P fn []).one).map (fun p => (p.1, p.2.fr.map LV.norm)) = some (none, [v])) : Gives P f args v := by
  obtain ⟨⟨q, ⟨fr, hp⟩⟩, h4, h5⟩ := Option.map_eq_some_iff.1 h
  simp at h5
  obtain ⟨rfl, h6⟩ := h5
  obtain ⟨x, rfl, rfl⟩ : ∃ x, fr = [x] ∧ x.norm = v := by
    match fr, h6 with
    | [x], h6 => exact ⟨x, rfl, by simpa using h6⟩
  exact gives_of_ex hf hb hx h4 trivial rfl
/-- a chain of pieces, the first ones each with one end -/
inductive Exs (P : Program) (m : Hp) : List Code → St → St → Prop where
  | nil (s : St) : Exs P m [] s s
  | cons {x : Code} {l : List Code} {s t u : St} (h : Ex P m x s (.leaf .normal t)) (hl : Exs P m l t u) : Exs P m (x :: l) s u
theorem Exs.chain {P : Program} {m : Hp} {l : List Code} {c : Code} {st s : St} {r : Res} (h : Exs P m l st s) (hx : Ex P m c s r) : Ex P m (Go.Ev.chain l c) st r := by
  induction h with
  | nil s => exact hx
  | cons h _ ih => exact h.seq (ih hx)
end Go.Ev
