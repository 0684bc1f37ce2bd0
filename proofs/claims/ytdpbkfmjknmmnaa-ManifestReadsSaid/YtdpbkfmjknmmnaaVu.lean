/- A reader of code, third make: what a function does, in one line; loops whose rounds are not counted. -/
import Derived.Test.YtdpbkfmjknmmnaaVt
import Derived.KernelRfl
set_option linter.unusedVariables false
set_option linter.unusedSimpArgs false
namespace Go.Ev
open Go

/-! ### Loops -/
/-- F: what the loop comes to from what is known at the beginning of a round -/
theorem Ex.loopF {P : Program} {m : Hp} {c : Code} {X : Type} (μ : X → Nat) (S : X → St) (I : X → Prop) (rnd F : X → Res) (h : ∀ x, I x → Ex P m c (S x) (rnd x))
    (hr : ∀ x R, I x → (F x).sat R → (rnd x).sat fun e s => (e = .normal ∧ ∃ y, s = S y ∧ I y ∧ μ y < μ x ∧ (F y).sat R) ∨ (e ≠ .normal ∧ R e s)) {x : X} (hx : I x) : Ex P m (.loop c) (S x) (F x) := by
  intro W β₀ R Q hs hq β a w hrel
  have key : ∀ (n : Nat) (y : X), I y → μ y < n → (F y).sat R → ∀ β a w, Rel W m β₀ β (S y) a w → Code.rounds P c Q n a w := by
    intro n
    induction n with
    | zero => intro y _ h0; omega
    | succ n ih =>
      intro y hy hn hF β a w hr'
      rw [rounds_succ]
      refine h y hy W β₀ _ _ (hr y R hy hF) ?_ β a w hr'
      rintro e a w ⟨t, β', h1, h2⟩
      rcases h1 with ⟨rfl, z, rfl, hz, hlt, hF'⟩ | ⟨hne, h1⟩
      · exact ih z hz (by omega) hF' β' a w h2
      · cases e with
        | normal => exact absurd rfl hne
        | exit _ => exact hq _ _ _ ⟨t, β', h1, h2⟩
        | goto _ => exact hq _ _ _ ⟨t, β', h1, h2⟩
        | ret => exact hq _ _ _ ⟨t, β', h1, h2⟩
        | panic _ => exact hq _ _ _ ⟨t, β', h1, h2⟩
        | outgrown => exact hq _ _ _ ⟨t, β', h1, h2⟩
  exact wp_loop_rounds (μ x + 1) (key _ x hx (Nat.lt_succ_self _) hs β a w hrel)

theorem Ex.need {P : Program} {m : Hp} {c : Code} {st : St} {p : Prop} {r : Res} (h : p → Ex P m c st r) : Ex P m c st (.need p r) :=
  fun W β₀ R Q hs hq β a w hr => h hs.1 W β₀ R Q hs.2 hq β a w hr
def bodyOf (fn : Func) : Code := fn.body.getD .skip
def blkAt (c : Code) (id : Nat) : List Code := (blks c).filterMap fun p => if p.1 = id then some p.2 else none
/-- the inside of the loop of a block -/
def loopAt (fn : Func) (id : Nat) : Code := match blkAt (bodyOf fn) id with
  | [.loop b] => b
  | _ => .ret
def isLoop : List Code → Bool
  | [.loop _] => true
  | _ => false
theorem loopAt_eq {fn : Func} {id : Nat} (h : isLoop (blkAt (bodyOf fn) id) = true) : blkAt (bodyOf fn) id = [.loop (loopAt fn id)] := by
  unfold loopAt
  generalize blkAt (bodyOf fn) id = l at *
  unfold isLoop at h
  split at h
  · rfl
  · cases h
theorem lookL_mem {LT : LTab} {id : Nat} {f : St → Res} (h : lookL LT id = some f) : (id, f) ∈ LT := by
  induction LT with
  | nil => cases h
  | cons p l ih =>
    obtain ⟨i, g⟩ := p
    simp only [lookL] at h
    split at h
    · rename_i e; subst e; cases h; simp
    · exact List.mem_cons_of_mem _ (ih h)
theorem LOk.ofTab {P : Program} {m : Hp} {LT : LTab} {fn : Func} (h : ∀ p ∈ LT, isLoop (blkAt (bodyOf fn) p.1) = true ∧ ∀ st, Ex P m (.loop (loopAt fn p.1)) st (p.2 st)) : LOk P m LT (bodyOf fn) := by
  refine LOk.of fun id f c' hf hm st => ?_
  obtain ⟨h1, h2⟩ := h _ (lookL_mem hf)
  have : c' ∈ blkAt (bodyOf fn) id := List.mem_filterMap.2 ⟨(id, c'), hm, by simp⟩
  rw [loopAt_eq h1] at this
  simp at this; subst this
  exact h2 st
/-- the inside of a loop, the loops within it known -/
theorem blks_sub {c c' : Code} {id : Nat} (h : (id, c') ∈ blks c) : ∀ p ∈ blks c', p ∈ blks c := by
  induction c with
  | seq a b iha ihb =>
    rcases List.mem_append.1 h with h | h
    · exact fun p hp => List.mem_append_left _ (iha h p hp)
    · exact fun p hp => List.mem_append_right _ (ihb h p hp)
  | cond _ a b iha ihb =>
    rcases List.mem_append.1 h with h | h
    · exact fun p hp => List.mem_append_left _ (iha h p hp)
    · exact fun p hp => List.mem_append_right _ (ihb h p hp)
  | block i c ih =>
    rcases List.mem_cons.1 h with h | h
    · cases h; exact fun p hp => List.mem_cons_of_mem _ hp
    · exact fun p hp => List.mem_cons_of_mem _ (ih h p hp)
  | loop c ih => exact fun p hp => ih h p hp
  | _ => cases h
theorem LOk.inner {P : Program} {m : Hp} {LT : LTab} {fn : Func} {i : Nat} (hi : isLoop (blkAt (bodyOf fn) i) = true) (h : ∀ p ∈ LT, isLoop (blkAt (bodyOf fn) p.1) = true ∧ ∀ st, Ex P m (.loop (loopAt fn p.1)) st (p.2 st)) : LOk P m LT (loopAt fn i) := by
  refine LOk.of fun id f c' hf hm st => ?_
  obtain ⟨h1, h2⟩ := h _ (lookL_mem hf)
  have h3 : Code.loop (loopAt fn i) ∈ blkAt (bodyOf fn) i := by rw [loopAt_eq hi]; simp
  obtain ⟨⟨j, c2⟩, h4, h5⟩ := List.mem_filterMap.1 h3
  simp only at h5
  split at h5
  · cases h5
    have : c' ∈ blkAt (bodyOf fn) id := List.mem_filterMap.2 ⟨(id, c'), blks_sub h4 _ hm, by simp⟩
    rw [loopAt_eq h1] at this
    simp at this; subst this
    exact h2 st
  · cases h5

/-! ### One round, one function -/
/-- what one round comes to -/
def rndT (P : Program) (tab : List (FuncId × Ent)) (LT : LTab) (fn : Func) (id : Nat) (hp : Hp) (ws : Exit → List Wk) (st : St) : Res := (exec P (gamOf tab) fork hp LT (loopAt fn id) st).wk hp.length ws
theorem rndT_ok {P : Program} (hmix : P.follows .mixedOrders = true) {tab : List (FuncId × Ent)} (htab : ∀ p ∈ tab, p.2.Ok P p.1) {LT : LTab} {fn : Func} {id : Nat} {hp : Hp} {ws : Exit → List Wk} {st : St} (hL : LOk P hp LT (loopAt fn id)) :
    Ex P hp (loopAt fn id) st (rndT P tab LT fn id hp ws st) := (Ex.of_exec (gam_ok htab) hmix hL rfl).wk ws
/-- what a function comes to -/
def fnT (P : Program) (tab : List (FuncId × Ent)) (LT : LTab) (fn : Func) (args : List LV) (hp : Hp) (ks : List Wk) : End := ((exec P (gamOf tab) fork hp LT (bodyOf fn) (entry fn args hp)).ends P fn).wk hp.length ks
theorem fnT_ok {P : Program} (hmix : P.follows .mixedOrders = true) {tab : List (FuncId × Ent)} (htab : ∀ p ∈ tab, p.2.Ok P p.1) {f : FuncId} {fn : Func} (hf : P.funcs[f]? = some fn) (hb : fn.body.isSome = true) {LT : LTab} {args : List LV} {hp : Hp} {ks : List Wk} (hL : LOk P hp LT (bodyOf fn)) :
    CallsT P f args hp (fnT P tab LT fn args hp ks) := by
  have hb' : fn.body = some (bodyOf fn) := by
    unfold bodyOf
    cases h : fn.body with
    | none => rw [h] at hb; cases hb
    | some c => rfl
  exact (call_of_ex hf hb' (Ex.of_exec (A := fork) (gam_ok htab) hmix hL rfl)).wk ks

/-- out of a function's ends: one end -/
theorem CallsT.use {P : Program} {f : FuncId} {args : List LV} {hp : Hp} {t : End} (h : CallsT P f args hp t) {V : LV} {D : List (Nat × Item)} (hs : t.sat fun v hp' => v = V ∧ hp' = applyD D hp) {Q : LV → List (Nat × Item) → Prop} (hQ : Q V D) :
    CallsEv P f args hp fun v hp' => ∃ d, Q v d ∧ hp' = applyD d hp := by
  refine h _ ?_
  have key : ∀ {t : End}, (t.sat fun v hp' => v = V ∧ hp' = applyD D hp) → t.sat fun v hp' => ∃ d, Q v d ∧ hp' = applyD d hp := by
    intro t
    induction t with
    | leaf v hp' => rintro ⟨rfl, rfl⟩; exact ⟨D, hQ, rfl⟩
    | ite b x y ihx ihy => exact fun h => ⟨fun e => ihx (h.1 e), fun e => ihy (h.2 e)⟩
    | need p x ih => exact fun h => ⟨h.1, ih h.2⟩
    | fail => exact fun h => h
  exact key hs

/-- … which says as much in another way -/
theorem CallsT.useD {P : Program} {f : FuncId} {args : List LV} {hp : Hp} {t : End} (h : CallsT P f args hp t) {V : LV} {D : List (Nat × Item)} (hs : t.sat fun v hp' => (∀ β L val, v.den β L val → V.den β L val) ∧ hp' = applyD D hp) {Q : LV → List (Nat × Item) → Prop} (hQ : Q V D) :
    CallsEv P f args hp fun v hp' => ∃ d, Q v d ∧ hp' = applyD d hp := by
  intro β w vals hh hargs
  refine (h _ hs β w vals hh hargs).mono ?_
  rintro e w' ⟨val, β', r, hp', rfl, ⟨h1, rfl⟩, hd, hr⟩
  exact ⟨val, β', V, _, rfl, ⟨D, hQ, rfl⟩, h1 _ _ _ hd, hr⟩

/-! ### Numbers of both kinds -/
/-- a law for numbers that are not written out is one for all -/
def Ent.sym (e : Ent) : Ent := ⟨e.tys, fun args hp => e.run (args.map (LV.mapc SV.symm)) (hp.map (Option.map (Item.mapc SV.symm)))⟩
theorem symm_den {β : Env} {L : Nat → Option Kd} {s : SV} {v : Value} : (s.symm).den β L v ↔ s.den β L v := by cases s <;> exact Iff.rfl
theorem symm_dens {β : Env} {L : Nat → Option Kd} {s : SV} {vs : List Value} : (s.symm).dens β L vs ↔ s.dens β L vs := by cases s <;> exact Iff.rfl
theorem symm_less {β : Env} {L : Nat → Option Kd} : Less β β L L SV.symm := ⟨symm_den.2, fun _ _ _ => rfl, fun _ _ _ h => h⟩
theorem symm_denL {β : Env} {L : Nat → Option Kd} : ∀ {l : List SV} {vs : List Value}, DenL β L (l.map SV.symm) vs → DenL β L l vs
  | [], _, h => h
  | s :: l, _, h => by
    cases h with
    | cons h1 h2 => exact .cons (symm_dens.1 h1) (symm_denL h2)
theorem symm_item {β : Env} {L : Nat → Option Kd} {w : World} {i : Nat} {x : Item} (h : ItemOk β L w i (x.mapc SV.symm)) : ItemOk β L w i x := by
  cases x with
  | blk cells e => obtain ⟨c, fz, h1, h2, h3⟩ := h; exact ⟨c, fz, h1, h2, symm_denL h3⟩
  | _ => exact h
theorem get_applyD : ∀ (d : List (Nat × Item)) {hp hp2 : Hp} {j : Nat} {x : Item}, (∀ (j : Nat) (x : Item), hp[j]? = some (some x) → ∃ y, hp2[j]? = some (some y) ∧ (y = x ∨ y = x.mapc SV.symm)) → (applyD d hp)[j]? = some (some x) → ∃ y, (applyD d hp2)[j]? = some (some y) ∧ (y = x ∨ y = x.mapc SV.symm)
  | [], _, _, j, x, h, hj => h j x hj
  | (i, z) :: d, hp, hp2, j, x, h, hj => by
    refine get_applyD d (hp := setAt hp i z) (hp2 := setAt hp2 i z) (fun k y hk => ?_) hj
    by_cases e : k = i
    · subst e
      rw [setAt_same] at hk; cases hk
      exact ⟨z, setAt_same _ _ _, .inl rfl⟩
    · obtain ⟨y', h1, h2⟩ := h k y ((setAt_other hp i z k y e).1 hk)
      exact ⟨y', (setAt_other hp2 i z k y' e).2 h1, h2⟩
theorem kd_applyD_congr : ∀ (d : List (Nat × Item)) {hp hp2 : Hp}, kd hp = kd hp2 → kd (applyD d hp) = kd (applyD d hp2)
  | [], _, _, h => h
  | (i, z) :: d, hp, hp2, h => kd_applyD_congr d (hp := setAt hp i z) (hp2 := setAt hp2 i z) (by funext j; rw [kd_setAt, kd_setAt, h])
theorem Ent.Ok.sym {P : Program} {f : FuncId} {e : Ent} (he : e.Ok P f) : e.sym.Ok P f := by
  refine ⟨he.enters, fun args hp Q h β w vals hh hargs => ?_⟩
  generalize hhp : hp.map (Option.map (Item.mapc SV.symm)) = hp2
  have hk : kd hp2 = kd hp := by rw [← hhp]; exact kd_map hp
  have hh2 : HRel w hp2 β β hp2 w := hhp ▸ (hh.relabel symm_less).self
  have hargs2 : All2 (LV.den β (kd hp2)) (args.map (LV.mapc SV.symm)) vals := by rw [hk]; exact symm_less.fr hargs
  have hto : ∀ (j : Nat) (x : Item), hp[j]? = some (some x) → ∃ y, hp2[j]? = some (some y) ∧ (y = x ∨ y = x.mapc SV.symm) := by
    intro j x hj
    refine ⟨x.mapc SV.symm, ?_, .inr rfl⟩
    rw [← hhp, List.getElem?_map, hj]; rfl
  have hof : ∀ (j : Nat) (y : Item), hp2[j]? = some (some y) → ∃ x, hp[j]? = some (some x) ∧ y = x.mapc SV.symm := by
    intro j y hj
    rw [← hhp] at hj
    exact map_item hj
  have hrun : (e.run (args.map (LV.mapc SV.symm)) hp2).holds Q := hhp ▸ h
  refine (he.calls _ _ Q hrun β w vals hh2 hargs2).mono ?_
  rintro en w' ⟨val, β', r, hp', rfl, ⟨d, hq, rfl⟩, hd, h'⟩
  have hk2 : kd (applyD d hp2) = kd (applyD d hp) := kd_applyD_congr d hk
  refine ⟨val, β', r, applyD d hp, rfl, ⟨d, hq, rfl⟩, by rw [← hk2]; exact hd, ?_⟩
  have hown : ∀ {x y : Item} {i b : Nat}, (y = x ∨ y = x.mapc SV.symm) → (Owns β' y i b ↔ Owns β' x i b) := by
    rintro x y i b (rfl | rfl)
    · exact Iff.rfl
    · exact Owns.mapc rfl rfl
  refine ⟨fun j x hj => ?_, fun i j x y b hi hj h1 h2 => ?_, ?_, fun i x b hi ho => ?_, h'.os, h'.output, h'.size, fun b hb hno => ?_, fun pm v t l hr => ?_, h'.from_⟩
  · obtain ⟨y, h1, h2⟩ := get_applyD d hto hj
    rw [← hk2]
    have := h'.items j y h1
    rcases h2 with rfl | rfl
    · exact this
    · exact symm_item this
  · obtain ⟨x', a1, a2⟩ := get_applyD d hto hi
    obtain ⟨y', b1, b2⟩ := get_applyD d hto hj
    exact h'.inj i j x' y' b a1 b1 ((hown a2).2 h1) ((hown b2).2 h2)
  · rw [← hk, ← hk2]; exact h'.first
  · obtain ⟨x', a1, a2⟩ := get_applyD d hto hi
    rcases h'.own i x' b a1 ((hown a2).2 ho) with k | ⟨y, k1, k2⟩
    · exact .inl k
    · obtain ⟨x0, k3, rfl⟩ := hof i y k1
      exact .inr ⟨x0, k3, (Owns.mapc rfl rfl).1 k2⟩
  · refine h'.keep b hb fun ⟨j, y, h1, h2⟩ => hno ?_
    obtain ⟨x0, k3, rfl⟩ := hof j y h1
    exact ⟨j, x0, k3, (Owns.mapc rfl rfl).1 h2⟩
  · obtain ⟨h1, h2⟩ := h'.reads pm v t l hr
    refine ⟨h1, fun b hb => ⟨(h2 b hb).1, fun ⟨j, x, hj, ho⟩ => (h2 b hb).2 ?_⟩⟩
    obtain ⟨y, k1, k2⟩ := get_applyD d hto hj
    exact ⟨j, y, k1, (hown k2).2 ho⟩
end Go.Ev
