/- The reader of code: pieces of code with loops, functions. -/
import Derived.Test.YtndiiabkoeblgaaEvd
import Derived.LoopN
namespace Go.Ev
open Go

def loopN : Nat → (St → Res) → St → Res
  | 0, _, _ => .fail
  | k + 1, f, st => (f st).bind (loopN k f)

/-- how many rounds a loop may have -/
def most : Nat := 100000

/-- the reader -/
def exec (P : Program) (G : Gam) (m : Hp) : Code → St → Res
  | .skip, st => .leaf .normal st
  | .seq a b, st => (exec P G m a st).bind (exec P G m b)
  | .cond c x y, st => match ev st c with
    | .one (.sc (.bool (.lit true))) => exec P G m x st
    | .one (.sc (.bool (.lit false))) => exec P G m y st
    | .one (.sc (.bool (.sym b))) => join b m (exec P G m x st) (exec P G m y st)
    | _ => .fail
  | .block id c, st => (exec P G m c st).block id
  | .exit id, st => .leaf (.exit id) st
  | .ret, st => .leaf .ret st
  | .loop c, st => loopN most (exec P G m c) st
  | .region _ ops false, st => opsEv P G m ops ops.toList [] st
  | .region _ ops true, st => if drawOk G ops (farF ops st) ops.toList [] [] = true then opsEv P G m ops ops.toList [] st else .fail
  | _, _ => .fail

def bindQ (R : Exit → St → Prop) (f : St → Res) : Exit → St → Prop
  | .normal, st => (f st).sat R
  | e, st => R e st
theorem bind_sat {f : St → Res} {R : Exit → St → Prop} : ∀ {r : Res}, (r.bind f).sat R → r.sat (bindQ R f)
  | .leaf .normal _, h => h
  | .leaf (.exit _) _, h => h
  | .leaf (.goto _) _, h => h
  | .leaf .ret _, h => h
  | .leaf (.panic _) _, h => h
  | .leaf .outgrown _, h => h
  | .ite _ _ _, h => ⟨fun e => bind_sat (h.1 e), fun e => bind_sat (h.2 e)⟩
  | .need _ _, h => ⟨h.1, bind_sat h.2⟩
  | .fail, h => h
def blockQ (R : Exit → St → Prop) (id : Nat) : Exit → St → Prop
  | .exit i, st => if i = id then R .normal st else R (.exit i) st
  | e, st => R e st
theorem block_sat {id : Nat} {R : Exit → St → Prop} : ∀ {r : Res}, (r.block id).sat R → r.sat (blockQ R id)
  | .leaf (.exit i) st, h => by
    simp only [Res.block] at h
    show if i = id then R .normal st else R (.exit i) st
    split at h
    · rename_i hi; rw [if_pos hi]; exact h
    · rename_i hi; rw [if_neg hi]; exact h
  | .leaf .normal _, h => h
  | .leaf (.goto _) _, h => h
  | .leaf .ret _, h => h
  | .leaf (.panic _) _, h => h
  | .leaf .outgrown _, h => h
  | .ite _ _ _, h => ⟨fun e => block_sat (h.1 e), fun e => block_sat (h.2 e)⟩
  | .need _ _, h => ⟨h.1, block_sat h.2⟩
  | .fail, h => h

theorem exec_ok {P : Program} {G : Gam} (hG : GOk P G) (hmix : P.follows .mixedOrders = true) {W : World} {m : Hp} {β₀ : Nat → Nat} :
    ∀ (c : Code) (st : St) (R : Exit → St → Prop) (Q : Exit → Act → World → Prop), (exec P G m c st).sat R → (∀ e a w, Post W (Live m) β₀ R e a w → Q e a w) →
      ∀ β a w, Rel W (Live m) β₀ β st a w → c.wp P Q a w := by
  intro c
  induction c with
  | skip => intro st R Q h hq β a w hr; exact wp_skip (hq _ _ _ ⟨st, β, h, hr⟩)
  | exit id => intro st R Q h hq β a w hr; exact wp_exit (hq _ _ _ ⟨st, β, h, hr⟩)
  | ret => intro st R Q h hq β a w hr; exact wp_ret (hq _ _ _ ⟨st, β, h, hr⟩)
  | seq x y ihx ihy =>
    intro st R Q h hq β a w hr
    refine wp_seq (ihx st _ _ (bind_sat h) ?_ β a w hr)
    rintro e a w ⟨s, β', h1, h2⟩
    cases e with
    | normal => exact ihy s R Q h1 hq β' a w h2
    | exit _ => exact hq _ _ _ ⟨s, β', h1, h2⟩
    | goto _ => exact hq _ _ _ ⟨s, β', h1, h2⟩
    | ret => exact hq _ _ _ ⟨s, β', h1, h2⟩
    | panic _ => exact hq _ _ _ ⟨s, β', h1, h2⟩
    | outgrown => exact hq _ _ _ ⟨s, β', h1, h2⟩
  | cond c x y ihx ihy =>
    intro st R Q h hq β a w hr
    have hc := ev_den hr c
    simp only [exec] at h
    split at h
    · rename_i he
      rw [he] at hc
      exact wp_cond_true hc (ihx st R Q h hq β a w hr)
    · rename_i he
      rw [he] at hc
      exact wp_cond_false hc (ihy st R Q h hq β a w hr)
    · rename_i b he
      rw [he] at hc
      cases b with
      | true =>
        obtain ⟨R', h1, h2⟩ := join_true (W := W) (β₀ := β₀) h
        exact wp_cond_true hc (ihx st R' Q h1 (fun e a w hp => hq e a w (h2 e a w hp)) β a w hr)
      | false =>
        obtain ⟨R', h1, h2⟩ := join_false (W := W) (β₀ := β₀) h
        exact wp_cond_false hc (ihy st R' Q h1 (fun e a w hp => hq e a w (h2 e a w hp)) β a w hr)
    · exact h.elim
  | block id c ih =>
    intro st R Q h hq β a w hr
    refine wp_block (ih st _ _ (block_sat h) ?_ β a w hr)
    rintro e a w ⟨s, β', h1, h2⟩
    cases e with
    | exit i =>
      simp only [blockQ] at h1
      simp only [Exit.inBlock]
      split at h1
      · rename_i hi; rw [if_pos hi]; exact hq _ _ _ ⟨s, β', h1, h2⟩
      · rename_i hi; rw [if_neg hi]; exact hq _ _ _ ⟨s, β', h1, h2⟩
    | normal => exact hq _ _ _ ⟨s, β', h1, h2⟩
    | goto _ => exact hq _ _ _ ⟨s, β', h1, h2⟩
    | ret => exact hq _ _ _ ⟨s, β', h1, h2⟩
    | panic _ => exact hq _ _ _ ⟨s, β', h1, h2⟩
    | outgrown => exact hq _ _ _ ⟨s, β', h1, h2⟩
  | loop c ih =>
    intro st R Q h hq β a w hr
    have key : ∀ (n : Nat) (st : St), (loopN n (exec P G m c) st).sat R → ∀ β a w, Rel W (Live m) β₀ β st a w → Code.rounds P c Q n a w := by
      intro n
      induction n with
      | zero => intro st h; exact h.elim
      | succ n ihn =>
        intro st h β a w hr
        rw [rounds_succ]
        refine ih st _ _ (bind_sat h) ?_ β a w hr
        rintro e a w ⟨s, β', h1, h2⟩
        cases e with
        | normal => exact ihn s h1 β' a w h2
        | exit _ => exact hq _ _ _ ⟨s, β', h1, h2⟩
        | goto _ => exact hq _ _ _ ⟨s, β', h1, h2⟩
        | ret => exact hq _ _ _ ⟨s, β', h1, h2⟩
        | panic _ => exact hq _ _ _ ⟨s, β', h1, h2⟩
        | outgrown => exact hq _ _ _ ⟨s, β', h1, h2⟩
    exact wp_loop_rounds most (key most st h β a w hr)
  | region id ops d =>
    intro st R Q h hq β a w hr
    cases d with
    | false => exact wp_region_list (opsEv_ok hG ops.toList [] st R (fun _ _ h => by simp [known] at h) h hq β a w hr)
    | true =>
      simp only [exec] at h
      split at h
      · rename_i hd; exact region_draw_ok hG hmix hd h hq hr
      · exact h.elim
  | _ => intro st R Q h; exact h.elim

/-! ### A function -/
def resOne (P : Program) (st : St) : ResultVar → Option VV
  | .tmp t => match ev st (.tmp t) with
    | .one x => some x
    | _ => none
  | .cell a t => match ev st (.tmp a) with
    | .one (.sc (.ptr b off)) => match st.hp[b]? with
      | some (some blk) => partEv P t blk.cells off
      | _ => none
    | _ => none
def resEv (P : Program) (fn : Func) (st : St) : Option LV :=
  match optAll (resOne P st) fn.results.toList with
  | some [x] => some (.one x)
  | some l => some (.tup l)
  | none => none

def resRun (a : Act) : ResultVar → Sem Value
  | .tmp t => pure (a.tmps.getD t undef)
  | .cell b t => do loadVar t (← asAddr (a.tmps.getD b undef))
theorem results_eq (fn : Func) (a : Act) : results fn a.tmps = (do let vs ← fn.results.mapM (resRun a); pure (if h : vs.size = 1 then vs[0] else .tuple vs)) := by
  unfold results
  congr 2

theorem run_resOne {P : Program} {W : World} {m : Nat → Prop} {β₀ β : Nat → Nat} {st : St} {a : Act} {w : World} (hr : Rel W m β₀ β st a w) {r : ResultVar} {x : VV} (h : resOne P st r = some x) :
    ∃ v, (resRun a r).run P w = .ok v w ∧ x.den β (Live st.hp) v := by
  cases r with
  | tmp t =>
    simp only [resOne] at h
    split at h
    · rename_i y hy
      simp at h; subst h
      have := ev_den hr (.tmp t); rw [hy] at this
      exact ⟨_, rfl, this⟩
    · simp at h
  | cell b t =>
    simp only [resOne] at h
    split at h
    · rename_i i off hy
      split at h
      · rename_i blk hb
        have := ev_den hr (.tmp b); rw [hy] at this
        obtain ⟨_, e⟩ := this
        have e' : a.tmps.getD b undef = .pointer (some ⟨β i, off, none⟩) := e
        obtain ⟨v, h1, h2⟩ := run_loadVar (P := P) hr.heap hb h
        exact ⟨v, by simp [resRun, e', asAddr, h1], h2⟩
      · simp at h
    · simp at h

theorem run_results {P : Program} {fn : Func} {W : World} {m : Nat → Prop} {β₀ β : Nat → Nat} {st : St} {a : Act} {w : World} (hr : Rel W m β₀ β st a w) {r : LV} (h : resEv P fn st = some r) :
    ∃ v, (results fn a.tmps).run P w = .ok v w ∧ r.den β (Live st.hp) v := by
  have key : ∀ (l : List ResultVar) (xs : List VV), optAll (resOne P st) l = some xs → ∃ vs : List Value, (l.mapM (resRun a)).run P w = .ok vs w ∧ All2 (VV.den β (Live st.hp)) xs vs := by
    intro l
    induction l with
    | nil => intro xs h; simp [optAll] at h; subst h; exact ⟨[], by simp, .nil⟩
    | cons r l ih =>
      intro xs h
      simp only [optAll] at h
      split at h
      · rename_i y m' h1 h2
        simp at h; subst h
        obtain ⟨v, e1, e2⟩ := run_resOne hr h1
        obtain ⟨vs, e3, e4⟩ := ih _ h2
        refine ⟨v :: vs, ?_, .cons e2 e4⟩
        simp only [List.mapM_cons, Sem.run_bind]
        rw [e1]
        simp only [Result.andThen_ok, Sem.run_pure, e3]
      · simp at h
  unfold resEv at h
  have hrun : ∀ (vs : List Value) (xs : List VV), optAll (resOne P st) fn.results.toList = some xs → (∀ vs : List Value, All2 (VV.den β (Live st.hp)) xs vs → ∃ v, (if h : vs.toArray.size = 1 then vs.toArray[0] else .tuple vs.toArray) = v ∧ r.den β (Live st.hp) v) →
      ∃ v, (results fn a.tmps).run P w = .ok v w ∧ r.den β (Live st.hp) v := by
    intro _ xs hx hv
    obtain ⟨vs, e1, e2⟩ := key _ _ hx
    obtain ⟨v, e3, e4⟩ := hv vs e2
    refine ⟨v, ?_, e4⟩
    rw [results_eq, Array.mapM_eq_mapM_toList]
    simp only [Sem.run_bind, Sem.run_map]
    rw [e1]
    simp only [Result.andThen_ok, Sem.run_pure]
    rw [← e3]
  split at h
  · rename_i x hx
    simp at h; subst h
    refine hrun [] _ hx fun vs hd => ?_
    cases hd with
    | cons h1 h2 => cases h2; exact ⟨_, rfl, h1⟩
  · rename_i l hne hx
    simp at h; subst h
    refine hrun [] _ hx fun vs hd => ?_
    have hl := hd.length
    have : ¬ vs.toArray.size = 1 := by
      intro h1
      simp at h1
      rw [h1] at hl
      match l, hl, hne with
      | [y], _, hne => exact hne y rfl
    exact ⟨.tuple vs.toArray, by rw [dif_neg this], vs, rfl, hd⟩
  · simp at h

/-- what a call of a function does -/
def CallsEv (P : Program) (f : FuncId) (args : List LV) (hp : Hp) (R : LV → Hp → Prop) : Prop :=
  ∀ (W : World) (m : Nat → Prop) (β₀ β : Nat → Nat) (w : World) (vals : List Value), HRel W m β₀ β hp w → All2 (LV.den β (Live hp)) args vals →
    Calls P f vals.toArray w fun e w' => ∃ val β' r hp', e = .returned val ∧ R r hp' ∧ r.den β' (Live hp') val ∧ HRel W m β₀ β' hp' w' ∧ Agree β β' (Live hp) (Live hp')

theorem HRel.self {W : World} {m : Nat → Prop} {β₀ β : Nat → Nat} {hp : Hp} {w : World} (h : HRel W m β₀ β hp w) : HRel w (Live hp) β β hp w :=
  ⟨h.rows, h.inj, fun _ hi => ⟨rfl, hi⟩, fun _i h1 h2 => absurd h2 h1, rfl, rfl, Nat.le_refl _, fun _ _ _ => rfl⟩

theorem HRel.trans {W : World} {m : Nat → Prop} {β₀ β β' : Nat → Nat} {hp hp' : Hp} {w w' : World} (h : HRel W m β₀ β hp w) (h' : HRel w (Live hp) β β' hp' w') : HRel W m β₀ β' hp' w' where
  rows := h'.rows
  inj := h'.inj
  first i hi := ⟨(h'.first i (h.first i hi).2).1.trans (h.first i hi).1, (h'.first i (h.first i hi).2).2⟩
  new i h1 h2 := by
    by_cases hi : Live hp i
    · rw [(h'.first i hi).1]; exact h.new i h1 hi
    · have := h'.new i hi h2; have := h.size; omega
  os := h'.os.trans h.os
  output := h'.output.trans h.output
  size := by have := h.size; have := h'.size; omega
  keep b hb hne := by
    rw [h'.keep b (by have := h.size; omega) fun i hi => ?_]
    · exact h.keep b hb hne
    · by_cases him : m i
      · rw [(h.first i him).1]; exact hne i him
      · have := h.new i him hi; omega

def entry (fn : Func) (args : List LV) (hp : Hp) : St := ⟨args ++ List.replicate (fn.ntmps - args.length) (.tup []), hp⟩

/-! ### Values without addresses -/
def SV.plain : SV → Bool
  | .int _ _ | .bool _ | .con _ => true
  | _ => false
def VV.plain : VV → Bool
  | .sc s => s.plain
  | .agg l => l.all SV.plain
def LV.plain : LV → Bool
  | .one x => x.plain
  | .tup l => l.all VV.plain
  | .junk => false

theorem SV.den_plain {β β' : Nat → Nat} {n n' : Nat → Prop} {s : SV} {v : Value} (hp : s.plain = true) (h : s.den β n v) : s.den β' n' v := by
  cases s <;> first | exact h | simp [SV.plain] at hp
theorem All2.imp_mem {α β : Type} {R S : α → β → Prop} {l : List α} {m : List β} (h : All2 R l m) (f : ∀ a b, a ∈ l → R a b → S a b) : All2 S l m := by
  induction h with
  | nil => exact .nil
  | cons h _ ih => exact .cons (f _ _ (by simp) h) (ih fun a b ha => f a b (by simp [ha]))
theorem VV.den_plain {β β' : Nat → Nat} {n n' : Nat → Prop} {s : VV} {v : Value} (hp : s.plain = true) (h : s.den β n v) : s.den β' n' v := by
  cases s with
  | sc s => exact SV.den_plain hp h
  | agg l =>
    obtain ⟨cs, e, hd⟩ := h
    simp only [VV.plain, List.all_eq_true] at hp
    exact ⟨cs, e, hd.imp_mem fun a b ha => SV.den_plain (hp a ha)⟩
theorem LV.den_plain {β β' : Nat → Nat} {n n' : Nat → Prop} {s : LV} {v : Value} (hp : s.plain = true) (h : s.den β n v) : s.den β' n' v := by
  cases s with
  | one x => exact VV.den_plain hp h
  | tup l =>
    obtain ⟨cs, e, hd⟩ := h
    simp only [LV.plain, List.all_eq_true] at hp
    exact ⟨cs, e, hd.imp_mem fun a b ha => VV.den_plain (hp a ha)⟩
  | junk => simp [LV.plain] at hp

/-! ### The ends of a function -/
/-- the blocks that are kept at an end -/
def trim (m : Hp) (r : LV) (hp : Hp) : Hp :=
  match m with
  | [] => if r.plain = true then [] else hp
  | _ => hp
def Res.ends (P : Program) (fn : Func) (m : Hp) : Res → Res
  | .leaf .ret st => match resEv P fn st with
    | some r => .leaf .normal ⟨[r], trim m r st.hp⟩
    | none => .fail
  | .leaf .normal st => match resEv P fn st with
    | some r => .leaf .normal ⟨[r], trim m r st.hp⟩
    | none => .fail
  | .leaf _ _ => .fail
  | .ite b t e => join b m (t.ends P fn m) (e.ends P fn m)
  | .need p r => .need p (r.ends P fn m)
  | .fail => .fail

def conj (p : Prop) : Option Prop → Option Prop
  | none => some p
  | some q => some (p ∧ q)
def Res.one : Res → Option (Option Prop × St)
  | .leaf .normal st => some (none, st)
  | .need p r => match r.one with
    | some (q, st) => some (conj p q, st)
    | none => none
  | _ => none
theorem one_sat : ∀ {r : Res} {q : Option Prop} {st : St}, r.one = some (q, st) → Ev.needs q → ∀ {R : Exit → St → Prop}, R .normal st → r.sat R
  | .leaf .normal st, q, st', h, hq, R, hr => by simp [Res.one] at h; obtain ⟨_, rfl⟩ := h; exact hr
  | .need p r, q, st, h, hq, R, hr => by
    simp only [Res.one] at h
    split at h
    · rename_i q' st' h1
      simp at h; obtain ⟨rfl, rfl⟩ := h
      have h2 : p ∧ Ev.needs q' := by
        cases q' with
        | none => exact ⟨hq, trivial⟩
        | some q' => exact hq
      exact ⟨h2.1, one_sat h1 h2.2 hr⟩
    · simp at h
  | .leaf (.exit _) _, _, _, h, _, _, _ => by simp [Res.one] at h
  | .leaf (.goto _) _, _, _, h, _, _, _ => by simp [Res.one] at h
  | .leaf .ret _, _, _, h, _, _, _ => by simp [Res.one] at h
  | .leaf (.panic _) _, _, _, h, _, _, _ => by simp [Res.one] at h
  | .leaf .outgrown _, _, _, h, _, _, _ => by simp [Res.one] at h
  | .ite _ _ _, _, _, h, _, _, _ => by simp [Res.one] at h
  | .fail, _, _, h, _, _, _ => by simp [Res.one] at h

/-- what is known at an end -/
def EndQ (P : Program) (fn : Func) (W : World) (m : Hp) (β₀ : Nat → Nat) (R : Exit → St → Prop) (e : Exit) (st : St) : Prop :=
  (e = .ret ∨ e = .normal) ∧ ∃ r, resEv P fn st = some r ∧ ∀ β a w, Rel W (Live m) β₀ β ⟨[r], st.hp⟩ a w → Post W (Live m) β₀ R .normal a w

theorem HRel.none {W : World} {β₀ β : Nat → Nat} {hp : Hp} {w : World} (h : HRel W (Live []) β₀ β hp w) : HRel W (Live []) β₀ β [] w :=
  ⟨fun i blk h => by simp at h, fun i j ⟨_, h⟩ => by simp at h, fun i ⟨_, h⟩ => by simp at h, fun i _ ⟨_, h⟩ => by simp at h, h.os, h.output, h.size, h.keep⟩

theorem trim_rel {W : World} {m : Hp} {β₀ β : Nat → Nat} {r : LV} {hp : Hp} {a : Act} {w : World} (h : Rel W (Live m) β₀ β ⟨[r], hp⟩ a w) : Rel W (Live m) β₀ β ⟨[r], trim m r hp⟩ a w := by
  unfold trim
  split
  · split
    · rename_i hpl
      refine ⟨h.defers, ?_, h.heap.none⟩
      exact h.fr.imp_mem fun x v hx hd => by
        simp at hx; subst hx; exact LV.den_plain hpl hd
    · exact h
  · exact h

theorem ends_sat {P : Program} {fn : Func} {W : World} {m : Hp} {β₀ : Nat → Nat} : ∀ {r : Res} {R : Exit → St → Prop}, (r.ends P fn m).sat R → r.sat (EndQ P fn W m β₀ R)
  | .leaf .ret st, R, h => by
    simp only [Res.ends] at h
    split at h
    · rename_i r hr
      exact ⟨.inl rfl, r, hr, fun β a w hrel => ⟨_, β, h, trim_rel hrel⟩⟩
    · exact h.elim
  | .leaf .normal st, R, h => by
    simp only [Res.ends] at h
    split at h
    · rename_i r hr
      exact ⟨.inr rfl, r, hr, fun β a w hrel => ⟨_, β, h, trim_rel hrel⟩⟩
    · exact h.elim
  | .leaf (.exit _) _, R, h => h.elim
  | .leaf (.goto _) _, R, h => h.elim
  | .leaf (.panic _) _, R, h => h.elim
  | .leaf .outgrown _, R, h => h.elim
  | .need p r, R, h => ⟨h.1, ends_sat h.2⟩
  | .fail, R, h => h.elim
  | .ite b t e, R, h => by
    constructor
    · rintro rfl
      obtain ⟨R', h1, h2⟩ := join_true (W := W) (β₀ := β₀) h
      exact Res.sat_mono (fun e st hq => ⟨hq.1, let ⟨r, h3, h4⟩ := hq.2; ⟨r, h3, fun β a w hr => h2 _ _ _ (h4 β a w hr)⟩⟩) (ends_sat h1)
    · rintro rfl
      obtain ⟨R', h1, h2⟩ := join_false (W := W) (β₀ := β₀) h
      exact Res.sat_mono (fun e st hq => ⟨hq.1, let ⟨r, h3, h4⟩ := hq.2; ⟨r, h3, fun β a w hr => h2 _ _ _ (h4 β a w hr)⟩⟩) (ends_sat h1)

/-! ### What a piece of code does, from a state -/
def Ex (P : Program) (m : Hp) (c : Code) (st : St) (r : Res) : Prop :=
  ∀ (W : World) (β₀ : Nat → Nat) (R : Exit → St → Prop) (Q : Exit → Act → World → Prop), r.sat R → (∀ e a w, Post W (Live m) β₀ R e a w → Q e a w) →
    ∀ β a w, Rel W (Live m) β₀ β st a w → c.wp P Q a w

theorem Ex.of_exec {P : Program} {G : Gam} (hG : GOk P G) (hmix : P.follows .mixedOrders = true) {m : Hp} {c : Code} {st : St} {r : Res} (h : exec P G m c st = r) : Ex P m c st r :=
  fun _ _ R Q hs hq β a w hr => exec_ok hG hmix c st R Q (h ▸ hs) hq β a w hr

theorem Ex.seq {P : Program} {m : Hp} {x y : Code} {st s : St} {r : Res} (h1 : Ex P m x st (.leaf .normal s)) (h2 : Ex P m y s r) : Ex P m (.seq x y) st r := by
  intro W β₀ R Q hs hq β a w hr
  refine wp_seq (h1 W β₀ (fun e t => e = .normal ∧ t = s) _ ⟨rfl, rfl⟩ ?_ β a w hr)
  rintro e a w ⟨t, β', ⟨rfl, rfl⟩, h⟩
  exact h2 W β₀ R Q hs hq β' a w h

theorem Ex.seq_ite {P : Program} {m : Hp} {x y : Code} {st s1 s2 : St} {b : Bool} {r : Res} (h1 : Ex P m x st (.ite b (.leaf .ret s1) (.leaf .normal s2))) (h2 : Ex P m y s2 r) :
    Ex P m (.seq x y) st (.ite b (.leaf .ret s1) r) := by
  intro W β₀ R Q hs hq β a w hr
  refine wp_seq (h1 W β₀ (fun e t => (b = true ∧ e = .ret ∧ t = s1) ∨ (b = false ∧ e = .normal ∧ t = s2)) _ ⟨fun e => .inl ⟨e, rfl, rfl⟩, fun e => .inr ⟨e, rfl, rfl⟩⟩ ?_ β a w hr)
  rintro e a w ⟨t, β', ⟨hb, rfl, rfl⟩ | ⟨hb, rfl, rfl⟩, h⟩
  · exact hq _ _ _ ⟨_, β', hs.1 hb, h⟩
  · exact h2 W β₀ R Q (hs.2 hb) hq β' a w h

theorem Ex.block {P : Program} {m : Hp} {id : Nat} {c : Code} {st : St} {r : Res} (h : Ex P m c st r) : Ex P m (.block id c) st (r.block id) := by
  intro W β₀ R Q hs hq β a w hr
  refine wp_block (h W β₀ _ _ (block_sat hs) ?_ β a w hr)
  rintro e a w ⟨s, β', h1, h2⟩
  cases e with
  | exit i =>
    simp only [blockQ] at h1
    simp only [Exit.inBlock]
    split at h1
    · rename_i hi; rw [if_pos hi]; exact hq _ _ _ ⟨s, β', h1, h2⟩
    · rename_i hi; rw [if_neg hi]; exact hq _ _ _ ⟨s, β', h1, h2⟩
  | normal => exact hq _ _ _ ⟨s, β', h1, h2⟩
  | goto _ => exact hq _ _ _ ⟨s, β', h1, h2⟩
  | ret => exact hq _ _ _ ⟨s, β', h1, h2⟩
  | panic _ => exact hq _ _ _ ⟨s, β', h1, h2⟩
  | outgrown => exact hq _ _ _ ⟨s, β', h1, h2⟩

/-- a loop of a known number of rounds -/
theorem Ex.loop {P : Program} {m : Hp} {c : Code} (n : Nat) (S : Nat → St) (h : ∀ k, k < n → Ex P m c (S k) (.leaf .normal (S (k + 1)))) {i : Nat} {st : St} (hx : Ex P m c (S n) (.leaf (.exit i) st)) :
    Ex P m (.loop c) (S 0) (.leaf (.exit i) st) := by
  intro W β₀ R Q hs hq β a w hr
  have key : ∀ (j k : Nat), k + j = n → ∀ β a w, Rel W (Live m) β₀ β (S k) a w → Code.rounds P c Q (j + 1) a w := by
    intro j
    induction j with
    | zero =>
      intro k hk β a w hr
      have : k = n := by omega
      subst this
      rw [rounds_succ]
      refine hx W β₀ (fun e t => e = .exit i ∧ t = st) _ ⟨rfl, rfl⟩ ?_ β a w hr
      rintro e a w ⟨t, β', ⟨rfl, rfl⟩, h2⟩
      exact hq _ _ _ ⟨_, β', hs, h2⟩
    | succ j ih =>
      intro k hk β a w hr
      rw [rounds_succ]
      refine h k (by omega) W β₀ (fun e t => e = .normal ∧ t = S (k + 1)) _ ⟨rfl, rfl⟩ ?_ β a w hr
      rintro e a w ⟨t, β', ⟨rfl, rfl⟩, h2⟩
      exact ih (k + 1) (by omega) β' a w h2
  exact wp_loop_rounds (n + 1) (key n 0 (by omega) β a w hr)

/-- what is kept of a state: some slots, the first blocks -/
def SV.cut (n : Nat) : SV → SV
  | .ptr b o => if b < n then .ptr b o else .junk
  | .ptrx b x y k z => if b < n then .ptrx b x y k z else .junk
  | .slice b o l c => if b < n then .slice b o l c else .junk
  | s => s
def VV.cut (n : Nat) : VV → VV
  | .sc s => .sc (s.cut n)
  | .agg l => .agg (l.map (SV.cut n))
def LV.cut (n : Nat) : LV → LV
  | .one x => .one (x.cut n)
  | .tup l => .tup (l.map (VV.cut n))
  | .junk => .junk
def cutF (n : Nat) : List Bool → List LV → List LV
  | true :: k, x :: l => x.cut n :: cutF n k l
  | false :: k, _ :: l => .junk :: cutF n k l
  | [], _ :: l => .junk :: cutF n [] l
  | _, [] => []
def cutH : Nat → Nat → Hp → Hp
  | _, 0, _ => []
  | n, k + 1, some b :: l => some ⟨b.cells.map (SV.cut n), b.elem, b.more⟩ :: cutH n k l
  | n, k + 1, none :: l => none :: cutH n k l
  | _, _ + 1, [] => []
def St.cut (keep : List Bool) (n : Nat) (st : St) : St := ⟨cutF n keep st.fr, cutH n n st.hp⟩

section
variable {β : Nat → Nat} {L : Nat → Prop} {n : Nat}
theorem SV.cut_den {s : SV} {v : Value} (h : s.den β L v) : (s.cut n).den β (fun i => L i ∧ i < n) v := by
  have h1 := SV.den_oneCell h
  cases s <;> simp only [SV.cut]
  · exact h
  · exact h
  · split
    · rename_i hb; exact ⟨⟨h.1, hb⟩, h.2⟩
    · exact h1
  · split
    · rename_i hb; exact ⟨⟨h.1, hb⟩, h.2⟩
    · exact h1
  · split
    · rename_i hb; exact ⟨⟨h.1, hb⟩, h.2⟩
    · exact h1
  · exact h
  · exact h
theorem All2.map_left {α γ δ : Type} {R : α → γ → Prop} {S : δ → γ → Prop} {f : α → δ} {l : List α} {m : List γ} (h : All2 R l m) (hf : ∀ a b, R a b → S (f a) b) : All2 S (l.map f) m := by
  induction h with
  | nil => exact .nil
  | cons h _ ih => exact .cons (hf _ _ h) ih
theorem VV.cut_den {s : VV} {v : Value} (h : s.den β L v) : (s.cut n).den β (fun i => L i ∧ i < n) v := by
  cases s with
  | sc s => exact SV.cut_den h
  | agg l =>
    obtain ⟨cs, e, hd⟩ := h
    exact ⟨cs, e, hd.map_left fun _ _ => SV.cut_den⟩
theorem LV.cut_den {s : LV} {v : Value} (h : s.den β L v) : (s.cut n).den β (fun i => L i ∧ i < n) v := by
  cases s with
  | one s => exact VV.cut_den h
  | tup l =>
    obtain ⟨cs, e, hd⟩ := h
    exact ⟨cs, e, hd.map_left fun _ _ => VV.cut_den⟩
  | junk => trivial
theorem cutF_den : ∀ {keep : List Bool} {fr : List LV} {vs : List Value}, All2 (LV.den β L) fr vs → All2 (LV.den β (fun i => L i ∧ i < n)) (cutF n keep fr) vs
  | _, [], _, h => by cases h; unfold cutF; split <;> first | exact .nil | (rename_i h _; simp at h) | (rename_i h; simp at h)
  | true :: k, x :: l, _, h => by cases h with
    | cons h1 h2 => exact .cons (LV.cut_den h1) (cutF_den h2)
  | false :: k, x :: l, _, h => by cases h with
    | cons h1 h2 => exact .cons trivial (cutF_den h2)
  | [], x :: l, _, h => by cases h with
    | cons h1 h2 => exact .cons trivial (cutF_den h2)
theorem cutH_get : ∀ (k : Nat) (hp : Hp) (i : Nat) (blk : Blk), (cutH n k hp)[i]? = some (some blk) ↔ i < k ∧ ∃ b, hp[i]? = some (some b) ∧ blk = ⟨b.cells.map (SV.cut n), b.elem, b.more⟩
  | 0, hp, i, blk => by simp [cutH]
  | k + 1, [], i, blk => by simp [cutH]
  | k + 1, some b :: l, 0, blk => by
    simp [cutH]; exact ⟨fun h => h.symm, fun h => h.symm⟩
  | k + 1, none :: l, 0, blk => by simp [cutH]
  | k + 1, some b :: l, i + 1, blk => by simp [cutH, cutH_get k l i blk]
  | k + 1, none :: l, i + 1, blk => by simp [cutH, cutH_get k l i blk]
end

theorem Rel.cut {W : World} {m : Hp} {β₀ β : Nat → Nat} {st : St} {a : Act} {w : World} (h : Rel W (Live m) β₀ β st a w) (keep : List Bool) {n : Nat} (hm : m.length ≤ n) : Rel W (Live m) β₀ β (st.cut keep n) a w := by
  have hl : ∀ i, Live (cutH n n st.hp) i ↔ Live st.hp i ∧ i < n := fun i => by
    constructor
    · rintro ⟨blk, hb⟩
      obtain ⟨h1, b, h2, _⟩ := (cutH_get n st.hp i blk).1 hb
      exact ⟨⟨b, h2⟩, h1⟩
    · rintro ⟨⟨b, hb⟩, hi⟩
      exact ⟨_, (cutH_get n st.hp i _).2 ⟨hi, b, hb, rfl⟩⟩
  have hle : (fun i => Live st.hp i ∧ i < n) = Live (cutH n n st.hp) := funext fun i => propext (hl i).symm
  refine ⟨h.defers, ?_, ?_⟩
  · show All2 (LV.den β (Live (cutH n n st.hp))) _ _
    rw [← hle]; exact cutF_den h.fr
  · constructor
    · intro i blk hi
      show RowOk β (Live (cutH n n st.hp)) blk _
      obtain ⟨_, b, h1, rfl⟩ := (cutH_get n st.hp i blk).1 hi
      obtain ⟨c, rest, fz, h2, h3, h4, h5⟩ := h.heap.rows i b h1
      exact ⟨c, rest, fz, h2, h3, h4, by rw [← hle]; exact h5.map_left fun _ _ => SV.cut_den⟩
    · intro i j hi hj; exact h.heap.inj i j ((hl i).1 hi).1 ((hl j).1 hj).1
    · intro i hi
      have := h.heap.first i hi
      obtain ⟨b, hb⟩ := hi
      exact ⟨this.1, (hl i).2 ⟨this.2, Nat.lt_of_lt_of_le (List.getElem?_eq_some_iff.1 hb).1 hm⟩⟩
    · intro i h1 hi; exact h.heap.new i h1 ((hl i).1 hi).1
    · exact h.heap.os
    · exact h.heap.output
    · exact h.heap.size
    · exact h.heap.keep

theorem Ex.cut {P : Program} {m : Hp} {c : Code} {st s : St} {e : Exit} (h : Ex P m c st (.leaf e s)) (keep : List Bool) (n : Nat) (hm : m.length ≤ n) : Ex P m c st (.leaf e (s.cut keep n)) := by
  intro W β₀ R Q hs hq β a w hr
  refine h W β₀ (fun e' t => e' = e ∧ t = s) Q ⟨rfl, rfl⟩ ?_ β a w hr
  rintro e' a w ⟨t, β', ⟨rfl, rfl⟩, h2⟩
  exact hq _ _ _ ⟨_, β', hs, h2.cut keep hm⟩

theorem Ex.from_cut {P : Program} {m : Hp} {c : Code} {st : St} {r : Res} {keep : List Bool} {n : Nat} (h : Ex P m c (st.cut keep n) r) (hm : m.length ≤ n) : Ex P m c st r :=
  fun W β₀ R Q hs hq β a w hr => h W β₀ R Q hs hq β a w (hr.cut keep hm)

theorem call_of_ex {P : Program} {f : FuncId} {fn : Func} {c : Code} (hf : P.funcs[f]? = some fn) (hb : fn.body = some c) {args : List LV} {hp : Hp} {r : Res} (hx : Ex P hp c (entry fn args hp) r) {R : LV → Hp → Prop}
    (h : (r.ends P fn hp).sat fun e st => e = .normal ∧ ∃ v, st.fr = [v] ∧ R v st.hp) : CallsEv P f args hp R := by
  intro W m β₀ β w vals hh hargs
  refine calls_of_wp hf hb ?_
  have hrel : Rel w (Live hp) β β (entry fn args hp) { tmps := vals.toArray ++ Array.replicate (fn.ntmps - vals.toArray.size) undef, defers := [] } w := by
    refine ⟨rfl, ?_, hh.self⟩
    show All2 _ (args ++ List.replicate (fn.ntmps - args.length) (.tup [])) (vals.toArray ++ Array.replicate (fn.ntmps - vals.toArray.size) undef).toList
    have hl := hargs.length
    have e : (vals.toArray ++ Array.replicate (fn.ntmps - vals.toArray.size) undef).toList = vals ++ List.replicate (fn.ntmps - args.length) undef := by
      simp [hl]
    rw [e]
    refine hargs.append ?_
    generalize fn.ntmps - args.length = k
    induction k with
    | zero => exact .nil
    | succ k ih => exact .cons ⟨[], rfl, .nil⟩ ih
  refine hx _ _ _ _ (ends_sat (W := w) (β₀ := β) h) ?_ β _ w hrel
  have key : ∀ (a : Act) (w' : World) (st : St) (β' : Nat → Nat) (x : LV), resEv P fn st = some x →
      (∀ β1 a w1, Rel w (Live hp) β β1 ⟨[x], st.hp⟩ a w1 → Post w (Live hp) β (fun e st => e = .normal ∧ ∃ v, st.fr = [v] ∧ R v st.hp) .normal a w1) → Rel w (Live hp) β β' st a w' →
      a.defers = [] ∧ ∃ v, (results fn a.tmps).run P w' = .ok v w' ∧ (∃ val β' r hp', Ending.returned v = .returned val ∧ R r hp' ∧ r.den β' (Live hp') val ∧ HRel W m β₀ β' hp' w' ∧ Agree β β' (Live hp) (Live hp')) := by
    intro a w' st β' x hres hpost hr
    obtain ⟨v, h1, h2⟩ := run_results hr hres
    obtain ⟨s, β2, ⟨_, y, hy, hR⟩, h3⟩ := hpost β' { tmps := #[v], defers := [] } w' ⟨rfl, .cons h2 .nil, hr.heap⟩
    refine ⟨hr.defers, v, h1, v, β2, y, s.hp, rfl, hR, ?_, hh.trans h3.heap, fun i hi => ⟨(h3.heap.first i hi).2, (h3.heap.first i hi).1⟩⟩
    have := h3.fr
    rw [hy] at this
    cases this with
    | cons h _ => exact h
  rintro e a w' ⟨st, β', ⟨he, x, hres, hpost⟩, hr⟩
  rcases he with rfl | rfl
  · exact key a w' st β' x hres hpost hr
  · exact key a w' st β' x hres hpost hr

/-- a function of plain values: whatever lies in memory -/
theorem CallsEv.frame {P : Program} {f : FuncId} {args : List LV} {R : LV → Prop} (h : CallsEv P f args [] fun r _ => R r ∧ r.plain = true) (ha : args.all LV.plain = true) (hp : Hp) :
    CallsEv P f args hp fun r hp' => R r ∧ r.plain = true ∧ hp' = hp := by
  intro W m β₀ β w vals hh hargs
  simp only [List.all_eq_true] at ha
  have h0 : HRel w (Live []) β β [] w := ⟨fun i blk h => by simp at h, fun i j ⟨_, h⟩ => by simp at h, fun i ⟨_, h⟩ => by simp at h, fun i _ ⟨_, h⟩ => by simp at h, rfl, rfl, Nat.le_refl _, fun _ _ _ => rfl⟩
  refine (h w (Live []) β β w vals h0 (hargs.imp_mem fun a b hm => LV.den_plain (ha a hm))).mono ?_
  rintro e w' ⟨val, β', r, hp', rfl, ⟨h1, h2⟩, h3, h4, _⟩
  have hkeep : ∀ b, b < w.heap.size → w'.heap[b]? = w.heap[b]? := fun b hb => h4.keep b hb fun i ⟨_, hi⟩ => by simp at hi
  refine ⟨val, β, r, hp, rfl, ⟨h1, h2, rfl⟩, LV.den_plain h2 h3, ?_, Agree.refl _ _⟩
  refine hh.trans ⟨fun i blk hi => ?_, hh.inj, fun _ hi => ⟨rfl, hi⟩, fun i h1 h2 => absurd h2 h1, h4.os, h4.output, h4.size, fun b hb _ => hkeep b hb⟩
  rw [hkeep _ (hh.lt ⟨blk, hi⟩)]
  exact hh.rows i blk hi

/-- a call that is walked into -/
def inl (P : Program) (G : Gam) (fn : Func) (c : Code) (args : List LV) (hp : Hp) : Option Step :=
  match ((exec P G hp c (entry fn args hp)).ends P fn hp).one with
  | some (q, ⟨[r], hp'⟩) => if hp.length ≤ hp'.length then some (q, r, hp') else none
  | _ => none

theorem inl_ok {P : Program} {G : Gam} (hG : GOk P G) (hmix : P.follows .mixedOrders = true) {f : FuncId} {fn : Func} {c : Code} (hf : P.funcs[f]? = some fn) (hb : fn.body = some c) {args : List LV} {hp : Hp} {q : Option Prop} {v : LV} {hp' : Hp}
    (h : inl P G fn c args hp = some (q, v, hp')) (hq : needs q) : CallsEv P f args hp (fun r hp2 => r = v ∧ hp2 = hp') ∧ hp.length ≤ hp'.length := by
  unfold inl at h
  split at h
  · rename_i q' r hp2 ho
    split at h
    · rename_i hl
      simp at h; obtain ⟨rfl, rfl, rfl⟩ := h
      exact ⟨call_of_ex hf hb (.of_exec hG hmix rfl) (one_sat ho hq ⟨rfl, _, rfl, rfl, rfl⟩), hl⟩
    · simp at h
  · simp at h

def Enters (P : Program) (f : FuncId) : Prop := ∀ (as : Array Value) (w : World), (callFunc f as).run P w = .ok (.enter f as) w

end Go.Ev
