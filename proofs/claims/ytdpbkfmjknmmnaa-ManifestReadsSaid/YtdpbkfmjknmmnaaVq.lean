/- A reader of code, third make: code, functions, what a call does. -/
import Derived.Test.YtdpbkfmjknmmnaaVp
set_option linter.unusedVariables false
set_option linter.unusedSimpArgs false
namespace Go.Ev
open Go

def loopN : Nat → (St → Res) → St → Res
  | 0, _, _ => .fail
  | k + 1, f, st => (f st).bind (loopN k f)
/-- how many rounds a loop may have -/
def most : Nat := 100000

/-! ### What a piece of code does, from a state -/
def Ex (P : Program) (m : Hp) (c : Code) (st : St) (r : Res) : Prop :=
  ∀ (W : World) (β₀ : Env) (R : Exit → St → Prop) (Q : Exit → Act → World → Prop), r.sat R → (∀ e a w, Post W m β₀ R e a w → Q e a w) →
    ∀ β a w, Rel W m β₀ β st a w → c.wp P Q a w

/-- what is known of some blocks' insides -/
abbrev LTab := List (Nat × (St → Res))
def lookL : LTab → Nat → Option (St → Res)
  | [], _ => none
  | (i, f) :: l, id => if i = id then some f else lookL l id
def LOk (P : Program) (m : Hp) (LT : LTab) : Code → Prop
  | .seq a b | .cond _ a b => LOk P m LT a ∧ LOk P m LT b
  | .block id c => LOk P m LT c ∧ ∀ f, lookL LT id = some f → ∀ st, Ex P m c st (f st)
  | .loop c => LOk P m LT c
  | _ => True
theorem LOk.nil {P : Program} {m : Hp} : ∀ c : Code, LOk P m [] c := by
  intro c
  induction c with
  | seq a b iha ihb => exact ⟨iha, ihb⟩
  | cond _ a b iha ihb => exact ⟨iha, ihb⟩
  | block id c ih => exact ⟨ih, fun f h => by cases h⟩
  | loop c ih => exact ih
  | _ => trivial
def blks : Code → List (Nat × Code)
  | .seq a b | .cond _ a b => blks a ++ blks b
  | .block id c => (id, c) :: blks c
  | .loop c => blks c
  | _ => []
theorem LOk.of {P : Program} {m : Hp} {LT : LTab} : ∀ {c : Code}, (∀ id f c', lookL LT id = some f → (id, c') ∈ blks c → ∀ st, Ex P m c' st (f st)) → LOk P m LT c := by
  intro c
  induction c with
  | seq a b iha ihb => exact fun h => ⟨iha fun id f c' hf hm => h id f c' hf (List.mem_append_left _ hm), ihb fun id f c' hf hm => h id f c' hf (List.mem_append_right _ hm)⟩
  | cond _ a b iha ihb => exact fun h => ⟨iha fun id f c' hf hm => h id f c' hf (List.mem_append_left _ hm), ihb fun id f c' hf hm => h id f c' hf (List.mem_append_right _ hm)⟩
  | block id c ih => exact fun h => ⟨ih fun id f c' hf hm => h id f c' hf (List.mem_cons_of_mem _ hm), fun f hf => h id f c hf (by simp [blks])⟩
  | loop c ih => exact fun h => ih h
  | _ => exact fun _ => trivial

/-- the reader -/
def exec (P : Program) (G : Gam) (A : Alt) (m : Hp) (LT : LTab) : Code → St → Res
  | .skip, st => .leaf .normal st
  | .seq a b, st => (exec P G A m LT a st).bind (exec P G A m LT b)
  | .cond c x y, st => match ev st c with
    | .one (.sc (.bool (.lit true))) => exec P G A m LT x st
    | .one (.sc (.bool (.lit false))) => exec P G A m LT y st
    | .one (.sc (.bool (.sym b))) => A.f b m (exec P G A m LT x st) (exec P G A m LT y st)
    | _ => .fail
  | .block id c, st => match lookL LT id with
    | some f => (f st).block id
    | none => (exec P G A m LT c st).block id
  | .exit id, st => .leaf (.exit id) st
  | .ret, st => .leaf .ret st
  | .loop c, st => loopN most (exec P G A m LT c) st
  | .region _ ops false, st => opsEv P G A m false (fun _ => true) ops ops.toList [] [] st
  | .region _ ops true, st => if earlyOk ops.toList 0 = true then opsEv P G A m true (drawChk ops) ops ops.toList [] [] st else .fail
  | _, _ => .fail

def bindQ (R : Exit → St → Prop) (f : St → Res) : Exit → St → Prop
  | .normal, st => (f st).sat R
  | e, st => R e st
theorem bind_sat {f : St → Res} {R : Exit → St → Prop} : ∀ {r : Res}, (r.bind f).sat R → r.sat (bindQ R f)
  | .leaf .normal _, h => h
  | .leaf (.exit _) _, h => h
  | .leaf (.goto _) _, h => h
  | .leaf .ret _, h => h
  | .leaf (.panic _) _, h => h
  | .leaf .outgrown _, h => h
  | .ite _ _ _, h => ⟨fun e => bind_sat (h.1 e), fun e => bind_sat (h.2 e)⟩
  | .need _ _, h => ⟨h.1, bind_sat h.2⟩
  | .fail, h => h
def blockQ (R : Exit → St → Prop) (id : Nat) : Exit → St → Prop
  | .exit i, st => if i = id then R .normal st else R (.exit i) st
  | e, st => R e st
theorem block_sat {id : Nat} {R : Exit → St → Prop} : ∀ {r : Res}, (r.block id).sat R → r.sat (blockQ R id)
  | .leaf (.exit i) st, h => by
    simp only [Res.block] at h
    show if i = id then R .normal st else R (.exit i) st
    split at h
    · rename_i hi; rw [if_pos hi]; exact h
    · rename_i hi; rw [if_neg hi]; exact h
  | .leaf .normal _, h => h
  | .leaf (.goto _) _, h => h
  | .leaf .ret _, h => h
  | .leaf (.panic _) _, h => h
  | .leaf .outgrown _, h => h
  | .ite _ _ _, h => ⟨fun e => block_sat (h.1 e), fun e => block_sat (h.2 e)⟩
  | .need _ _, h => ⟨h.1, block_sat h.2⟩
  | .fail, h => h

theorem exec_ok {P : Program} {G : Gam} {A : Alt} (hG : GOk P G) (hmix : P.follows .mixedOrders = true) {W : World} {m : Hp} {LT : LTab} {β₀ : Env} :
    ∀ (c : Code), LOk P m LT c → ∀ (st : St) (R : Exit → St → Prop) (Q : Exit → Act → World → Prop), (exec P G A m LT c st).sat R → (∀ e a w, Post W m β₀ R e a w → Q e a w) →
      ∀ β a w, Rel W m β₀ β st a w → c.wp P Q a w := by
  intro c
  induction c with
  | skip => intro hL st R Q h hq β a w hr; exact wp_skip (hq _ _ _ ⟨st, β, h, hr⟩)
  | exit id => intro hL st R Q h hq β a w hr; exact wp_exit (hq _ _ _ ⟨st, β, h, hr⟩)
  | ret => intro hL st R Q h hq β a w hr; exact wp_ret (hq _ _ _ ⟨st, β, h, hr⟩)
  | seq x y ihx ihy =>
    intro hL st R Q h hq β a w hr
    refine wp_seq (ihx hL.1 st _ _ (bind_sat h) ?_ β a w hr)
    rintro e a w ⟨s, β', h1, h2⟩
    cases e with
    | normal => exact ihy hL.2 s R Q h1 hq β' a w h2
    | exit _ => exact hq _ _ _ ⟨s, β', h1, h2⟩
    | goto _ => exact hq _ _ _ ⟨s, β', h1, h2⟩
    | ret => exact hq _ _ _ ⟨s, β', h1, h2⟩
    | panic _ => exact hq _ _ _ ⟨s, β', h1, h2⟩
    | outgrown => exact hq _ _ _ ⟨s, β', h1, h2⟩
  | cond c x y ihx ihy =>
    intro hL st R Q h hq β a w hr
    have hc := ev_den hr c
    simp only [exec] at h
    split at h
    · rename_i he
      rw [he] at hc
      exact wp_cond_true hc (ihx hL.1 st R Q h hq β a w hr)
    · rename_i he
      rw [he] at hc
      exact wp_cond_false hc (ihy hL.2 st R Q h hq β a w hr)
    · rename_i b he
      rw [he] at hc
      cases b with
      | true =>
        obtain ⟨R', h1, h2⟩ := A.yes (W := W) (β₀ := β₀) h
        exact wp_cond_true hc (ihx hL.1 st R' Q h1 (fun e a w hp => hq e a w (h2 e a w hp)) β a w hr)
      | false =>
        obtain ⟨R', h1, h2⟩ := A.no (W := W) (β₀ := β₀) h
        exact wp_cond_false hc (ihy hL.2 st R' Q h1 (fun e a w hp => hq e a w (h2 e a w hp)) β a w hr)
    · exact h.elim
  | block id c ih =>
    intro hL st R Q h hq β a w hr
    have hin : ∀ Q', (∀ e a w, Post W m β₀ (blockQ R id) e a w → Q' e a w) → c.wp P Q' a w := by
      intro Q' hq'
      simp only [exec] at h
      split at h
      · rename_i f hf
        exact hL.2 f hf st W β₀ _ _ (block_sat h) hq' β a w hr
      · exact ih hL.1 st _ _ (block_sat h) hq' β a w hr
    refine wp_block (hin _ ?_)
    rintro e a w ⟨s, β', h1, h2⟩
    cases e with
    | exit i =>
      simp only [blockQ] at h1
      simp only [Exit.inBlock]
      split at h1
      · rename_i hi; rw [if_pos hi]; exact hq _ _ _ ⟨s, β', h1, h2⟩
      · rename_i hi; rw [if_neg hi]; exact hq _ _ _ ⟨s, β', h1, h2⟩
    | normal => exact hq _ _ _ ⟨s, β', h1, h2⟩
    | goto _ => exact hq _ _ _ ⟨s, β', h1, h2⟩
    | ret => exact hq _ _ _ ⟨s, β', h1, h2⟩
    | panic _ => exact hq _ _ _ ⟨s, β', h1, h2⟩
    | outgrown => exact hq _ _ _ ⟨s, β', h1, h2⟩
  | loop c ih =>
    intro hL st R Q h hq β a w hr
    have key : ∀ (n : Nat) (st : St), (loopN n (exec P G A m LT c) st).sat R → ∀ β a w, Rel W m β₀ β st a w → Code.rounds P c Q n a w := by
      intro n
      induction n with
      | zero => intro st h; exact h.elim
      | succ n ihn =>
        intro st h β a w hr
        rw [rounds_succ]
        refine ih hL st _ _ (bind_sat h) ?_ β a w hr
        rintro e a w ⟨s, β', h1, h2⟩
        cases e with
        | normal => exact ihn s h1 β' a w h2
        | exit _ => exact hq _ _ _ ⟨s, β', h1, h2⟩
        | goto _ => exact hq _ _ _ ⟨s, β', h1, h2⟩
        | ret => exact hq _ _ _ ⟨s, β', h1, h2⟩
        | panic _ => exact hq _ _ _ ⟨s, β', h1, h2⟩
        | outgrown => exact hq _ _ _ ⟨s, β', h1, h2⟩
    exact wp_loop_rounds most (key most st h β a w hr)
  | region id ops d =>
    intro hL st R Q h hq β a w hr
    cases d with
    | false => exact wp_region_list (opsEv_ok hG ops.toList [] [] st R (fun _ _ h => by simp [known] at h) h hq β a w hr)
    | true =>
      simp only [exec] at h
      split at h
      · rename_i hd; exact region_draw_ok hG hmix hd h hq hr
      · exact h.elim
  | _ => intro hL st R Q h; exact h.elim

/-! ### Pieces, put together -/
theorem Ex.of_exec {P : Program} {G : Gam} {A : Alt} (hG : GOk P G) (hmix : P.follows .mixedOrders = true) {m : Hp} {LT : LTab} {c : Code} (hL : LOk P m LT c) {st : St} {r : Res} (h : exec P G A m LT c st = r) : Ex P m c st r :=
  fun _ _ R Q hs hq β a w hr => exec_ok hG hmix c hL st R Q (h ▸ hs) hq β a w hr
theorem Ex.weak {P : Program} {m : Hp} {c : Code} {st : St} {r r' : Res} (h : Ex P m c st r) (hw : ∀ R, r'.sat R → r.sat R) : Ex P m c st r' :=
  fun W β₀ R Q hs hq β a w hr => h W β₀ R Q (hw R hs) hq β a w hr
/-- one piece behind the other -/
theorem Ex.bind {P : Program} {m : Hp} {x y : Code} {st : St} {r : Res} {f : St → Res} (h1 : Ex P m x st r) (h2 : ∀ s, Ex P m y s (f s)) : Ex P m (.seq x y) st (r.bind f) := by
  intro W β₀ R Q hs hq β a w hr
  refine wp_seq (h1 W β₀ _ _ (bind_sat hs) ?_ β a w hr)
  rintro e a w ⟨t, β', h3, h4⟩
  cases e with
  | normal => exact h2 t W β₀ R Q h3 hq β' a w h4
  | exit _ => exact hq _ _ _ ⟨t, β', h3, h4⟩
  | goto _ => exact hq _ _ _ ⟨t, β', h3, h4⟩
  | ret => exact hq _ _ _ ⟨t, β', h3, h4⟩
  | panic _ => exact hq _ _ _ ⟨t, β', h3, h4⟩
  | outgrown => exact hq _ _ _ ⟨t, β', h3, h4⟩
/-- one piece whose normal ends are known, behind it another one from each of them -/
def Res.nor (R : St → Prop) : Res → Prop := Res.sat fun e s => e = .normal → R s
theorem Ex.bindOn {P : Program} {m : Hp} {x y : Code} {st : St} {r : Res} {f : St → Res} (S : St → Prop) (h1 : Ex P m x st r) (h2 : ∀ s, S s → Ex P m y s (f s)) (hS : r.nor S) : Ex P m (.seq x y) st (r.bind f) := by
  intro W β₀ R Q hs hq β a w hr
  have hboth : ∀ {r : Res}, r.sat (bindQ R f) → r.nor S → r.sat fun e s => bindQ R f e s ∧ (e = .normal → S s) := by
    intro r
    induction r with
    | leaf e s => exact fun h1 h2 => ⟨h1, h2⟩
    | ite b t e iht ihe => exact fun h1 h2 => ⟨fun hb => iht (h1.1 hb) (h2.1 hb), fun hb => ihe (h1.2 hb) (h2.2 hb)⟩
    | need p r ih => exact fun h1 h2 => ⟨h1.1, ih h1.2 h2.2⟩
    | fail => exact fun h1 _ => h1
  refine wp_seq (h1 W β₀ _ _ (hboth (bind_sat hs) hS) ?_ β a w hr)
  rintro e a w ⟨t, β', ⟨h3, h5⟩, h4⟩
  cases e with
  | normal => exact h2 t (h5 rfl) W β₀ R Q h3 hq β' a w h4
  | exit _ => exact hq _ _ _ ⟨t, β', h3, h4⟩
  | goto _ => exact hq _ _ _ ⟨t, β', h3, h4⟩
  | ret => exact hq _ _ _ ⟨t, β', h3, h4⟩
  | panic _ => exact hq _ _ _ ⟨t, β', h3, h4⟩
  | outgrown => exact hq _ _ _ ⟨t, β', h3, h4⟩
theorem Ex.seq {P : Program} {m : Hp} {x y : Code} {st s : St} {r : Res} (h1 : Ex P m x st (.leaf .normal s)) (h2 : Ex P m y s r) : Ex P m (.seq x y) st r := by
  have := Ex.bindOn (f := fun _ => r) (fun t => t = s) h1 (fun t ht => ht ▸ h2) (fun _ => rfl)
  exact this
theorem Ex.block {P : Program} {m : Hp} {id : Nat} {c : Code} {st : St} {r : Res} (h : Ex P m c st r) : Ex P m (.block id c) st (r.block id) := by
  intro W β₀ R Q hs hq β a w hr
  refine wp_block (h W β₀ _ _ (block_sat hs) ?_ β a w hr)
  rintro e a w ⟨s, β', h1, h2⟩
  cases e with
  | exit i =>
    simp only [blockQ] at h1
    simp only [Exit.inBlock]
    split at h1
    · rename_i hi; rw [if_pos hi]; exact hq _ _ _ ⟨s, β', h1, h2⟩
    · rename_i hi; rw [if_neg hi]; exact hq _ _ _ ⟨s, β', h1, h2⟩
  | normal => exact hq _ _ _ ⟨s, β', h1, h2⟩
  | goto _ => exact hq _ _ _ ⟨s, β', h1, h2⟩
  | ret => exact hq _ _ _ ⟨s, β', h1, h2⟩
  | panic _ => exact hq _ _ _ ⟨s, β', h1, h2⟩
  | outgrown => exact hq _ _ _ ⟨s, β', h1, h2⟩
/-- a loop: X is what is known at the beginning of a round, μ goes down -/
theorem Ex.loop {P : Program} {m : Hp} {c : Code} {X : Type} (μ : X → Nat) (S : X → St) (I : X → Prop) (rnd : X → Res) (h : ∀ x, I x → Ex P m c (S x) (rnd x)) {R : X → Exit → St → Prop}
    (hr : ∀ x, I x → (rnd x).sat fun e s => (e = .normal ∧ ∃ y, s = S y ∧ I y ∧ μ y < μ x ∧ ∀ e s, R y e s → R x e s) ∨ (e ≠ .normal ∧ R x e s)) {x : X} (hx : I x) {r : Res} (hR : ∀ R', r.sat R' → ∀ e s, R x e s → R' e s) : Ex P m (.loop c) (S x) r := by
  intro W β₀ R0 Q hs hq β a w hrel
  have key : ∀ (n : Nat) (y : X), I y → μ y < n → (∀ e s, R y e s → R0 e s) → ∀ β a w, Rel W m β₀ β (S y) a w → Code.rounds P c Q n a w := by
    intro n
    induction n with
    | zero => intro y _ h0; omega
    | succ n ih =>
      intro y hy hn hRy β a w hr'
      rw [rounds_succ]
      refine h y hy W β₀ _ _ (hr y hy) ?_ β a w hr'
      rintro e a w ⟨t, β', h1, h2⟩
      rcases h1 with ⟨rfl, z, rfl, hz, hlt, hmono⟩ | ⟨hne, h1⟩
      · exact ih z hz (by omega) (fun e s h => hRy e s (hmono e s h)) β' a w h2
      · cases e with
        | normal => exact absurd rfl hne
        | exit _ => exact hq _ _ _ ⟨t, β', hRy _ _ h1, h2⟩
        | goto _ => exact hq _ _ _ ⟨t, β', hRy _ _ h1, h2⟩
        | ret => exact hq _ _ _ ⟨t, β', hRy _ _ h1, h2⟩
        | panic _ => exact hq _ _ _ ⟨t, β', hRy _ _ h1, h2⟩
        | outgrown => exact hq _ _ _ ⟨t, β', hRy _ _ h1, h2⟩
  exact wp_loop_rounds (μ x + 1) (key _ x hx (Nat.lt_succ_self _) (fun e s h => hR R0 hs e s h) β a w hrel)

/-! ### A function -/
def resOne (P : Program) (st : St) : ResultVar → Option VV
  | .tmp t => match ev st (.tmp t) with
    | .one x => some x
    | _ => none
  | .cell a t => match ev st (.tmp a) with
    | .one (.sc (.ptr b off)) => match itemAt st.hp b with
      | some (.blk cells _) => partEv P t cells off
      | _ => none
    | _ => none
def resEv (P : Program) (fn : Func) (st : St) : Option LV :=
  match optAll (resOne P st) fn.results.toList with
  | some [x] => some (.one x)
  | some l => some (.tup l)
  | none => none
def resRun (a : Act) : ResultVar → Sem Value
  | .tmp t => pure (a.tmps.getD t undef)
  | .cell b t => do loadVar t (← asAddr (a.tmps.getD b undef))
theorem results_eq (fn : Func) (a : Act) : results fn a.tmps = (do let vs ← fn.results.mapM (resRun a); pure (if h : vs.size = 1 then vs[0] else .tuple vs)) := by
  unfold results
  congr 2
theorem run_resOne {P : Program} {W : World} {hp₀ : Hp} {β₀ β : Env} {st : St} {a : Act} {w : World} (hr : Rel W hp₀ β₀ β st a w) {r : ResultVar} {x : VV} (h : resOne P st r = some x) :
    ∃ v, (resRun a r).run P w = .ok v w ∧ x.den β (kd st.hp) v := by
  cases r with
  | tmp t =>
    simp only [resOne] at h
    split at h
    · rename_i y hy
      simp at h; subst h
      have := ev_den hr (.tmp t); rw [hy] at this
      exact ⟨_, rfl, this⟩
    · simp at h
  | cell b t =>
    simp only [resOne] at h
    split at h
    · rename_i i off hy
      split at h
      · rename_i cells elem hb
        have := ev_den hr (.tmp b); rw [hy] at this
        obtain ⟨_, e⟩ := this
        have e' : a.tmps.getD b undef = .pointer (some ⟨β.b i, off, none⟩) := e
        obtain ⟨c, fz, _, _, h3, h4⟩ := hr.heap.blkAt (itemAt_some hb)
        obtain ⟨v, h5, h6⟩ := run_loadPart (P := P) rfl h4 h3 h
        rw [addr_add, Nat.zero_add] at h5
        exact ⟨v, by simp [resRun, e', asAddr, h5], h6⟩
      · simp at h
    · simp at h
theorem run_results {P : Program} {fn : Func} {W : World} {hp₀ : Hp} {β₀ β : Env} {st : St} {a : Act} {w : World} (hr : Rel W hp₀ β₀ β st a w) {r : LV} (h : resEv P fn st = some r) :
    ∃ v, (results fn a.tmps).run P w = .ok v w ∧ r.den β (kd st.hp) v := by
  have key : ∀ (l : List ResultVar) (xs : List VV), optAll (resOne P st) l = some xs → ∃ vs : List Value, (l.mapM (resRun a)).run P w = .ok vs w ∧ All2 (VV.den β (kd st.hp)) xs vs := by
    intro l
    induction l with
    | nil => intro xs h; simp [optAll] at h; subst h; exact ⟨[], by simp, .nil⟩
    | cons r l ih =>
      intro xs h
      simp only [optAll] at h
      split at h
      · rename_i y m' h1 h2
        simp at h; subst h
        obtain ⟨v, e1, e2⟩ := run_resOne hr h1
        obtain ⟨vs, e3, e4⟩ := ih _ h2
        refine ⟨v :: vs, ?_, .cons e2 e4⟩
        simp only [List.mapM_cons, Sem.run_bind]
        rw [e1]
        simp only [Result.andThen_ok, Sem.run_pure, e3]
      · simp at h
  unfold resEv at h
  have hrun : ∀ (vs : List Value) (xs : List VV), optAll (resOne P st) fn.results.toList = some xs → (∀ vs : List Value, All2 (VV.den β (kd st.hp)) xs vs → ∃ v, (if h : vs.toArray.size = 1 then vs.toArray[0] else .tuple vs.toArray) = v ∧ r.den β (kd st.hp) v) →
      ∃ v, (results fn a.tmps).run P w = .ok v w ∧ r.den β (kd st.hp) v := by
    intro _ xs hx hv
    obtain ⟨vs, e1, e2⟩ := key _ _ hx
    obtain ⟨v, e3, e4⟩ := hv vs e2
    refine ⟨v, ?_, e4⟩
    rw [results_eq, Sem.run_bind, Array.mapM_eq_mapM_toList]
    simp only [Sem.run_map, e1, Result.andThen_ok]
    rw [← e3]; rfl
  split at h
  · rename_i x hx
    simp at h; subst h
    refine hrun [] [x] hx fun vs hvs => ?_
    cases hvs with
    | cons h1 h2 =>
      cases h2
      exact ⟨_, rfl, h1⟩
  · rename_i l hne hl
    simp at h; subst h
    refine hrun [] l hl fun vs hvs => ?_
    have hlen := hvs.length
    have : vs.length ≠ 1 := by
      intro e
      rw [e] at hlen
      obtain ⟨x, hx⟩ := List.length_eq_one_iff.1 hlen
      exact hne x hx
    refine ⟨_, by rw [dif_neg (by simpa using this)], vs, rfl, hvs⟩
  · simp at h

theorem HRel.self {W : World} {hp₀ : Hp} {β₀ β : Env} {hp : Hp} {w : World} (h : HRel W hp₀ β₀ β hp w) : HRel w hp β β hp w :=
  ⟨h.items, h.inj, Agree.refl _ _, fun i x b hi ho => .inr ⟨x, hi, ho⟩, rfl, rfl, Nat.le_refl _, fun _ _ _ => rfl, h.reads, fun pm v t l b h1 h2 => .inr ⟨pm, v, t, l, id, h1, h2⟩⟩
theorem HRel.trans {W : World} {hp₀ : Hp} {β₀ β β' : Env} {hp hp' : Hp} {w w' : World} (h : HRel W hp₀ β₀ β hp w) (h' : HRel w hp β β' hp' w') : HRel W hp₀ β₀ β' hp' w' where
  items := h'.items
  inj := h'.inj
  first := h.first.trans h'.first
  own i x b hi ho := by
    rcases h'.own i x b hi ho with h1 | ⟨y, hj, h1⟩
    · exact .inl (Nat.le_trans h.size h1)
    · exact h.own i y b hj h1
  os := h'.os.trans h.os
  output := h'.output.trans h.output
  size := Nat.le_trans h.size h'.size
  keep b hb hne := by
    rw [h'.keep b (by have := h.size; omega) fun ⟨i, x, hi, ho⟩ => ?_]
    · exact h.keep b hb hne
    · rcases h.own i x b hi ho with h1 | ⟨y, h1⟩
      · omega
      · exact hne ⟨i, y, h1⟩
  reads := h'.reads
  from_ pm v t l b h1 h2 := by
    rcases h'.from_ pm v t l b h1 h2 with h3 | ⟨pm', v', t', l', h0, h3, h4⟩
    · exact .inl (Nat.le_trans h.size h3)
    · rcases h.from_ pm' v' t' l' b h3 h4 with h5 | ⟨pm2, v2, t2, l2, h6, h7, h8⟩
      · exact .inl h5
      · exact .inr ⟨pm2, v2, t2, l2, fun e => h6 (h0 e), h7, h8⟩

/-- what a call of a function does: whatever R holds of, of one end it holds -/
def CallsEv (P : Program) (f : FuncId) (args : List LV) (hp : Hp) (R : LV → Hp → Prop) : Prop :=
  ∀ (β : Env) (w : World) (vals : List Value), HRel w hp β β hp w → All2 (LV.den β (kd hp)) args vals →
    Calls P f vals.toArray w fun e w' => ∃ val β' r hp', e = .returned val ∧ R r hp' ∧ r.den β' (kd hp') val ∧ HRel w hp β β' hp' w'

def entry (fn : Func) (args : List LV) (hp : Hp) : St := ⟨args ++ List.replicate (fn.ntmps - args.length) (.tup []), hp⟩

/-- the ends of a function -/
inductive End where
  | leaf (v : LV) (hp : Hp)
  | ite (b : Bool) (x y : End)
  | need (p : Prop) (x : End)
  | fail
def End.sat (R : LV → Hp → Prop) : End → Prop
  | .leaf v hp => R v hp
  | .ite b x y => (b = true → x.sat R) ∧ (b = false → y.sat R)
  | .need p x => p ∧ x.sat R
  | .fail => False
def Res.ends (P : Program) (fn : Func) : Res → End
  | .leaf .normal st | .leaf .ret st => match resEv P fn st with
    | some v => .leaf v st.hp
    | none => .fail
  | .leaf _ _ => .fail
  | .ite b x y => .ite b (x.ends P fn) (y.ends P fn)
  | .need p x => .need p (x.ends P fn)
  | .fail => .fail
theorem ends_sat {P : Program} {fn : Func} {R : LV → Hp → Prop} : ∀ {r : Res}, (r.ends P fn).sat R → r.sat fun e st => (e = .normal ∨ e = .ret) ∧ ∃ v, resEv P fn st = some v ∧ R v st.hp
  | .leaf e st, h => by
    cases e with
    | normal =>
      simp only [Res.ends] at h
      split at h
      · rename_i v hv; exact ⟨.inl rfl, v, hv, h⟩
      · exact h.elim
    | ret =>
      simp only [Res.ends] at h
      split at h
      · rename_i v hv; exact ⟨.inr rfl, v, hv, h⟩
      · exact h.elim
    | exit _ => exact h.elim
    | goto _ => exact h.elim
    | panic _ => exact h.elim
    | outgrown => exact h.elim
  | .ite b x y, h => ⟨fun e => ends_sat (h.1 e), fun e => ends_sat (h.2 e)⟩
  | .need p x, h => ⟨h.1, ends_sat h.2⟩
  | .fail, h => h

/-- what a call of a function comes to -/
def CallsT (P : Program) (f : FuncId) (args : List LV) (hp : Hp) (t : End) : Prop := ∀ R, t.sat R → CallsEv P f args hp R
theorem call_of_ex {P : Program} {f : FuncId} {fn : Func} {c : Code} (hf : P.funcs[f]? = some fn) (hb : fn.body = some c) {args : List LV} {hp : Hp} {r : Res} (hx : Ex P hp c (entry fn args hp) r) : CallsT P f args hp (r.ends P fn) := by
  intro R h β w vals hh hargs
  refine calls_of_wp hf hb ?_
  have hrel : Rel w hp β β (entry fn args hp) { tmps := vals.toArray ++ Array.replicate (fn.ntmps - vals.toArray.size) undef, defers := [] } w := by
    refine ⟨rfl, ?_, hh⟩
    show All2 _ (args ++ List.replicate (fn.ntmps - args.length) (.tup [])) (vals.toArray ++ Array.replicate (fn.ntmps - vals.toArray.size) undef).toList
    have hl := hargs.length
    have e : (vals.toArray ++ Array.replicate (fn.ntmps - vals.toArray.size) undef).toList = vals ++ List.replicate (fn.ntmps - args.length) undef := by
      simp [hl]
    rw [e]
    refine hargs.append ?_
    generalize fn.ntmps - args.length = k
    induction k with
    | zero => exact .nil
    | succ k ih => exact .cons ⟨[], rfl, .nil⟩ ih
  refine hx _ _ _ _ (ends_sat h) ?_ β _ w hrel
  have key : ∀ (a : Act) (w' : World) (st : St) (β' : Env) (x : LV), resEv P fn st = some x → R x st.hp → Rel w hp β β' st a w' →
      a.defers = [] ∧ ∃ v, (results fn a.tmps).run P w' = .ok v w' ∧ (∃ val β' r hp', Ending.returned v = .returned val ∧ R r hp' ∧ r.den β' (kd hp') val ∧ HRel w hp β β' hp' w') := by
    intro a w' st β' x hres hR hr
    obtain ⟨v, h1, h2⟩ := run_results hr hres
    exact ⟨hr.defers, v, h1, v, β', x, st.hp, rfl, hR, h2, hr.heap⟩
  rintro e a w' ⟨st, β', ⟨he, x, hres, hR⟩, hr⟩
  rcases he with rfl | rfl
  · exact key a w' st β' x hres hR hr
  · exact key a w' st β' x hres hR hr
def Enters (P : Program) (f : FuncId) : Prop := ∀ (as : Array Value) (w : World), (callFunc f as).run P w = .ok (.enter f as) w
end Go.Ev
