/- The reader of code: pieces of code, calls. -/
import Derived.Test.YtndiiabkoeblgaaEvb
import Derived.LoopN
import Derived.Orders
namespace Go.Ev
open Go

/-! ### Pieces of code -/
inductive Res where
  | leaf (e : Exit) (st : St)
  | ite (b : Bool) (t e : Res)
  | need (p : Prop) (r : Res)
  | fail

def Res.sat (Q : Exit → St → Prop) : Res → Prop
  | .leaf e st => Q e st
  | .ite b t e => (b = true → t.sat Q) ∧ (b = false → e.sat Q)
  | .need p r => p ∧ r.sat Q
  | .fail => False

def Res.bind (f : St → Res) : Res → Res
  | .leaf .normal st => f st
  | .leaf e st => .leaf e st
  | .ite b t e => .ite b (t.bind f) (e.bind f)
  | .need p r => .need p (r.bind f)
  | .fail => .fail

def Res.block (id : Nat) : Res → Res
  | .leaf (.exit i) st => if i = id then .leaf .normal st else .leaf (.exit i) st
  | .leaf e st => .leaf e st
  | .ite b t e => .ite b (t.block id) (e.block id)
  | .need p r => .need p (r.block id)
  | .fail => .fail

def Res.needs (q : Option Prop) (r : Res) : Res :=
  match q with
  | none => r
  | some p => .need p r

theorem Res.sat_mono {Q Q' : Exit → St → Prop} (hq : ∀ e st, Q e st → Q' e st) : ∀ {r : Res}, r.sat Q → r.sat Q'
  | .leaf _ _, h => hq _ _ h
  | .ite _ _ _, h => ⟨fun e => Res.sat_mono hq (h.1 e), fun e => Res.sat_mono hq (h.2 e)⟩
  | .need _ _, h => ⟨h.1, Res.sat_mono hq h.2⟩
  | .fail, h => h

/-- two states, one of which is there: what holds of both -/
def joinF (b : Bool) (ok : Nat → Bool) : List LV → List LV → List LV
  | x :: l, y :: r => joinV b ok x y :: joinF b ok l r
  | _, _ => []
def joinB (b : Bool) (ok : Nat → Bool) : Option Blk → Option Blk → Option (Option Blk)
  | some x, some y => if x.elem = y.elem then if x.more = y.more then (joinL b ok x.cells y.cells).map fun z => some ⟨z, x.elem, x.more⟩ else none else none
  | _, _ => some none
def joinH (b : Bool) (ok : Nat → Bool) : Hp → Hp → Option Hp
  | x :: l, y :: r => match joinB b ok x y, joinH b ok l r with
    | some z, some m => some (z :: m)
    | _, _ => none
  | _, _ => some []
def liveB (hp : Hp) (i : Nat) : Bool :=
  match hp[i]? with
  | some (some _) => true
  | _ => false
theorem liveB_iff (hp : Hp) (i : Nat) : liveB hp i = true ↔ Live hp i := by
  unfold liveB Live
  split
  · rename_i b h; simp [h]
  · rename_i h; constructor
    · intro e; cases e
    · rintro ⟨b, hb⟩; exact absurd hb (h b)
def bothB (x y : Hp) (i : Nat) : Bool := liveB x i && liveB y i
def joinSt (b : Bool) (x y : St) : Option St :=
  if x.fr.length = y.fr.length then
    (joinH b (bothB x.hp y.hp) x.hp y.hp).map fun h => ⟨joinF b (bothB x.hp y.hp) x.fr y.fr, h⟩
  else none
def allB (h0 x y : Hp) : Bool := (List.range h0.length).all fun i => !liveB h0 i || bothB x y i
theorem allB_live {h0 x y : Hp} (h : allB h0 x y = true) {i : Nat} (hi : Live h0 i) : Live x i ∧ Live y i := by
  obtain ⟨b, hb⟩ := hi
  have hlt := (List.getElem?_eq_some_iff.1 hb).1
  simp only [allB, List.all_eq_true, List.mem_range] at h
  have h1 := h i hlt
  have h2 : liveB h0 i = true := (liveB_iff _ _).2 ⟨b, hb⟩
  rw [h2] at h1
  simp only [bothB, Bool.not_true, Bool.false_or, Bool.and_eq_true, liveB_iff] at h1
  exact h1

def joinR (b : Bool) (m : Hp) (x : St) : Res → Res
  | .need p r => .need (b = false → p) (joinR b m x r)
  | .leaf .normal y => if allB m x.hp y.hp = true then
      match joinSt b x y with
      | some z => .leaf .normal z
      | none => .ite b (.leaf .normal x) (.leaf .normal y)
    else .ite b (.leaf .normal x) (.leaf .normal y)
  | r => .ite b (.leaf .normal x) r
def join (b : Bool) (m : Hp) : Res → Res → Res
  | .need p r, e => .need (b = true → p) (join b m r e)
  | .leaf .normal x, e => joinR b m x e
  | r, e => .ite b r e

/-- what is known at the end of a piece of code -/
def Post (W : World) (m : Nat → Prop) (β₀ : Nat → Nat) (R : Exit → St → Prop) : Exit → Act → World → Prop :=
  fun e a w => ∃ st β, R e st ∧ Rel W m β₀ β st a w

/-- what an operation has to do with the blocks -/
inductive Cl where
  | pure
  | read
  | new
  | eff
  deriving DecidableEq

/-- the blocks of one list are those of another one, which may have more -/
def Within (hp hp' : Hp) : Prop := ∀ (i : Nat) (blk : Blk), hp[i]? = some (some blk) → hp'[i]? = some (some blk)

/-- calls that are known by what they do -/
structure Gam where
  run : FuncId → List LV → Hp → Option Step
  cls : FuncId → Cl
/-- a call that is answered at once, or entered -/
def Done (P : Program) (f : FuncId) (vals : Array Value) (w : World) (Q : Ending → World → Prop) : Prop :=
  (∃ val, (callFunc f vals).run P w = .ok (.value val) w ∧ Q (.returned val) w) ∨
    ((∀ (as : Array Value) (w : World), (callFunc f as).run P w = .ok (.enter f as) w) ∧ Calls P f vals w Q)
theorem Done.mono {P : Program} {f : FuncId} {vals : Array Value} {w : World} {Q Q' : Ending → World → Prop} (h : Done P f vals w Q) (hq : ∀ e w', Q e w' → Q' e w') : Done P f vals w Q' :=
  h.imp (fun ⟨v, h1, h2⟩ => ⟨v, h1, hq _ _ h2⟩) fun ⟨h1, h2⟩ => ⟨h1, h2.mono hq⟩
structure GOk (P : Program) (G : Gam) : Prop where
  calls : ∀ f args hp q v hp', G.run f args hp = some (q, v, hp') → needs q →
    ∀ (W : World) (m : Nat → Prop) (β₀ β : Nat → Nat) (w : World) (vals : List Value), HRel W m β₀ β hp w → All2 (LV.den β (Live hp)) args vals →
      Done P f vals.toArray w fun e w' => ∃ val β', e = .returned val ∧ v.den β' (Live hp') val ∧ HRel W m β₀ β' hp' w' ∧ Agree β β' (Live hp) (Live hp')
  long : ∀ f args hp q v hp', G.run f args hp = some (q, v, hp') → hp.length ≤ hp'.length
  pures : ∀ f, G.cls f = .pure → ∀ args hp q v hp', G.run f args hp = some (q, v, hp') → hp' = hp ∧ ∀ hp2, G.run f args hp2 = some (q, v, hp2)
  reads : ∀ f, G.cls f = .read → ∀ args hp q v hp', G.run f args hp = some (q, v, hp') → hp' = hp ∧ ∀ hp2, Within hp hp2 → G.run f args hp2 = some (q, v, hp2)

def put (st : St) (dst : Option Tmp) (v : LV) (hp : Hp) : St :=
  match dst with
  | some d => ⟨st.fr.set d v, hp⟩
  | none => ⟨st.fr, hp⟩

theorem Rel.put {W : World} {m : Nat → Prop} {β₀ β β' : Nat → Nat} {st : St} {a : Act} {w w' : World} (h : Rel W m β₀ β st a w) {dst : Option Tmp} {v : LV} {val : Value} {hp : Hp}
    (hv : v.den β' (Live hp) val) (hh : HRel W m β₀ β' hp w') (ha : Agree β β' (Live st.hp) (Live hp)) :
    Rel W m β₀ β' (put st dst v hp) (a.put dst val) w' := by
  have hfr : All2 (LV.den β' (Live hp)) st.fr a.tmps.toList := h.fr.imp fun _ _ => LV.den_mono ha
  cases dst with
  | none => exact ⟨h.defers, hfr, hh⟩
  | some d => exact ⟨h.defers, by
      show All2 (LV.den β' (Live hp)) (st.fr.set d v) (a.tmps.setIfInBounds d val).toList
      rw [Array.toList_setIfInBounds]
      exact hfr.set d hv, hh⟩

theorem not_live_length (hp : Hp) : ¬ Live hp hp.length := by
  rintro ⟨b, hb⟩; simp at hb

/-- the function that is called, and its arguments -/
def calleeEv (st : St) (c : Call) : Option FuncId :=
  match c.callee with
  | .value f => match ev st f with
    | .one (.sc (.con (.func (.func f) fs cs))) => if fs.isEmpty && cs.isEmpty then some f else none
    | _ => none
  | _ => none

def stepEv (P : Program) (G : Gam) (id : Nat) (st : St) (o : Oper) : Option Step :=
  match o.op with
  | .call c => match calleeEv st c with
    | some f => G.run f (c.args.toList.map (ev st)) st.hp
    | none => none
  | op => opEv P id st op

theorem stepEv_ok {P : Program} {G : Gam} (hG : GOk P G) {id : Nat} {st : St} {o : Oper} {q : Option Prop} {v : LV} {hp : Hp} (h : stepEv P G id st o = some (q, v, hp)) (hq : needs q)
    {W : World} {m : Nat → Prop} {β₀ β : Nat → Nat} {a : Act} {w : World} (hid : isNew o.op = true → ¬ Live st.hp id) (hr : Rel W m β₀ β st a w) {next : Act → World → Prop} {Q : Exit → Act → World → Prop}
    (hn : ∀ β' a' w', Rel W m β₀ β' (put st o.dst v hp) a' w' → next a' w') : o.wp P a w next Q := by
  have hop : ∀ (h : opEv P id st o.op = some (q, v, hp)), o.wp P a w next Q := by
    intro h
    obtain ⟨β', w', r, val, h1, h2, h3, h4, h5⟩ := opEv_ok h hid hq W m β₀ β a w hr
    have := hn β' _ w' (hr.put (dst := o.dst) h3 h4 h5)
    unfold Oper.wp
    rw [h1]
    rcases h2 with rfl | ⟨rfl, rfl⟩
    · exact this
    · exact this
  unfold stepEv at h
  split at h
  · rename_i c hc
    split at h
    · rename_i f hf
      have hargs : All2 (LV.den β (Live st.hp)) (c.args.toList.map (ev st)) (c.args.toList.map a.eval) := All2.of_map _ _ _ fun x _ => ev_den hr x
      have hdone := hG.calls f _ _ _ _ _ h hq W m β₀ β w _ hr.heap hargs
      unfold calleeEv at hf
      split at hf
      · rename_i x hx
        split at hf
        · rename_i g fs cs hx2
          split at hf
          · rename_i hemp
            simp at hf; subst hf
            have hd := ev_den hr x
            rw [hx2] at hd
            have e : a.eval x = .func (.func g) fs cs := hd.2
            simp at hemp
            obtain ⟨rfl, rfl⟩ := hemp
            unfold Oper.wp
            have e2 : (c.args.toList.map a.eval).toArray = c.args.map a.eval := by rw [← Array.toList_map, Array.toArray_toList]
            rcases hdone with ⟨val, h1, val', β', he, h3, h4, h5⟩ | ⟨h1, h2⟩
            · have hrun : (execOp a.eval o).run P w = .ok (.value val) w := by
                rw [e2] at h1
                simp only [execOp, hc, resolve, hx, e, Deferred.ofValue, Sem.run_bind, Sem.run_pure, Result.andThen_ok, invoke, Array.append_empty, Array.empty_append]
                exact h1
              rw [hrun]
              cases he
              exact hn β' _ w (hr.put (dst := o.dst) h3 h4 h5)
            · have hrun : (execOp a.eval o).run P w = .ok (.enter g (c.args.toList.map a.eval).toArray) w := by
                simp only [execOp, hc, resolve, hx, e, Deferred.ofValue, Sem.run_bind, Sem.run_pure, Result.andThen_ok, invoke, h1, e2]
                simp
              rw [hrun]
              refine h2.mono ?_
              rintro e w' ⟨val, β', rfl, h3, h4, h5⟩
              exact hn β' _ w' (hr.put (dst := o.dst) h3 h4 h5)
          · simp at hf
        · simp at hf
      · simp at hf
    · simp at h
  · exact hop h

/-- is an operation carried out? -/
def wantedEv (st : St) (ops : Array Oper) (o : Oper) : Option SB :=
  match o.guard with
  | none => some (.lit true)
  | some (j, want) => match (ops[j]?).bind (·.dst) with
    | none => some (.lit false)
    | some d => match st.fr[d]? with
      | some (.one (.sc (.bool (.lit b)))) => some (.lit (b == want))
      | some (.one (.sc (.bool (.sym b)))) => some (.sym (b == want))
      | some (.tup _) => some (.lit false)
      | some (.one (.sc (.int _ _))) => some (.lit false)
      | none => some (.lit false)
      | _ => none

theorem wantedEv_ok {W : World} {m : Nat → Prop} {β₀ β : Nat → Nat} {st : St} {a : Act} {w : World} (h : Rel W m β₀ β st a w) {ops : Array Oper} {o : Oper} {b : SB}
    (hb : wantedEv st ops o = some b) : Region.wanted o (yielded ops a.tmps) = b.val := by
  unfold wantedEv at hb
  unfold Region.wanted
  split at hb
  · rename_i hg; simp at hb; subst hb; simp [hg, SB.val]
  · rename_i j want hg
    simp only [hg]
    unfold yielded
    split at hb
    · rename_i hd; simp at hb; subst hb; simp [hd, SB.val]
    · rename_i d hd
      simp only [hd, Option.bind_some]
      have hlen := h.fr.length
      split at hb
      · rename_i x hx
        obtain ⟨v, hv, hden⟩ := h.fr.get hx
        have hv' : a.tmps[d]? = some v := by simpa using hv
        have e : v = .bool x := hden
        simp at hb; subst hb; simp [hv', e, SB.val]
      · rename_i x hx
        obtain ⟨v, hv, hden⟩ := h.fr.get hx
        have hv' : a.tmps[d]? = some v := by simpa using hv
        have e : v = .bool x := hden
        simp at hb; subst hb; simp [hv', e, SB.val]
      · rename_i l hx
        obtain ⟨v, hv, vs, e, _⟩ := h.fr.get hx
        have hv' : a.tmps[d]? = some v := by simpa using hv
        simp at hb; subst hb; simp [hv', e, SB.val]
      · rename_i k i hx
        obtain ⟨v, hv, hden⟩ := h.fr.get hx
        have hv' : a.tmps[d]? = some v := by simpa using hv
        have e : v = .int k i.val := hden
        simp at hb; subst hb; simp [hv', e, SB.val]
      · rename_i hx
        have hv' : a.tmps[d]? = none := by
          have := List.getElem?_eq_none_iff.1 hx
          rw [Array.getElem?_eq_none_iff, ← Array.length_toList]
          omega
        simp at hb; subst hb; simp [hv', SB.val]
      · simp at hb

/-! ### Guards that are known -/
abbrev Asm := List (Tmp × Bool)
def known : Asm → Tmp → Option Bool
  | [], _ => none
  | (d, v) :: l, t => if d = t then some v else known l t
def forget (a : Asm) : Option Tmp → Asm
  | none => a
  | some d => a.filter fun p => p.1 != d
def wantedA (a : Asm) (st : St) (ops : Array Oper) (o : Oper) : Option SB :=
  match o.guard with
  | none => some (.lit true)
  | some (j, want) => match (ops[j]?).bind (·.dst) with
    | none => some (.lit false)
    | some d => match known a d with
      | some v => some (.lit (v == want))
      | none => wantedEv st ops o
def learn (a : Asm) (ops : Array Oper) (o : Oper) (v : Bool) : Asm :=
  match o.guard with
  | none => a
  | some (j, want) => match (ops[j]?).bind (·.dst) with
    | none => a
    | some d => (d, v == want) :: a
def AsmOk (a : Asm) (st : St) : Prop := ∀ d v, known a d = some v → ∃ x : SB, st.fr[d]? = some (.one (.sc (.bool x))) ∧ x.val = v

theorem known_forget {a : Asm} {e d : Tmp} {v : Bool} (h : known (forget a (some e)) d = some v) : d ≠ e ∧ known a d = some v := by
  induction a with
  | nil => simp [forget, known] at h
  | cons p a ih =>
    obtain ⟨t, u⟩ := p
    simp only [forget, List.filter_cons] at h ih
    split at h
    · rename_i hne
      simp only [known] at h ⊢
      split at h
      · rename_i htd; subst htd
        simp at h hne; exact ⟨hne, by simp [h]⟩
      · rename_i htd
        rw [if_neg htd]; exact ih h
    · rename_i hne
      simp at hne; subst hne
      obtain ⟨h1, h2⟩ := ih h
      exact ⟨h1, by simp only [known, if_neg (Ne.symm h1)]; exact h2⟩

theorem AsmOk.put {a : Asm} {st : St} (h : AsmOk a st) {dst : Option Tmp} {v : LV} {hp : Hp} : AsmOk (forget a dst) (put st dst v hp) := by
  intro d u hd
  cases dst with
  | none => exact h d u hd
  | some e =>
    obtain ⟨h1, h2⟩ := known_forget hd
    obtain ⟨x, hx, hv⟩ := h d u h2
    exact ⟨x, by simp only [Ev.put]; rw [List.getElem?_set_ne (Ne.symm h1)]; exact hx, hv⟩

theorem wantedA_ok {a : Asm} {st : St} (h : AsmOk a st) {ops : Array Oper} {o : Oper} {b : SB} (hb : wantedA a st ops o = some b) : ∃ b', wantedEv st ops o = some b' ∧ b'.val = b.val := by
  unfold wantedA at hb
  split at hb
  · rename_i hg; simp at hb; subst hb; exact ⟨.lit true, by simp [wantedEv, hg], rfl⟩
  · rename_i j want hg
    split at hb
    · rename_i hd; simp at hb; subst hb; exact ⟨.lit false, by simp [wantedEv, hg, hd], rfl⟩
    · rename_i d hd
      split at hb
      · rename_i v hk
        simp at hb; subst hb
        obtain ⟨x, hx, hv⟩ := h d v hk
        cases x with
        | lit x => exact ⟨.lit (x == want), by simp [wantedEv, hg, hd, hx], by simp only [SB.val] at hv ⊢; rw [hv]⟩
        | sym x => exact ⟨.sym (x == want), by simp [wantedEv, hg, hd, hx], by simp only [SB.val] at hv ⊢; rw [hv]⟩
      · exact ⟨b, hb, rfl⟩

theorem learn_ok {a : Asm} {st : St} (h : AsmOk a st) {ops : Array Oper} {o : Oper} {b : Bool} (hb : wantedA a st ops o = some (.sym b)) : AsmOk (learn a ops o b) st := by
  unfold wantedA at hb
  split at hb
  · simp at hb
  · rename_i j want hg
    split at hb
    · simp at hb
    · rename_i d hd
      have hl : learn a ops o b = (d, b == want) :: a := by simp only [learn, hg, hd]
      rw [hl]
      split at hb
      · simp at hb
      · intro e v he
        simp only [known] at he
        split at he
        · rename_i hde; subst hde
          simp at he; subst he
          simp only [wantedEv, hg, hd] at hb
          split at hb <;> simp at hb
          rename_i x hx
          subst hb
          exact ⟨.sym x, hx, by cases x <;> cases want <;> rfl⟩
        · exact h e v he

/-- a choice whose outcome is known -/
def pickH (h : Option Bool) (st : St) (op : Op) : Option (Option Prop × LV) :=
  match h, op with
  | some v, .pick c x y => match ev st c with
    | .one (.sc (.bool t)) => some (some (t.val = v), if v then ev st x else ev st y)
    | _ => none
  | _, _ => none
def stepH (P : Program) (G : Gam) (h : Option Bool) (id : Nat) (st : St) (o : Oper) : Option Step :=
  match pickH h st o.op with
  | some (q, v) => some (q, v, st.hp)
  | none => stepEv P G id st o
def hintOf (k : Asm) : Op → Option Bool
  | .pick (.tmp d) _ _ => known k d
  | _ => none
def stepK (P : Program) (G : Gam) (k : Asm) (id : Nat) (st : St) (o : Oper) : Option Step :=
  match hintOf k o.op, o.op with
  | some v, .pick _ x y => some (none, if v then ev st x else ev st y, st.hp)
  | _, _ => stepEv P G id st o

theorem stepK_H {P : Program} {G : Gam} {k : Asm} {id : Nat} {st : St} {o : Oper} (hk : AsmOk k st) {q : Option Prop} {v : LV} {hp : Hp} (h : stepK P G k id st o = some (q, v, hp)) :
    ∃ q', stepH P G (hintOf k o.op) id st o = some (q', v, hp) ∧ (Ev.needs q → Ev.needs q') := by
  unfold stepK at h
  split at h
  · rename_i b c x y hh ho
    simp at h; obtain ⟨rfl, rfl, rfl⟩ := h
    rw [ho] at hh
    unfold hintOf at hh
    split at hh
    · rename_i d x' y' e
      simp at e; obtain ⟨rfl, rfl, rfl⟩ := e
      obtain ⟨t, ht, hv⟩ := hk _ _ hh
      have hev : ev st (.tmp d) = .one (.sc (.bool t)) := by simp [ev, List.getD_eq_getElem?_getD, ht]
      refine ⟨some (t.val = b), ?_, fun _ => hv⟩
      unfold stepH pickH
      rw [ho]
      simp only [hintOf, hh, hev]
    · simp at hh
  · rename_i hno
    refine ⟨q, ?_, fun h => h⟩
    have : pickH (hintOf k o.op) st o.op = none := by
      unfold pickH
      split
      · rename_i b c x y hh ho
        exact (hno b c x y hh ho).elim
      · rfl
    unfold stepH
    rw [this]; exact h

theorem stepH_ok {P : Program} {G : Gam} (hG : GOk P G) {h : Option Bool} {id : Nat} {st : St} {o : Oper} {q : Option Prop} {v : LV} {hp : Hp} (hs : stepH P G h id st o = some (q, v, hp)) (hq : Ev.needs q)
    {W : World} {m : Nat → Prop} {β₀ β : Nat → Nat} {a : Act} {w : World} (hid : isNew o.op = true → ¬ Live st.hp id) (hr : Rel W m β₀ β st a w) {next : Act → World → Prop} {Q : Exit → Act → World → Prop}
    (hn : ∀ β' a' w', Rel W m β₀ β' (put st o.dst v hp) a' w' → next a' w') : o.wp P a w next Q := by
  unfold stepH at hs
  split at hs
  · rename_i q' v' hp'
    simp at hs; obtain ⟨rfl, rfl, rfl⟩ := hs
    unfold pickH at hp'
    split at hp'
    · rename_i b c x y ho
      split at hp'
      · rename_i t ht
        simp at hp'; obtain ⟨rfl, rfl⟩ := hp'
        have htb : t.val = b := hq
        have hc := ev_den hr c; rw [ht] at hc
        have e : a.eval c = .bool t.val := hc
        have hrun : (execOp a.eval o).run P w = .ok (.value (if b then a.eval x else a.eval y)) w := by
          simp [execOp, ho, e, asBool, htb]
        unfold Oper.wp
        rw [hrun]
        refine hn β _ w (hr.put (dst := o.dst) ?_ hr.heap (Agree.refl _ _))
        cases b
        · exact ev_den hr y
        · exact ev_den hr x
      · simp at hp'
    · simp at hp'
  · exact stepEv_ok hG hs hq hid hr hn

def opsEv (P : Program) (G : Gam) (m : Hp) (ops : Array Oper) : List Oper → Asm → St → Res
  | [], _, st => .leaf .normal st
  | o :: rest, k, st =>
    match wantedA k st ops o with
    | some (.lit true) => match stepK P G k st.hp.length st o with
      | some (q, v, hp) => (opsEv P G m ops rest (forget k o.dst) (put st o.dst v hp)).needs q
      | none => .fail
    | some (.lit false) => opsEv P G m ops rest (forget k o.dst) (put st o.dst (.tup []) st.hp)
    | some (.sym b) => join b m (match stepK P G (learn k ops o true) st.hp.length st o with
      | some (q, v, hp) => (opsEv P G m ops rest (forget (learn k ops o true) o.dst) (put st o.dst v hp)).needs q
      | none => .fail) (opsEv P G m ops rest (forget (learn k ops o false) o.dst) (put st o.dst (.tup []) st.hp))
    | none => .fail

theorem joinF_left {L₁ L : Nat → Prop} {ok : Nat → Bool} {β : Nat → Nat} (hok : ∀ i, ok i = true → L₁ i → L i) : ∀ {l r : List LV} {vs : List Value}, l.length = r.length → All2 (LV.den β L₁) l vs → All2 (LV.den β L) (joinF true ok l r) vs
  | [], [], _, _, h => by cases h; exact .nil
  | x :: l, y :: r, _, hl, h => by cases h with
    | cons h1 h2 => exact .cons (joinV_left hok h1) (joinF_left hok (by simpa using hl) h2)
theorem joinF_right {L₁ L : Nat → Prop} {ok : Nat → Bool} {β : Nat → Nat} (hok : ∀ i, ok i = true → L₁ i → L i) : ∀ {l r : List LV} {vs : List Value}, l.length = r.length → All2 (LV.den β L₁) r vs → All2 (LV.den β L) (joinF false ok l r) vs
  | [], [], _, _, h => by cases h; exact .nil
  | x :: l, y :: r, _, hl, h => by cases h with
    | cons h1 h2 => exact .cons (joinV_right hok h1) (joinF_right hok (by simpa using hl) h2)

theorem joinH_spec {b : Bool} {ok : Nat → Bool} : ∀ {l r z : Hp}, joinH b ok l r = some z →
    ∀ (i : Nat), (∀ blk : Blk, z[i]? = some (some blk) → ∃ x y : Blk, l[i]? = some (some x) ∧ r[i]? = some (some y) ∧ x.elem = y.elem ∧ x.more = y.more ∧ blk.elem = x.elem ∧ blk.more = x.more ∧ joinL b ok x.cells y.cells = some blk.cells) ∧
      (Live l i → Live r i → Live z i)
  | [], r, z, h, i => by
    simp [joinH] at h; subst h
    exact ⟨fun blk hb => by simp at hb, fun ⟨_, h1⟩ => by simp at h1⟩
  | x :: l, [], z, h, i => by
    simp [joinH] at h; subst h
    exact ⟨fun blk hb => by simp at hb, fun _ ⟨_, h1⟩ => by simp at h1⟩
  | x :: l, y :: r, z, h, i => by
    simp only [joinH] at h
    split at h
    · rename_i zc mm h1 h2
      simp at h; subst h
      cases i with
      | succ i =>
        obtain ⟨h3, h4⟩ := joinH_spec h2 i
        refine ⟨fun blk hb => ?_, fun ⟨a, ha⟩ ⟨c, hc⟩ => ?_⟩
        · simp at hb
          obtain ⟨x', y', e⟩ := h3 blk hb
          exact ⟨x', y', by simpa using e⟩
        · obtain ⟨d, hd⟩ := h4 ⟨a, by simpa using ha⟩ ⟨c, by simpa using hc⟩
          exact ⟨d, by simpa using hd⟩
      | zero =>
        unfold joinB at h1
        split at h1
        · rename_i a c
          split at h1
          · rename_i he
            split at h1
            · rename_i hm
              obtain ⟨zz, hz, rfl⟩ := map_some h1
              refine ⟨fun blk hb => ?_, fun _ _ => ⟨_, rfl⟩⟩
              simp at hb; subst hb
              exact ⟨a, c, rfl, rfl, he, hm, rfl, rfl, hz⟩
            · simp at h1
          · simp at h1
        · rename_i hno
          simp at h1; subst h1
          refine ⟨fun blk hb => by simp at hb, fun ⟨a, ha⟩ ⟨c, hc⟩ => ?_⟩
          simp at ha hc
          exact absurd hc (hno a c ha)
    · simp at h

theorem joinSt_ok {b : Bool} {x y z : St} (h : joinSt b x y = some z) {W : World} {m : Hp} {β₀ β : Nat → Nat} {a : Act} {w : World} (hm : allB m x.hp y.hp = true)
    (hr : Rel W (Live m) β₀ β (if b = true then x else y) a w) : Rel W (Live m) β₀ β z a w := by
  unfold joinSt at h
  split at h
  · rename_i hfl
    obtain ⟨hz, h1, rfl⟩ := map_some h
    have hs := joinH_spec h1
    have hboth : ∀ i, Live hz i → Live x.hp i ∧ Live y.hp i := fun i ⟨blk, hb⟩ => by
      obtain ⟨x', y', e1, e2, _⟩ := (hs i).1 blk hb
      exact ⟨⟨x', e1⟩, ⟨y', e2⟩⟩
    have hreal : ∀ i, Live hz i → Live (if b = true then x else y).hp i := fun i hi => by
      split
      · exact (hboth i hi).1
      · exact (hboth i hi).2
    have hok : ∀ i, bothB x.hp y.hp i = true → Live (if b = true then x else y).hp i → Live hz i := fun i hb _ => by
      simp only [bothB, Bool.and_eq_true, liveB_iff] at hb
      exact (hs i).2 hb.1 hb.2
    refine ⟨hr.defers, ?_, ?_⟩
    · cases b
      · exact joinF_right hok hfl hr.fr
      · exact joinF_left hok hfl hr.fr
    · constructor
      · intro i blk hi
        obtain ⟨x', y', e1, e2, e3, e4, e5, e6, e7⟩ := (hs i).1 blk hi
        cases b
        · obtain ⟨c, rest, fz, hc, h2, h3, hd⟩ := hr.heap.rows i y' e2
          exact ⟨c, rest, fz, by rw [e5, e3]; exact hc, by rw [e6, e4]; exact h2, h3, joinL_right hok e7 hd⟩
        · obtain ⟨c, rest, fz, hc, h2, h3, hd⟩ := hr.heap.rows i x' e1
          exact ⟨c, rest, fz, by rw [e5]; exact hc, by rw [e6]; exact h2, h3, joinL_left hok e7 hd⟩
      · intro i j hi hj; exact hr.heap.inj i j (hreal i hi) (hreal j hj)
      · intro i hi
        obtain ⟨h1, h2⟩ := allB_live hm hi
        exact ⟨(hr.heap.first i hi).1, (hs i).2 h1 h2⟩
      · intro i h1 hi; exact hr.heap.new i h1 (hreal i hi)
      · exact hr.heap.os
      · exact hr.heap.output
      · exact hr.heap.size
      · exact hr.heap.keep
  · simp at h

theorem joinR_true {m : Hp} {x : St} {R : Exit → St → Prop} {W : World} {β₀ : Nat → Nat} : ∀ {e : Res}, (joinR true m x e).sat R →
    ∀ β a w, Rel W (Live m) β₀ β x a w → Post W (Live m) β₀ R .normal a w
  | .need p r, h, β, a, w, hr => joinR_true (e := r) h.2 β a w hr
  | .leaf .normal y, h, β, a, w, hr => by
    simp only [joinR] at h
    split at h
    · rename_i hm
      split at h
      · rename_i z hz
        exact ⟨z, β, h, joinSt_ok hz hm hr⟩
      · exact ⟨x, β, h.1 rfl, hr⟩
    · exact ⟨x, β, h.1 rfl, hr⟩
  | .leaf (.exit _) _, h, β, a, w, hr => ⟨x, β, h.1 rfl, hr⟩
  | .leaf (.goto _) _, h, β, a, w, hr => ⟨x, β, h.1 rfl, hr⟩
  | .leaf .ret _, h, β, a, w, hr => ⟨x, β, h.1 rfl, hr⟩
  | .leaf (.panic _) _, h, β, a, w, hr => ⟨x, β, h.1 rfl, hr⟩
  | .leaf .outgrown _, h, β, a, w, hr => ⟨x, β, h.1 rfl, hr⟩
  | .ite _ _ _, h, β, a, w, hr => ⟨x, β, h.1 rfl, hr⟩
  | .fail, h, β, a, w, hr => ⟨x, β, h.1 rfl, hr⟩

theorem joinR_false {m : Hp} {x : St} {R : Exit → St → Prop} {W : World} {β₀ : Nat → Nat} : ∀ {e : Res}, (joinR false m x e).sat R →
    ∃ R', e.sat R' ∧ ∀ e a w, Post W (Live m) β₀ R' e a w → Post W (Live m) β₀ R e a w
  | .need p r, h => let ⟨R', h1, h2⟩ := joinR_false (e := r) h.2; ⟨R', ⟨h.1 rfl, h1⟩, h2⟩
  | .leaf .normal y, h => by
    simp only [joinR] at h
    split at h
    · rename_i hm
      split at h
      · rename_i z hz
        refine ⟨fun e s => e = .normal ∧ s = y, ⟨rfl, rfl⟩, ?_⟩
        rintro e a w ⟨s, β, ⟨rfl, rfl⟩, hr⟩
        exact ⟨z, β, h, joinSt_ok hz hm hr⟩
      · exact ⟨R, h.2 rfl, fun _ _ _ h => h⟩
    · exact ⟨R, h.2 rfl, fun _ _ _ h => h⟩
  | .leaf (.exit _) _, h => ⟨R, h.2 rfl, fun _ _ _ h => h⟩
  | .leaf (.goto _) _, h => ⟨R, h.2 rfl, fun _ _ _ h => h⟩
  | .leaf .ret _, h => ⟨R, h.2 rfl, fun _ _ _ h => h⟩
  | .leaf (.panic _) _, h => ⟨R, h.2 rfl, fun _ _ _ h => h⟩
  | .leaf .outgrown _, h => ⟨R, h.2 rfl, fun _ _ _ h => h⟩
  | .ite _ _ _, h => ⟨R, h.2 rfl, fun _ _ _ h => h⟩
  | .fail, h => ⟨R, h.2 rfl, fun _ _ _ h => h⟩

theorem join_true {m : Hp} {R : Exit → St → Prop} {W : World} {β₀ : Nat → Nat} {e : Res} : ∀ {t : Res}, (join true m t e).sat R →
    ∃ R', t.sat R' ∧ ∀ e a w, Post W (Live m) β₀ R' e a w → Post W (Live m) β₀ R e a w
  | .need p r, h => let ⟨R', h1, h2⟩ := join_true (t := r) h.2; ⟨R', ⟨h.1 rfl, h1⟩, h2⟩
  | .leaf .normal x, h => by
    refine ⟨fun e s => e = .normal ∧ s = x, ⟨rfl, rfl⟩, ?_⟩
    rintro e a w ⟨s, β, ⟨rfl, rfl⟩, hr⟩
    exact joinR_true h β a w hr
  | .leaf (.exit _) _, h => ⟨R, h.1 rfl, fun _ _ _ h => h⟩
  | .leaf (.goto _) _, h => ⟨R, h.1 rfl, fun _ _ _ h => h⟩
  | .leaf .ret _, h => ⟨R, h.1 rfl, fun _ _ _ h => h⟩
  | .leaf (.panic _) _, h => ⟨R, h.1 rfl, fun _ _ _ h => h⟩
  | .leaf .outgrown _, h => ⟨R, h.1 rfl, fun _ _ _ h => h⟩
  | .ite _ _ _, h => ⟨R, h.1 rfl, fun _ _ _ h => h⟩
  | .fail, h => ⟨R, h.1 rfl, fun _ _ _ h => h⟩

theorem join_false {m : Hp} {R : Exit → St → Prop} {W : World} {β₀ : Nat → Nat} {e : Res} : ∀ {t : Res}, (join false m t e).sat R →
    ∃ R', e.sat R' ∧ ∀ e a w, Post W (Live m) β₀ R' e a w → Post W (Live m) β₀ R e a w
  | .need _p r, h => join_false (t := r) h.2
  | .leaf .normal _x, h => joinR_false h
  | .leaf (.exit _) _, h => ⟨R, h.2 rfl, fun _ _ _ h => h⟩
  | .leaf (.goto _) _, h => ⟨R, h.2 rfl, fun _ _ _ h => h⟩
  | .leaf .ret _, h => ⟨R, h.2 rfl, fun _ _ _ h => h⟩
  | .leaf (.panic _) _, h => ⟨R, h.2 rfl, fun _ _ _ h => h⟩
  | .leaf .outgrown _, h => ⟨R, h.2 rfl, fun _ _ _ h => h⟩
  | .ite _ _ _, h => ⟨R, h.2 rfl, fun _ _ _ h => h⟩
  | .fail, h => ⟨R, h.2 rfl, fun _ _ _ h => h⟩

theorem needs_sat {q : Option Prop} {r : Res} {R : Exit → St → Prop} (h : (r.needs q).sat R) : needs q ∧ r.sat R := by
  cases q with
  | none => exact ⟨trivial, h⟩
  | some p => exact h

theorem opsEv_ok {P : Program} {G : Gam} (hG : GOk P G) {W : World} {m : Hp} {β₀ : Nat → Nat} {ops : Array Oper} {Q : Exit → Act → World → Prop} :
    ∀ (l : List Oper) (k : Asm) (st : St) (R : Exit → St → Prop), AsmOk k st → (opsEv P G m ops l k st).sat R → (∀ e a w, Post W (Live m) β₀ R e a w → Q e a w) →
      ∀ β a w, Rel W (Live m) β₀ β st a w → wpList P ops Q l a w
  | [], k, st, R, hk, h, hq, β, a, w, hr => hq _ _ _ ⟨st, β, h, hr⟩
  | o :: rest, k, st, R, hk, h, hq, β, a, w, hr => by
    have hrun : ∀ (k : Asm), AsmOk k st → ∀ (R : Exit → St → Prop), (match stepK P G k st.hp.length st o with
        | some (q, v, hp) => (opsEv P G m ops rest (forget k o.dst) (put st o.dst v hp)).needs q
        | none => .fail : Res).sat R → (∀ e a w, Post W (Live m) β₀ R e a w → Q e a w) → o.wp P a w (wpList P ops Q rest) Q := by
      intro k hk R h hq
      split at h
      · rename_i q v hp hs
        obtain ⟨h1, h2⟩ := needs_sat h
        obtain ⟨q', hs', hq'⟩ := stepK_H hk hs
        exact stepH_ok hG hs' (hq' h1) (fun _ => not_live_length _) hr fun β' a' w' hr' => opsEv_ok hG rest _ _ R hk.put h2 hq β' a' w' hr'
      · exact h.elim
    have hskip : ∀ (k : Asm), AsmOk k st → ∀ (R : Exit → St → Prop), (opsEv P G m ops rest (forget k o.dst) (put st o.dst (.tup []) st.hp)).sat R → (∀ e a w, Post W (Live m) β₀ R e a w → Q e a w) →
        wpList P ops Q rest (a.put o.dst undef) w := by
      intro k hk R h hq
      exact opsEv_ok hG rest _ _ R hk.put h hq β _ w (hr.put (dst := o.dst) ⟨[], rfl, .nil⟩ hr.heap (Agree.refl _ _))
    simp only [opsEv] at h
    cases hb : wantedA k st ops o with
    | none => simp only [hb] at h; exact h.elim
    | some b =>
      obtain ⟨b', hb', hbv⟩ := wantedA_ok hk hb
      have hw := wantedEv_ok hr hb'
      rw [hbv] at hw
      simp only [hb] at h
      simp only [wpList, hw]
      cases b with
      | lit b =>
        cases b with
        | true => exact .inl (hrun k hk R h hq)
        | false => exact hskip k hk R h hq
      | sym b =>
        cases b with
        | true =>
          obtain ⟨R', h1, h2⟩ := join_true (W := W) (β₀ := β₀) h
          exact .inl (hrun _ (learn_ok hk hb) R' h1 fun e a w hp => hq e a w (h2 e a w hp))
        | false =>
          obtain ⟨R', h1, h2⟩ := join_false (W := W) (β₀ := β₀) h
          exact hskip _ (learn_ok hk hb) R' h1 fun e a w hp => hq e a w (h2 e a w hp)

end Go.Ev
