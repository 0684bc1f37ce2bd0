/- A reader of code, third make: regions: the text's order, and all others. -/
import Derived.Test.YtdpbkfmjknmmnaaVo
set_option linter.unusedVariables false
set_option linter.unusedSimpArgs false
namespace Go.Ev
open Go

/-! ### Pieces of code -/
inductive Res where
  | leaf (e : Exit) (st : St)
  | ite (b : Bool) (t e : Res)
  | need (p : Prop) (r : Res)
  | fail
def Res.sat (Q : Exit → St → Prop) : Res → Prop
  | .leaf e st => Q e st
  | .ite b t e => (b = true → t.sat Q) ∧ (b = false → e.sat Q)
  | .need p r => p ∧ r.sat Q
  | .fail => False
def Res.bind (f : St → Res) : Res → Res
  | .leaf .normal st => f st
  | .leaf e st => .leaf e st
  | .ite b t e => .ite b (t.bind f) (e.bind f)
  | .need p r => .need p (r.bind f)
  | .fail => .fail
def Res.block (id : Nat) : Res → Res
  | .leaf (.exit i) st => if i = id then .leaf .normal st else .leaf (.exit i) st
  | .leaf e st => .leaf e st
  | .ite b t e => .ite b (t.block id) (e.block id)
  | .need p r => .need p (r.block id)
  | .fail => .fail
def Res.needs (q : Option Prop) (r : Res) : Res :=
  match q with
  | none => r
  | some p => .need p r
theorem Res.sat_mono {Q Q' : Exit → St → Prop} (hq : ∀ e st, Q e st → Q' e st) : ∀ {r : Res}, r.sat Q → r.sat Q'
  | .leaf _ _, h => hq _ _ h
  | .ite _ _ _, h => ⟨fun e => Res.sat_mono hq (h.1 e), fun e => Res.sat_mono hq (h.2 e)⟩
  | .need _ _, h => ⟨h.1, Res.sat_mono hq h.2⟩
  | .fail, h => h
theorem needs_sat {q : Option Prop} {r : Res} {R : Exit → St → Prop} (h : (r.needs q).sat R) : needs q ∧ r.sat R := by
  cases q with
  | none => exact ⟨trivial, h⟩
  | some p => exact h

/-- what is known at the end of a piece of code -/
def Post (W : World) (hp₀ : Hp) (β₀ : Env) (R : Exit → St → Prop) : Exit → Act → World → Prop :=
  fun e a w => ∃ st β, R e st ∧ Rel W hp₀ β₀ β st a w

/-- how two ways are put together -/
structure Alt where
  f : Bool → Hp → Res → Res → Res
  yes : ∀ {m : Hp} {t e : Res} {R : Exit → St → Prop} {W : World} {β₀ : Env}, (f true m t e).sat R → ∃ R', t.sat R' ∧ ∀ e a w, Post W m β₀ R' e a w → Post W m β₀ R e a w
  no : ∀ {m : Hp} {t e : Res} {R : Exit → St → Prop} {W : World} {β₀ : Env}, (f false m t e).sat R → ∃ R', e.sat R' ∧ ∀ e a w, Post W m β₀ R' e a w → Post W m β₀ R e a w
/-- they are kept apart -/
def fork : Alt where
  f b _ t e := .ite b t e
  yes h := ⟨_, h.1 rfl, fun _ _ _ h => h⟩
  no h := ⟨_, h.2 rfl, fun _ _ _ h => h⟩

/-- what an operation looked at, what it wrote -/
abbrev FP := Option (List Nat × List Nat)
def Out.toRes (dr : Bool) (k : LV → List (Nat × Item) → Res) : Out → Res
  | .leaf q v d => (k v d).needs q
  | .ite b x y => if dr then .fail else .ite b (x.toRes dr k) (y.toRes dr k)
  | .fail => .fail
def hintOf (k : Asm) : Op → Option Bool
  | .pick (.tmp d) _ _ => known k d
  | _ => none
/-- one operation, where some choices' outcomes are known -/
def stepK (P : Program) (G : Gam) (k : Asm) (id : Nat) (e : Operand → LV) (op : Op) : Ask Out :=
  match hintOf k op, op with
  | some v, .pick _ x y => .ret (.leaf none (if v then e x else e y) [])
  | _, _ => stepA P G id e op

def opsEv (P : Program) (G : Gam) (A : Alt) (m : Hp) (dr : Bool) (chk : List FP → Bool) (ops : Array Oper) : List Oper → Asm → List FP → St → Res
  | [], _, acc, st => if chk acc then .leaf .normal st else .fail
  | o :: rest, k, acc, st =>
    match wantedA k st ops o with
    | some (.lit true) => ((stepK P G k st.hp.length (ev st) o.op).val st.hp).toRes dr fun v d =>
        opsEv P G A m dr chk ops rest (forget k o.dst) (acc ++ [some ((stepK P G k st.hp.length (ev st) o.op).log st.hp, d.map (·.1))]) (put st o.dst v (applyD d st.hp))
    | some (.lit false) => opsEv P G A m dr chk ops rest (forget k o.dst) (acc ++ [none]) (put st o.dst (.tup []) st.hp)
    | some (.sym b) => A.f b m
        (((stepK P G (learn k ops o true) st.hp.length (ev st) o.op).val st.hp).toRes dr fun v d =>
          opsEv P G A m dr chk ops rest (forget (learn k ops o true) o.dst) (acc ++ [some ((stepK P G (learn k ops o true) st.hp.length (ev st) o.op).log st.hp, d.map (·.1))]) (put st o.dst v (applyD d st.hp)))
        (opsEv P G A m dr chk ops rest (forget (learn k ops o false) o.dst) (acc ++ [none]) (put st o.dst (.tup []) st.hp))
    | none => .fail

theorem kd_length {hp : Hp} {j : Nat} (h : hp.length ≤ j) : kd hp j = none := by
  unfold kd
  rw [List.getElem?_eq_none h]
theorem fresh_length (hp : Hp) (d : List (Nat × Item)) : Fresh hp.length hp d := fun _ _ _ h => kd_length h
theorem out_fresh (hp : Hp) : ∀ o : Out, o.fresh hp.length hp
  | .leaf _ _ d => fresh_length hp d
  | .ite _ x y => ⟨out_fresh hp x, out_fresh hp y⟩
  | .fail => trivial
theorem toRes_holds {dr : Bool} {k : LV → List (Nat × Item) → Res} {R : Exit → St → Prop} : ∀ {o : Out}, (o.toRes dr k).sat R → o.holds fun v d => (k v d).sat R
  | .leaf q v d, h => needs_sat h
  | .ite b x y, h => by
    simp only [Out.toRes] at h
    split at h
    · exact h.elim
    · exact ⟨fun e => toRes_holds (h.1 e), fun e => toRes_holds (h.2 e)⟩
  | .fail, h => h
theorem toRes_leaf {k : LV → List (Nat × Item) → Res} {R : Exit → St → Prop} {o : Out} (h : (o.toRes true k).sat R) : ∃ q v d, o = .leaf q v d ∧ needs q ∧ (k v d).sat R := by
  cases o with
  | leaf q v d => exact ⟨q, v, d, rfl, (needs_sat h).1, (needs_sat h).2⟩
  | ite b x y => simp [Out.toRes, Res.sat] at h
  | fail => exact h.elim
/-- what is known is true: the same operation -/
theorem stepK_H {P : Program} {G : Gam} {k : Asm} {id : Nat} {st : St} {op : Op} (hk : AsmOk k st) :
    (stepK P G k id (ev st) op = stepH P G (hintOf k op) id (ev st) op) ∨
    ∃ v p, stepK P G k id (ev st) op = .ret (.leaf none v []) ∧ stepH P G (hintOf k op) id (ev st) op = .ret (.leaf (some p) v []) ∧ p := by
  unfold stepK
  split
  · rename_i v c x y hh
    right
    unfold hintOf at hh
    split at hh
    · rename_i d x' y' e
      simp at e; obtain ⟨rfl, rfl, rfl⟩ := e
      obtain ⟨t, ht, hv⟩ := hk _ _ hh
      have hev : ev st (.tmp d) = .one (.sc (.bool t)) := by simp [ev, List.getD_eq_getElem?_getD, ht]
      refine ⟨_, t.val = v, rfl, ?_, hv⟩
      simp only [stepH, hintOf, hh, hev]
    · cases hh
  · rename_i hno
    left
    unfold stepH
    split
    · rename_i v c x y hh
      exact absurd hh (by intro h; exact hno v c x y h rfl)
    · rfl

theorem stepK_ok {P : Program} {G : Gam} (hG : GOk P G) {k : Asm} {id : Nat} {st : St} {o : Oper} (hk : AsmOk k st) (hf : ∀ o : Out, o.fresh id st.hp) {K : LV → List (Nat × Item) → Prop} (h : ((stepK P G k id (ev st) o.op).val st.hp).holds K)
    {W : World} {hp₀ : Hp} {β₀ β : Env} {a : Act} {w : World} (hr : Rel W hp₀ β₀ β st a w) {next : Act → World → Prop} {Q : Exit → Act → World → Prop}
    (hn : ∀ v d β' a' w', K v d → Rel W hp₀ β₀ β' (put st o.dst v (applyD d st.hp)) a' w' → next a' w') : o.wp P a w next Q := by
  have hs : ((stepH P G (hintOf k o.op) id (ev st) o.op).val st.hp).holds K := by
    rcases stepK_H (P := P) (G := G) (id := id) (op := o.op) hk with e | ⟨v, p, e1, e2, hp⟩
    · rw [← e]; exact h
    · rw [e1] at h; rw [e2]; exact ⟨hp, h.2⟩
  exact stepH_ok hG (hf _) hs hr hn

theorem opsEv_ok {P : Program} {G : Gam} {A : Alt} (hG : GOk P G) {W : World} {m : Hp} {β₀ : Env} {dr : Bool} {chk : List FP → Bool} {ops : Array Oper} {Q : Exit → Act → World → Prop} :
    ∀ (l : List Oper) (k : Asm) (acc : List FP) (st : St) (R : Exit → St → Prop), AsmOk k st → (opsEv P G A m dr chk ops l k acc st).sat R → (∀ e a w, Post W m β₀ R e a w → Q e a w) →
      ∀ β a w, Rel W m β₀ β st a w → wpList P ops Q l a w
  | [], k, acc, st, R, hk, h, hq, β, a, w, hr => by
    simp only [opsEv] at h
    split at h
    · exact hq _ _ _ ⟨st, β, h, hr⟩
    · exact h.elim
  | o :: rest, k, acc, st, R, hk, h, hq, β, a, w, hr => by
    have hrun : ∀ (k : Asm) (acc : List (Nat × Item) → List FP), AsmOk k st → ∀ (R : Exit → St → Prop), (((stepK P G k st.hp.length (ev st) o.op).val st.hp).toRes dr fun v d =>
        opsEv P G A m dr chk ops rest (forget k o.dst) (acc d) (put st o.dst v (applyD d st.hp))).sat R → (∀ e a w, Post W m β₀ R e a w → Q e a w) → o.wp P a w (wpList P ops Q rest) Q := by
      intro k acc hk R h hq
      exact stepK_ok hG hk (out_fresh _) (toRes_holds h) hr fun v d β' a' w' hkv hr' => opsEv_ok hG rest _ _ _ R hk.put hkv hq β' a' w' hr'
    have hskip : ∀ (k : Asm) (acc : List FP), AsmOk k st → ∀ (R : Exit → St → Prop), (opsEv P G A m dr chk ops rest (forget k o.dst) acc (put st o.dst (.tup []) st.hp)).sat R → (∀ e a w, Post W m β₀ R e a w → Q e a w) →
        wpList P ops Q rest (a.put o.dst undef) w := by
      intro k acc hk R h hq
      exact opsEv_ok hG rest _ _ _ R hk.put h hq β _ w (hr.put (dst := o.dst) ⟨[], rfl, .nil⟩ hr.heap (Agree.refl _ _))
    simp only [opsEv] at h
    cases hb : wantedA k st ops o with
    | none => simp only [hb] at h; exact h.elim
    | some b =>
      obtain ⟨b', hb', hbv⟩ := wantedA_ok hk hb
      have hw := wantedEv_ok hr hb'
      rw [hbv] at hw
      simp only [hb] at h
      simp only [wpList, hw]
      cases b with
      | lit b =>
        cases b with
        | true => exact .inl (hrun k _ hk R h hq)
        | false => exact hskip k _ hk R h hq
      | sym b =>
        cases b with
        | true =>
          obtain ⟨R', h1, h2⟩ := A.yes (W := W) (β₀ := β₀) h
          exact .inl (hrun _ _ (learn_ok hk hb) R' h1 fun e a w hp => hq e a w (h2 e a w hp))
        | false =>
          obtain ⟨R', h1, h2⟩ := A.no (W := W) (β₀ := β₀) h
          exact hskip _ _ (learn_ok hk hb) R' h1 fun e a w hp => hq e a w (h2 e a w hp)

/-! ### What an operation hangs on -/
theorem put_comm (st : St) {x y : Option Tmp} (v u : LV) (h1 h2 h : Hp) (hne : ∀ d, x = some d → y ≠ some d) : put (put st x v h1) y u h = put (put st y u h2) x v h := by
  cases x with
  | none => cases y <;> rfl
  | some d =>
    cases y with
    | none => rfl
    | some e =>
      have : d ≠ e := fun he => hne d rfl (he ▸ rfl)
      simp only [put]
      rw [List.set_comm _ _ this]

theorem mem_looks {ops : Array Oper} {o : Oper} {t : Tmp} (h : Operand.tmp t ∈ o.op.operands) : t ∈ o.looksAt ops := by
  unfold Oper.looksAt
  rw [List.mem_append]
  refine .inl (List.mem_filterMap.2 ⟨.tmp t, by simpa using h, rfl⟩)

theorem ev_put {st : St} {dst : Option Tmp} {v : LV} {hp : Hp} {x : Operand} (h : ∀ d, dst = some d → x ≠ .tmp d) : ev (put st dst v hp) x = ev st x := by
  cases dst with
  | none => cases x <;> rfl
  | some d =>
    cases x with
    | tmp t =>
      have hne : t ≠ d := fun e => h d rfl (e ▸ rfl)
      simp only [ev, put, List.getD_eq_getElem?_getD]
      rw [List.getElem?_set_ne (Ne.symm hne)]
    | _ => rfl

theorem ev_apart {ops : Array Oper} {o : Oper} {dst : Option Tmp} (h : ∀ d, dst = some d → d ∉ o.looksAt ops) {st : St} {v : LV} {hp : Hp} : ∀ x ∈ o.op.operands, ev (put st dst v hp) x = ev st x :=
  fun _x hx => ev_put fun d hd e => h d hd (mem_looks (e ▸ hx))

theorem wanted_apart {ops : Array Oper} {o : Oper} {dst : Option Tmp} (h : ∀ d, dst = some d → d ∉ o.looksAt ops) {st : St} {v : LV} {hp : Hp} :
    wantedEv (put st dst v hp) ops o = wantedEv st ops o := by
  unfold wantedEv
  cases hg : o.guard with
  | none => rfl
  | some p =>
    obtain ⟨j, want⟩ := p
    cases ht : (ops[j]?).bind (·.dst) with
    | none => simp [ht]
    | some t =>
      have : (put st dst v hp).fr[t]? = st.fr[t]? := by
        cases dst with
        | none => rfl
        | some d =>
          have hne : d ≠ t := fun e => h d rfl (by subst e; simp [Oper.looksAt, hg, ht])
          simp only [put]
          rw [List.getElem?_set_ne hne]
      simp only [ht, this]


theorem opEv_congr {P : Program} {id : Nat} {e e2 : Operand → LV} {op : Op} (h : ∀ x ∈ op.operands, e2 x = e x) : opEv P id e2 op = opEv P id e op := by
  cases op <;> simp only [Op.operands] at h <;> (try rfl)
  case move x => simp only [opEv, h x (by simp)]
  case assign x => simp only [opEv, h x (by simp)]
  case pick c x y => simp only [opEv, h c (by simp), h x (by simp), h y (by simp)]
  case box t x => simp only [opEv, h x (by simp)]
  case build t parts =>
    have e : (parts.toList.map fun p => (p.1, e2 p.2)) = parts.toList.map fun p => (p.1, e p.2) := List.map_congr_left fun p hp => by
      rw [h p.2 (by rw [List.mem_toArray]; exact List.mem_map.2 ⟨p, hp, rfl⟩)]
    simp only [opEv, e]
  case buildSlice t len parts =>
    have e : (parts.toList.map fun p => (p.1, e2 p.2)) = parts.toList.map fun p => (p.1, e p.2) := List.map_congr_left fun p hp => by
      rw [h p.2 (by rw [List.mem_toArray]; exact List.mem_map.2 ⟨p, hp, rfl⟩)]
    simp only [opEv, e]
  case load t x => simp only [opEv, h x (by simp)]
  case store t x y => simp only [opEv, h x (by simp), h y (by simp)]
  case nilCheck x => simp only [opEv, h x (by simp)]
  case binOp op t x y yt => simp only [opEv, h x (by simp), h y (by simp)]
  case unOp op t x => simp only [opEv, h x (by simp)]
  case convert s d x => simp only [opEv, h x (by simp)]
  case sliceToArrayPointer t x => simp only [opEv, h x (by simp)]
  case makeSlice t x y => simp only [opEv, h x (by simp), h y (by simp)]
  case slice t x lo hi mx =>
    have e1 : lo.map e2 = lo.map e := by cases lo <;> simp_all
    have e3 : hi.map e2 = hi.map e := by cases hi <;> simp_all
    have e4 : mx.map e2 = mx.map e := by cases mx <;> simp_all
    simp only [opEv, h x (by simp), e1, e3, e4]
  case fieldAddr s x f => simp only [opEv, h x (by simp)]
  case field s x f => simp only [opEv, h x (by simp)]
  case indexAddr t x i => simp only [opEv, h x (by simp), h i (by simp)]
  case index t x i => simp only [opEv, h x (by simp), h i (by simp)]
  case extract x i => simp only [opEv, h x (by simp)]
theorem stepA_congr {P : Program} {G : Gam} {id : Nat} {e e2 : Operand → LV} {op : Op} (h : ∀ x ∈ op.operands, e2 x = e x) : stepA P G id e2 op = stepA P G id e op := by
  unfold stepA
  split
  · rename_i c
    have hargs : c.args.toList.map e2 = c.args.toList.map e := List.map_congr_left fun x hx => h x (by simp only [Op.operands, Call.operands, Array.mem_append]; exact .inr (by simpa using hx))
    rw [hargs]
    split
    · rfl
    · rename_i f hf
      rw [h f (by simp [Op.operands, Call.operands, hf])]
    · rfl
  · rw [opEv_congr h]
theorem stepH_congr {P : Program} {G : Gam} {g : Option Bool} {id : Nat} {e e2 : Operand → LV} {op : Op} (h : ∀ x ∈ op.operands, e2 x = e x) : stepH P G g id e2 op = stepH P G g id e op := by
  unfold stepH
  split
  · rename_i v c x y
    rw [h c (by simp [Op.operands]), h x (by simp [Op.operands]), h y (by simp [Op.operands])]
  · exact stepA_congr h

theorem itemAt_setAt {hp : Hp} {i k : Nat} {x : Item} (h : k ≠ i) : itemAt (setAt hp i x) k = itemAt hp k := by
  unfold itemAt
  split
  · rename_i y hy
    rw [(setAt_other hp i x k y h).1 hy]
  · rename_i hn
    split
    · rename_i y hy; exact absurd ((setAt_other hp i x k y h).2 hy) (hn y)
    · rfl
theorem itemAt_applyD : ∀ {d : List (Nat × Item)} {hp : Hp} {k : Nat}, k ∉ d.map (·.1) → itemAt (applyD d hp) k = itemAt hp k
  | [], _, _, _ => rfl
  | (i, x) :: d, hp, k, h => by
    simp only [List.map_cons, List.mem_cons, not_or] at h
    show itemAt (applyD d (setAt hp i x)) k = _
    rw [itemAt_applyD h.2, itemAt_setAt h.1]
theorem kd_itemAt (hp : Hp) (k : Nat) : kd hp k = (itemAt hp k).map Item.kd := by
  unfold kd itemAt
  cases hp[k]? with
  | none => rfl
  | some x => cases x <;> rfl
theorem kd_applyD {d : List (Nat × Item)} {hp : Hp} {k : Nat} (h : k ∉ d.map (·.1)) : kd (applyD d hp) k = kd hp k := by rw [kd_itemAt, kd_itemAt, itemAt_applyD h]
theorem kd_applyD_none : ∀ {d : List (Nat × Item)} {hp : Hp} {k : Nat}, kd (applyD d hp) k = none → kd hp k = none
  | [], _, _, h => h
  | (i, x) :: d, hp, k, h => by
    have := kd_applyD_none (d := d) (hp := setAt hp i x) h
    rw [kd_setAt] at this
    split at this
    · cases this
    · exact this
theorem setAt_comm : ∀ (hp : Hp) (i j : Nat) (a b : Item), i ≠ j → setAt (setAt hp i a) j b = setAt (setAt hp j b) i a
  | [], 0, 0, _, _, h => absurd rfl h
  | [], 0, j + 1, a, b, _ => by simp [setAt]
  | [], i + 1, 0, a, b, _ => by simp [setAt]
  | [], i + 1, j + 1, a, b, h => by simp only [setAt]; rw [setAt_comm [] i j a b (by omega)]
  | _ :: _, 0, 0, _, _, h => absurd rfl h
  | _ :: _, 0, j + 1, _, _, _ => by simp [setAt]
  | _ :: _, i + 1, 0, _, _, _ => by simp [setAt]
  | _ :: l, i + 1, j + 1, a, b, h => by simp only [setAt]; rw [setAt_comm l i j a b (by omega)]
theorem applyD_setAt : ∀ (d : List (Nat × Item)) (hp : Hp) (i : Nat) (x : Item), i ∉ d.map (·.1) → applyD d (setAt hp i x) = setAt (applyD d hp) i x
  | [], _, _, _, _ => rfl
  | (j, y) :: d, hp, i, x, h => by
    simp only [List.map_cons, List.mem_cons, not_or] at h
    show applyD d (setAt (setAt hp i x) j y) = setAt (applyD d (setAt hp j y)) i x
    rw [setAt_comm _ _ _ _ _ h.1, applyD_setAt d _ _ _ h.2]
theorem applyD_comm : ∀ (d d2 : List (Nat × Item)) (hp : Hp), (∀ k ∈ d.map (·.1), k ∉ d2.map (·.1)) → applyD d2 (applyD d hp) = applyD d (applyD d2 hp)
  | [], _, _, _ => rfl
  | (i, x) :: d, d2, hp, h => by
    show applyD d2 (applyD d (setAt hp i x)) = applyD d (setAt (applyD d2 hp) i x)
    rw [applyD_comm d d2 (setAt hp i x) fun k hk => h k (by simp [List.map_cons]; exact .inr (by simpa using hk)), applyD_setAt d2 _ _ _ (h i (by simp))]

/-! ### One operation of a region, in the state that there is -/
def StepD (P : Program) (G : Gam) (ops : Array Oper) (ids : Nat → Nat) (fp : Nat → FP) (i : Nat) (st st' : St) : Prop :=
  ∃ o b, ops[i]? = some o ∧ wantedEv st ops o = some b ∧
    ((b.val = true ∧ ∃ q v d g, (stepH P G g (ids i) (ev st) o.op).val st.hp = .leaf q v d ∧ needs q ∧ fp i = some ((stepH P G g (ids i) (ev st) o.op).log st.hp, d.map (·.1)) ∧ Fresh (ids i) st.hp d ∧ st' = put st o.dst v (applyD d st.hp)) ∨
     (b.val = false ∧ fp i = none ∧ st' = put st o.dst (.tup []) st.hp))
def disj : FP → FP → Bool
  | some (r1, w1), some (r2, w2) => w1.all (fun k => !(r2.contains k) && !(w2.contains k)) && w2.all fun k => !(r1.contains k)
  | _, _ => true
theorem put_hp {st : St} {dst : Option Tmp} {v : LV} {hp : Hp} : (put st dst v hp).hp = hp := by cases dst <;> rfl

section
variable {P : Program} {G : Gam} {ops : Array Oper} {ids : Nat → Nat} {fp : Nat → FP}

/-- two operations that have nothing to do with each other -/
theorem step_comm {i j : Nat} {oi oj : Oper} (hoi : ops[i]? = some oi) (hoj : ops[j]? = some oj) (hap : oj.apart ops oi = true) (hdis : disj (fp j) (fp i) = true)
    {st s1 s2 : St} (h1 : StepD P G ops ids fp j st s1) (h2 : StepD P G ops ids fp i s1 s2) : ∃ s1', StepD P G ops ids fp i st s1' ∧ StepD P G ops ids fp j s1' s2 := by
  obtain ⟨a1, a2, a3⟩ := Oper.apart_spec hap
  obtain ⟨o, bj, ho, hwj, h1⟩ := h1
  rw [hoj] at ho; simp at ho; subst ho
  obtain ⟨o, bi, ho, hwi, h2⟩ := h2
  rw [hoi] at ho; simp at ho; subst ho
  rcases h1 with ⟨hbj, qj, vj, dj, gj, ej, nj, fj, rj, rfl⟩ | ⟨hbj, fj, rfl⟩
  · rw [wanted_apart a1] at hwi
    have evi : ∀ x ∈ oi.op.operands, ev (put st oj.dst vj (applyD dj st.hp)) x = ev st x := ev_apart a1
    rcases h2 with ⟨hbi, qi, vi, di, gi, ei, ni, fi, ri, rfl⟩ | ⟨hbi, fi, rfl⟩
    · rw [stepH_congr evi, put_hp] at ei fi
      rw [put_hp] at ri
      rw [fj, fi] at hdis
      simp only [disj, Bool.and_eq_true, List.all_eq_true, Bool.not_eq_true', List.contains_eq_mem, decide_eq_false_iff_not] at hdis
      obtain ⟨d1, d2⟩ := hdis
      have hli : ∀ k ∈ (stepH P G gi (ids i) (ev st) oi.op).log (applyD dj st.hp), itemAt st.hp k = itemAt (applyD dj st.hp) k := fun k hk => (itemAt_applyD fun hm => (d1 k hm).1 hk).symm
      obtain ⟨k1, k2⟩ := Ask.local_ _ hli
      have hlj : ∀ k ∈ (stepH P G gj (ids j) (ev st) oj.op).log st.hp, itemAt (applyD di st.hp) k = itemAt st.hp k := fun k hk => itemAt_applyD fun hm => d2 k hm hk
      obtain ⟨k3, k4⟩ := Ask.local_ _ hlj
      have evj : ∀ x ∈ oj.op.operands, ev (put st oi.dst vi (applyD di st.hp)) x = ev st x := ev_apart a3
      refine ⟨put st oi.dst vi (applyD di st.hp), ⟨oi, bi, hoi, hwi, .inl ⟨hbi, qi, vi, di, gi, by rw [k1]; exact ei, ni, by rw [k2]; exact fi, fun k x hk hle => kd_applyD_none (ri k x hk hle), rfl⟩⟩,
        ⟨oj, bj, hoj, by rw [wanted_apart a3]; exact hwj, .inl ⟨hbj, qj, vj, dj, gj, by rw [stepH_congr evj, put_hp, k3]; exact ej, nj, by rw [stepH_congr evj, put_hp, k4]; exact fj, ?_, ?_⟩⟩⟩
      · intro k x hk hle
        rw [put_hp, kd_applyD (fun hm => (d1 k (List.mem_map.2 ⟨_, hk, rfl⟩)).2 hm)]
        exact rj k x hk hle
      · rw [put_hp, put_hp, applyD_comm dj di st.hp (fun k hk => (d1 k hk).2)]
        exact put_comm st vj vi _ _ _ a2
    · refine ⟨put st oi.dst (.tup []) st.hp, ⟨oi, bi, hoi, hwi, .inr ⟨hbi, fi, rfl⟩⟩, ⟨oj, bj, hoj, by rw [wanted_apart a3]; exact hwj, .inl ⟨hbj, qj, vj, dj, gj, ?_, nj, ?_, ?_, ?_⟩⟩⟩
      · rw [stepH_congr (ev_apart a3), put_hp]; exact ej
      · rw [stepH_congr (ev_apart a3), put_hp]; exact fj
      · rw [put_hp]; exact rj
      · rw [put_hp, put_hp]; exact put_comm st vj _ _ _ _ a2
  · rw [wanted_apart a1] at hwi
    have evi : ∀ x ∈ oi.op.operands, ev (put st oj.dst (.tup []) st.hp) x = ev st x := ev_apart a1
    rcases h2 with ⟨hbi, qi, vi, di, gi, ei, ni, fi, ri, rfl⟩ | ⟨hbi, fi, rfl⟩
    · rw [stepH_congr evi, put_hp] at ei fi
      rw [put_hp] at ri
      refine ⟨put st oi.dst vi (applyD di st.hp), ⟨oi, bi, hoi, hwi, .inl ⟨hbi, qi, vi, di, gi, ei, ni, fi, ri, rfl⟩⟩, ⟨oj, bj, hoj, by rw [wanted_apart a3]; exact hwj, .inr ⟨hbj, fj, ?_⟩⟩⟩
      rw [put_hp, put_hp]; exact put_comm st _ vi _ _ _ a2
    · refine ⟨put st oi.dst (.tup []) st.hp, ⟨oi, bi, hoi, hwi, .inr ⟨hbi, fi, rfl⟩⟩, ⟨oj, bj, hoj, by rw [wanted_apart a3]; exact hwj, .inr ⟨hbj, fj, ?_⟩⟩⟩
      rw [put_hp, put_hp]; exact put_comm st _ _ _ _ _ a2
end

/-! ### All orders -/
inductive ExecD (P : Program) (G : Gam) (ops : Array Oper) (ids : Nat → Nat) (fp : Nat → FP) : List Nat → St → St → Prop where
  | nil {st} : ExecD P G ops ids fp [] st st
  | cons {i l st s s'} (h : StepD P G ops ids fp i st s) (t : ExecD P G ops ids fp l s s') : ExecD P G ops ids fp (i :: l) st s'

/-- which operations an operation waits for, itself or through others: a number's bits -/
def waitsFor (acc : List Nat) (o : Oper) : Nat :=
  o.after.toList.foldr (fun e s => if Region.binds .any e then s ||| 2 ^ e.on ||| acc.getD e.on 0 else s) 0
def masks : List Oper → List Nat → List Nat
  | [], acc => acc
  | o :: l, acc => masks l (acc ++ [waitsFor acc o])

theorem testBit_waits {acc : List Nat} {o : Oper} {j : Nat} (h : Nat.testBit (waitsFor acc o) j = true) :
    ∃ e ∈ o.after, Region.binds .any e = true ∧ (e.on = j ∨ Nat.testBit (acc.getD e.on 0) j = true) := by
  unfold waitsFor at h
  have key : ∀ l : List Edge, Nat.testBit (l.foldr (fun e s => if Region.binds .any e then s ||| 2 ^ e.on ||| acc.getD e.on 0 else s) 0) j = true →
      ∃ e ∈ l, Region.binds .any e = true ∧ (e.on = j ∨ Nat.testBit (acc.getD e.on 0) j = true) := by
    intro l
    induction l with
    | nil => intro h; simp at h
    | cons e l ih =>
      intro h
      simp only [List.foldr_cons] at h
      split at h
      · rename_i hb
        simp only [Nat.testBit_or, Bool.or_eq_true, Nat.testBit_two_pow, decide_eq_true_eq] at h
        rcases h with (h | h) | h
        · obtain ⟨e', h1, h2⟩ := ih h; exact ⟨e', by simp [h1], h2⟩
        · exact ⟨e, by simp, hb, .inl h⟩
        · exact ⟨e, by simp, hb, .inr h⟩
      · obtain ⟨e', h1, h2⟩ := ih h; exact ⟨e', by simp [h1], h2⟩
  obtain ⟨e, h1, h2⟩ := key _ h
  exact ⟨e, by simpa using h1, h2⟩


/-- each operation waits for earlier ones alone -/
def earlyOk : List Oper → Nat → Bool
  | [], _ => true
  | o :: l, n => (o.after.all fun e => !Region.binds .any e || decide (e.on < n)) && earlyOk l (n + 1)
def pairsOk (ops : Array Oper) (oi : Oper) (mask : Nat) (fi : FP) : List Oper → List FP → Nat → Bool
  | [], _, _ => true
  | oj :: l, fs, j => (Nat.testBit mask j || (oj.apart ops oi && disj (fs.headD none) fi)) && pairsOk ops oi mask fi l fs.tail (j + 1)
/-- and for each earlier one with which it has to do -/
def allPairs (ops : Array Oper) (ms : List Nat) (fs : List FP) : List Oper → Nat → Bool
  | [], _ => true
  | o :: l, i => pairsOk ops o (ms.getD i 0) (fs.getD i none) (ops.toList.take i) fs 0 && allPairs ops ms fs l (i + 1)

structure OpAt (ops : Array Oper) (M : Nat → Nat) (fp : Nat → FP) (i : Nat) (o : Oper) : Prop where
  early : ∀ e ∈ o.after, Region.binds .any e = true → e.on < i
  pairs : ∀ j oj, j < i → ops[j]? = some oj → Nat.testBit (M i) j = true ∨ (oj.apart ops o = true ∧ disj (fp j) (fp i) = true)
  waits : ∀ j, Nat.testBit (M i) j = true → ∃ e ∈ o.after, Region.binds .any e = true ∧ (e.on = j ∨ Nat.testBit (M e.on) j = true)

theorem pairsOk_spec {ops : Array Oper} {oi : Oper} {mask : Nat} {fi : FP} : ∀ (l : List Oper) (fs : List FP) (k : Nat), pairsOk ops oi mask fi l fs k = true → ∀ j oj, l[j]? = some oj → Nat.testBit mask (k + j) = true ∨ (oj.apart ops oi = true ∧ disj (fs.getD j none) fi = true)
  | [], _, _, _, j, oj, hj => by simp at hj
  | o :: l, fs, k, h, j, oj, hj => by
    simp only [pairsOk, Bool.and_eq_true, Bool.or_eq_true] at h
    cases j with
    | zero =>
      simp at hj; subst hj
      have e : fs.headD none = fs.getD 0 none := by cases fs <;> rfl
      rw [← e]; simpa using h.1
    | succ j =>
      have := pairsOk_spec l fs.tail (k + 1) h.2 j oj (by simpa using hj)
      have e : fs.tail.getD j none = fs.getD (j + 1) none := by cases fs <;> simp [List.getD]
      rw [e] at this
      rwa [show k + 1 + j = k + (j + 1) by omega] at this
theorem allPairs_spec {ops : Array Oper} {ms : List Nat} {fs : List FP} : ∀ (l : List Oper) (k : Nat), (∀ j, l[j]? = ops[k + j]?) → allPairs ops ms fs l k = true → ∀ i o, k ≤ i → ops[i]? = some o → ∀ j oj, j < i → ops[j]? = some oj → Nat.testBit (ms.getD i 0) j = true ∨ (oj.apart ops o = true ∧ disj (fs.getD j none) (fs.getD i none) = true)
  | [], k, hl, _, i, o, hi, ho, _, _, _, _ => by
    have := hl (i - k)
    rw [show k + (i - k) = i by omega, ho] at this
    simp at this
  | x :: l, k, hl, h, i, o, hi, ho, j, oj, hj, hoj => by
    simp only [allPairs, Bool.and_eq_true] at h
    by_cases e : i = k
    · subst e
      have hx : o = x := by
        have := hl 0
        rw [Nat.add_zero, ho] at this
        simpa using this.symm
      subst hx
      have := pairsOk_spec _ _ 0 h.1 j oj (by rw [List.getElem?_take]; simp [hj, hoj])
      rwa [Nat.zero_add] at this
    · exact allPairs_spec l (k + 1) (fun j => by have := hl (j + 1); simpa [Nat.add_assoc, Nat.add_comm 1 j] using this) h.2 i o (by omega) ho j oj hj hoj

theorem early_spec {ops : Array Oper} : ∀ (l before : List Oper) (acc : List Nat), before ++ l = ops.toList → acc.length = before.length → earlyOk l before.length = true →
    (∀ M : Nat → Nat, (∀ i, M i = (masks l acc).getD i 0) → ∀ i o, before.length ≤ i → ops[i]? = some o → (∀ e ∈ o.after, Region.binds .any e = true → e.on < i) ∧
      (∀ j, Nat.testBit (M i) j = true → ∃ e ∈ o.after, Region.binds .any e = true ∧ (e.on = j ∨ Nat.testBit (M e.on) j = true))) ∧ (∀ i, i < acc.length → (masks l acc).getD i 0 = acc.getD i 0)
  | [], before, acc, hb, ha, _ => by
    have hs : before.length = ops.size := by
      have := congrArg List.length hb; simpa using this
    refine ⟨fun M hM i o hi ho => ?_, fun _ _ => rfl⟩
    have := (Array.getElem?_eq_some_iff.1 ho).1; omega
  | o :: l, before, acc, hb, ha, h => by
    simp only [earlyOk, Bool.and_eq_true] at h
    obtain ⟨h1, h4⟩ := h
    obtain ⟨i1, i3⟩ := early_spec l (before ++ [o]) (acc ++ [waitsFor acc o]) (by simpa using hb) (by simp [ha]) (by simpa using h4)
    have hmk : masks (o :: l) acc = masks l (acc ++ [waitsFor acc o]) := rfl
    have hlow : ∀ i, i < acc.length → (masks (o :: l) acc).getD i 0 = acc.getD i 0 := fun i hi => by
      rw [hmk, i3 i (by simp; omega)]
      simp only [List.getD_eq_getElem?_getD]
      rw [List.getElem?_append_left hi]
    refine ⟨fun M hM i oi hi ho => ?_, hlow⟩
    by_cases hie : i = before.length
    · subst hie
      have hoo : oi = o := by
        have e : ops.toList[before.length]? = some oi := by simpa using ho
        rw [← hb] at e
        simp at e; exact e.symm
      subst hoo
      have hMi : M before.length = waitsFor acc oi := by
        rw [hM, hmk, i3 _ (by simp [ha])]
        simp only [List.getD_eq_getElem?_getD]
        rw [← ha]; simp
      have hearly : ∀ e ∈ oi.after, Region.binds .any e = true → e.on < before.length := by
        intro e he hbind
        have := Array.all_eq_true'.1 h1 e he
        simpa [hbind] using this
      refine ⟨hearly, fun j hj => ?_⟩
      rw [hMi] at hj
      obtain ⟨e, he, hbind, hor⟩ := testBit_waits hj
      refine ⟨e, he, hbind, hor.imp id fun ht => ?_⟩
      rw [hM, hlow _ (by rw [ha]; exact hearly e he hbind)]
      exact ht
    · exact i1 M (fun i => hM i) i oi (by simp; omega) ho

section
variable {P : Program} {G : Gam} {ops : Array Oper} {ids : Nat → Nat} {M : Nat → Nat} {fp : Nat → FP}

/-- an operation that need not wait is taken first -/
theorem exec_first (hM : ∀ i o, ops[i]? = some o → OpAt ops M fp i o) {i : Nat} {oi : Oper} (hoi : ops[i]? = some oi) :
    ∀ (l1 l2 : List Nat) (st sf : St), (∀ j ∈ l1, j < i ∧ Nat.testBit (M i) j = false) → ExecD P G ops ids fp (l1 ++ i :: l2) st sf → ∃ s, StepD P G ops ids fp i st s ∧ ExecD P G ops ids fp (l1 ++ l2) s sf
  | [], l2, st, sf, _, h => by
    cases h with
    | cons h t => exact ⟨_, h, t⟩
  | j :: l1, l2, st, sf, hl, h => by
    cases h with
    | cons h t =>
      rename_i s
      obtain ⟨s1, h1, h2⟩ := exec_first hM hoi l1 l2 s sf (fun k hk => hl k (by simp [hk])) t
      obtain ⟨hji, hbit⟩ := hl j (by simp)
      have hoj' := h
      obtain ⟨oj, _, hoj, _⟩ := hoj'
      have hp := ((hM i oi hoi).pairs j oj hji hoj).resolve_left (by rw [hbit]; simp)
      obtain ⟨s1', k1, k2⟩ := step_comm hoi hoj hp.1 hp.2 h h1
      exact ⟨s1', k1, .cons k2 h2⟩

theorem stepD_wp (hG : GOk P G) {i : Nat} {st s : St} (h : StepD P G ops ids fp i st s) {W : World} {hp₀ : Hp} {β₀ β : Env} {a : Act} {w : World} (hr : Rel W hp₀ β₀ β st a w)
    {K : Act → World → Prop} {Q : Exit → Act → World → Prop} (hK : ∀ β' a' w', Rel W hp₀ β₀ β' s a' w' → K a' w') : wpOp P ops Q i K a w := by
  obtain ⟨o, b, ho, hw, h⟩ := h
  unfold wpOp
  simp only [ho, wantedEv_ok hr hw]
  rcases h with ⟨hb, q, v, d, g, e, hq, _, hf, rfl⟩ | ⟨hb, _, rfl⟩
  · rw [if_pos hb]
    exact .inl (stepH_ok hG (K := fun v' d' => v' = v ∧ d' = d) (by rw [e]; exact hf) (by rw [e]; exact ⟨hq, rfl, rfl⟩) hr fun v' d' β' a' w' hk hr' => by
      obtain ⟨rfl, rfl⟩ := hk
      exact hK β' a' w' hr')
  · rw [if_neg (by rw [hb]; simp)]
    exact hK β _ w (hr.put (dst := o.dst) ⟨[], rfl, .nil⟩ hr.heap (Agree.refl _ _))

/-- the places that have not come up, in the text's order -/
def unlisted (ops : Array Oper) (listed : Array Bool) : List Nat := (List.range ops.size).filter fun i => !listed.getD i true

theorem wpAny_of_exec (hG : GOk P G) (hM : ∀ i o, ops[i]? = some o → OpAt ops M fp i o)
    {W : World} {hp₀ : Hp} {β₀ : Env} {Q : Exit → Act → World → Prop} {sf : St} (hQ : ∀ β a w, Rel W hp₀ β₀ β sf a w → Q .normal a w) :
    ∀ (fuel : Nat) (listed : Array Bool) (st : St) (β : Env) (a : Act) (w : World), listed.size = ops.size → (unlisted ops listed).length = fuel →
      (∀ j oj, ops[j]? = some oj → listed.getD j false = true → ∀ e ∈ oj.after, Region.binds .any e = true → listed.getD e.on false = true) →
      ExecD P G ops ids fp (unlisted ops listed) st sf → Rel W hp₀ β₀ β st a w → wpAny P .any ops Q fuel listed a w := by
  intro fuel
  induction fuel with
  | zero =>
    intro listed st β a w hsz hlen hclosed hex hr
    have h0 : unlisted ops listed = [] := List.eq_nil_of_length_eq_zero hlen
    rw [h0] at hex
    cases hex
    refine ⟨?_, hQ β a w hr⟩
    refine List.eq_nil_iff_forall_not_mem.2 fun i hi => ?_
    have : i ∈ unlisted ops listed := by
      simp only [Region.ready, List.mem_filter, Bool.and_eq_true] at hi
      simp only [unlisted, List.mem_filter]
      exact ⟨hi.1, hi.2.1⟩
    rw [h0] at this; cases this
  | succ fuel ih =>
    intro listed st β a w hsz hlen hclosed hex hr
    constructor
    · intro hnone
      exfalso
      -- the first one that has not come up is ready
      cases hu : unlisted ops listed with
      | nil => rw [hu] at hlen; simp at hlen
      | cons i l =>
        have hmem : i ∈ unlisted ops listed := by rw [hu]; simp
        have hi : i < ops.size ∧ (!listed.getD i true) = true := by
          simpa [unlisted] using hmem
        have hfirst : ∀ j, j < i → listed.getD j true = true := by
          intro j hj
          refine Classical.byContradiction fun hno => ?_
          have hjm : j ∈ unlisted ops listed := by
            simp only [unlisted, List.mem_filter, List.mem_range]
            exact ⟨by omega, by simpa using hno⟩
          have hpw : (unlisted ops listed).Pairwise (· < ·) := (List.pairwise_lt_range (n := ops.size)).filter _
          rw [hu] at hpw hjm
          rcases List.mem_cons.1 hjm with rfl | hjm
          · omega
          · have := List.rel_of_pairwise_cons hpw hjm; omega
        have hr' : i ∈ Region.ready .any ops listed := by
          rw [mem_ready]
          obtain ⟨oi, hoi⟩ : ∃ oi, ops[i]? = some oi := ⟨ops[i]'hi.1, by simp [hi.1]⟩
          refine ⟨by simpa using hi.2, oi, hoi, fun e he hb => ?_⟩
          have hlt := (hM i oi hoi).early e he hb
          have h1 := hfirst e.on hlt
          have : e.on < listed.size := by omega
          simp [this] at h1 ⊢
          exact h1
        rw [hnone] at hr'; cases hr'
    · intro i hi
      obtain ⟨hun, oi, hoi, hall⟩ := mem_ready.1 hi
      have hilt : i < ops.size := (Array.getElem?_eq_some_iff.1 hoi).1
      have himem : i ∈ unlisted ops listed := by
        simp only [unlisted, List.mem_filter, List.mem_range]
        exact ⟨hilt, by simpa using hun⟩
      obtain ⟨l1, l2, hl⟩ := List.append_of_mem himem
      have hpw : (unlisted ops listed).Pairwise (· < ·) := (List.pairwise_lt_range (n := ops.size)).filter _
      rw [hl] at hpw hex
      obtain ⟨p1, p2, p3⟩ := List.pairwise_append.1 hpw
      have hbits : ∀ j, listed.getD j false = false → ∀ i oi, ops[i]? = some oi → (∀ e ∈ oi.after, Region.binds .any e = true → listed.getD e.on false = true) → Nat.testBit (M i) j = false := by
        intro j hj i
        induction i using Nat.strongRecOn with
        | _ i ih2 =>
          intro oi hoi hall
          refine Bool.eq_false_iff.2 fun ht => ?_
          obtain ⟨e, he, hb, hor⟩ := (hM i oi hoi).waits j ht
          have hle := hall e he hb
          rcases hor with rfl | ht'
          · rw [hj] at hle; cases hle
          · have hlt := (hM i oi hoi).early e he hb
            obtain ⟨oe, hoe⟩ : ∃ oe, ops[e.on]? = some oe := ⟨ops[e.on]'(by have := (Array.getElem?_eq_some_iff.1 hoi).1; omega), by
              have := (Array.getElem?_eq_some_iff.1 hoi).1
              simp [show e.on < ops.size by omega]⟩
            have := ih2 e.on hlt oe hoe (hclosed e.on oe hoe hle)
            rw [this] at ht'; cases ht'
      have hl1 : ∀ j ∈ l1, j < i ∧ Nat.testBit (M i) j = false := by
        intro j hj
        refine ⟨p3 j hj i (by simp), hbits j ?_ i oi hoi hall⟩
        have hjm : j ∈ unlisted ops listed := by rw [hl]; simp [hj]
        simp only [unlisted, List.mem_filter, List.mem_range] at hjm
        have : j < listed.size := by omega
        simp [this] at hjm ⊢
        exact hjm.2
      obtain ⟨s, h1, h2⟩ := exec_first hM hoi l1 l2 st sf hl1 hex
      refine stepD_wp hG h1 hr fun β' a' w' hr' => ?_
      have hul : unlisted ops (listed.setIfInBounds i true) = l1 ++ l2 := by
        have e1 : unlisted ops (listed.setIfInBounds i true) = (unlisted ops listed).filter (fun k => k != i) := by
          unfold unlisted
          rw [List.filter_filter]
          apply List.filter_congr
          intro k hk
          have hk' : k < ops.size := List.mem_range.1 hk
          by_cases hki : k = i
          · subst hki
            simp [Array.getD_eq_getD_getElem?, hsz, hk']
          · rw [getD_set_ne true (Ne.symm hki)]
            simp [hki]
        rw [e1, hl, List.filter_append]
        have f1 : l1.filter (fun k => k != i) = l1 := List.filter_eq_self.2 fun k hk => by have := (hl1 k hk).1; simp; omega
        have f2 : (i :: l2).filter (fun k => k != i) = l2 := by
          rw [List.filter_cons]
          simp only [bne_self_eq_false, Bool.false_eq_true, if_false]
          exact List.filter_eq_self.2 fun k hk => by
            have := List.rel_of_pairwise_cons p2 hk; simp; omega
        rw [f1, f2]
      refine ih (listed.setIfInBounds i true) s β' a' w' (by simpa using hsz) ?_ ?_ (by rw [hul]; exact h2) hr'
      · rw [hul]
        have : (unlisted ops listed).length = (l1 ++ i :: l2).length := by rw [hl]
        simp at this ⊢
        omega
      · intro j oj hoj hlj e he hb
        by_cases hji : j = i
        · subst hji
          rw [hoi] at hoj; simp at hoj; subst hoj
          exact getD_set_true (hall e he hb)
        · rw [getD_set_ne false (Ne.symm hji)] at hlj
          exact getD_set_true (hclosed j oj hoj hlj e he hb)
end



/-! ### The text's order -/
/-- may the order be any? -/
def drawChk (ops : Array Oper) (fs : List FP) : Bool := allPairs ops (masks ops.toList []) fs ops.toList 0

def TextOk (P : Program) (G : Gam) (ops : Array Oper) (chk : List FP → Bool) (W : World) (m : Hp) (β₀ : Env) (R : Exit → St → Prop) (acc : List FP) (k n : Nat) (st : St) : Prop :=
  ∃ (ids : Nat → Nat) (fs : List FP) (sf : St), fs.length = n ∧ ExecD P G ops ids (fun i => fs.getD (i - k) none) (List.range' k n) st sf ∧ chk (acc ++ fs) = true ∧ (∀ β a w, Rel W m β₀ β sf a w → Post W m β₀ R .normal a w)

theorem exec_of_ops {P : Program} {G : Gam} {A : Alt} {m : Hp} {chk : List FP → Bool} {ops : Array Oper} {W : World} {β₀ : Env} :
    ∀ (l : List Oper) (k : Nat) (B : Asm) (acc : List FP) (st : St) (R : Exit → St → Prop), (∀ j, l[j]? = ops[k + j]?) → AsmOk B st → (opsEv P G A m true chk ops l B acc st).sat R →
      TextOk P G ops chk W m β₀ R acc k l.length st
  | [], k, B, acc, st, R, _, _, h => by
    simp only [opsEv] at h
    split at h
    · rename_i hc
      exact ⟨fun _ => 0, [], st, rfl, .nil, by simpa using hc, fun β a w hr => ⟨st, β, h, hr⟩⟩
    · exact h.elim
  | o :: rest, k, B, acc, st, R, hl, hB, h => by
    have h0 : ops[k]? = some o := by simpa using (hl 0).symm
    have hl' : ∀ j, rest[j]? = ops[k + 1 + j]? := fun j => by
      have := hl (j + 1)
      simpa [Nat.add_assoc, Nat.add_comm 1 j] using this
    have build : ∀ (s : St) (f : FP), (∀ ids fp, ids k = st.hp.length → fp k = f → StepD P G ops ids fp k st s) →
        ∀ (B : Asm) (R' : Exit → St → Prop), AsmOk B s → (opsEv P G A m true chk ops rest B (acc ++ [f]) s).sat R' → (∀ e a w, Post W m β₀ R' e a w → Post W m β₀ R e a w) →
        TextOk P G ops chk W m β₀ R acc k (o :: rest).length st := by
      intro s f hstep B R' hB hs hR
      obtain ⟨ids, fs, sf, e0, e1, e2, e3⟩ := exec_of_ops rest (k + 1) B (acc ++ [f]) s R' hl' hB hs
      refine ⟨fun i => if i = k then st.hp.length else ids i, f :: fs, sf, by simp [e0], ?_, by simpa using e2, fun β a w hr => hR _ _ _ (e3 β a w hr)⟩
      simp only [List.length_cons, List.range'_succ]
      refine .cons (hstep _ _ (if_pos rfl) (by simp)) ?_
      have key : ∀ (l : List Nat) (x y : St), (∀ i ∈ l, k + 1 ≤ i) → ExecD P G ops ids (fun i => fs.getD (i - (k + 1)) none) l x y → ExecD P G ops (fun i => if i = k then st.hp.length else ids i) (fun i => (f :: fs).getD (i - k) none) l x y := by
        intro l x y hne hx
        induction hx with
        | nil => exact .nil
        | cons h t ih =>
          rename_i i l s1 s2 s3
          refine .cons ?_ (ih fun i hi => hne i (by simp [hi]))
          have hik := hne i (by simp)
          unfold StepD at h ⊢
          have e1 : (f :: fs).getD (i - k) none = fs.getD (i - (k + 1)) none := by
            rw [show i - k = (i - (k + 1)) + 1 by omega]; rfl
          have e2 : (fun i => if i = k then st.hp.length else ids i) i = ids i := if_neg (by omega)
          simp only [e2, e1]
          exact h
      exact key _ _ _ (fun i hi => by have := List.mem_range'_1.1 hi; omega) e1
    have hrun : ∀ (b : SB), wantedEv st ops o = some b → b.val = true → ∀ (B : Asm) (R' : Exit → St → Prop), AsmOk B st → (((stepK P G B st.hp.length (ev st) o.op).val st.hp).toRes true fun v d =>
        opsEv P G A m true chk ops rest (forget B o.dst) (acc ++ [some ((stepK P G B st.hp.length (ev st) o.op).log st.hp, d.map (·.1))]) (put st o.dst v (applyD d st.hp))).sat R' → (∀ e a w, Post W m β₀ R' e a w → Post W m β₀ R e a w) → TextOk P G ops chk W m β₀ R acc k (o :: rest).length st := by
      intro b hb hbv B R' hB hs hR
      obtain ⟨q, v, d, hst, n1, n2⟩ := toRes_leaf hs
      have hH : ∃ q', (stepH P G (hintOf B o.op) st.hp.length (ev st) o.op).val st.hp = .leaf q' v d ∧ needs q' ∧ (stepH P G (hintOf B o.op) st.hp.length (ev st) o.op).log st.hp = (stepK P G B st.hp.length (ev st) o.op).log st.hp := by
        rcases stepK_H (P := P) (G := G) (id := st.hp.length) (op := o.op) hB with e | ⟨v', p, e1, e2, hp⟩
        · rw [← e]; exact ⟨q, hst, n1, rfl⟩
        · rw [e1] at hst
          simp only [Ask.val] at hst
          cases hst
          exact ⟨some p, by rw [e2]; rfl, hp, by rw [e1, e2]; rfl⟩
      obtain ⟨q', k1, k2, k3⟩ := hH
      exact build _ _ (fun ids fp hids hfp => ⟨o, b, h0, hb, .inl ⟨hbv, q', v, d, _, by rw [hids]; exact k1, k2, by rw [hids, hfp, k3], by rw [hids]; exact fresh_length _ _, rfl⟩⟩) _ R' hB.put n2 hR
    have hskip : ∀ (b : SB), wantedEv st ops o = some b → b.val = false → ∀ (B : Asm) (R' : Exit → St → Prop), AsmOk B st → (opsEv P G A m true chk ops rest (forget B o.dst) (acc ++ [none]) (put st o.dst (.tup []) st.hp)).sat R' →
        (∀ e a w, Post W m β₀ R' e a w → Post W m β₀ R e a w) → TextOk P G ops chk W m β₀ R acc k (o :: rest).length st := by
      intro b hb hbv B R' hB hs hR
      exact build (put st o.dst (.tup []) st.hp) none (fun ids fp _ hfp => ⟨o, b, h0, hb, .inr ⟨hbv, hfp, rfl⟩⟩) _ R' hB.put hs hR
    simp only [opsEv] at h
    cases hb0 : wantedA B st ops o with
    | none => simp only [hb0] at h; exact h.elim
    | some b =>
      obtain ⟨b', hb, hbv⟩ := wantedA_ok hB hb0
      simp only [hb0] at h
      cases b with
      | lit b =>
        cases b with
        | true => exact hrun _ hb hbv B R hB h fun _ _ _ h => h
        | false => exact hskip _ hb hbv B R hB h fun _ _ _ h => h
      | sym b =>
        cases b with
        | true =>
          obtain ⟨R', h1, h2⟩ := A.yes (W := W) (β₀ := β₀) h
          exact hrun _ hb hbv _ R' (learn_ok hB hb0) h1 h2
        | false =>
          obtain ⟨R', h1, h2⟩ := A.no (W := W) (β₀ := β₀) h
          exact hskip _ hb hbv _ R' (learn_ok hB hb0) h1 h2

section
variable {P : Program} {G : Gam}
/-- **A region whose order is open**: read in the text's order. -/
theorem region_draw_ok (hG : GOk P G) {A : Alt} (hmix : P.follows .mixedOrders = true) {m : Hp} {ops : Array Oper} {id : Nat} {st : St} (hd : earlyOk ops.toList 0 = true) {R : Exit → St → Prop}
    (h : (opsEv P G A m true (drawChk ops) ops ops.toList [] [] st).sat R) {W : World} {β₀ : Env} {Q : Exit → Act → World → Prop} (hq : ∀ e a w, Post W m β₀ R e a w → Q e a w) {β : Env} {a : Act} {w : World}
    (hr : Rel W m β₀ β st a w) : (Code.region id ops true).wp P Q a w := by
  obtain ⟨ids, fs, sf, e0, e1, e2, e3⟩ := exec_of_ops (W := W) (β₀ := β₀) ops.toList 0 [] [] st R (fun j => by simp) (fun _ _ h => by simp [known] at h) h
  obtain ⟨hE, _⟩ := early_spec (ops := ops) ops.toList [] [] (by simp) rfl hd
  have hM : ∀ i o, ops[i]? = some o → OpAt ops (fun i => (masks ops.toList []).getD i 0) (fun i => fs.getD (i - 0) none) i o := by
    intro i o ho
    obtain ⟨k1, k2⟩ := hE _ (fun _ => rfl) i o (Nat.zero_le _) ho
    exact ⟨k1, fun j oj hj hoj => allPairs_spec ops.toList 0 (fun j => by simp) (by simpa [drawChk] using e2) i o (Nat.zero_le _) ho j oj hj hoj, k2⟩
  refine wp_region_any hmix ?_
  have hul : unlisted ops (Array.replicate ops.size false) = List.range' 0 ops.toList.length := by
    unfold unlisted
    rw [List.filter_eq_self.2 fun i hi => ?_]
    · rw [List.range_eq_range']; simp
    · have := List.mem_range.1 hi
      simp [this]
  refine wpAny_of_exec hG hM (ids := ids) (sf := sf) (fun β a w hr => hq _ _ _ (e3 β a w hr)) ops.size _ st β a _ (by simp) (by rw [hul]; simp) ?_ (by rw [hul]; exact e1) ?_
  · intro j oj _ hl
    exfalso
    by_cases hj : j < ops.size
    · simp [hj] at hl
    · simp [hj] at hl
  · exact ⟨hr.defers, hr.fr, hr.heap.drew _ _⟩
end
end Go.Ev
