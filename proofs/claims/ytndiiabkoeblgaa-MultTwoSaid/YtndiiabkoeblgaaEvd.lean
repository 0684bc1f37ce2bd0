/- The reader of code: a statement whose order is open. -/
import Derived.Test.YtndiiabkoeblgaaEvc
namespace Go.Ev
open Go

/-! ### What an operation hangs on -/
def isPure : Op → Bool
  | .move _ | .assign _ | .pick _ _ _ | .build _ _ | .nilCheck _ | .binOp _ _ _ _ _ | .unOp _ _ _ | .convert _ _ _ | .sliceToArrayPointer _ _ | .slice _ _ _ _ _
  | .fieldAddr _ _ _ | .field _ _ _ | .indexAddr _ _ _ | .index _ _ _ | .extract _ _ => true
  | _ => false

section
variable {P : Program} {id : Nat} {st st2 : St} {q : Option Prop} {v : LV} {hp : Hp}

theorem opEv_pure {op : Op} (hpu : isPure op = true) (hev : ∀ x ∈ op.operands, ev st2 x = ev st x) (h : opEv P id st op = some (q, v, hp)) :
    hp = st.hp ∧ ∀ id2, opEv P id2 st2 op = some (q, v, st2.hp) := by
  cases op <;> (try (simp [isPure] at hpu; done)) <;> simp only [Op.operands] at hev
  case move x =>
    simp only [opEv, hev x (by simp)] at h ⊢
    simp at h; obtain ⟨rfl, rfl, rfl⟩ := h; simp
  case assign x =>
    simp only [opEv, hev x (by simp)] at h ⊢
    simp at h; obtain ⟨rfl, rfl, rfl⟩ := h; simp
  case pick c x y =>
    simp only [opEv, hev c (by simp), hev x (by simp), hev y (by simp)] at h ⊢
    split at h <;> (try (simp at h; done))
    · simp at h; obtain ⟨rfl, rfl, rfl⟩ := h; simp
    · split at h <;> (try (simp at h; done)) <;> simp at h <;> obtain ⟨rfl, rfl, rfl⟩ := h <;> simp
  case build t parts =>
    have e : (parts.toList.map fun p => (p.1, ev st2 p.2)) = parts.toList.map fun p => (p.1, ev st p.2) := by
      apply List.map_congr_left
      intro p hp
      rw [hev p.2 (by simp; exact ⟨p.1, by simpa using hp⟩)]
    simp only [opEv, e] at h ⊢
    split at h
    · obtain ⟨l, hl, he⟩ := map_some h
      simp at he; obtain ⟨rfl, rfl, rfl⟩ := he
      simp [hl]
    · simp at h
  case nilCheck x =>
    simp only [opEv, hev x (by simp)] at h ⊢
    split at h <;> (try (simp at h; done)) <;> simp at h <;> obtain ⟨rfl, rfl, rfl⟩ := h <;> simp
  case binOp op t x y yt =>
    simp only [opEv, hev x (by simp), hev y (by simp)] at h ⊢
    obtain ⟨l, hl, he⟩ := map_some h
    simp at he; obtain ⟨rfl, rfl, rfl⟩ := he
    simp [hl]
  case unOp op t x =>
    simp only [opEv, hev x (by simp)] at h ⊢
    split at h
    · obtain ⟨l, hl, he⟩ := map_some h
      simp at he; obtain ⟨rfl, rfl, rfl⟩ := he
      simp [hl]
    · simp at h
  case convert src dst x =>
    simp only [opEv, hev x (by simp)] at h ⊢
    split at h
    · obtain ⟨l, hl, he⟩ := map_some h
      simp at he; obtain ⟨rfl, rfl, rfl⟩ := he
      simp [hl]
    · simp at h
  case sliceToArrayPointer t x =>
    simp only [opEv, hev x (by simp)] at h ⊢
    split at h <;> (try (simp at h; done))
    split at h <;> (try (simp at h; done))
    simp at h; obtain ⟨rfl, rfl, rfl⟩ := h; simp; assumption
  case slice t x lo hi mx =>
    have e1 : lo.map (ev st2) = lo.map (ev st) := by cases lo <;> simp_all
    have e2 : hi.map (ev st2) = hi.map (ev st) := by cases hi <;> simp_all
    have e3 : mx.map (ev st2) = mx.map (ev st) := by cases mx <;> simp_all
    simp only [opEv, hev x (by simp), e1, e2, e3] at h ⊢
    split at h <;> (try (simp at h; done))
    all_goals
      split at h <;> (try (simp at h; done))
      simp at h; obtain ⟨rfl, rfl, rfl⟩ := h; simp [*]
  case fieldAddr s x f =>
    simp only [opEv, hev x (by simp)] at h ⊢
    split at h <;> (try (simp at h; done))
    split at h <;> (try (simp at h; done))
    split at h <;> (try (simp at h; done))
    split at h <;> (try (simp at h; done))
    simp at h; obtain ⟨rfl, rfl, rfl⟩ := h; simp [*]
  case field s x f =>
    simp only [opEv, hev x (by simp)] at h ⊢
    split at h <;> (try (simp at h; done))
    split at h <;> (try (simp at h; done))
    obtain ⟨l, hl, he⟩ := map_some h
    simp at he; obtain ⟨rfl, rfl, rfl⟩ := he
    simp [*]
  case indexAddr t x i =>
    simp only [opEv, hev x (by simp), hev i (by simp)] at h ⊢
    obtain ⟨l, hl, he⟩ := map_some h
    simp at he; obtain ⟨rfl, rfl, rfl⟩ := he
    simp [hl]
  case index t x i =>
    simp only [opEv, hev x (by simp), hev i (by simp)] at h ⊢
    obtain ⟨l, hl, he⟩ := map_some h
    simp at he; obtain ⟨rfl, rfl, rfl⟩ := he
    simp [hl]
  case extract x i =>
    simp only [opEv, hev x (by simp)] at h ⊢
    split at h <;> (try (simp at h; done))
    obtain ⟨l, hl, he⟩ := map_some h
    simp at he; obtain ⟨rfl, rfl, rfl⟩ := he
    simp [*]

theorem opEv_load {t : TypeId} {x : Operand} (hev : ev st2 x = ev st x) (hw : Within st.hp st2.hp) (h : opEv P id st (.load t x) = some (q, v, hp)) :
    hp = st.hp ∧ ∀ id2, opEv P id2 st2 (.load t x) = some (q, v, st2.hp) := by
  simp only [opEv, hev] at h ⊢
  split at h <;> (try (simp at h; done))
  · split at h <;> (try (simp at h; done))
    rename_i b off hx blk hb
    obtain ⟨l, hl, he⟩ := map_some h
    simp at he; obtain ⟨rfl, rfl, rfl⟩ := he
    simp [hw _ _ hb, hl]
  · split at h <;> (try (simp at h; done))
    split at h <;> (try (simp at h; done))
    rename_i b base stride n z hx _ blk hb _ items hit
    obtain ⟨l, hl, he⟩ := map_some h
    simp at he; obtain ⟨rfl, rfl, rfl⟩ := he
    simp [hw _ _ hb, hit, hl]

theorem opEv_new {op : Op} (hn : isNew op = true) (hev : ∀ x ∈ op.operands, ev st2 x = ev st x) (h : opEv P id st op = some (q, v, hp)) :
    ∃ blk, hp = setAt st.hp id blk ∧ opEv P id st2 op = some (q, v, setAt st2.hp id blk) := by
  cases op <;> (try (simp [isNew] at hn; done)) <;> simp only [Op.operands] at hev
  case alloc t =>
    simp only [opEv] at h ⊢
    obtain ⟨l, hl, he⟩ := map_some h
    simp at he; obtain ⟨rfl, rfl, rfl⟩ := he
    exact ⟨_, rfl, by simp [hl]⟩
  case box t x =>
    simp only [opEv, hev x (by simp)] at h ⊢
    obtain ⟨l, hl, he⟩ := map_some h
    simp at he; obtain ⟨rfl, rfl, rfl⟩ := he
    exact ⟨_, rfl, by simp [hl]⟩

theorem opEv_store {t : TypeId} {x y : Operand} (hx : ev st2 x = ev st x) (hy : ev st2 y = ev st y) (hh : st2.hp = st.hp) (id2 : Nat) :
    opEv P id2 st2 (.store t x y) = opEv P id st (.store t x y) := by
  simp only [opEv, hx, hy, hh]
end


def clOf (G : Gam) (op : Op) : Cl :=
  match op with
  | .load _ _ => .read
  | .alloc _ | .box _ _ => .new
  | .call c => match c.callee with
    | .value (.func f) => (match G.cls f with | .new => .eff | x => x)
    | _ => .eff
  | op => if isPure op then .pure else .eff

/-- may a later operation not be taken ahead of an earlier one? -/
def clash : Cl → Cl → Bool
  | .eff, .pure => false
  | .eff, _ => true
  | .pure, .eff => false
  | _, .eff => true
  | .new, .read => true
  | _, _ => false

theorem Within.refl (hp : Hp) : Within hp hp := fun _ _ h => h

section
variable {P : Program} {G : Gam} {id : Nat} {st st2 : St} {q : Option Prop} {v : LV} {hp : Hp} {o : Oper}

theorem callee_of {c : Call} {f : FuncId} (h : c.callee = .value (.func f)) : calleeEv st c = some f := by
  simp [calleeEv, h, ev]

theorem call_args {c : Call} (hev : ∀ x ∈ c.operands, ev st2 x = ev st x) : c.args.toList.map (ev st2) = c.args.toList.map (ev st) :=
  List.map_congr_left fun x hx => hev x (by simp only [Call.operands, Array.mem_append]; exact .inr (by simpa using hx))

theorem step_pure (hG : GOk P G) (hc : clOf G o.op = .pure) (hev : ∀ x ∈ o.op.operands, ev st2 x = ev st x) (h : stepEv P G id st o = some (q, v, hp)) :
    hp = st.hp ∧ ∀ id2, stepEv P G id2 st2 o = some (q, v, st2.hp) := by
  unfold clOf at hc
  unfold stepEv at h ⊢
  split at hc
  · simp at hc
  · simp at hc
  · simp at hc
  · rename_i c ho
    split at hc
    · rename_i f hf
      rw [ho] at hev
      simp only [ho, callee_of hf, call_args hev] at h ⊢
      have hc' : G.cls f = .pure := by
        revert hc; cases G.cls f <;> simp
      obtain ⟨h1, h2⟩ := hG.pures f hc' _ _ _ _ _ h
      exact ⟨h1, fun _ => h2 _⟩
    · simp at hc
  · rename_i op _ _ _ _
    split at hc
    · rename_i hp1
      have key : opEv P id st o.op = some (q, v, hp) → hp = st.hp ∧ ∀ id2, opEv P id2 st2 o.op = some (q, v, st2.hp) := fun h => opEv_pure hp1 hev h
      split at h
      · rename_i c hop; rw [hop] at hp1; simp [isPure] at hp1
      · obtain ⟨h1, h2⟩ := key h
        exact ⟨h1, h2⟩
    · simp at hc

theorem step_read (hG : GOk P G) (hc : clOf G o.op = .read) (hev : ∀ x ∈ o.op.operands, ev st2 x = ev st x) (hw : Within st.hp st2.hp) (h : stepEv P G id st o = some (q, v, hp)) :
    hp = st.hp ∧ ∀ id2, stepEv P G id2 st2 o = some (q, v, st2.hp) := by
  unfold clOf at hc
  unfold stepEv at h ⊢
  split at hc
  · rename_i t x ho
    simp only [ho] at h ⊢
    rw [ho] at hev
    exact opEv_load (hev x (by simp [Op.operands])) hw h
  · simp at hc
  · simp at hc
  · rename_i c ho
    split at hc
    · rename_i f hf
      rw [ho] at hev
      simp only [ho, callee_of hf, call_args hev] at h ⊢
      have hc' : G.cls f = .read := by
        revert hc; cases G.cls f <;> simp
      obtain ⟨h1, h2⟩ := hG.reads f hc' _ _ _ _ _ h
      exact ⟨h1, fun _ => h2 _ hw⟩
    · simp at hc
  · split at hc <;> simp at hc

theorem cl_new (h : isNew o.op = true) : clOf G o.op = .new := by
  unfold isNew at h; split at h
  · rename_i t ho; simp [clOf, ho]
  · rename_i t x ho; simp [clOf, ho]
  · simp at h

theorem new_of_cl (hc : clOf G o.op = .new) : isNew o.op = true := by
  unfold clOf at hc
  split at hc
  · simp at hc
  · rename_i ho; simp [isNew, ho]
  · rename_i ho; simp [isNew, ho]
  · rename_i c ho
    split at hc
    · rename_i f hf
      revert hc; cases G.cls f <;> simp
    · simp at hc
  · split at hc <;> simp at hc

theorem step_new (hc : clOf G o.op = .new) (hev : ∀ x ∈ o.op.operands, ev st2 x = ev st x) (h : stepEv P G id st o = some (q, v, hp)) :
    ∃ blk, hp = setAt st.hp id blk ∧ stepEv P G id st2 o = some (q, v, setAt st2.hp id blk) := by
  have hn := new_of_cl hc
  unfold stepEv at h ⊢
  split at h
  · rename_i c ho; simp [isNew, ho] at hn
  · exact opEv_new hn hev h

/-- with the same blocks an operation does the same -/
theorem step_same (hG : GOk P G) (hev : ∀ x ∈ o.op.operands, ev st2 x = ev st x) (hh : st2.hp = st.hp) (h : stepEv P G id st o = some (q, v, hp)) :
    stepEv P G id st2 o = some (q, v, hp) := by
  cases hc : clOf G o.op with
  | pure => obtain ⟨h1, h2⟩ := step_pure hG hc hev h; rw [h2 id, h1, hh]
  | read => obtain ⟨h1, h2⟩ := step_read hG hc hev (by rw [hh]; exact Within.refl _) h; rw [h2 id, h1, hh]
  | new => obtain ⟨blk, h1, h2⟩ := step_new hc hev h; rw [h2, h1, hh]
  | eff =>
    unfold stepEv at h ⊢
    split at h
    · rename_i c ho
      rw [ho] at hev
      have e : calleeEv st2 c = calleeEv st c := by
        unfold calleeEv
        split
        · rename_i x hx
          rw [hev x (by simp [Op.operands, Call.operands, hx])]
        · rfl
      simp only [e, call_args hev, hh]
      exact h
    · rename_i op hno
      unfold clOf at hc
      split at hc
      · simp at hc
      · simp at hc
      · simp at hc
      · rename_i c ho; exact absurd ho (hno c)
      · split at hc
        · simp at hc
        · rename_i hnp
          cases ho : o.op <;> rw [ho] at h hev <;> first
            | (simp [opEv] at h; done)
            | (simp [ho, isPure] at hnp; done)
            | (rw [opEv_store (hev _ (by simp [Op.operands])) (hev _ (by simp [Op.operands])) hh]; exact h)
            | (exact absurd ho (hno _))
            | (exact (‹∀ (elem : TypeId), o.op = Op.alloc elem → False› _ ho).elim)
            | (exact (‹∀ (elem : TypeId) (v : Operand), o.op = Op.box elem v → False› _ _ ho).elim)
            | (exact (‹∀ (t : TypeId) (addr : Operand), o.op = Op.load t addr → False› _ _ ho).elim)
end

section
variable {P : Program} {G : Gam} {id : Nat} {st st2 : St} {o : Oper} {q : Option Prop} {v : LV} {hp : Hp} {h : Option Bool}
theorem pickH_ev (hev : ∀ x ∈ o.op.operands, ev st2 x = ev st x) : pickH h st2 o.op = pickH h st o.op := by
  unfold pickH
  split
  · rename_i b c x y ho
    rw [ho] at hev
    rw [hev c (by simp [Op.operands]), hev x (by simp [Op.operands]), hev y (by simp [Op.operands])]
  · rfl
theorem pickH_cl {r : Option Prop × LV} (hp : pickH h st o.op = some r) : clOf G o.op = .pure := by
  unfold pickH at hp
  split at hp
  · rename_i b c x y ho
    simp [ho, clOf, isPure]
  · simp at hp
theorem stepH_none (hn : pickH h st o.op = none) : stepH P G h id st o = stepEv P G id st o := by unfold stepH; rw [hn]
theorem pickH_none (hc : clOf G o.op ≠ .pure) : pickH h st o.op = none := by
  cases hh : pickH h st o.op with
  | none => rfl
  | some r => exact absurd (pickH_cl hh) hc
theorem stepH_pure (hG : GOk P G) (hc : clOf G o.op = .pure) (hev : ∀ x ∈ o.op.operands, ev st2 x = ev st x) (hs : stepH P G h id st o = some (q, v, hp)) :
    hp = st.hp ∧ ∀ id2, stepH P G h id2 st2 o = some (q, v, st2.hp) := by
  unfold stepH at hs ⊢
  rw [pickH_ev hev]
  split at hs
  · simp at hs; obtain ⟨rfl, rfl, rfl⟩ := hs
    exact ⟨rfl, fun _ => rfl⟩
  · exact step_pure hG hc hev hs
theorem stepH_read (hG : GOk P G) (hc : clOf G o.op = .read) (hev : ∀ x ∈ o.op.operands, ev st2 x = ev st x) (hw : Within st.hp st2.hp) (hs : stepH P G h id st o = some (q, v, hp)) :
    hp = st.hp ∧ ∀ id2, stepH P G h id2 st2 o = some (q, v, st2.hp) := by
  rw [stepH_none (pickH_none (by rw [hc]; simp))] at hs
  obtain ⟨h1, h2⟩ := step_read hG hc hev hw hs
  exact ⟨h1, fun id2 => by rw [stepH_none (pickH_none (by rw [hc]; simp))]; exact h2 id2⟩
theorem stepH_new (hc : clOf G o.op = .new) (hev : ∀ x ∈ o.op.operands, ev st2 x = ev st x) (hs : stepH P G h id st o = some (q, v, hp)) :
    ∃ blk, hp = setAt st.hp id blk ∧ stepH P G h id st2 o = some (q, v, setAt st2.hp id blk) := by
  rw [stepH_none (pickH_none (by rw [hc]; simp))] at hs
  obtain ⟨blk, h1, h2⟩ := step_new hc hev hs
  exact ⟨blk, h1, by rw [stepH_none (pickH_none (by rw [hc]; simp))]; exact h2⟩
theorem stepH_same (hG : GOk P G) (hev : ∀ x ∈ o.op.operands, ev st2 x = ev st x) (hh : st2.hp = st.hp) (hs : stepH P G h id st o = some (q, v, hp)) :
    stepH P G h id st2 o = some (q, v, hp) := by
  unfold stepH at hs ⊢
  rw [pickH_ev hev]
  split at hs
  · simp at hs; obtain ⟨rfl, rfl, rfl⟩ := hs
    rw [hh]
  · exact step_same hG hev hh hs
end

theorem setAt_comm : ∀ (hp : Hp) (i j : Nat) (a b : Blk), i ≠ j → setAt (setAt hp i a) j b = setAt (setAt hp j b) i a
  | [], 0, 0, _, _, h => absurd rfl h
  | [], 0, j + 1, a, b, _ => by simp [setAt]
  | [], i + 1, 0, a, b, _ => by simp [setAt]
  | [], i + 1, j + 1, a, b, h => by simp only [setAt]; rw [setAt_comm [] i j a b (by omega)]
  | _ :: _, 0, 0, _, _, h => absurd rfl h
  | _ :: _, 0, j + 1, _, _, _ => by simp [setAt]
  | _ :: _, i + 1, 0, _, _, _ => by simp [setAt]
  | _ :: l, i + 1, j + 1, a, b, h => by simp only [setAt]; rw [setAt_comm l i j a b (by omega)]

theorem within_setAt {hp : Hp} {id : Nat} (h : ¬ Live hp id) (b : Blk) : Within hp (setAt hp id b) := fun i blk hb =>
  (setAt_other hp id b i blk (fun e => h ⟨blk, e ▸ hb⟩)).2 hb

/-! ### One operation of a region, in the state that there is -/
def StepD (P : Program) (G : Gam) (ops : Array Oper) (ids : Nat → Nat) (i : Nat) (st st' : St) : Prop :=
  ∃ o b, ops[i]? = some o ∧ wantedEv st ops o = some b ∧
    ((b.val = true ∧ ∃ q v hp h, stepH P G h (ids i) st o = some (q, v, hp) ∧ needs q ∧ (isNew o.op = true → ¬ Live st.hp (ids i)) ∧ st' = put st o.dst v hp) ∨
     (b.val = false ∧ st' = put st o.dst (.tup []) st.hp))

theorem ev_put {st : St} {dst : Option Tmp} {v : LV} {hp : Hp} {x : Operand} (h : ∀ d, dst = some d → x ≠ .tmp d) : ev (put st dst v hp) x = ev st x := by
  cases dst with
  | none => cases x <;> rfl
  | some d =>
    cases x with
    | tmp t =>
      have hne : t ≠ d := fun e => h d rfl (e ▸ rfl)
      simp only [ev, put, List.getD_eq_getElem?_getD]
      rw [List.getElem?_set_ne (Ne.symm hne)]
    | _ => rfl

theorem put_comm (st : St) {x y : Option Tmp} (v u : LV) (h1 h2 h : Hp) (hne : ∀ d, x = some d → y ≠ some d) : put (put st x v h1) y u h = put (put st y u h2) x v h := by
  cases x with
  | none => cases y <;> rfl
  | some d =>
    cases y with
    | none => rfl
    | some e =>
      have : d ≠ e := fun he => hne d rfl (he ▸ rfl)
      simp only [put]
      rw [List.set_comm _ _ this]

theorem mem_looks {ops : Array Oper} {o : Oper} {t : Tmp} (h : Operand.tmp t ∈ o.op.operands) : t ∈ o.looksAt ops := by
  unfold Oper.looksAt
  rw [List.mem_append]
  refine .inl (List.mem_filterMap.2 ⟨.tmp t, by simpa using h, rfl⟩)

theorem ev_apart {ops : Array Oper} {o : Oper} {dst : Option Tmp} (h : ∀ d, dst = some d → d ∉ o.looksAt ops) {st : St} {v : LV} {hp : Hp} : ∀ x ∈ o.op.operands, ev (put st dst v hp) x = ev st x :=
  fun _x hx => ev_put fun d hd e => h d hd (mem_looks (e ▸ hx))

theorem wanted_apart {ops : Array Oper} {o : Oper} {dst : Option Tmp} (h : ∀ d, dst = some d → d ∉ o.looksAt ops) {st : St} {v : LV} {hp : Hp} :
    wantedEv (put st dst v hp) ops o = wantedEv st ops o := by
  unfold wantedEv
  cases hg : o.guard with
  | none => rfl
  | some p =>
    obtain ⟨j, want⟩ := p
    cases ht : (ops[j]?).bind (·.dst) with
    | none => simp [ht]
    | some t =>
      have : (put st dst v hp).fr[t]? = st.fr[t]? := by
        cases dst with
        | none => rfl
        | some d =>
          have hne : d ≠ t := fun e => h d rfl (by subst e; simp [Oper.looksAt, hg, ht])
          simp only [put]
          rw [List.getElem?_set_ne hne]
      simp only [ht, this]

/-! ### Blocks that are told apart -/
/-- the block that an operation reads or writes, where a slot tells it -/
def farOf (F : Tmp → Option Nat) : Op → Option Nat
  | .load _ (.tmp s) => F s
  | .store _ (.tmp s) _ => F s
  | _ => none
def farB (F : Tmp → Option Nat) (x y : Op) : Bool :=
  match farOf F x, farOf F y with
  | some b, some c => b != c
  | _, _ => false
def FOk (F : Tmp → Option Nat) (st : St) : Prop := ∀ s b, F s = some b → ∃ o, ev st (.tmp s) = .one (.sc (.ptr b o))
def farF (ops : Array Oper) (st : St) (s : Tmp) : Option Nat :=
  if ops.any (fun o => o.dst == some s) = true then none else match ev st (.tmp s) with
    | .one (.sc (.ptr b _)) => some b
    | _ => none
theorem farF_first (ops : Array Oper) (st : St) : FOk (farF ops st) st := by
  intro s b h
  unfold farF at h
  split at h
  · simp at h
  · split at h
    · rename_i b' o he
      simp at h; subst h
      exact ⟨o, he⟩
    · simp at h
theorem farF_put {ops : Array Oper} {st0 st : St} (h : FOk (farF ops st0) st) {i : Nat} {o : Oper} (ho : ops[i]? = some o) {v : LV} {hp : Hp} : FOk (farF ops st0) (put st o.dst v hp) := by
  intro s b hs
  obtain ⟨off, he⟩ := h s b hs
  refine ⟨off, ?_⟩
  rw [ev_put (fun d hd e => ?_), he]
  unfold farF at hs
  split at hs
  · simp at hs
  · rename_i hno
    refine hno (Array.any_eq_true.2 ?_)
    obtain ⟨hi, hoi⟩ := Array.getElem?_eq_some_iff.1 ho
    refine ⟨i, hi, ?_⟩
    simp at e
    rw [hoi, hd, e]; simp

def app (b : Nat) (u : Option Blk) (hp : Hp) : Hp :=
  match u with
  | none => hp
  | some blk => hp.set b (some blk)
theorem app_get {b c : Nat} (h : b ≠ c) (u : Option Blk) (hp : Hp) : (app b u hp)[c]? = hp[c]? := by
  cases u with
  | none => rfl
  | some blk => exact List.getElem?_set_ne h
theorem app_comm {b c : Nat} (h : b ≠ c) (u v : Option Blk) (hp : Hp) : app b u (app c v hp) = app c v (app b u hp) := by
  cases u with
  | none => rfl
  | some x => cases v with
    | none => rfl
    | some y => exact List.set_comm _ _ (Ne.symm h)

theorem far_step {P : Program} {G : Gam} {F : Tmp → Option Nat} {st : St} (hF : FOk F st) {o : Oper} {b : Nat} (hb : farOf F o.op = some b) {h : Option Bool} {id : Nat} {q : Option Prop} {v : LV} {hp : Hp}
    (hs : stepH P G h id st o = some (q, v, hp)) : ∃ u, hp = app b u st.hp ∧ ∀ (st2 : St) (id2 : Nat), (∀ x ∈ o.op.operands, ev st2 x = ev st x) → st2.hp[b]? = st.hp[b]? → stepH P G h id2 st2 o = some (q, v, app b u st2.hp) := by
  unfold farOf at hb
  split at hb
  · rename_i t s ho
    obtain ⟨off, he⟩ := hF s b hb
    have hn : ∀ st, pickH h st o.op = none := fun st => by rw [ho]; cases h <;> rfl
    rw [stepH_none (hn st)] at hs
    simp only [stepEv, ho, opEv, he] at hs
    split at hs
    · rename_i blk hblk
      obtain ⟨y, hy, e⟩ := map_some hs
      simp at e; obtain ⟨rfl, rfl, rfl⟩ := e
      refine ⟨none, rfl, fun st2 id2 hev hg => ?_⟩
      rw [stepH_none (hn st2)]
      have he2 : ev st2 (.tmp s) = .one (.sc (.ptr b off)) := by rw [hev _ (by simp [ho, Op.operands]), he]
      simp only [stepEv, ho, opEv, he2, hg, hblk, hy]
      rfl
    · simp at hs
  · rename_i t s x ho
    obtain ⟨off, he⟩ := hF s b hb
    have hn : ∀ st, pickH h st o.op = none := fun st => by rw [ho]; cases h <;> rfl
    rw [stepH_none (hn st)] at hs
    simp only [stepEv, ho, opEv, he] at hs
    split at hs
    · rename_i b' off' l hl1 hl
      simp at hl1; obtain ⟨rfl, rfl⟩ := hl1
      split at hs
      · rename_i blk hblk
        split at hs
        · rename_i hc
          simp at hs; obtain ⟨rfl, rfl, rfl⟩ := hs
          refine ⟨some _, rfl, fun st2 id2 hev hg => ?_⟩
          rw [stepH_none (hn st2)]
          have he2 : ev st2 (.tmp s) = .one (.sc (.ptr b off)) := by rw [hev _ (by simp [ho, Op.operands]), he]
          have hx2 : ev st2 x = ev st x := hev _ (by simp [ho, Op.operands])
          simp only [stepEv, ho, opEv, he2, hx2, hg, hblk, hl]
          rw [if_pos hc]; rfl
        · simp at hs
      · simp at hs
    · simp at hs
  · simp at hb

theorem far_new {F : Tmp → Option Nat} {op : Op} {b : Nat} (h : farOf F op = some b) : isNew op = false := by
  unfold farOf at h; split at h <;> first | rfl | simp at h

section
variable {P : Program} {G : Gam} {ops : Array Oper} {ids : Nat → Nat}

/-- two operations that have nothing to do with each other -/
theorem step_comm {F : Tmp → Option Nat} (hFp : ∀ {i : Nat} {o : Oper} {st : St} {v : LV} {hp : Hp}, ops[i]? = some o → FOk F st → FOk F (put st o.dst v hp)) (hG : GOk P G) {i j : Nat} {oi oj : Oper} (hoi : ops[i]? = some oi) (hoj : ops[j]? = some oj) (hap : oj.apart ops oi = true)
    (hcl0 : clash (clOf G oj.op) (clOf G oi.op) = false ∨ farB F oj.op oi.op = true) (hids : isNew oj.op = true → isNew oi.op = true → ids j ≠ ids i)
    {st s1 s2 : St} (hF : FOk F st) (h1 : StepD P G ops ids j st s1) (h2 : StepD P G ops ids i s1 s2) : ∃ s1', StepD P G ops ids i st s1' ∧ StepD P G ops ids j s1' s2 := by
  obtain ⟨a1, a2, a3⟩ := Oper.apart_spec hap
  obtain ⟨o, bj, ho, hwj, h1⟩ := h1
  rw [hoj] at ho; simp at ho; subst ho
  obtain ⟨o, bi, ho, hwi, h2⟩ := h2
  rw [hoi] at ho; simp at ho; subst ho
  rcases h1 with ⟨hbj, qj, vj, hpj, gj, ej, nj, fj, rfl⟩ | ⟨hbj, rfl⟩
  · rw [wanted_apart a1] at hwi
    have evi : ∀ x ∈ oi.op.operands, ev st x = ev (put st oj.dst vj hpj) x := fun x hx => (ev_apart a1 x hx).symm
    have hph : (put st oj.dst vj hpj).hp = hpj := by cases oj.dst <;> rfl
    rcases h2 with ⟨hbi, qi, vi, hpi, gi, ei, ni, fi, rfl⟩ | ⟨hbi, rfl⟩
    · -- both are carried out
      have key : ∃ hpi', stepH P G gi (ids i) st oi = some (qi, vi, hpi') ∧ (isNew oi.op = true → ¬ Live st.hp (ids i)) ∧
          stepH P G gj (ids j) (put st oi.dst vi hpi') oj = some (qj, vj, hpi) ∧ (isNew oj.op = true → ¬ Live hpi' (ids j)) := by
        have evj : ∀ (hp : Hp), ∀ x ∈ oj.op.operands, ev (put st oi.dst vi hp) x = ev st x := fun hp => ev_apart a3
        have hput : ∀ hp : Hp, (put st oi.dst vi hp).hp = hp := fun hp => by cases oi.dst <;> rfl
        rcases hcl0 with hcl | hfar
        rotate_left
        · unfold farB at hfar
          split at hfar
          · rename_i b c hb hc
            have hbc : b ≠ c := by simpa using hfar
            have hF1 : FOk F (put st oj.dst vj hpj) := hFp hoj hF
            obtain ⟨u, e1, e2⟩ := far_step hF hb ej
            obtain ⟨u', e3, e4⟩ := far_step hF1 hc ei
            have hgc : st.hp[c]? = (put st oj.dst vj hpj).hp[c]? := by rw [hph, e1, app_get hbc]
            have n1 : isNew oi.op = true → ¬ Live st.hp (ids i) := fun hn => absurd hn (by rw [far_new hc]; simp)
            have n2 : isNew oj.op = true → ¬ Live (app c u' st.hp) (ids j) := fun hn => absurd hn (by rw [far_new hb]; simp)
            refine ⟨app c u' st.hp, e4 st (ids i) evi hgc, n1, ?_, n2⟩
            rw [e2 _ _ (evj _) (by rw [hput, app_get (Ne.symm hbc)]), hput, e3, hph, e1, app_comm hbc]
          · cases hfar
        cases hcj : clOf G oj.op with
        | pure =>
          obtain ⟨e1, e2⟩ := stepH_pure hG hcj (evj hpi) ej
          have e3 := stepH_same hG evi (by rw [hph, e1]) ei
          refine ⟨hpi, e3, fun hn => by have := fi hn; rwa [hph, e1] at this, by rw [e2, hput], fun hn => ?_⟩
          rw [cl_new hn] at hcj; cases hcj
        | read =>
          rw [hcj] at hcl
          obtain ⟨e1, -⟩ := stepH_read hG hcj (fun _ _ => rfl) (Within.refl _) ej
          have e3 := stepH_same hG evi (by rw [hph, e1]) ei
          have hfi : isNew oi.op = true → ¬ Live st.hp (ids i) := fun hn => by have := fi hn; rwa [hph, e1] at this
          have hw : Within st.hp hpi := by
            cases hci : clOf G oi.op with
            | pure => obtain ⟨e4, -⟩ := stepH_pure hG hci (fun _ _ => rfl) e3; rw [e4]; exact Within.refl _
            | read => obtain ⟨e4, -⟩ := stepH_read hG hci (fun _ _ => rfl) (Within.refl _) e3; rw [e4]; exact Within.refl _
            | new => obtain ⟨blk, e4, -⟩ := stepH_new hci (fun _ _ => rfl) e3; rw [e4]; exact within_setAt (hfi (new_of_cl hci)) _
            | eff => rw [hci] at hcl; cases hcl
          obtain ⟨-, e2⟩ := stepH_read hG hcj (evj hpi) (by rw [hput]; exact hw) ej
          refine ⟨hpi, e3, hfi, by rw [e2, hput], fun hn => ?_⟩
          rw [cl_new hn] at hcj; cases hcj
        | new =>
          rw [hcj] at hcl
          obtain ⟨bj', e1, -⟩ := stepH_new hcj (fun _ _ => rfl) ej
          have hnj := new_of_cl hcj
          cases hci : clOf G oi.op with
          | pure =>
            obtain ⟨e4, e5⟩ := stepH_pure hG hci evi ei
            obtain ⟨b', e6, e7⟩ := stepH_new hcj (evj st.hp) ej
            refine ⟨st.hp, e5 _, fun hn => by (rw [cl_new hn] at hci; cases hci), ?_, fun _ => fj hnj⟩
            rw [e7, hput, e4, hph, e6]
          | read => rw [hci] at hcl; cases hcl
          | new =>
            have hni := new_of_cl hci
            obtain ⟨bi', e4, e5⟩ := stepH_new hci evi ei
            obtain ⟨b', e6, e7⟩ := stepH_new hcj (evj (setAt st.hp (ids i) bi')) ej
            have hne := hids hnj hni
            refine ⟨setAt st.hp (ids i) bi', e5, fun hn hl => fi hn (by rw [hph, e6]; exact (live_setAt _ _ _ _).2 (.inr hl)), ?_, fun _ hl => ?_⟩
            · rw [e7, hput, e4, hph, e6, setAt_comm _ _ _ _ _ hne]
            · rw [live_setAt] at hl; exact fj hnj (hl.resolve_left hne)
          | eff => rw [hci] at hcl; cases hcl
        | eff =>
          rw [hcj] at hcl
          cases hci : clOf G oi.op with
          | pure =>
            obtain ⟨e4, e5⟩ := stepH_pure hG hci evi ei
            refine ⟨st.hp, e5 _, fun hn => by (rw [cl_new hn] at hci; cases hci), ?_, fun hn => by (rw [cl_new hn] at hcj; cases hcj)⟩
            rw [stepH_same hG (evj st.hp) (hput _) ej, e4, hph]
          | read => rw [hci] at hcl; cases hcl
          | new => rw [hci] at hcl; cases hcl
          | eff => rw [hci] at hcl; cases hcl
      obtain ⟨hpi', k1, k2, k3, k4⟩ := key
      have hput : (put st oi.dst vi hpi').hp = hpi' := by cases oi.dst <;> rfl
      exact ⟨_, ⟨oi, bi, hoi, hwi, .inl ⟨hbi, qi, vi, hpi', gi, k1, ni, k2, rfl⟩⟩,
        ⟨oj, bj, hoj, by rw [wanted_apart a3]; exact hwj, .inl ⟨hbj, qj, vj, hpi, gj, k3, nj, by rw [hput]; exact k4, put_comm st vj vi _ _ _ a2⟩⟩⟩
    · refine ⟨put st oi.dst (.tup []) st.hp, ⟨oi, bi, hoi, hwi, .inr ⟨hbi, rfl⟩⟩, ⟨oj, bj, hoj, by rw [wanted_apart a3]; exact hwj, .inl ⟨hbj, qj, vj, hpj, gj, ?_, nj, ?_, ?_⟩⟩⟩
      · exact stepH_same hG (ev_apart a3) (by cases oi.dst <;> rfl) ej
      · intro hn; have := fj hn; cases oi.dst <;> exact this
      · rw [hph]; exact put_comm st vj _ _ _ _ a2
  · rw [wanted_apart a1] at hwi
    have evi : ∀ x ∈ oi.op.operands, ev st x = ev (put st oj.dst (.tup []) st.hp) x := fun x hx => (ev_apart a1 x hx).symm
    have hph : (put st oj.dst (.tup []) st.hp).hp = st.hp := by cases oj.dst <;> rfl
    rcases h2 with ⟨hbi, qi, vi, hpi, gi, ei, ni, fi, rfl⟩ | ⟨hbi, rfl⟩
    · have hput : (put st oi.dst vi hpi).hp = hpi := by cases oi.dst <;> rfl
      refine ⟨put st oi.dst vi hpi, ⟨oi, bi, hoi, hwi, .inl ⟨hbi, qi, vi, hpi, gi, stepH_same hG evi hph.symm ei, ni, fun hn => by (have := fi hn; rwa [hph] at this), rfl⟩⟩,
        ⟨oj, bj, hoj, by rw [wanted_apart a3]; exact hwj, .inr ⟨hbj, ?_⟩⟩⟩
      rw [hput]; exact put_comm st _ vi _ _ _ a2
    · have hput : (put st oi.dst (.tup []) st.hp).hp = st.hp := by cases oi.dst <;> rfl
      refine ⟨put st oi.dst (.tup []) st.hp, ⟨oi, bi, hoi, hwi, .inr ⟨hbi, rfl⟩⟩, ⟨oj, bj, hoj, by rw [wanted_apart a3]; exact hwj, .inr ⟨hbj, ?_⟩⟩⟩
      rw [hput, hph]; exact put_comm st _ _ _ _ _ a2
end


/-! ### All orders -/
inductive ExecD (P : Program) (G : Gam) (ops : Array Oper) (ids : Nat → Nat) : List Nat → St → St → Prop where
  | nil {st} : ExecD P G ops ids [] st st
  | cons {i l st s s'} (h : StepD P G ops ids i st s) (t : ExecD P G ops ids l s s') : ExecD P G ops ids (i :: l) st s'

/-- which operations an operation waits for, itself or through others: a number's bits -/
def waitsFor (acc : List Nat) (o : Oper) : Nat :=
  o.after.toList.foldr (fun e s => if Region.binds .any e then s ||| 2 ^ e.on ||| acc.getD e.on 0 else s) 0
def masks : List Oper → List Nat → List Nat
  | [], acc => acc
  | o :: l, acc => masks l (acc ++ [waitsFor acc o])

def pairOk (G : Gam) (ops : Array Oper) (F : Tmp → Option Nat) (oj oi : Oper) : Bool := oj.apart ops oi && (!clash (clOf G oj.op) (clOf G oi.op) || farB F oj.op oi.op)

def pairsOk (G : Gam) (ops : Array Oper) (F : Tmp → Option Nat) (oi : Oper) (mask : Nat) : List Oper → Nat → Bool
  | [], _ => true
  | oj :: l, j => (Nat.testBit mask j || pairOk G ops F oj oi) && pairsOk G ops F oi mask l (j + 1)

/-- each operation hangs on earlier ones alone, and on each earlier one with which it has to do -/
def drawOk (G : Gam) (ops : Array Oper) (F : Tmp → Option Nat) : List Oper → List Oper → List Nat → Bool
  | [], _, _ => true
  | o :: l, before, acc =>
    (o.after.all fun e => !Region.binds .any e || decide (e.on < before.length)) && (!isNew o.op || o.guard.isNone) && pairsOk G ops F o (waitsFor acc o) before 0 &&
      drawOk G ops F l (before ++ [o]) (acc ++ [waitsFor acc o])

theorem testBit_waits {acc : List Nat} {o : Oper} {j : Nat} (h : Nat.testBit (waitsFor acc o) j = true) :
    ∃ e ∈ o.after, Region.binds .any e = true ∧ (e.on = j ∨ Nat.testBit (acc.getD e.on 0) j = true) := by
  unfold waitsFor at h
  have key : ∀ l : List Edge, Nat.testBit (l.foldr (fun e s => if Region.binds .any e then s ||| 2 ^ e.on ||| acc.getD e.on 0 else s) 0) j = true →
      ∃ e ∈ l, Region.binds .any e = true ∧ (e.on = j ∨ Nat.testBit (acc.getD e.on 0) j = true) := by
    intro l
    induction l with
    | nil => intro h; simp at h
    | cons e l ih =>
      intro h
      simp only [List.foldr_cons] at h
      split at h
      · rename_i hb
        simp only [Nat.testBit_or, Bool.or_eq_true, Nat.testBit_two_pow, decide_eq_true_eq] at h
        rcases h with (h | h) | h
        · obtain ⟨e', h1, h2⟩ := ih h; exact ⟨e', by simp [h1], h2⟩
        · exact ⟨e, by simp, hb, .inl h⟩
        · exact ⟨e, by simp, hb, .inr h⟩
      · obtain ⟨e', h1, h2⟩ := ih h; exact ⟨e', by simp [h1], h2⟩
  obtain ⟨e, h1, h2⟩ := key _ h
  exact ⟨e, by simpa using h1, h2⟩

/-- what 'drawOk' gives of the operation at a place -/
structure OpAt (G : Gam) (ops : Array Oper) (F : Tmp → Option Nat) (M : Nat → Nat) (i : Nat) (o : Oper) : Prop where
  early : ∀ e ∈ o.after, Region.binds .any e = true → e.on < i
  plain : isNew o.op = true → o.guard = none
  pairs : ∀ j oj, j < i → ops[j]? = some oj → Nat.testBit (M i) j = true ∨ pairOk G ops F oj o = true
  waits : ∀ j, Nat.testBit (M i) j = true → ∃ e ∈ o.after, Region.binds .any e = true ∧ (e.on = j ∨ Nat.testBit (M e.on) j = true)

theorem pairsOk_spec {G : Gam} {ops : Array Oper} {F : Tmp → Option Nat} {oi : Oper} {mask : Nat} : ∀ (l : List Oper) (k : Nat), pairsOk G ops F oi mask l k = true → ∀ j oj, l[j]? = some oj → Nat.testBit mask (k + j) = true ∨ pairOk G ops F oj oi = true
  | [], _, _, j, oj, hj => by simp at hj
  | o :: l, k, h, j, oj, hj => by
    simp only [pairsOk, Bool.and_eq_true, Bool.or_eq_true] at h
    cases j with
    | zero => simp at hj; subst hj; simpa using h.1
    | succ j =>
      have := pairsOk_spec l (k + 1) h.2 j oj (by simpa using hj)
      rwa [show k + 1 + j = k + (j + 1) by omega] at this

theorem drawOk_spec {G : Gam} {ops : Array Oper} {F : Tmp → Option Nat} : ∀ (l before : List Oper) (acc : List Nat), before ++ l = ops.toList → acc.length = before.length → drawOk G ops F l before acc = true →
    (∀ M : Nat → Nat, (∀ i, M i = (masks l acc).getD i 0) → ∀ i o, before.length ≤ i → ops[i]? = some o → OpAt G ops F M i o) ∧ (masks l acc).length = ops.size ∧ ∀ i, i < acc.length → (masks l acc).getD i 0 = acc.getD i 0
  | [], before, acc, hb, ha, _ => by
    have hs : before.length = ops.size := by
      have := congrArg List.length hb; simpa using this
    refine ⟨fun M hM i o hi ho => ?_, ?_, fun _ _ => rfl⟩
    · have := (Array.getElem?_eq_some_iff.1 ho).1; omega
    · show acc.length = ops.size; omega
  | o :: l, before, acc, hb, ha, h => by
    simp only [drawOk, Bool.and_eq_true] at h
    obtain ⟨⟨⟨h1, h2⟩, h3⟩, h4⟩ := h
    obtain ⟨i1, i2, i3⟩ := drawOk_spec l (before ++ [o]) (acc ++ [waitsFor acc o]) (by simpa using hb) (by simp [ha]) h4
    have hmk : masks (o :: l) acc = masks l (acc ++ [waitsFor acc o]) := rfl
    have hlow : ∀ i, i < acc.length → (masks (o :: l) acc).getD i 0 = acc.getD i 0 := fun i hi => by
      rw [hmk, i3 i (by simp; omega)]
      simp only [List.getD_eq_getElem?_getD]
      rw [List.getElem?_append_left hi]
    refine ⟨fun M hM i oi hi ho => ?_, i2, hlow⟩
    by_cases hie : i = before.length
    · subst hie
      have hoo : oi = o := by
        have e : ops.toList[before.length]? = some oi := by simpa using ho
        rw [← hb] at e
        simp at e; exact e.symm
      subst hoo
      have hMi : M before.length = waitsFor acc oi := by
        rw [hM, hmk, i3 _ (by simp [ha])]
        simp only [List.getD_eq_getElem?_getD]
        rw [← ha]; simp
      have hearly : ∀ e ∈ oi.after, Region.binds .any e = true → e.on < before.length := by
        intro e he hbind
        have := Array.all_eq_true'.1 h1 e he
        simpa [hbind] using this
      refine ⟨hearly, fun hn => ?_, fun j oj hj hoj => ?_, fun j hj => ?_⟩
      · simpa [hn] using h2
      · have hoj' : before[j]? = some oj := by
          have e : ops.toList[j]? = some oj := by simpa using hoj
          rw [← hb, List.getElem?_append_left hj] at e
          exact e
        have := pairsOk_spec before 0 h3 j oj hoj'
        rw [hMi]
        simpa using this
      · rw [hMi] at hj
        obtain ⟨e, he, hbind, hor⟩ := testBit_waits hj
        refine ⟨e, he, hbind, hor.imp id fun ht => ?_⟩
        rw [hM, hlow _ (by rw [ha]; exact hearly e he hbind)]
        exact ht
    · exact i1 M (fun i => hM i) i oi (by simp; omega) ho

section
variable {P : Program} {G : Gam} {ops : Array Oper} {ids : Nat → Nat} {M : Nat → Nat}

theorem stepD_far {st0 st s : St} {i : Nat} (hF : FOk (farF ops st0) st) (h : StepD P G ops ids i st s) : FOk (farF ops st0) s := by
  obtain ⟨o, b, ho, _, h⟩ := h
  rcases h with ⟨_, q, v, hp, _, _, _, _, rfl⟩ | ⟨_, rfl⟩
  · exact farF_put hF ho
  · exact farF_put hF ho

/-- an operation that need not wait is taken first -/
theorem exec_first {st0 : St} (hG : GOk P G) (hM : ∀ i o, ops[i]? = some o → OpAt G ops (farF ops st0) M i o) (hids : ∀ j i oj oi, ops[j]? = some oj → ops[i]? = some oi → j < i → isNew oj.op = true → isNew oi.op = true → ids j ≠ ids i)
    {i : Nat} {oi : Oper} (hoi : ops[i]? = some oi) : ∀ (l1 l2 : List Nat) (st sf : St), FOk (farF ops st0) st → (∀ j ∈ l1, j < i ∧ Nat.testBit (M i) j = false) → ExecD P G ops ids (l1 ++ i :: l2) st sf →
      ∃ s, StepD P G ops ids i st s ∧ ExecD P G ops ids (l1 ++ l2) s sf
  | [], l2, st, sf, _, _, h => by
    cases h with
    | cons h t => exact ⟨_, h, t⟩
  | j :: l1, l2, st, sf, hF, hl, h => by
    cases h with
    | cons h t =>
      rename_i s
      obtain ⟨s1, h1, h2⟩ := exec_first hG hM hids hoi l1 l2 s sf (stepD_far hF h) (fun k hk => hl k (by simp [hk])) t
      obtain ⟨hji, hbit⟩ := hl j (by simp)
      have hoj' := h
      obtain ⟨oj, _, hoj, _⟩ := hoj'
      have hp := ((hM i oi hoi).pairs j oj hji hoj).resolve_left (by rw [hbit]; simp)
      simp only [pairOk, Bool.and_eq_true, Bool.or_eq_true, Bool.not_eq_true'] at hp
      obtain ⟨s1', k1, k2⟩ := step_comm (fun ho hf => farF_put hf ho) hG hoi hoj hp.1 hp.2 (hids j i oj oi hoj hoi hji) hF h h1
      exact ⟨s1', k1, .cons k2 h2⟩

theorem stepD_wp (hG : GOk P G) {i : Nat} {st s : St} (h : StepD P G ops ids i st s) {W : World} {m : Nat → Prop} {β₀ β : Nat → Nat} {a : Act} {w : World} (hr : Rel W m β₀ β st a w)
    {K : Act → World → Prop} {Q : Exit → Act → World → Prop} (hK : ∀ β' a' w', Rel W m β₀ β' s a' w' → K a' w') : wpOp P ops Q i K a w := by
  obtain ⟨o, b, ho, hw, h⟩ := h
  unfold wpOp
  simp only [ho, wantedEv_ok hr hw]
  rcases h with ⟨hb, q, v, hp, _, e, hq, hf, rfl⟩ | ⟨hb, rfl⟩
  · rw [if_pos hb]
    exact .inl (stepH_ok hG e hq hf hr hK)
  · rw [if_neg (by rw [hb]; simp)]
    exact hK β _ w (hr.put (dst := o.dst) ⟨[], rfl, .nil⟩ hr.heap (Agree.refl _ _))

/-- the places that have not come up, in the text's order -/
def unlisted (ops : Array Oper) (listed : Array Bool) : List Nat := (List.range ops.size).filter fun i => !listed.getD i true

theorem wpAny_of_exec {st0 : St} (hG : GOk P G) (hM : ∀ i o, ops[i]? = some o → OpAt G ops (farF ops st0) M i o) (hids : ∀ j i oj oi, ops[j]? = some oj → ops[i]? = some oi → j < i → isNew oj.op = true → isNew oi.op = true → ids j ≠ ids i)
    {W : World} {m : Nat → Prop} {β₀ : Nat → Nat} {Q : Exit → Act → World → Prop} {sf : St} (hQ : ∀ β a w, Rel W m β₀ β sf a w → Q .normal a w) :
    ∀ (fuel : Nat) (listed : Array Bool) (st : St) (β : Nat → Nat) (a : Act) (w : World), listed.size = ops.size → (unlisted ops listed).length = fuel →
      (∀ j oj, ops[j]? = some oj → listed.getD j false = true → ∀ e ∈ oj.after, Region.binds .any e = true → listed.getD e.on false = true) →
      ExecD P G ops ids (unlisted ops listed) st sf → FOk (farF ops st0) st → Rel W m β₀ β st a w → wpAny P .any ops Q fuel listed a w := by
  intro fuel
  induction fuel with
  | zero =>
    intro listed st β a w hsz hlen hclosed hex hF hr
    have h0 : unlisted ops listed = [] := List.eq_nil_of_length_eq_zero hlen
    rw [h0] at hex
    cases hex
    refine ⟨?_, hQ β a w hr⟩
    refine List.eq_nil_iff_forall_not_mem.2 fun i hi => ?_
    have : i ∈ unlisted ops listed := by
      simp only [Region.ready, List.mem_filter, Bool.and_eq_true] at hi
      simp only [unlisted, List.mem_filter]
      exact ⟨hi.1, hi.2.1⟩
    rw [h0] at this; cases this
  | succ fuel ih =>
    intro listed st β a w hsz hlen hclosed hex hF hr
    constructor
    · intro hnone
      exfalso
      -- the first one that has not come up is ready
      cases hu : unlisted ops listed with
      | nil => rw [hu] at hlen; simp at hlen
      | cons i l =>
        have hmem : i ∈ unlisted ops listed := by rw [hu]; simp
        have hi : i < ops.size ∧ (!listed.getD i true) = true := by
          simpa [unlisted] using hmem
        have hfirst : ∀ j, j < i → listed.getD j true = true := by
          intro j hj
          refine Classical.byContradiction fun hno => ?_
          have hjm : j ∈ unlisted ops listed := by
            simp only [unlisted, List.mem_filter, List.mem_range]
            exact ⟨by omega, by simpa using hno⟩
          have hpw : (unlisted ops listed).Pairwise (· < ·) := (List.pairwise_lt_range (n := ops.size)).filter _
          rw [hu] at hpw hjm
          rcases List.mem_cons.1 hjm with rfl | hjm
          · omega
          · have := List.rel_of_pairwise_cons hpw hjm; omega
        have hr' : i ∈ Region.ready .any ops listed := by
          rw [mem_ready]
          obtain ⟨oi, hoi⟩ : ∃ oi, ops[i]? = some oi := ⟨ops[i]'hi.1, by simp [hi.1]⟩
          refine ⟨by simpa using hi.2, oi, hoi, fun e he hb => ?_⟩
          have hlt := (hM i oi hoi).early e he hb
          have h1 := hfirst e.on hlt
          have : e.on < listed.size := by omega
          simp [this] at h1 ⊢
          exact h1
        rw [hnone] at hr'; cases hr'
    · intro i hi
      obtain ⟨hun, oi, hoi, hall⟩ := mem_ready.1 hi
      have hilt : i < ops.size := (Array.getElem?_eq_some_iff.1 hoi).1
      have himem : i ∈ unlisted ops listed := by
        simp only [unlisted, List.mem_filter, List.mem_range]
        exact ⟨hilt, by simpa using hun⟩
      obtain ⟨l1, l2, hl⟩ := List.append_of_mem himem
      have hpw : (unlisted ops listed).Pairwise (· < ·) := (List.pairwise_lt_range (n := ops.size)).filter _
      rw [hl] at hpw hex
      obtain ⟨p1, p2, p3⟩ := List.pairwise_append.1 hpw
      have hbits : ∀ j, listed.getD j false = false → ∀ i oi, ops[i]? = some oi → (∀ e ∈ oi.after, Region.binds .any e = true → listed.getD e.on false = true) → Nat.testBit (M i) j = false := by
        intro j hj i
        induction i using Nat.strongRecOn with
        | _ i ih2 =>
          intro oi hoi hall
          refine Bool.eq_false_iff.2 fun ht => ?_
          obtain ⟨e, he, hb, hor⟩ := (hM i oi hoi).waits j ht
          have hle := hall e he hb
          rcases hor with rfl | ht'
          · rw [hj] at hle; cases hle
          · have hlt := (hM i oi hoi).early e he hb
            obtain ⟨oe, hoe⟩ : ∃ oe, ops[e.on]? = some oe := ⟨ops[e.on]'(by have := (Array.getElem?_eq_some_iff.1 hoi).1; omega), by
              have := (Array.getElem?_eq_some_iff.1 hoi).1
              simp [show e.on < ops.size by omega]⟩
            have := ih2 e.on hlt oe hoe (hclosed e.on oe hoe hle)
            rw [this] at ht'; cases ht'
      have hl1 : ∀ j ∈ l1, j < i ∧ Nat.testBit (M i) j = false := by
        intro j hj
        refine ⟨p3 j hj i (by simp), hbits j ?_ i oi hoi hall⟩
        have hjm : j ∈ unlisted ops listed := by rw [hl]; simp [hj]
        simp only [unlisted, List.mem_filter, List.mem_range] at hjm
        have : j < listed.size := by omega
        simp [this] at hjm ⊢
        exact hjm.2
      obtain ⟨s, h1, h2⟩ := exec_first hG hM hids hoi l1 l2 st sf hF hl1 hex
      refine stepD_wp hG h1 hr fun β' a' w' hr' => ?_
      have hul : unlisted ops (listed.setIfInBounds i true) = l1 ++ l2 := by
        have e1 : unlisted ops (listed.setIfInBounds i true) = (unlisted ops listed).filter (fun k => k != i) := by
          unfold unlisted
          rw [List.filter_filter]
          apply List.filter_congr
          intro k hk
          have hk' : k < ops.size := List.mem_range.1 hk
          by_cases hki : k = i
          · subst hki
            simp [Array.getD_eq_getD_getElem?, hsz, hk']
          · rw [getD_set_ne true (Ne.symm hki)]
            simp [hki]
        rw [e1, hl, List.filter_append]
        have f1 : l1.filter (fun k => k != i) = l1 := List.filter_eq_self.2 fun k hk => by have := (hl1 k hk).1; simp; omega
        have f2 : (i :: l2).filter (fun k => k != i) = l2 := by
          rw [List.filter_cons]
          simp only [bne_self_eq_false, Bool.false_eq_true, if_false]
          exact List.filter_eq_self.2 fun k hk => by
            have := List.rel_of_pairwise_cons p2 hk; simp; omega
        rw [f1, f2]
      refine ih (listed.setIfInBounds i true) s β' a' w' (by simpa using hsz) ?_ ?_ (by rw [hul]; exact h2) (stepD_far hF h1) hr'
      · rw [hul]
        have : (unlisted ops listed).length = (l1 ++ i :: l2).length := by rw [hl]
        simp at this ⊢
        omega
      · intro j oj hoj hlj e he hb
        by_cases hji : j = i
        · subst hji
          rw [hoi] at hoj; simp at hoj; subst hoj
          exact getD_set_true (hall e he hb)
        · rw [getD_set_ne false (Ne.symm hji)] at hlj
          exact getD_set_true (hclosed j oj hoj hlj e he hb)
end


/-! ### The text's order -/
theorem opEv_long {P : Program} {st : St} {op : Op} {q : Option Prop} {v : LV} {hp : Hp} (h : opEv P st.hp.length st op = some (q, v, hp)) :
    st.hp.length ≤ hp.length ∧ (isNew op = true → hp.length = st.hp.length + 1) := by
  by_cases hpu : isPure op = true
  · obtain ⟨rfl, _⟩ := opEv_pure hpu (fun _ _ => rfl) h
    refine ⟨Nat.le_refl _, fun hn => ?_⟩
    cases op <;> simp [isPure, isNew] at hpu hn
  · by_cases hn : isNew op = true
    · obtain ⟨blk, rfl, _⟩ := opEv_new hn (fun _ _ => rfl) h
      rw [setAt_length]; simp
    · refine ⟨?_, fun h => absurd h hn⟩
      cases op <;> first
        | (simp [opEv] at h; done)
        | (simp [isPure] at hpu; done)
        | (simp [isNew] at hn; done)
        | skip
      · obtain ⟨rfl, _⟩ := opEv_load rfl (Within.refl _) h; exact Nat.le_refl _
      · simp only [opEv] at h
        split at h <;> (try (simp at h; done))
        split at h <;> (try (simp at h; done))
        split at h <;> (try (simp at h; done))
        simp at h; obtain ⟨rfl, rfl, rfl⟩ := h
        simp

theorem stepEv_long {P : Program} {G : Gam} (hG : GOk P G) {st : St} {o : Oper} {q : Option Prop} {v : LV} {hp : Hp} (h : stepEv P G st.hp.length st o = some (q, v, hp)) :
    st.hp.length ≤ hp.length ∧ (isNew o.op = true → hp.length = st.hp.length + 1) := by
  unfold stepEv at h
  split at h
  · rename_i c ho
    split at h
    · exact ⟨hG.long _ _ _ _ _ _ h, fun hn => by simp [isNew, ho] at hn⟩
    · simp at h
  · exact opEv_long h

theorem stepH_long {P : Program} {G : Gam} (hG : GOk P G) {g : Option Bool} {st : St} {o : Oper} {q : Option Prop} {v : LV} {hp : Hp} (h : stepH P G g st.hp.length st o = some (q, v, hp)) :
    st.hp.length ≤ hp.length ∧ (isNew o.op = true → hp.length = st.hp.length + 1) := by
  unfold stepH at h
  split at h
  · rename_i hp1
    simp at h; obtain ⟨_, _, rfl⟩ := h
    have := pickH_cl (G := G) hp1
    exact ⟨Nat.le_refl _, fun hn => by rw [cl_new hn] at this; cases this⟩
  · exact stepEv_long hG h

theorem put_hp {st : St} {dst : Option Tmp} {v : LV} {hp : Hp} : (put st dst v hp).hp = hp := by cases dst <;> rfl

def TextOk (P : Program) (G : Gam) (ops : Array Oper) (W : World) (m : Hp) (β₀ : Nat → Nat) (R : Exit → St → Prop) (k n : Nat) (st : St) : Prop :=
  ∃ (ids : Nat → Nat) (sf : St), ExecD P G ops ids (List.range' k n) st sf ∧ (∀ β a w, Rel W (Live m) β₀ β sf a w → Post W (Live m) β₀ R .normal a w) ∧
    (∀ i, k ≤ i → st.hp.length ≤ ids i) ∧
    ∀ (j i : Nat) (oj oi : Oper), ops[j]? = some oj → ops[i]? = some oi → k ≤ j → j < i → i < k + n → isNew oj.op = true → isNew oi.op = true → ids j < ids i

theorem exec_of_ops {P : Program} {G : Gam} (hG : GOk P G) {m : Hp} {ops : Array Oper} (hguard : ∀ (i : Nat) (o : Oper), ops[i]? = some o → isNew o.op = true → o.guard = none) {W : World} {β₀ : Nat → Nat} :
    ∀ (l : List Oper) (k : Nat) (A : Asm) (st : St) (R : Exit → St → Prop), (∀ j, l[j]? = ops[k + j]?) → AsmOk A st → (opsEv P G m ops l A st).sat R →
      TextOk P G ops W m β₀ R k l.length st
  | [], k, A, st, R, _, _, h => ⟨fun _ => st.hp.length, st, .nil, fun β a w hr => ⟨st, β, h, hr⟩, fun _ _ => Nat.le_refl _, fun j i _ _ _ _ h1 h2 h3 => by simp at h3; omega⟩
  | o :: rest, k, A, st, R, hl, hA, h => by
    have h0 : ops[k]? = some o := by simpa using (hl 0).symm
    have hl' : ∀ j, rest[j]? = ops[k + 1 + j]? := fun j => by
      have := hl (j + 1)
      simpa [Nat.add_assoc, Nat.add_comm 1 j] using this
    have build : ∀ (s : St) (b : SB), wantedEv st ops o = some b → st.hp.length ≤ s.hp.length → (isNew o.op = true → s.hp.length = st.hp.length + 1) →
        (∀ ids : Nat → Nat, ids k = st.hp.length → StepD P G ops ids k st s) →
        ∀ (B : Asm) (R' : Exit → St → Prop), AsmOk B s → (opsEv P G m ops rest B s).sat R' → (∀ e a w, Post W (Live m) β₀ R' e a w → Post W (Live m) β₀ R e a w) →
        TextOk P G ops W m β₀ R k (o :: rest).length st := by
      intro s b hb hle hnew hstep B R' hB hs hR
      obtain ⟨ids, sf, e1, e2, e3, e4⟩ := exec_of_ops hG hguard rest (k + 1) B s R' hl' hB hs
      have hag : ∀ i, i ≠ k → (fun i => if i = k then st.hp.length else ids i) i = ids i := fun i hi => if_neg hi
      refine ⟨fun i => if i = k then st.hp.length else ids i, sf, ?_, fun β a w hr => hR _ _ _ (e2 β a w hr), fun i hi => ?_, fun j i oj oi hoj hoi h1 h2 h3 n1 n2 => ?_⟩
      · simp only [List.length_cons, List.range'_succ]
        refine .cons (hstep _ (if_pos rfl)) ?_
        have key : ∀ (l : List Nat) (x y : St), (∀ i ∈ l, i ≠ k) → ExecD P G ops ids l x y → ExecD P G ops (fun i => if i = k then st.hp.length else ids i) l x y := by
          intro l x y hne hx
          induction hx with
          | nil => exact .nil
          | cons h t ih =>
            rename_i i l s1 s2 s3
            refine .cons ?_ (ih fun i hi => hne i (by simp [hi]))
            have hik := hne i (by simp)
            unfold StepD at h ⊢
            rw [hag i hik]
            exact h
        exact key _ _ _ (fun i hi => by have := List.mem_range'_1.1 hi; omega) e1
      · by_cases hik : i = k
        · show st.hp.length ≤ if i = k then st.hp.length else ids i
          rw [if_pos hik]; exact Nat.le_refl _
        · rw [hag i hik]
          have := e3 i (by omega)
          omega
      · simp only [List.length_cons] at h3
        rw [hag i (by omega)]
        by_cases hjk : j = k
        · subst hjk
          rw [h0] at hoj; simp at hoj; subst hoj
          show (if j = j then st.hp.length else ids j) < _
          rw [if_pos rfl]
          have := e3 i (by omega)
          have := hnew n1
          omega
        · rw [hag j hjk]
          exact e4 j i oj oi hoj hoi (by omega) h2 (by omega) n1 n2
    have hrun : ∀ (b : SB), wantedEv st ops o = some b → b.val = true → ∀ (B : Asm) (R' : Exit → St → Prop), AsmOk B st → (match stepK P G B st.hp.length st o with
        | some (q, v, hp) => (opsEv P G m ops rest (forget B o.dst) (put st o.dst v hp)).needs q
        | none => .fail : Res).sat R' → (∀ e a w, Post W (Live m) β₀ R' e a w → Post W (Live m) β₀ R e a w) → TextOk P G ops W m β₀ R k (o :: rest).length st := by
      intro b hb hbv B R' hB hs hR
      split at hs
      · rename_i q v hp hst
        obtain ⟨n1, n2⟩ := needs_sat hs
        obtain ⟨q', hst', hq'⟩ := stepK_H hB hst
        obtain ⟨l1, l2⟩ := stepH_long hG hst'
        exact build (put st o.dst v hp) b hb (by rw [put_hp]; exact l1) (by rw [put_hp]; exact l2)
          (fun ids hids => ⟨o, b, h0, hb, .inl ⟨hbv, q', v, hp, _, by rw [hids]; exact hst', hq' n1, fun _ => by rw [hids]; exact not_live_length _, rfl⟩⟩) _ R' hB.put n2 hR
      · exact hs.elim
    have hskip : ∀ (b : SB), wantedEv st ops o = some b → b.val = false → isNew o.op = false → ∀ (B : Asm) (R' : Exit → St → Prop), AsmOk B st → (opsEv P G m ops rest (forget B o.dst) (put st o.dst (.tup []) st.hp)).sat R' →
        (∀ e a w, Post W (Live m) β₀ R' e a w → Post W (Live m) β₀ R e a w) → TextOk P G ops W m β₀ R k (o :: rest).length st := by
      intro b hb hbv hn B R' hB hs hR
      exact build (put st o.dst (.tup []) st.hp) b hb (by rw [put_hp]; exact Nat.le_refl _) (fun h => by rw [hn] at h; cases h)
        (fun ids hids => ⟨o, b, h0, hb, .inr ⟨hbv, rfl⟩⟩) _ R' hB.put hs hR
    simp only [opsEv] at h
    cases hb0 : wantedA A st ops o with
    | none => simp only [hb0] at h; exact h.elim
    | some b =>
      obtain ⟨b', hb, hbv⟩ := wantedA_ok hA hb0
      simp only [hb0] at h
      have hnn : b'.val = false → isNew o.op = false := by
        intro hbv
        refine Bool.eq_false_iff.2 fun hn => ?_
        have hg := hguard k o h0 hn
        simp only [wantedEv, hg] at hb
        simp at hb; subst hb; cases hbv
      cases b with
      | lit b =>
        cases b with
        | true => exact hrun _ hb hbv A R hA h fun _ _ _ h => h
        | false => exact hskip _ hb hbv (hnn hbv) A R hA h fun _ _ _ h => h
      | sym b =>
        cases b with
        | true =>
          obtain ⟨R', h1, h2⟩ := join_true (W := W) (β₀ := β₀) h
          exact hrun _ hb hbv _ R' (learn_ok hA hb0) h1 h2
        | false =>
          obtain ⟨R', h1, h2⟩ := join_false (W := W) (β₀ := β₀) h
          exact hskip _ hb hbv (hnn hbv) _ R' (learn_ok hA hb0) h1 h2

/-- **A region whose order is open**: read in the text's order. -/
theorem region_draw_ok {P : Program} {G : Gam} (hG : GOk P G) (hmix : P.follows .mixedOrders = true) {m : Hp} {ops : Array Oper} {id : Nat} {st : St} (hd : drawOk G ops (farF ops st) ops.toList [] [] = true) {R : Exit → St → Prop}
    (h : (opsEv P G m ops ops.toList [] st).sat R) {W : World} {β₀ : Nat → Nat} {Q : Exit → Act → World → Prop} (hq : ∀ e a w, Post W (Live m) β₀ R e a w → Q e a w) {β : Nat → Nat} {a : Act} {w : World}
    (hr : Rel W (Live m) β₀ β st a w) : (Code.region id ops true).wp P Q a w := by
  obtain ⟨hM, _, _⟩ := drawOk_spec ops.toList [] [] (by simp) rfl hd
  have hM' := fun i o ho => hM (fun i => (masks ops.toList []).getD i 0) (fun _ => rfl) i o (Nat.zero_le _) ho
  obtain ⟨ids, sf, e1, e2, _, e4⟩ := exec_of_ops hG (fun i o ho hn => (hM' i o ho).plain hn) (W := W) (β₀ := β₀) ops.toList 0 [] st R (fun j => by simp) (fun _ _ h => by simp [known] at h) h
  refine wp_region_any hmix ?_
  have hul : unlisted ops (Array.replicate ops.size false) = List.range' 0 ops.toList.length := by
    unfold unlisted
    rw [List.filter_eq_self.2 fun i hi => ?_]
    · rw [List.range_eq_range']; simp
    · have := List.mem_range.1 hi
      simp [this]
  refine wpAny_of_exec hG hM' (ids := ids) (fun j i oj oi hoj hoi hji n1 n2 => ?_) (sf := sf) (fun β a w hr => hq _ _ _ (e2 β a w hr)) ops.size _ st β a _ (by simp) (by rw [hul]; simp) ?_ (by rw [hul]; exact e1) (farF_first ops st) ?_
  · have := e4 j i oj oi hoj hoi (Nat.zero_le _) hji (by have := (Array.getElem?_eq_some_iff.1 hoi).1; simpa using this) n1 n2
    omega
  · intro j oj _ hl
    exfalso
    by_cases hj : j < ops.size
    · simp [hj] at hl
    · simp [hj] at hl
  · exact ⟨hr.defers, hr.fr, hr.heap.drew _ _⟩

end Go.Ev
