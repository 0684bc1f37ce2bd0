/- The reader of code: operations. -/
import Derived.Test.YtndiiabkoeblgaaEva
import Derived.Laws.Small
import Derived.Laws.StructEq
import Derived.ChangeKeysEq
namespace Go.Ev
open Go

/-! ### Operations on numbers -/
def map2 (f : Int → Int → Int) : SI → SI → SI
  | .lit a, .lit b => .lit (f a b)
  | a, b => .sym (f a.val b.val)
def map2B (f : Int → Int → Bool) : SI → SI → SB
  | .lit a, .lit b => .lit (f a b)
  | a, b => .sym (f a.val b.val)
@[simp] theorem map2_val (f : Int → Int → Int) (a b : SI) : (map2 f a b).val = f a.val b.val := by cases a <;> cases b <;> rfl
@[simp] theorem map2B_val (f : Int → Int → Bool) (a b : SI) : (map2B f a b).val = f a.val b.val := by cases a <;> cases b <;> rfl

def bitAnd (k : IntKind) (x y : Int) : Int := k.wrap (BitVec.ofInt k.bits x &&& BitVec.ofInt k.bits y).toNat
def bitOr (k : IntKind) (x y : Int) : Int := k.wrap (BitVec.ofInt k.bits x ||| BitVec.ofInt k.bits y).toNat
def bitXor (k : IntKind) (x y : Int) : Int := k.wrap (BitVec.ofInt k.bits x ^^^ BitVec.ofInt k.bits y).toNat
def bitAndNot (k : IntKind) (x y : Int) : Int := k.wrap (BitVec.ofInt k.bits x &&& ~~~BitVec.ofInt k.bits y).toNat
def shl (k : IntKind) (x y : Int) : Int := k.wrap (x * 2 ^ (min y.toNat k.bits))
def shr (k : IntKind) (x y : Int) : Int := x.fdiv (2 ^ (min y.toNat k.bits))

/-- an operation on two numbers: what it asks, what it gives -/
def intEv (op : BinOp) (k : IntKind) (a : SI) (b : SI) : Option (Option Prop × SV) :=
  match op with
  | .add => some (none, .int k (map2 (fun x y => k.wrap (x + y)) a b))
  | .sub => some (none, .int k (map2 (fun x y => k.wrap (x - y)) a b))
  | .mul => some (none, .int k (map2 (fun x y => k.wrap (x * y)) a b))
  | .quo => match b with
    | .lit y => if y = 0 then none else some (none, .int k (map2 (fun x y => k.wrap (x.tdiv y)) a b))
    | .sym y => some (some (y ≠ 0), .int k (map2 (fun x y => k.wrap (x.tdiv y)) a b))
  | .rem => match b with
    | .lit y => if y = 0 then none else some (none, .int k (map2 (fun x y => x.tmod y) a b))
    | .sym y => some (some (y ≠ 0), .int k (map2 (fun x y => x.tmod y) a b))
  | .and => some (none, .int k (map2 (bitAnd k) a b))
  | .or => some (none, .int k (map2 (bitOr k) a b))
  | .xor => some (none, .int k (map2 (bitXor k) a b))
  | .andNot => some (none, .int k (map2 (bitAndNot k) a b))
  | .eql => some (none, .bool (map2B (fun x y => x == y) a b))
  | .neq => some (none, .bool (map2B (fun x y => x != y) a b))
  | .lss => some (none, .bool (map2B (fun x y => decide (x < y)) a b))
  | .leq => some (none, .bool (map2B (fun x y => decide (x ≤ y)) a b))
  | .gtr => some (none, .bool (map2B (fun x y => decide (x > y)) a b))
  | .geq => some (none, .bool (map2B (fun x y => decide (x ≥ y)) a b))
  | _ => none

def shiftEv (f : Int → Int → Int) (k : IntKind) (a b : SI) : Option (Option Prop × SV) :=
  match b with
  | .lit y => if y < 0 then none else some (none, .int k (map2 f a b))
  | .sym y => some (some (0 ≤ y), .int k (map2 f a b))

def binEv (P : Program) (op : BinOp) (t : TypeId) : SV → SV → Option (Option Prop × SV)
  | .int k a, .int k' b =>
    match op with
    | .shl => shiftEv (shl k) k a b
    | .shr => shiftEv (shr k) k a b
    | _ => if k = k' then intEv op k a b else none
  | .bool a, .bool b =>
    match op, P.underlying t with
    | .eql, some .bool => some (none, .bool (match a, b with | .lit x, .lit y => .lit (x == y) | a, b => .sym (a.val == b.val)))
    | .neq, some .bool => some (none, .bool (match a, b with | .lit x, .lit y => .lit (!(x == y)) | a, b => .sym (!(a.val == b.val))))
    | _, _ => none
  | .ptr _ _, .con (.pointer none) =>
    match op, P.underlying t with
    | .eql, some (.pointer _) => some (none, .bool (.lit false))
    | .neq, some (.pointer _) => some (none, .bool (.lit true))
    | _, _ => none
  | .con (.pointer none), .con (.pointer none) =>
    match op, P.underlying t with
    | .eql, some (.pointer _) => some (none, .bool (.lit true))
    | .neq, some (.pointer _) => some (none, .bool (.lit false))
    | _, _ => none
  | .slice _ _ _ _, .con (.slice none _ _) =>
    match op, P.underlying t with
    | .eql, some (.slice _) => some (none, .bool (.lit false))
    | .neq, some (.slice _) => some (none, .bool (.lit true))
    | _, _ => none
  | .con (.slice none _ _), .con (.slice none _ _) =>
    match op, P.underlying t with
    | .eql, some (.slice _) => some (none, .bool (.lit true))
    | .neq, some (.slice _) => some (none, .bool (.lit false))
    | _, _ => none
  | _, _ => none

def needs : Option Prop → Prop
  | none => True
  | some p => p

theorem eqGuard_plain {P : Program} {w : World} {op : BinOp} {t : TypeId} {x y : Operand} {a b : Value}
    (ha : ∀ c, a ≠ .agg c) (hi : a ≠ .nilIface) : (eqGuard op t x y a b).run P w = .ok () w := by
  unfold eqGuard
  cases op <;> first
    | rfl
    | (cases a <;> first
        | (exact absurd rfl (ha _))
        | (exact absurd rfl hi)
        | (cases b <;> rfl))

theorem run_equal_of {P : Program} {w : World} {t : TypeId} {x y : Value} {b : Bool} (h : ∀ d, (Op.equalIn (d + 1) t x y).run P w = .ok b w) : (Op.equal t x y).run P w = .ok b w := h 9999

section
variable {P : Program} {w : World} {t : TypeId}
theorem eq_bool {a b : Bool} (hu : P.underlying t = some .bool) : (Op.equal t (.bool a) (.bool b)).run P w = .ok (a == b) w :=
  run_equal_of fun d => by simp [Op.equalIn, run_underlying hu]
theorem eq_ptr_nil {e : TypeId} {p : Addr} (hu : P.underlying t = some (.pointer e)) : (Op.equal t (.pointer (some p)) (.pointer none)).run P w = .ok false w :=
  run_equal_of fun d => by simp [Op.equalIn, run_underlying hu]
theorem eq_nil_nil {e : TypeId} (hu : P.underlying t = some (.pointer e)) : (Op.equal t (.pointer none) (.pointer none)).run P w = .ok true w :=
  run_equal_of fun d => by simp [Op.equalIn, run_underlying hu]
theorem eq_slice_nil {e : TypeId} {p : Addr} {l c l' c' : Nat} (hu : P.underlying t = some (.slice e)) : (Op.equal t (.slice (some p) l c) (.slice none l' c')).run P w = .ok false w :=
  run_equal_of fun d => by simp [Op.equalIn, run_underlying hu]
theorem eq_nils {e : TypeId} {l c l' c' : Nat} (hu : P.underlying t = some (.slice e)) : (Op.equal t (.slice none l c) (.slice none l' c')).run P w = .ok true w :=
  run_equal_of fun d => by simp [Op.equalIn, run_underlying hu]
theorem eql_run {x y : Value} {b : Bool} (hx : binOp .eql t x y = (do pure (.bool (← Op.equal t x y)))) (h : (Op.equal t x y).run P w = .ok b w) : (binOp .eql t x y).run P w = .ok (.bool b) w := by
  rw [hx, Sem.run_bind, h]; rfl
theorem neq_run {x y : Value} {b : Bool} (hx : binOp .neq t x y = (do pure (.bool (!(← Op.equal t x y))))) (h : (Op.equal t x y).run P w = .ok b w) : (binOp .neq t x y).run P w = .ok (.bool (!b)) w := by
  rw [hx, Sem.run_bind, h]; rfl
end

theorem int_ok {P : Program} {w : World} {op : BinOp} {t : TypeId} {k : IntKind} {a b : SI} {β : Nat → Nat} {L : Nat → Prop} {q : Option Prop} {s : SV}
    (h : intEv op k a b = some (q, s)) (hq : needs q) :
    ∃ v, (binOp op t (.int k a.val) (.int k b.val)).run P w = .ok v w ∧ s.den β L v := by
  cases op <;> simp only [intEv] at h <;> try (simp at h; done)
  case quo =>
    cases b with
    | lit y => simp only at h; split at h
               · simp at h
               · rename_i hy; simp at h; obtain ⟨_, rfl⟩ := h
                 exact ⟨_, by simp [binOp, Op.intDiv, SI.val, hy]; rfl, by simp only [SV.den, map2_val]; rfl⟩
    | sym y => simp at h; obtain ⟨rfl, rfl⟩ := h
               have hy : ¬ y = 0 := hq
               exact ⟨_, by simp [binOp, Op.intDiv, SI.val, hy]; rfl, by simp only [SV.den, map2_val]; rfl⟩
  case rem =>
    cases b with
    | lit y => simp only at h; split at h
               · simp at h
               · rename_i hy; simp at h; obtain ⟨_, rfl⟩ := h
                 exact ⟨_, by simp [binOp, Op.intDiv, SI.val, hy]; rfl, by simp only [SV.den, map2_val]; rfl⟩
    | sym y => simp at h; obtain ⟨rfl, rfl⟩ := h
               have hy : ¬ y = 0 := hq
               exact ⟨_, by simp [binOp, Op.intDiv, SI.val, hy]; rfl, by simp only [SV.den, map2_val]; rfl⟩
  all_goals
    simp at h; obtain ⟨_, rfl⟩ := h
    exact ⟨_, by simp [binOp, Op.intArith, Op.intBits, Op.intCmp]; rfl, by simp [SV.den, bitAnd, bitOr, bitXor, bitAndNot]⟩

theorem shift_ok {P : Program} {w : World} {op : BinOp} {t : TypeId} {k k' : IntKind} {a b : SI} {β : Nat → Nat} {L : Nat → Prop} {q : Option Prop} {s : SV} {f : Int → Int → Int}
    (hop : (op = .shl ∧ f = shl k) ∨ (op = .shr ∧ f = shr k)) (h : shiftEv f k a b = some (q, s)) (hq : needs q) :
    ∃ v, (binOp op t (.int k a.val) (.int k' b.val)).run P w = .ok v w ∧ s.den β L v := by
  have key : 0 ≤ b.val → ∃ v, (binOp op t (.int k a.val) (.int k' b.val)).run P w = .ok v w ∧ (SV.int k (map2 f a b)).den β L v := by
    intro hb
    have hb' : ¬ b.val < 0 := by omega
    rcases hop with ⟨rfl, rfl⟩ | ⟨rfl, rfl⟩
    · exact ⟨_, by simp [binOp, Op.shift, hb']; rfl, by simp [SV.den, shl]⟩
    · exact ⟨_, by simp [binOp, Op.shift, hb']; rfl, by simp [SV.den, shr]⟩
  cases b with
  | lit y =>
    simp only [shiftEv] at h
    split at h
    · simp at h
    · simp at h; obtain ⟨_, rfl⟩ := h; exact key (by simp only [SI.val]; omega)
  | sym y =>
    simp only [shiftEv] at h
    simp at h; obtain ⟨rfl, rfl⟩ := h
    exact key hq

theorem bin_ok {P : Program} {w : World} {op : BinOp} {t : TypeId} {ox oy : Operand} {x y : SV} {xv yv : Value} {β : Nat → Nat} {L : Nat → Prop} {q : Option Prop} {s : SV}
    (h : binEv P op t x y = some (q, s)) (hq : needs q) (hx : x.den β L xv) (hy : y.den β L yv) :
    ∃ v, (do eqGuard op t ox oy xv yv; binOp op t xv yv : Sem Value).run P w = .ok v w ∧ s.den β L v := by
  unfold binEv at h
  split at h
  · -- numbers
    rename_i k a k' b
    simp only [SV.den] at hx hy
    subst hx hy
    simp only [Sem.run_bind, eqGuard_plain (P := P) (w := w) (op := op) (t := t) (x := ox) (y := oy) (a := .int k a.val) (b := .int k' b.val) (by simp) (by simp), Result.andThen_ok]
    split at h
    · exact shift_ok (.inl ⟨rfl, rfl⟩) h hq
    · exact shift_ok (.inr ⟨rfl, rfl⟩) h hq
    · split at h
      · rename_i hk; subst hk; exact int_ok h hq
      · simp at h
  · rename_i a b
    simp only [SV.den] at hx hy
    subst hx hy
    simp only [Sem.run_bind, eqGuard_plain (P := P) (w := w) (op := op) (t := t) (x := ox) (y := oy) (a := .bool a.val) (b := .bool b.val) (by simp) (by simp), Result.andThen_ok]
    split at h
    · rename_i hu
      simp at h; obtain ⟨_, rfl⟩ := h
      exact ⟨.bool (a.val == b.val), eql_run rfl (eq_bool hu), by cases a <;> cases b <;> rfl⟩
    · rename_i hu
      simp at h; obtain ⟨_, rfl⟩ := h
      exact ⟨.bool (!(a.val == b.val)), neq_run rfl (eq_bool hu), by cases a <;> cases b <;> rfl⟩
    · simp at h
  · rename_i b o
    simp only [SV.den] at hx hy
    obtain ⟨_, rfl⟩ := hx
    obtain ⟨_, rfl⟩ := hy
    simp only [Sem.run_bind, eqGuard_plain (P := P) (w := w) (op := op) (t := t) (x := ox) (y := oy) (a := .pointer (some ⟨β b, o, none⟩)) (b := .pointer none) (by simp) (by simp), Result.andThen_ok]
    split at h
    · rename_i hu
      simp at h; obtain ⟨_, rfl⟩ := h
      exact ⟨.bool false, eql_run rfl (eq_ptr_nil hu), rfl⟩
    · rename_i hu
      simp at h; obtain ⟨_, rfl⟩ := h
      exact ⟨.bool true, neq_run rfl (eq_ptr_nil hu), rfl⟩
    · simp at h
  · simp only [SV.den] at hx hy
    obtain ⟨_, rfl⟩ := hx
    obtain ⟨_, rfl⟩ := hy
    simp only [Sem.run_bind, eqGuard_plain (P := P) (w := w) (op := op) (t := t) (x := ox) (y := oy) (a := .pointer none) (b := .pointer none) (by simp) (by simp), Result.andThen_ok]
    split at h
    · rename_i hu
      simp at h; obtain ⟨_, rfl⟩ := h
      exact ⟨.bool true, eql_run rfl (eq_nil_nil hu), rfl⟩
    · rename_i hu
      simp at h; obtain ⟨_, rfl⟩ := h
      exact ⟨.bool false, neq_run rfl (eq_nil_nil hu), rfl⟩
    · simp at h
  · rename_i b o l c l' c'
    simp only [SV.den] at hx hy
    obtain ⟨_, rfl⟩ := hx
    obtain ⟨_, rfl⟩ := hy
    simp only [Sem.run_bind, eqGuard_plain (P := P) (w := w) (op := op) (t := t) (x := ox) (y := oy) (a := .slice (some ⟨β b, o, none⟩) l c) (b := .slice none l' c') (by simp) (by simp), Result.andThen_ok]
    split at h
    · rename_i hu
      simp at h; obtain ⟨_, rfl⟩ := h
      exact ⟨.bool false, eql_run rfl (eq_slice_nil hu), rfl⟩
    · rename_i hu
      simp at h; obtain ⟨_, rfl⟩ := h
      exact ⟨.bool true, neq_run rfl (eq_slice_nil hu), rfl⟩
    · simp at h
  · rename_i l c l' c'
    simp only [SV.den] at hx hy
    obtain ⟨_, rfl⟩ := hx
    obtain ⟨_, rfl⟩ := hy
    simp only [Sem.run_bind, eqGuard_plain (P := P) (w := w) (op := op) (t := t) (x := ox) (y := oy) (a := .slice none l c) (b := .slice none l' c') (by simp) (by simp), Result.andThen_ok]
    split at h
    · rename_i hu
      simp at h; obtain ⟨_, rfl⟩ := h
      exact ⟨.bool true, eql_run rfl (eq_nils hu), rfl⟩
    · rename_i hu
      simp at h; obtain ⟨_, rfl⟩ := h
      exact ⟨.bool false, neq_run rfl (eq_nils hu), rfl⟩
    · simp at h
  · simp at h


/-! ### One operation -/
def ev (st : St) : Operand → LV
  | .tmp t => st.fr.getD t .junk
  | .const v => LV.ofVal v
  | .func f => .one (.sc (.con (.func (.func f) #[] #[])))
  | .global _ => .junk

theorem ev_den {W : World} {m : Nat → Prop} {β₀ β : Nat → Nat} {st : St} {a : Act} {w : World} (h : Rel W m β₀ β st a w) (x : Operand) :
    (ev st x).den β (Live st.hp) (a.eval x) := by
  cases x with
  | tmp t =>
    simp only [ev, Act.eval]
    rw [List.getD_eq_getElem?_getD]
    cases ht : st.fr[t]? with
    | none => simp; trivial
    | some lv =>
      obtain ⟨v, hv, hd⟩ := h.fr.get ht
      have : a.tmps.getD t undef = v := by
        rw [Array.getD_eq_getD_getElem?]
        have : a.tmps[t]? = some v := by simpa using hv
        simp [this]
      rw [this]; simpa using hd
  | const v => exact LV.ofVal_den v
  | func f => exact ⟨rfl, rfl⟩
  | global g => trivial

/-- the cells of a value -/
def cellsOf : LV → Option (List SV)
  | .one (.sc s) => some [s]
  | .one (.agg l) => some l
  | _ => none

theorem cellsOf_den {β : Nat → Nat} {L : Nat → Prop} {x : LV} {l : List SV} {v : Value} (h : cellsOf x = some l) (hd : x.den β L v) :
    ∃ cs : List Value, v.cells = cs.toArray ∧ All2 (SV.den β L) l cs := by
  cases x with
  | one x =>
    cases x with
    | sc s =>
      simp [cellsOf] at h; subst h
      have h1 := SV.den_oneCell hd
      refine ⟨[v], ?_, .cons hd .nil⟩
      cases v <;> first | rfl | simp [Value.oneCell'] at h1
    | agg l' =>
      simp [cellsOf] at h; subst h
      obtain ⟨cs, rfl, hc⟩ := hd
      exact ⟨cs, rfl, hc⟩
  | tup l => simp [cellsOf] at h
  | junk => simp [cellsOf] at h

def aggType (P : Program) (t : TypeId) : Option Bool :=
  match P.underlying t with
  | some (.struct _) | some (.array _ _) => some true
  | some _ => some false
  | none => none
def sizeT (P : Program) (t : TypeId) : Option Nat := (P.info? t).map (·.size)
def zeroT (P : Program) (t : TypeId) : Option (List SV) :=
  match P.info? t with
  | some i => match i.zero with
    | some z => optAll SV.ofVal z.cells.toList
    | none => none
  | none => none

theorem run_isAgg {P : Program} {t : TypeId} {b : Bool} {w : World} (h : aggType P t = some b) : (isAgg t).run P w = .ok b w := by
  unfold aggType at h
  unfold isAgg underlying
  cases hu : P.underlying t with
  | none => simp [hu] at h
  | some d =>
    rw [hu] at h
    cases d <;> simp at h <;> subst h <;> simp [hu]

theorem run_sizeOf {P : Program} {t : TypeId} {n : Nat} {w : World} (h : sizeT P t = some n) : (sizeOf t).run P w = .ok n w := by
  unfold sizeT at h
  unfold sizeOf typeInfo
  cases hi : P.info? t with
  | none => simp [hi] at h
  | some i => simp [hi] at h; subst h; simp [hi]

theorem run_zero {P : Program} {t : TypeId} {l : List SV} {w : World} {β : Nat → Nat} {L : Nat → Prop} (h : zeroT P t = some l) :
    ∃ z : Value, (zeroValue t).run P w = .ok z w ∧ All2 (SV.den β L) l z.cells.toList := by
  unfold zeroT at h
  unfold zeroValue typeInfo
  cases hi : P.info? t with
  | none => simp [hi] at h
  | some i =>
    simp only [hi] at h
    cases hz : i.zero with
    | none => simp [hz] at h
    | some z =>
      simp only [hz] at h
      exact ⟨z, by simp [hi, hz], optAll_all2 (fun _ _ => SV.ofVal_den) h⟩

/-- a part of a list of cells, as a value of a type -/
def partEv (P : Program) (t : TypeId) (l : List SV) (off : Nat) : Option VV :=
  match aggType P t, sizeT P t with
  | some true, some n => if off + n ≤ l.length then some (.agg ((l.drop off).take n)) else none
  | some false, some _ => (l[off]?).map .sc
  | _, _ => none

theorem addr_add (b off k : Nat) : (⟨b, off, none⟩ : Addr).add k = ⟨b, off + k, none⟩ := by
  unfold Addr.add; split
  · rename_i e; subst e; simp
  · rfl

theorem run_loadVar {P : Program} {W : World} {m : Nat → Prop} {β₀ β : Nat → Nat} {hp : Hp} {w : World} (h : HRel W m β₀ β hp w)
    {t : TypeId} {i off : Nat} {blk : Blk} {x : VV} (hb : hp[i]? = some (some blk)) (hx : partEv P t blk.cells off = some x) :
    ∃ v, (loadVar t ⟨β i, off, none⟩).run P w = .ok v w ∧ x.den β (Live hp) v := by
  obtain ⟨c, rest, fz, hc, _, _, hd⟩ := h.rows i blk hb
  unfold partEv at hx
  unfold loadVar
  split at hx
  · rename_i n ha hn
    split at hx
    · rename_i hle
      simp at hx; subst hx
      simp only [Sem.run_bind, run_isAgg ha, Result.andThen_ok, if_true, run_sizeOf hn]
      have hcl := hd.length
      have hlen : ((c.drop off).take n).length = n := by simp; omega
      have hl := run_loadCells_list (P := P) w ⟨β i, off, none⟩ ((c.drop off).take n) (fun j v hj => by
        rw [addr_add]
        have hj' : c[off + j]? = some v := by
          rw [List.getElem?_take] at hj
          split at hj
          · simpa using hj
          · simp at hj
        have hlt := (List.getElem?_eq_some_iff.1 hj').1
        simp only [World.cell?, hc]
        simpa [List.getElem?_append_left hlt] using hj')
      rw [hlen] at hl
      rw [hl]
      exact ⟨_, rfl, _, rfl, (hd.drop off).take n⟩
    · simp at hx
  · rename_i n ha hn
    obtain ⟨s, hs, rfl⟩ := Option.map_eq_some_iff.1 hx
    obtain ⟨v, hv, _, hr⟩ := h.cell hb hs
    refine ⟨v, ?_, hr⟩
    simp only [Sem.run_bind, run_isAgg ha, Result.andThen_ok]
    simp [hv]
  · simp at hx

theorem run_part {P : Program} {w : World} {β : Nat → Nat} {L : Nat → Prop} {t : TypeId} {l : List SV} {cs : List Value} {off : Nat} {x : VV}
    (hd : All2 (SV.den β L) l cs) (hx : partEv P t l off = some x) :
    ∃ v, (part t cs.toArray off).run P w = .ok v w ∧ x.den β L v := by
  unfold partEv at hx
  unfold part
  split at hx
  · rename_i k ha hn
    split at hx
    · simp at hx; subst hx
      simp only [Sem.run_bind, run_isAgg ha, Result.andThen_ok, if_true, run_sizeOf hn]
      refine ⟨_, rfl, (cs.drop off).take k, ?_, (hd.drop off).take k⟩
      simp
    · simp at hx
  · rename_i k ha hn
    obtain ⟨s, hs, rfl⟩ := Option.map_eq_some_iff.1 hx
    obtain ⟨v, hv, hr⟩ := hd.get hs
    refine ⟨v, ?_, hr⟩
    have : cs.toArray[off]? = some v := by simpa using hv
    simp only [Sem.run_bind, run_isAgg ha, Result.andThen_ok]
    simp [this]
  · simp at hx

theorem run_storeVar {P : Program} {W : World} {m : Nat → Prop} {β₀ β : Nat → Nat} {hp : Hp} {w : World} (h : HRel W m β₀ β hp w)
    {t : TypeId} {i off : Nat} {blk : Blk} {r : List SV} {x : LV} {v : Value} (hb : hp[i]? = some (some blk)) (hr : cellsOf x = some r) (hs : sizeT P t = some r.length)
    (hle : off + r.length ≤ blk.cells.length) (hv : x.den β (Live hp) v) :
    ∃ w', (storeVar t ⟨β i, off, none⟩ v).run P w = .ok () w' ∧ HRel W m β₀ β (hp.set i (some { blk with cells := setRange blk.cells off r })) w' := by
  obtain ⟨cs, hcs, hd⟩ := cellsOf_den hr hv
  obtain ⟨w', hw', hh⟩ := run_storeCells (P := P) (off := off) r cs 0 hp w blk h hb hd (by simpa using hle)
  refine ⟨w', ?_, by simpa using hh⟩
  unfold storeVar
  have hsz : v.cells.size = r.length := by rw [hcs]; simpa using hd.length.symm
  rw [hcs] at hsz ⊢
  simp only [Sem.run_bind, run_sizeOf hs, Result.andThen_ok]
  have hsz' : cs.length = r.length := by simpa using hsz
  simpa [Value.cells, hcs, hsz'] using hw'

/-- what is asked, the value, the blocks behind it -/
abbrev Step := Option Prop × LV × Hp

def opSc : LV → Option SV
  | .one (.sc s) => some s
  | _ => none

/-- conversions between kinds of integers -/
def wrapI (k : IntKind) : SI → SI
  | .lit x => .lit (k.wrap x)
  | .sym x => .sym (k.wrap x)
theorem wrapI_val (k : IntKind) (n : SI) : (wrapI k n).val = k.wrap n.val := by cases n <;> rfl
def convEv (P : Program) (src dst : TypeId) : SV → Option SV
  | .int _ n => match P.underlying src, P.underlying dst with
    | some _, some (.int k) => some (.int k (wrapI k n))
    | _, _ => none
  | _ => none

def unEv (op : UnOp) : SV → Option SV
  | .int k n => match op with
    | .neg => some (.int k (map2 (fun x y => k.wrap (x - y)) (.lit 0) n))
    | .xor => some (.int k (map2 (bitXor k) (.lit (if k.signed then -1 else k.max)) n))
    | _ => none
  | .bool b => match op with
    | .not => some (.bool (match b with | .lit x => .lit (!x) | .sym x => .sym (!x)))
    | _ => none
  | _ => none

/-- two values, one of which is taken -/
def joinS (b : Bool) (ok : Nat → Bool) : SV → SV → SV
  | .int k x, .int k' y => if k = k' then
      match x, y with
      | .lit x, .lit y => if x = y then .int k (.lit x) else .int k (.sym (bif b then x else y))
      | x, y => .int k (.sym (bif b then x.val else y.val))
    else .junk
  | .bool x, .bool y => match x, y with
    | .lit x, .lit y => if x = y then .bool (.lit x) else .bool (.sym (bif b then x else y))
    | x, y => .bool (.sym (bif b then x.val else y.val))
  | .ptr i o, .ptr i' o' => if i = i' then if o = o' then if ok i = true then .ptr i o else .junk else .junk else .junk
  | .slice i o l c, .slice i' o' l' c' => if i = i' then if o = o' then if l = l' then if c = c' then if ok i = true then .slice i o l c else .junk else .junk else .junk else .junk else .junk
  | .con (.pointer none), .con (.pointer none) => .con (.pointer none)
  | .con (.slice none l c), .con (.slice none l' c') => if l = l' then if c = c' then .con (.slice none l c) else .junk else .junk
  | .con .nilIface, .con .nilIface => .con .nilIface
  | _, _ => .junk
def joinL (b : Bool) (ok : Nat → Bool) : List SV → List SV → Option (List SV)
  | [], [] => some []
  | x :: l, y :: r => (joinL b ok l r).map (joinS b ok x y :: ·)
  | _, _ => none
def joinW (b : Bool) (ok : Nat → Bool) : VV → VV → Option VV
  | .sc x, .sc y => some (.sc (joinS b ok x y))
  | .agg l, .agg r => (joinL b ok l r).map .agg
  | _, _ => none
def joinT (b : Bool) (ok : Nat → Bool) : List VV → List VV → Option (List VV)
  | [], [] => some []
  | x :: l, y :: r => match joinW b ok x y, joinT b ok l r with
    | some z, some m => some (z :: m)
    | _, _ => none
  | _, _ => none
def joinV (b : Bool) (ok : Nat → Bool) : LV → LV → LV
  | .one x, .one y => match joinW b ok x y with
    | some z => .one z
    | none => .junk
  | .tup l, .tup r => match joinT b ok l r with
    | some z => .tup z
    | none => .junk
  | _, _ => .junk

theorem joinS_left {L₁ L : Nat → Prop} {ok : Nat → Bool} {β : Nat → Nat} (hok : ∀ i, ok i = true → L₁ i → L i) {x y : SV} {v : Value} (h : x.den β L₁ v) : (joinS true ok x y).den β L v := by
  have h1 := SV.den_oneCell h
  unfold joinS
  split
  · split
    · rename_i hk; subst hk
      simp only [SV.den] at h
      split
      · rename_i a c
        split
        · exact h
        · exact h
      · exact h
    · exact h1
  · simp only [SV.den] at h
    split
    · split <;> exact h
    · exact h
  · simp only [SV.den] at h
    (repeat' split) <;> first | exact h1 | (rename_i hlt; exact ⟨hok _ hlt h.1, h.2⟩)
  · simp only [SV.den] at h
    (repeat' split) <;> first | exact h1 | (rename_i hlt; exact ⟨hok _ hlt h.1, h.2⟩)
  · exact h
  · (repeat' split) <;> first | exact h1 | exact h
  · exact h
  · exact h1

theorem joinS_right {L₁ L : Nat → Prop} {ok : Nat → Bool} {β : Nat → Nat} (hok : ∀ i, ok i = true → L₁ i → L i) {x y : SV} {v : Value} (h : y.den β L₁ v) : (joinS false ok x y).den β L v := by
  have h1 := SV.den_oneCell h
  unfold joinS
  split
  · split
    · rename_i hk; subst hk
      simp only [SV.den] at h
      split
      · rename_i a c
        split
        · rename_i e; subst e; exact h
        · exact h
      · exact h
    · exact h1
  · simp only [SV.den] at h
    split
    · split
      · rename_i e; subst e; exact h
      · exact h
    · exact h
  · simp only [SV.den] at h
    split
    · rename_i e; subst e; split
      · rename_i e; subst e; split
        · rename_i hlt; exact ⟨hok _ hlt h.1, h.2⟩
        · exact h1
      · exact h1
    · exact h1
  · simp only [SV.den] at h
    split
    · rename_i e; subst e; split
      · rename_i e; subst e; split
        · rename_i e; subst e; split
          · rename_i e; subst e; split
            · rename_i hlt; exact ⟨hok _ hlt h.1, h.2⟩
            · exact h1
          · exact h1
        · exact h1
      · exact h1
    · exact h1
  · exact h
  · split
    · rename_i e; subst e; split
      · rename_i e; subst e; exact h
      · exact h1
    · exact h1
  · exact h
  · exact h1

theorem joinL_left {L₁ L : Nat → Prop} {ok : Nat → Bool} {β : Nat → Nat} (hok : ∀ i, ok i = true → L₁ i → L i) : ∀ {l r z : List SV} {cs : List Value}, joinL true ok l r = some z → All2 (SV.den β L₁) l cs → All2 (SV.den β L) z cs
  | [], [], z, cs, h, hd => by simp [joinL] at h; subst h; cases hd; exact .nil
  | x :: l, y :: r, z, cs, h, hd => by
    simp only [joinL] at h
    obtain ⟨z', hz, rfl⟩ := Option.map_eq_some_iff.1 h
    cases hd with
    | cons h1 h2 => exact .cons (joinS_left hok h1) (joinL_left hok hz h2)
  | [], _ :: _, _, _, h, _ => by simp [joinL] at h
  | _ :: _, [], _, _, h, _ => by simp [joinL] at h

theorem joinL_right {L₁ L : Nat → Prop} {ok : Nat → Bool} {β : Nat → Nat} (hok : ∀ i, ok i = true → L₁ i → L i) : ∀ {l r z : List SV} {cs : List Value}, joinL false ok l r = some z → All2 (SV.den β L₁) r cs → All2 (SV.den β L) z cs
  | [], [], z, cs, h, hd => by simp [joinL] at h; subst h; cases hd; exact .nil
  | x :: l, y :: r, z, cs, h, hd => by
    simp only [joinL] at h
    obtain ⟨z', hz, rfl⟩ := Option.map_eq_some_iff.1 h
    cases hd with
    | cons h1 h2 => exact .cons (joinS_right hok h1) (joinL_right hok hz h2)
  | [], _ :: _, _, _, h, _ => by simp [joinL] at h
  | _ :: _, [], _, _, h, _ => by simp [joinL] at h

theorem joinW_left {L₁ L : Nat → Prop} {ok : Nat → Bool} {β : Nat → Nat} (hok : ∀ i, ok i = true → L₁ i → L i) {x y z : VV} {v : Value} (hz : joinW true ok x y = some z) (h : x.den β L₁ v) : z.den β L v := by
  unfold joinW at hz
  split at hz
  · simp at hz; subst hz
    exact joinS_left (L₁ := L₁) hok h
  · obtain ⟨z', hz', rfl⟩ := Option.map_eq_some_iff.1 hz
    obtain ⟨cs, rfl, hd⟩ := h
    exact ⟨cs, rfl, joinL_left hok hz' hd⟩
  · simp at hz
theorem joinT_left {L₁ L : Nat → Prop} {ok : Nat → Bool} {β : Nat → Nat} (hok : ∀ i, ok i = true → L₁ i → L i) : ∀ {l r z : List VV} {cs : List Value}, joinT true ok l r = some z → All2 (VV.den β L₁) l cs → All2 (VV.den β L) z cs
  | [], [], z, cs, h, hd => by simp [joinT] at h; subst h; cases hd; exact .nil
  | x :: l, y :: r, z, cs, h, hd => by
    simp only [joinT] at h
    split at h
    · rename_i z' m h1 h2
      simp at h; subst h
      cases hd with
      | cons h3 h4 => exact .cons (joinW_left hok h1 h3) (joinT_left hok h2 h4)
    · simp at h
  | [], _ :: _, _, _, h, _ => by simp [joinT] at h
  | _ :: _, [], _, _, h, _ => by simp [joinT] at h
theorem joinV_left {L₁ L : Nat → Prop} {ok : Nat → Bool} {β : Nat → Nat} (hok : ∀ i, ok i = true → L₁ i → L i) {x y : LV} {v : Value} (h : x.den β L₁ v) : (joinV true ok x y).den β L v := by
  unfold joinV
  split
  · split
    · rename_i z hz; exact joinW_left hok hz h
    · trivial
  · split
    · rename_i z hz
      obtain ⟨cs, rfl, hd⟩ := h
      exact ⟨cs, rfl, joinT_left hok hz hd⟩
    · trivial
  · trivial

theorem joinW_right {L₁ L : Nat → Prop} {ok : Nat → Bool} {β : Nat → Nat} (hok : ∀ i, ok i = true → L₁ i → L i) {x y z : VV} {v : Value} (hz : joinW false ok x y = some z) (h : y.den β L₁ v) : z.den β L v := by
  unfold joinW at hz
  split at hz
  · simp at hz; subst hz
    exact joinS_right (L₁ := L₁) hok h
  · obtain ⟨z', hz', rfl⟩ := Option.map_eq_some_iff.1 hz
    obtain ⟨cs, rfl, hd⟩ := h
    exact ⟨cs, rfl, joinL_right hok hz' hd⟩
  · simp at hz
theorem joinT_right {L₁ L : Nat → Prop} {ok : Nat → Bool} {β : Nat → Nat} (hok : ∀ i, ok i = true → L₁ i → L i) : ∀ {l r z : List VV} {cs : List Value}, joinT false ok l r = some z → All2 (VV.den β L₁) r cs → All2 (VV.den β L) z cs
  | [], [], z, cs, h, hd => by simp [joinT] at h; subst h; cases hd; exact .nil
  | x :: l, y :: r, z, cs, h, hd => by
    simp only [joinT] at h
    split at h
    · rename_i z' m h1 h2
      simp at h; subst h
      cases hd with
      | cons h3 h4 => exact .cons (joinW_right hok h1 h3) (joinT_right hok h2 h4)
    · simp at h
  | [], _ :: _, _, _, h, _ => by simp [joinT] at h
  | _ :: _, [], _, _, h, _ => by simp [joinT] at h
theorem joinV_right {L₁ L : Nat → Prop} {ok : Nat → Bool} {β : Nat → Nat} (hok : ∀ i, ok i = true → L₁ i → L i) {x y : LV} {v : Value} (h : y.den β L₁ v) : (joinV false ok x y).den β L v := by
  unfold joinV
  split
  · split
    · rename_i z hz; exact joinW_right hok hz h
    · trivial
  · split
    · rename_i z hz
      obtain ⟨cs, rfl, hd⟩ := h
      exact ⟨cs, rfl, joinT_right hok hz hd⟩
    · trivial
  · trivial

def optNat : SI → Option Nat
  | .lit n => if 0 ≤ n then some n.toNat else none
  | .sym _ => none
theorem optNat_val {i : SI} {n : Nat} (h : optNat i = some n) : i.val = n := by
  cases i with
  | lit x => simp only [optNat] at h; split at h
             · simp at h; subst h; simp [SI.val]; omega
             · simp at h
  | sym x => simp [optNat] at h
/-- a number that is written out -/
def litNat (x : LV) : Option (IntKind × Nat) :=
  match x with
  | .one (.sc (.int k n)) => (optNat n).map (k, ·)
  | _ => none
theorem litNat_den {β : Nat → Nat} {L : Nat → Prop} {x : LV} {k : IntKind} {i : Nat} {v : Value} (h : litNat x = some (k, i)) (hd : x.den β L v) : v = .int k i := by
  unfold litNat at h
  split at h
  · rename_i k' s
    obtain ⟨j, hj, he⟩ := Option.map_eq_some_iff.1 h
    simp at he
    obtain ⟨rfl, rfl⟩ := he
    have : v = .int k' s.val := hd
    rw [this, optNat_val hj]
  · simp at h

def fieldsT (P : Program) (t : TypeId) : Option (List Field) :=
  match P.underlying t with
  | some (.struct fs) => some fs.toList
  | _ => none
def arrayT (P : Program) (t : TypeId) : Option (Nat × TypeId) :=
  match P.underlying t with
  | some (.array n e) => some (n, e)
  | _ => none
def sliceT (P : Program) (t : TypeId) : Option TypeId :=
  match P.underlying t with
  | some (.slice e) => some e
  | _ => none
theorem fieldsT_eq {P : Program} {t : TypeId} {fs : List Field} (h : fieldsT P t = some fs) : P.underlying t = some (.struct fs.toArray) := by
  unfold fieldsT at h; split at h
  · rename_i f hu; simp at h; subst h; simpa using hu
  · simp at h
theorem arrayT_eq {P : Program} {t e : TypeId} {n : Nat} (h : arrayT P t = some (n, e)) : P.underlying t = some (.array n e) := by
  unfold arrayT at h; split at h
  · rename_i f hu; simp at h; obtain ⟨rfl, rfl⟩ := h; simpa using hu
  · simp at h
theorem sliceT_eq {P : Program} {t e : TypeId} (h : sliceT P t = some e) : P.underlying t = some (.slice e) := by
  unfold sliceT at h; split at h
  · rename_i f hu; simp at h; subst h; simpa using hu
  · simp at h

/-- where the parts of a literal stand -/
def placesT (P : Program) (t : TypeId) : Option (Nat → Option (Nat × Nat)) :=
  match P.underlying t with
  | some (.struct fs) => (optAll (fun f => (sizeT P f.type).map (f.offset, ·)) fs.toList).map fun l i => l[i]?
  | some (.array _ e) => (sizeT P e).map fun s i => some (i * s, s)
  | _ => none

def fillEv (place : Nat → Option (Nat × Nat)) : List SV → List (Nat × LV) → Option (List SV)
  | cells, [] => some cells
  | cells, (i, x) :: rest =>
    match place i, cellsOf x with
    | some (off, size), some l => if l.length = size ∧ off + l.length ≤ cells.length then fillEv place (setRange cells off l) rest else none
    | _, _ => none

def slicePart (len cap : Nat) (lo hi mx : Option LV) : Option (Nat × Nat × Nat) :=
  match mx with
  | some _ => none
  | none =>
    let h : Option Nat := match hi with
      | none => some len
      | some x => match litNat x with
        | some (_, h) => if h ≤ cap then some h else none
        | none => none
    match h with
    | none => none
    | some h => match lo with
      | none => some (0, h, cap)
      | some x => match litNat x with
        | some (_, l) => if l ≤ h then some (l, h, cap) else none
        | none => none

theorem opSc_den {β : Nat → Nat} {L : Nat → Prop} {x : LV} {s : SV} {v : Value} (h : opSc x = some s) (hd : x.den β L v) : s.den β L v := by
  unfold opSc at h; split at h
  · simp at h; subst h; exact hd
  · simp at h

/-! ### Equality of whole values -/
def eqAll {α : Type} (f : α → Option Bool) : List α → Option Bool
  | [] => some true
  | x :: l => match f x, eqAll f l with
    | some a, some b => some (a && b)
    | _, _ => none

def eqEv (P : Program) : Nat → TypeId → VV → VV → Option Bool
  | 0, _, _, _ => none
  | d + 1, t, x, y => match x, y with
    | .sc (.int k a), .sc (.int k' b) => (match P.underlying t with
      | some (.int _) => if k = k' then some (a.val == b.val) else none
      | _ => none)
    | .sc (.bool a), .sc (.bool b) => (match P.underlying t with
      | some .bool => some (a.val == b.val)
      | _ => none)
    | .agg l, .agg r => (match P.underlying t with
      | some (.struct fs) => if P.stoodInHeld t = false then
          eqAll (fun f : Field => if f.name = "_" then none else match partEv P f.type l f.offset, partEv P f.type r f.offset with
            | some a, some b => eqEv P d f.type a b
            | _, _ => none) fs.toList
        else none
      | some (.array n e) => match sizeT P e with
        | some s => eqAll (fun i => match partEv P e l (i * s), partEv P e r (i * s) with
            | some a, some b => eqEv P d e a b
            | _, _ => none) (List.range n)
        | none => none
      | _ => none)
    | _, _ => none

theorem sizeT_cells {P : Program} {t : TypeId} {n : Nat} (h : sizeT P t = some n) : P.cellsOf t = n := by
  unfold sizeT at h; unfold Program.cellsOf; rw [h]; rfl
theorem sizeT_info {P : Program} {t : TypeId} {n : Nat} (h : sizeT P t = some n) : ∃ i, P.info? t = some i := by
  unfold sizeT at h; cases hi : P.info? t with
  | none => simp [hi] at h
  | some i => exact ⟨i, rfl⟩

theorem eqEv_ok {P : Program} {w : World} {β : Nat → Nat} {L : Nat → Prop} : ∀ (d : Nat) (t : TypeId) (x y : VV) (b : Bool), eqEv P d t x y = some b →
    ∀ (xv yv : Value), x.den β L xv → y.den β L yv → ∀ k, (Op.equalIn (k + d) t xv yv).run P w = .ok b w
  | 0, _, _, _, _, h => by simp [eqEv] at h
  | d + 1, t, x, y, b, h => by
    intro xv yv hx hy k
    simp only [eqEv] at h
    split at h
    · rename_i k1 a k2 c
      have e1 : xv = .int k1 a.val := hx
      have e2 : yv = .int k2 c.val := hy
      subst e1 e2
      split at h
      · rename_i hu
        split at h
        · rename_i hkk
          subst hkk
          simp at h; subst h
          show (Op.equalIn (k + d + 1) t _ _).run P w = _
          simp [Op.equalIn, run_underlying hu]
        · simp at h
      · simp at h
    · rename_i a c
      have e1 : xv = .bool a.val := hx
      have e2 : yv = .bool c.val := hy
      subst e1 e2
      split at h
      · rename_i hu
        simp at h; subst h
        show (Op.equalIn (k + d + 1) t _ _).run P w = _
        simp [Op.equalIn, run_underlying hu]
      · simp at h
    · rename_i l r
      obtain ⟨xs, rfl, hxs⟩ := hx
      obtain ⟨ys, rfl, hys⟩ := hy
      show (Op.equalIn (k + d + 1) t _ _).run P w = _
      split at h
      · rename_i fs hu
        split at h
        · rename_i hst
          have hfo : P.fieldsOf t = fs := by unfold Program.fieldsOf; rw [hu]
          rw [run_equalIn_struct w (k + d) t _ _ (by rw [hfo]; exact hu) hst, hfo]
          clear hu hst hfo
          generalize fs.toList = fl at h
          induction fl generalizing b with
          | nil => simp [eqAll] at h; subst h; simp [Op.eqFields]
          | cons f fl ih =>
            simp only [eqAll] at h
            split at h
            · rename_i a c ha hc
              simp at h; subst h
              split at ha
              · simp at ha
              · rename_i hnm
                split at ha
                · rename_i p1 p2 hp1 hp2
                  obtain ⟨v1, e1, e2⟩ := run_part (P := P) (w := w) hxs hp1
                  obtain ⟨v2, e3, e4⟩ := run_part (P := P) (w := w) hys hp2
                  have := eqEv_ok (w := w) d f.type p1 p2 a ha v1 v2 e2 e4 k
                  simp only [Op.eqFields, ne_eq, hnm, not_false_eq_true, if_true, Sem.run_bind, e1, e3, this, Result.andThen_ok]
                  cases a
                  · simp
                  · simpa using ih c hc
                · simp at ha
            · simp at h
        · simp at h
      · rename_i n e hu
        split at h
        · rename_i s hs
          obtain ⟨i, hi⟩ := sizeT_info hs
          rw [run_equalIn_array w (k + d) _ _ hu hi, sizeT_cells hs]
          generalize List.range n = fl at h
          induction fl generalizing b with
          | nil => simp [eqAll] at h; subst h; simp [Op.eqItems]
          | cons j fl ih =>
            simp only [eqAll] at h
            split at h
            · rename_i a c ha hc
              simp at h; subst h
              split at ha
              · rename_i p1 p2 hp1 hp2
                obtain ⟨v1, e1, e2⟩ := run_part (P := P) (w := w) hxs hp1
                obtain ⟨v2, e3, e4⟩ := run_part (P := P) (w := w) hys hp2
                have := eqEv_ok (w := w) d e p1 p2 a ha v1 v2 e2 e4 k
                simp only [Op.eqItems, Sem.run_bind, e1, e3, this, Result.andThen_ok]
                cases a
                · simp
                · simpa using ih c hc
              · simp at ha
            · simp at h
        · simp at h
      · simp at h
    · simp at h

/-- an operation on two values -/
def binLV (P : Program) (op : BinOp) (t : TypeId) (x y : LV) : Option (Option Prop × SV) :=
  match opSc x, opSc y with
  | some a, some b => binEv P op t a b
  | _, _ => match x, y with
    | .one (.agg l), .one (.agg r) => if P.eqGuardType P.depth t = false then
        match op with
        | .eql => (eqEv P 12 t (.agg l) (.agg r)).map fun b => (none, .bool (.sym b))
        | .neq => (eqEv P 12 t (.agg l) (.agg r)).map fun b => (none, .bool (.sym (!b)))
        | _ => none
      else none
    | _, _ => none

theorem binLV_ok {P : Program} {w : World} {op : BinOp} {t : TypeId} {ox oy : Operand} {x y : LV} {xv yv : Value} {β : Nat → Nat} {L : Nat → Prop} {q : Option Prop} {s : SV}
    (h : binLV P op t x y = some (q, s)) (hq : needs q) (hx : x.den β L xv) (hy : y.den β L yv) :
    ∃ v, (do eqGuard op t ox oy xv yv; binOp op t xv yv : Sem Value).run P w = .ok v w ∧ s.den β L v := by
  unfold binLV at h
  split at h
  · rename_i a b ha hb
    exact bin_ok h hq (opSc_den ha hx) (opSc_den hb hy)
  · split at h
    · rename_i l r _
      split at h
      · rename_i hg
        have hx' : (VV.agg l).den β L xv := hx
        have hy' : (VV.agg r).den β L yv := hy
        obtain ⟨xs, rfl, hxs⟩ := hx
        obtain ⟨ys, rfl, hys⟩ := hy
        split at h
        · obtain ⟨b, hb, he⟩ := Option.map_eq_some_iff.1 h
          simp at he; obtain ⟨_, rfl⟩ := he
          have := eqEv_ok (w := w) 12 t _ _ b hb _ _ hx' hy' 9988
          refine ⟨.bool b, ?_, rfl⟩
          rw [Sem.run_bind, run_eqGuard_agg w .eql t ox oy _ _ hg]
          simp only [Result.andThen_ok, run_eql_struct, this]
        · obtain ⟨b, hb, he⟩ := Option.map_eq_some_iff.1 h
          simp at he; obtain ⟨_, rfl⟩ := he
          have := eqEv_ok (w := w) 12 t _ _ b hb _ _ hx' hy' 9988
          refine ⟨.bool (!b), ?_, rfl⟩
          rw [Sem.run_bind, run_eqGuard_agg w .neq t ox oy _ _ hg]
          simp only [Result.andThen_ok, run_neq_struct, this]
        · simp at h
      · simp at h
    · simp at h

/-! ### One of some values -/
def intOf (k : IntKind) : SV → Option Int
  | .int k' n => if k' = k then some n.val else none
  | _ => none
def boolOf : SV → Option Bool
  | .bool b => some b.val
  | _ => none
def selS (z : Int) (col : List SV) : SV :=
  match col with
  | .int k _ :: _ => match optAll (intOf k) col with
    | some l => .int k (.sym (l.getD z.toNat 0))
    | none => .junk
  | .bool _ :: _ => match optAll boolOf col with
    | some l => .bool (.sym (l.getD z.toNat false))
    | none => .junk
  | _ => .junk
theorem optAll_get {α β : Type} {f : α → Option β} : ∀ {l : List α} {m : List β}, optAll f l = some m → ∀ {i : Nat} {a : α}, l[i]? = some a → ∃ b, m[i]? = some b ∧ f a = some b
  | [], m, h, i, a, hi => by simp at hi
  | x :: l, m, h, i, a, hi => by
    simp only [optAll] at h
    split at h
    · rename_i y m' h1 h2
      simp at h; subst h
      cases i with
      | zero => simp at hi; subst hi; exact ⟨y, by simp, h1⟩
      | succ i => simp at hi; obtain ⟨b, hb, hf⟩ := optAll_get h2 hi; exact ⟨b, by simpa using hb, hf⟩
    · simp at h
theorem optAll_length {α β : Type} {f : α → Option β} : ∀ {l : List α} {m : List β}, optAll f l = some m → m.length = l.length
  | [], m, h => by simp [optAll] at h; subst h; rfl
  | x :: l, m, h => by
    simp only [optAll] at h
    split at h
    · rename_i y m' h1 h2
      simp at h; subst h; simp [optAll_length h2]
    · simp at h

theorem selS_ok {β : Nat → Nat} {L : Nat → Prop} {z : Int} {col : List SV} {s : SV} {v : Value} (hs : col[z.toNat]? = some s) (h : s.den β L v) : (selS z col).den β L v := by
  have h1 := SV.den_oneCell h
  unfold selS
  split
  · rename_i k n rest
    split
    · rename_i l hl
      obtain ⟨b, hb, hf⟩ := optAll_get hl hs
      unfold intOf at hf
      split at hf
      · split at hf
        · rename_i hk; subst hk
          simp at hf; subst hf
          have e : v = .int _ _ := h
          show v = .int _ (l.getD z.toNat 0)
          rw [e, List.getD_eq_getElem?_getD, hb]; rfl
        · simp at hf
      · simp at hf
    · exact h1
  · rename_i n rest
    split
    · rename_i l hl
      obtain ⟨b, hb, hf⟩ := optAll_get hl hs
      unfold boolOf at hf
      split at hf
      · simp at hf; subst hf
        have e : v = .bool _ := h
        show v = .bool (l.getD z.toNat false)
        rw [e, List.getD_eq_getElem?_getD, hb]; rfl
      · simp at hf
    · exact h1
  · exact h1

def scOf : VV → Option SV
  | .sc s => some s
  | _ => none
def aggOf (n : Nat) : VV → Option (List SV)
  | .agg l => if l.length = n then some l else none
  | _ => none
def selV (z : Int) : List VV → Option VV
  | [] => none
  | .sc s :: l => (optAll scOf (.sc s :: l)).map fun col => .sc (selS z col)
  | .agg r :: l => (optAll (aggOf r.length) (.agg r :: l)).map fun rows => .agg ((List.range r.length).map fun c => selS z (rows.map (·.getD c .junk)))

theorem selV_ok {β : Nat → Nat} {L : Nat → Prop} {z : Int} {items : List VV} {x y : VV} {v : Value} (hs : items[z.toNat]? = some x) (h : x.den β L v) (hy : selV z items = some y) : y.den β L v := by
  unfold selV at hy
  split at hy
  · simp at hy
  · obtain ⟨col, hc, rfl⟩ := Option.map_eq_some_iff.1 hy
    obtain ⟨s, h1, h2⟩ := optAll_get hc hs
    unfold scOf at h2
    split at h2
    · simp at h2; subst h2; exact selS_ok h1 h
    · simp at h2
  · rename_i r l
    obtain ⟨rows, hc, rfl⟩ := Option.map_eq_some_iff.1 hy
    obtain ⟨s, h1, h2⟩ := optAll_get hc hs
    unfold aggOf at h2
    split at h2
    · rename_i s
      split at h2
      · rename_i hlen
        simp at h2; subst h2
        obtain ⟨cs, rfl, hd⟩ := h
        refine ⟨cs, rfl, ?_⟩
        have key : ∀ (s : List SV) (cs : List Value) (k : Nat) (g : Nat → SV), All2 (SV.den β L) s cs → (∀ i a, s[i]? = some a → ∀ v, a.den β L v → (g (k + i)).den β L v) →
            All2 (SV.den β L) ((List.range' k s.length).map g) cs := by
          intro s
          induction s with
          | nil => intro cs k g hd _; cases hd; exact .nil
          | cons a s ih =>
            intro cs k g hd hg
            cases hd with
            | cons h3 h4 =>
              simp only [List.length_cons, List.range'_succ, List.map_cons]
              refine .cons (by have := hg 0 a (by simp) _ h3; simpa using this) (ih _ (k + 1) g h4 fun i b hb v hv => ?_)
              have := hg (i + 1) b (by simpa using hb) v hv
              rwa [show k + 1 + i = k + (i + 1) from by omega]
        rw [List.range_eq_range', ← hlen]
        refine key s cs 0 _ hd fun i a ha v hv => ?_
        rw [Nat.zero_add]
        refine selS_ok (s := a) ?_ hv
        simp [h1, ha]
      · simp at h2
    · simp at h2

/-- a number that is not written out -/
def symInt (x : LV) : Option (IntKind × Int) :=
  match x with
  | .one (.sc (.int k n)) => some (k, n.val)
  | _ => none
theorem symInt_den {β : Nat → Nat} {L : Nat → Prop} {x : LV} {k : IntKind} {i : Int} {v : Value} (h : symInt x = some (k, i)) (hd : x.den β L v) : v = .int k i := by
  unfold symInt at h
  split at h
  · simp at h; obtain ⟨rfl, rfl⟩ := h; exact hd
  · simp at h

/-- parts of a row of cells -/
def partsEv (P : Program) (t : TypeId) (l : List SV) (base stride n : Nat) : Option (List VV) := optAll (fun j => partEv P t l (base + j * stride)) (List.range n)

theorem partsEv_get {P : Program} {t : TypeId} {l : List SV} {base stride n : Nat} {items : List VV} (h : partsEv P t l base stride n = some items) {j : Nat} (hj : j < n) :
    ∃ x, items[j]? = some x ∧ partEv P t l (base + j * stride) = some x := by
  obtain ⟨x, h1, h2⟩ := optAll_get h (i := j) (a := j) (by simp [hj])
  exact ⟨x, h1, h2⟩

def idxAddrEv (P : Program) (t : TypeId) (x i : LV) : Option (Option Prop × SV) :=
  match litNat i with
  | some (_, j) => match x, arrayT P t, sliceT P t with
    | .one (.sc (.ptr b off)), some (n, e), _ => match sizeT P e with
      | some s => if j < n then some (none, .ptr b (off + j * s)) else none
      | none => none
    | .one (.sc (.slice b off len _)), none, some e => match sizeT P e with
      | some s => if j < len then some (none, .ptr b (off + j * s)) else none
      | none => none
    | _, _, _ => none
  | none => match symInt i with
    | some (_, z) => match x, arrayT P t, sliceT P t with
      | .one (.sc (.ptr b off)), some (n, e), _ => match sizeT P e with
        | some s => some (some (0 ≤ z ∧ z < n), .ptrx b off s n z)
        | none => none
      | .one (.sc (.slice b off len _)), none, some e => match sizeT P e with
        | some s => some (some (0 ≤ z ∧ z < len), .ptrx b off s len z)
        | none => none
      | _, _, _ => none
    | none => none

def idxEv (P : Program) (t : TypeId) (x i : LV) : Option (Option Prop × VV) :=
  match litNat i with
  | some (_, j) => match x, arrayT P t with
    | .one (.agg l), some (n, e) => match sizeT P e with
      | some s => if j < n then (partEv P e l (j * s)).map fun x => (none, x) else none
      | none => none
    | _, _ => none
  | none => match symInt i with
    | some (_, z) => match x, arrayT P t with
      | .one (.agg l), some (n, e) => match sizeT P e with
        | some s => match partsEv P e l 0 s n with
          | some items => (selV z items).map fun x => (some (0 ≤ z ∧ z < n), x)
          | none => none
        | none => none
      | _, _ => none
    | none => none

def opEv (P : Program) (id : Nat) (st : St) : Op → Option Step
  | .move x | .assign x => some (none, ev st x, st.hp)
  | .pick c a b => match ev st c with
    | .one (.sc (.bool (.lit t))) => some (none, if t then ev st a else ev st b, st.hp)
    | .one (.sc (.bool (.sym t))) => match ev st a, ev st b with
      | .one x, .one y => some (none, joinV t (fun _ => true) (.one x) (.one y), st.hp)
      | .one x, _ => some (some (t = true), .one x, st.hp)
      | _, .one y => some (some (t = false), .one y, st.hp)
      | _, _ => none
    | _ => none
  | .alloc t => (zeroT P t).map fun l => (none, .one (.sc (.ptr id 0)), setAt st.hp id ⟨l, t, false⟩)
  | .box t x => (cellsOf (ev st x)).map fun l => (none, .one (.sc (.ptr id 0)), setAt st.hp id ⟨l, t, false⟩)
  | .build t parts => match zeroT P t, placesT P t with
    | some z, some place => (fillEv place z (parts.toList.map fun p => (p.1, ev st p.2))).map fun l => (none, .one (.agg l), st.hp)
    | _, _ => none
  | .load t a => match ev st a with
    | .one (.sc (.ptr b off)) => match st.hp[b]? with
      | some (some blk) => (partEv P t blk.cells off).map fun x => (none, .one x, st.hp)
      | _ => none
    | .one (.sc (.ptrx b base stride n z)) => match st.hp[b]? with
      | some (some blk) => match partsEv P t blk.cells base stride n with
        | some items => (selV z items).map fun x => (none, .one x, st.hp)
        | none => none
      | _ => none
    | _ => none
  | .store t a x => match ev st a, cellsOf (ev st x) with
    | .one (.sc (.ptr b off)), some l => match st.hp[b]? with
      | some (some blk) => if sizeT P t = some l.length ∧ off + l.length ≤ blk.cells.length then some (none, .tup [], st.hp.set b (some { blk with cells := setRange blk.cells off l })) else none
      | _ => none
    | _, _ => none
  | .nilCheck x => match ev st x with
    | .one (.sc (.ptr b off)) => some (none, .one (.sc (.ptr b off)), st.hp)
    | _ => none
  | .binOp op t x y _ => (binLV P op t (ev st x) (ev st y)).map fun r => (r.1, .one (.sc r.2), st.hp)
  | .unOp op _ x => match opSc (ev st x) with
    | some a => (unEv op a).map fun r => (none, .one (.sc r), st.hp)
    | none => none
  | .convert src dst x => match opSc (ev st x) with
    | some a => (convEv P src dst a).map fun r => (none, .one (.sc r), st.hp)
    | none => none
  | .sliceToArrayPointer t x => match ev st x, arrayT P t with
    | .one (.sc (.slice b off len _)), some (n, _) => if n ≤ len then some (none, .one (.sc (.ptr b off)), st.hp) else none
    | _, _ => none
  | .slice t x lo hi mx => match ev st x, arrayT P t, sliceT P t with
    | .one (.sc (.ptr b off)), some (n, e), _ => match slicePart n n (lo.map (ev st)) (hi.map (ev st)) (mx.map (ev st)), sizeT P e with
      | some (l, h, m), some s => some (none, .one (.sc (.slice b (if m = l then off else off + l * s) (h - l) (m - l))), st.hp)
      | _, _ => none
    | .one (.sc (.slice b off len cap)), none, some e => match slicePart len cap (lo.map (ev st)) (hi.map (ev st)) (mx.map (ev st)), sizeT P e with
      | some (l, h, m), some s => some (none, .one (.sc (.slice b (if m = l then off else off + l * s) (h - l) (m - l))), st.hp)
      | _, _ => none
    | _, _, _ => none
  | .fieldAddr s x f => match ev st x, fieldsT P s with
    | .one (.sc (.ptr b off)), some fs => match fs[f]? with
      | some fd => match sizeT P fd.type with
        | some n => if n = 0 then none else some (none, .one (.sc (.ptr b (off + fd.offset))), st.hp)
        | none => none
      | none => none
    | _, _ => none
  | .field s x f => match ev st x, fieldsT P s with
    | .one (.agg l), some fs => match fs[f]? with
      | some fd => (partEv P fd.type l fd.offset).map fun x => (none, .one x, st.hp)
      | none => none
    | _, _ => none
  | .indexAddr t x i => (idxAddrEv P t (ev st x) (ev st i)).map fun r => (r.1, .one (.sc r.2), st.hp)
  | .index t x i => (idxEv P t (ev st x) (ev st i)).map fun r => (r.1, .one r.2, st.hp)
  | .extract x i => match ev st x with
    | .tup l => (l[i]?).map fun x => (none, .one x, st.hp)
    | _ => none
  | _ => none

/-- does an operation make a block? -/
def isNew : Op → Bool
  | .alloc _ | .box _ _ => true
  | _ => false

/-- what an operation without a call does -/
def OpOk (P : Program) (o : Oper) (st : St) (q : Option Prop) (v : LV) (hp : Hp) : Prop :=
  needs q → ∀ (W : World) (m : Nat → Prop) (β₀ β : Nat → Nat) (a : Act) (w : World), Rel W m β₀ β st a w →
    ∃ (β' : Nat → Nat) (w' : World) (r : Next) (val : Value), (execOp a.eval o).run P w = .ok r w' ∧ (r = .value val ∨ (r = .skip ∧ val = undef)) ∧ v.den β' (Live hp) val ∧
      HRel W m β₀ β' hp w' ∧ Agree β β' (Live st.hp) (Live hp)

theorem OpOk.pure {P : Program} {o : Oper} {st : St} {q : Option Prop} {v : LV}
    (h : needs q → ∀ (W : World) (m : Nat → Prop) (β₀ β : Nat → Nat) (a : Act) (w : World), Rel W m β₀ β st a w →
      ∃ val : Value, (execOp a.eval o).run P w = .ok (.value val) w ∧ v.den β (Live st.hp) val) : OpOk P o st q v st.hp :=
  fun hq W m β₀ β a w hr => let ⟨val, h1, h2⟩ := h hq W m β₀ β a w hr; ⟨β, w, _, val, h1, .inl rfl, h2, hr.heap, Agree.refl _ _⟩


/-! ### Each operation's law -/
section
variable {P : Program} {st : St} {o : Oper} {q : Option Prop} {v : LV} {hp : Hp}

theorem run_slicePart {P : Program} {w : World} {β : Nat → Nat} {L : Nat → Prop} {isS : Bool} {len cap : Nat} {lo hi mx : Option LV} {lov hiv mxv : Option Value} {r : Nat × Nat × Nat}
    (h : slicePart len cap lo hi mx = some r)
    (hlo : ∀ x, lo = some x → ∃ y, lov = some y ∧ x.den β L y) (hlo' : lo = none → lov = none)
    (hhi : ∀ x, hi = some x → ∃ y, hiv = some y ∧ x.den β L y) (hhi' : hi = none → hiv = none)
    (hmx' : mx = none → mxv = none) :
    (Instr.sliceBounds isS len cap lov hiv mxv).run P w = .ok r w := by
  unfold slicePart at h
  cases mx with
  | some x => simp at h
  | none =>
    simp only at h
    obtain rfl := hmx' rfl
    have hbound : ∀ (x : LV) (y : Value) (k : IntKind) (i c : Nat) (code : BoundsCode), litNat x = some (k, i) → x.den β L y → i ≤ c → (Instr.sliceBound y c code).run P w = .ok i w := by
      intro x y k i c code hl hd hle
      have := litNat_den hl hd
      subst this
      have h1 : (0 : Int) ≤ i ∧ (i : Int) ≤ c := by omega
      simp [Instr.sliceBound, asIntOf, h1]
    unfold Instr.sliceBounds
    cases hi with
    | none =>
      obtain rfl := hhi' rfl
      simp only at h
      cases lo with
      | none =>
        obtain rfl := hlo' rfl
        simp at h; subst h
        simp
      | some x =>
        obtain ⟨y, rfl, hd⟩ := hlo x rfl
        simp only at h
        cases hl : litNat x with
        | none => simp [hl] at h
        | some p =>
          obtain ⟨k, i⟩ := p
          simp only [hl] at h
          split at h
          · rename_i hle
            simp at h; subst h
            simp [hbound x y k i len _ hl hd hle]
          · simp at h
    | some z =>
      obtain ⟨u, rfl, hdz⟩ := hhi z rfl
      simp only at h
      cases hlz : litNat z with
      | none => simp [hlz] at h
      | some p =>
        obtain ⟨kz, iz⟩ := p
        simp only [hlz] at h
        split at h
        · simp at h
        · rename_i hh hle
          split at hle
          · rename_i hle2
            simp at hle; subst hle
            cases lo with
            | none =>
              obtain rfl := hlo' rfl
              simp at h; subst h
              simp [hbound z u kz iz cap _ hlz hdz hle2]
            | some x =>
              obtain ⟨y, rfl, hd⟩ := hlo x rfl
              simp only at h
              cases hl : litNat x with
              | none => simp [hl] at h
              | some p =>
                obtain ⟨k, i⟩ := p
                simp only [hl] at h
                split at h
                · rename_i hle
                  simp at h; subst h
                  simp [hbound z u kz iz cap _ hlz hdz hle2, hbound x y k i iz _ hl hd hle]
                · simp at h
          · simp at hle

end


section
variable {P : Program} {st : St} {o : Oper}

theorem map_some {α β : Type} {f : α → β} {x : Option α} {y : β} (h : x.map f = some y) : ∃ a, x = some a ∧ f a = y := Option.map_eq_some_iff.1 h

theorem fill_ok {β : Nat → Nat} {L : Nat → Prop} {place : Nat → Option (Nat × Nat)} :
    ∀ (parts : List (Nat × LV)) (vparts : List (Nat × Value)) (cells : List SV) (cs : List Value) (l : List SV),
      All2 (SV.den β L) cells cs → All2 (fun (p : Nat × LV) (r : Nat × Value) => p.1 = r.1 ∧ p.2.den β L r.2) parts vparts → fillEv place cells parts = some l →
      ∃ c : List Value, Instr.fill place cs.toArray vparts = some c.toArray ∧ All2 (SV.den β L) l c := by
  intro parts
  induction parts with
  | nil =>
    intro vparts cells cs l hc hp h
    cases hp
    simp [fillEv] at h; subst h
    exact ⟨cs, rfl, hc⟩
  | cons p rest ih =>
    intro vparts cells cs l hc hp h
    obtain ⟨i, x⟩ := p
    cases hp with
    | cons h1 h2 =>
      rename_i r rs
      obtain ⟨i', y⟩ := r
      obtain ⟨rfl, hd⟩ := h1
      simp only [fillEv] at h
      split at h
      · rename_i off size l' hpl hx
        split at h
        · rename_i hle
          obtain ⟨ys, hys, hdy⟩ := cellsOf_den hx hd
          have hyl : ys.length = l'.length := hdy.length.symm
          have hcl : cs.length = cells.length := hc.length.symm
          have key : ∀ (l' : List SV) (ys : List Value) (off k : Nat) (cells : List SV) (cs : List Value), All2 (SV.den β L) cells cs → All2 (SV.den β L) l' ys →
              ∃ c : List Value, (ys.zipIdx k).foldl (fun cs (c, j) => cs.setIfInBounds (off + j) c) cs.toArray = c.toArray ∧ All2 (SV.den β L) (setRange cells (off + k) l') c := by
            intro l'
            induction l' with
            | nil => intro ys off k cells cs h1 h2; cases h2; exact ⟨cs, rfl, h1⟩
            | cons s l' ih2 =>
              intro ys off k cells cs h1 h2
              cases h2 with
              | cons h3 h4 =>
                rename_i z zs
                obtain ⟨c, e1, e2⟩ := ih2 zs off (k + 1) (cells.set (off + k) s) (cs.set (off + k) z) (h1.set _ h3) h4
                refine ⟨c, ?_, e2⟩
                rw [← e1]
                simp
          obtain ⟨c, e1, e2⟩ := key l' ys off 0 cells cs hc hdy
          obtain ⟨c', e3, e4⟩ := ih rs _ c l (by simpa using e2) h2 h
          refine ⟨c', ?_, e4⟩
          simp only [Instr.fill, hpl, hys]
          rw [if_neg (by simp; omega)]
          rw [← e3]
          congr 1
          rw [← e1, ← Array.foldl_toList]
          simp
        · simp at h
      · simp at h

theorem run_mapM_places {P : Program} {w : World} : ∀ (fs : List Field) (l : List (Nat × Nat)), optAll (fun f => (sizeT P f.type).map (f.offset, ·)) fs = some l →
    (fs.mapM (fun f => do pure (f.offset, ← sizeOf f.type) : Field → Sem (Nat × Nat))).run P w = .ok l w
  | [], l, h => by simp [optAll] at h; subst h; simp
  | f :: fs, l, h => by
    simp only [optAll] at h
    split at h
    · rename_i y l' h1 h2
      simp at h; subst h
      obtain ⟨s, hs, rfl⟩ := map_some h1
      have := run_mapM_places (P := P) (w := w) fs l' h2
      simp only [List.mapM_cons, Sem.run_bind, run_sizeOf hs, Result.andThen_ok, Sem.run_pure, this]
    · simp at h

theorem opEv_ok {id : Nat} {q : Option Prop} {v : LV} {hp : Hp} (h : opEv P id st o.op = some (q, v, hp)) (hid : isNew o.op = true → ¬ Live st.hp id) : OpOk P o st q v hp := by
  cases ho : o.op <;> rw [ho] at h <;> simp only [opEv] at h <;> try (simp at h; done)
  case move x =>
    simp at h; obtain ⟨rfl, rfl, rfl⟩ := h
    exact .pure fun _ W m β₀ β a w hr => ⟨a.eval x, by simp [execOp, ho], ev_den hr x⟩
  case assign x =>
    simp at h; obtain ⟨rfl, rfl, rfl⟩ := h
    exact .pure fun _ W m β₀ β a w hr => ⟨a.eval x, by simp [execOp, ho], ev_den hr x⟩
  case pick c x y =>
    split at h
    · rename_i t hc
      simp at h; obtain ⟨rfl, rfl, rfl⟩ := h
      refine .pure fun _ W m β₀ β a w hr => ⟨if t then a.eval x else a.eval y, ?_, ?_⟩
      · have := ev_den hr c; rw [hc] at this
        have e : a.eval c = .bool t := this
        simp [execOp, ho, e, asBool]
      · cases t
        · exact ev_den hr y
        · exact ev_den hr x
    · rename_i t hc
      have hpick : ∀ (a : Act) (w : World) {W : World} {m : Nat → Prop} {β₀ β : Nat → Nat}, Rel W m β₀ β st a w → (execOp a.eval o).run P w = .ok (.value (if t then a.eval x else a.eval y)) w := by
        intro a w W m β₀ β hr
        have := ev_den hr c; rw [hc] at this
        have e : a.eval c = .bool t := this
        simp [execOp, ho, e, asBool]
      split at h
      · rename_i u v hx hy
        simp at h; obtain ⟨rfl, rfl, rfl⟩ := h
        refine .pure fun _ W m β₀ β a w hr => ⟨_, hpick a w hr, ?_⟩
        cases t
        · exact joinV_right (fun _ _ h => h) (hy ▸ ev_den hr y)
        · exact joinV_left (fun _ _ h => h) (hx ▸ ev_den hr x)
      · rename_i u hx _
        simp at h; obtain ⟨rfl, rfl, rfl⟩ := h
        refine .pure fun hq W m β₀ β a w hr => ⟨_, hpick a w hr, ?_⟩
        have ht : t = true := hq
        subst ht
        exact hx ▸ ev_den hr x
      · rename_i u hy _
        simp at h; obtain ⟨rfl, rfl, rfl⟩ := h
        refine .pure fun hq W m β₀ β a w hr => ⟨_, hpick a w hr, ?_⟩
        have ht : t = false := hq
        subst ht
        exact hy ▸ ev_den hr y
      · simp at h
    · simp at h
  case alloc t =>
    obtain ⟨l, hl, he⟩ := map_some h
    simp at he; obtain ⟨rfl, rfl, rfl⟩ := he
    intro _ W m β₀ β a w hr
    obtain ⟨z, hz, hd⟩ := run_zero (P := P) (w := w) (β := β) (L := Live st.hp) hl
    obtain ⟨h1, h2⟩ := hr.heap.alloc (id := id) (hid (by rw [ho]; rfl)) (t := t) hd
    refine ⟨_, _, _, .pointer (some ⟨w.heap.size, 0, none⟩), ?_, .inl rfl, ?_, h1, h2⟩
    · simp only [execOp, ho, Instr.alloc, Sem.run_bind, hz, Result.andThen_ok, newVar, newRow, run_newObj, Sem.run_pure]
      simp
    · refine ⟨(live_setAt _ _ _ _).2 (.inl rfl), ?_⟩
      show _ = Value.pointer (some ⟨if id = id then w.heap.size else _, 0, none⟩)
      rw [if_pos rfl]
  case box t x =>
    obtain ⟨l, hl, he⟩ := map_some h
    simp at he; obtain ⟨rfl, rfl, rfl⟩ := he
    intro _ W m β₀ β a w hr
    obtain ⟨cs, hcs, hd⟩ := cellsOf_den hl (ev_den hr x)
    obtain ⟨h1, h2⟩ := hr.heap.alloc (id := id) (hid (by rw [ho]; rfl)) (t := t) hd
    refine ⟨_, _, _, .pointer (some ⟨w.heap.size, 0, none⟩), ?_, .inl rfl, ?_, h1, h2⟩
    · simp only [execOp, ho, Instr.box, Sem.run_bind, Result.andThen_ok, newVar, newRow, run_newObj, Sem.run_pure, hcs]
      simp
    · refine ⟨(live_setAt _ _ _ _).2 (.inl rfl), ?_⟩
      show _ = Value.pointer (some ⟨if id = id then w.heap.size else _, 0, none⟩)
      rw [if_pos rfl]
  case build t parts =>
    split at h
    · rename_i z place hz hpl
      obtain ⟨l, hl, he⟩ := map_some h
      simp at he; obtain ⟨rfl, rfl, rfl⟩ := he
      refine .pure fun _ W m β₀ β a w hr => ?_
      obtain ⟨zv, hzv, hzd⟩ := run_zero (P := P) (w := w) (β := β) (L := Live st.hp) hz
      obtain ⟨c, hc, hd⟩ := fill_ok (β := β) (L := Live st.hp) (place := place) _ (parts.toList.map fun p => (p.1, a.eval p.2)) z zv.cells.toList l hzd
        (All2.of_map _ _ _ fun p _ => ⟨rfl, ev_den hr p.2⟩) hl
      refine ⟨.agg c.toArray, ?_, c, rfl, hd⟩
      unfold placesT at hpl
      split at hpl
      · rename_i fs hu
        obtain ⟨pl, hpl1, rfl⟩ := map_some hpl
        have := run_mapM_places (P := P) (w := w) fs.toList pl hpl1
        simp only [execOp, ho, Instr.build, Sem.run_bind, hzv, Result.andThen_ok, underlying, run_program, hu, Sem.run_pure]
        rw [Array.mapM_eq_mapM_toList]
        simp only [Sem.run_map, this, Result.andThen_ok]
        simp at hc
        simp [hc]
      · rename_i n e hu
        obtain ⟨s, hs, rfl⟩ := map_some hpl
        simp only [execOp, ho, Instr.build, Sem.run_bind, hzv, Result.andThen_ok, underlying, run_program, hu, Sem.run_pure, run_sizeOf hs]
        simp at hc
        simp [hc]
      · simp at hpl
    · simp at h
  case load t x =>
    split at h
    · rename_i b off hx
      split at h
      · rename_i blk hb
        obtain ⟨y, hy, he⟩ := map_some h
        simp at he; obtain ⟨rfl, rfl, rfl⟩ := he
        refine .pure fun _ W m β₀ β a w hr => ?_
        have := ev_den hr x; rw [hx] at this
        obtain ⟨hlt, e⟩ : Live st.hp b ∧ a.eval x = .pointer (some ⟨β b, off, none⟩) := this
        obtain ⟨val, h1, h2⟩ := run_loadVar (P := P) hr.heap hb hy
        exact ⟨val, by simp [execOp, ho, Instr.loadAt, e, Instr.sureAddr, h1], h2⟩
      · simp at h
    · rename_i b base stride n z hx
      split at h
      · rename_i blk hb
        split at h
        · rename_i items hit
          obtain ⟨y, hy, he⟩ := map_some h
          simp at he; obtain ⟨rfl, rfl, rfl⟩ := he
          refine .pure fun _ W m β₀ β a w hr => ?_
          have := ev_den hr x; rw [hx] at this
          obtain ⟨hlt, hz, e⟩ : Live st.hp b ∧ z.toNat < n ∧ a.eval x = .pointer (some ⟨β b, base + z.toNat * stride, none⟩) := this
          obtain ⟨it, hi1, hi2⟩ := partsEv_get hit hz
          obtain ⟨val, h1, h2⟩ := run_loadVar (P := P) hr.heap hb hi2
          exact ⟨val, by simp [execOp, ho, Instr.loadAt, e, Instr.sureAddr, h1], selV_ok hi1 h2 hy⟩
        · simp at h
      · simp at h
    · simp at h
  case store t x y =>
    split at h
    · rename_i b off l hx hl
      split at h
      · rename_i blk hb
        split at h
        · rename_i hc
          simp at h; obtain ⟨rfl, rfl, rfl⟩ := h
          intro _ W m β₀ β a w hr
          have := ev_den hr x; rw [hx] at this
          obtain ⟨hlt, e⟩ : Live st.hp b ∧ a.eval x = .pointer (some ⟨β b, off, none⟩) := this
          obtain ⟨w', h1, h2⟩ := run_storeVar (P := P) (t := t) hr.heap hb hl hc.1 hc.2 (ev_den hr y)
          refine ⟨β, w', .skip, undef, by simp [execOp, ho, Instr.storeAt, e, Instr.sureAddr, h1], .inr ⟨rfl, rfl⟩, ⟨[], rfl, .nil⟩, h2, fun j hj => ⟨(live_set ⟨blk, hb⟩ _ j).2 hj, rfl⟩⟩
        · simp at h
      · simp at h
    · simp at h
  case nilCheck x =>
    split at h
    · rename_i b off hx
      simp at h; obtain ⟨rfl, rfl, rfl⟩ := h
      refine .pure fun _ W m β₀ β a w hr => ?_
      have := ev_den hr x; rw [hx] at this
      obtain ⟨hlt, e⟩ : Live st.hp b ∧ a.eval x = .pointer (some ⟨β b, off, none⟩) := this
      exact ⟨_, by simp [execOp, ho, e], hlt, rfl⟩
    · simp at h
  case binOp op t x y yt =>
    obtain ⟨r, hr1, he⟩ := map_some h
    simp at he; obtain ⟨rfl, rfl, rfl⟩ := he
    refine .pure fun hq W m β₀ β a w hr => ?_
    obtain ⟨val, e1, e2⟩ := binLV_ok (P := P) (w := w) (ox := x) (oy := y) (s := r.2) (q := r.1) (by rw [hr1]) hq (ev_den hr x) (ev_den hr y)
    refine ⟨val, ?_, e2⟩
    simp only [execOp, ho]
    rw [Sem.run_bind, e1]; rfl
  case unOp op t x =>
    split at h
    · rename_i s h1
      obtain ⟨r, hr1, he⟩ := map_some h
      simp at he; obtain ⟨rfl, rfl, rfl⟩ := he
      refine .pure fun hq W m β₀ β a w hr => ?_
      have hd := opSc_den h1 (ev_den hr x)
      cases s <;> simp only [unEv] at hr1 <;> try (simp at hr1; done)
      · cases op <;> simp at hr1 <;> subst hr1 <;> (have e : a.eval x = _ := hd)
        · exact ⟨_, by simp [execOp, ho, e, Op.unary, Op.intArith]; rfl, by simp only [LV.den, VV.den, SV.den, map2_val]; simp [SI.val]⟩
        · exact ⟨_, by simp only [execOp, ho, e, Op.unary, Op.intBits]; rfl, by simp only [LV.den, VV.den, SV.den, map2_val]; rfl⟩
      · rename_i b
        cases op <;> simp at hr1 <;> subst hr1
        have e : a.eval x = _ := hd
        exact ⟨_, by simp [execOp, ho, e, Op.unary]; rfl, by cases b <;> simp [LV.den, VV.den, SV.den, SB.val]⟩
    · simp at h
  case convert src dst x =>
    split at h
    · rename_i s h1
      obtain ⟨r, hr1, he⟩ := map_some h
      simp at he; obtain ⟨rfl, rfl, rfl⟩ := he
      refine .pure fun hq W m β₀ β a w hr => ?_
      have hd := opSc_den h1 (ev_den hr x)
      cases s with
      | int k0 n0 =>
        simp only [convEv] at hr1
        split at hr1
        · rename_i d k hs hdst
          simp at hr1; subst hr1
          have e : a.eval x = .int k0 n0.val := hd
          refine ⟨.int k (k.wrap n0.val), ?_, ?_⟩
          · simp [execOp, ho, e, convert, run_underlying hs, run_underlying hdst, Conv.intToInt]
          · show Value.int k (k.wrap n0.val) = .int k (wrapI k n0).val
            rw [wrapI_val]
        · simp at hr1
      | _ => simp [convEv] at hr1
    · simp at h
  case sliceToArrayPointer t x =>
    split at h
    · rename_i b off len cap n e hx ha
      split at h
      · rename_i hle
        simp at h; obtain ⟨rfl, rfl, rfl⟩ := h
        refine .pure fun _ W m β₀ β a w hr => ?_
        have := ev_den hr x; rw [hx] at this
        obtain ⟨hlt, ex⟩ : Live st.hp b ∧ a.eval x = .slice (some ⟨β b, off, none⟩) len cap := this
        have hu := arrayT_eq ha
        exact ⟨_, by simp [execOp, ho, ex, Instr.arrayAt, underlying, hu, Nat.not_lt.2 hle], hlt, rfl⟩
      · simp at h
    · simp at h
  case slice t x lo hi mx =>
    split at h
    · rename_i b off n e hx ha
      split at h
      · rename_i l hh mm s hsp hs
        simp at h; obtain ⟨rfl, rfl, rfl⟩ := h
        refine .pure fun _ W m β₀ β a w hr => ?_
        have := ev_den hr x; rw [hx] at this
        obtain ⟨hlt, ex⟩ : Live st.hp b ∧ a.eval x = .pointer (some ⟨β b, off, none⟩) := this
        have hu := arrayT_eq ha
        have hsb := run_slicePart (P := P) (w := w) (β := β) (L := Live st.hp) (isS := false) (lov := lo.map a.eval) (hiv := hi.map a.eval) (mxv := mx.map a.eval) hsp
          (fun y hy => by obtain ⟨z, hz, rfl⟩ := map_some hy; exact ⟨a.eval z, by simp [hz], ev_den hr z⟩) (by cases lo <;> simp)
          (fun y hy => by obtain ⟨z, hz, rfl⟩ := map_some hy; exact ⟨a.eval z, by simp [hz], ev_den hr z⟩) (by cases hi <;> simp) (by cases mx <;> simp)
        refine ⟨.slice (some ⟨β b, if mm = l then off else off + l * s, none⟩) (hh - l) (mm - l), ?_, hlt, rfl⟩
        simp only [execOp, ho, ex, Instr.sliceAt, underlying, Sem.run_bind, run_program, Result.andThen_ok, hu, Instr.sureAddr, Sem.run_pure, hsb, run_sizeOf hs]
        split <;> simp [addr_add]
      · simp at h
    · rename_i b off len cap e hx ha hsl
      split at h
      · rename_i l hh mm s hsp hs
        simp at h; obtain ⟨rfl, rfl, rfl⟩ := h
        refine .pure fun _ W m β₀ β a w hr => ?_
        have := ev_den hr x; rw [hx] at this
        obtain ⟨hlt, ex⟩ : Live st.hp b ∧ a.eval x = .slice (some ⟨β b, off, none⟩) len cap := this
        have hu := sliceT_eq hsl
        have hsb := run_slicePart (P := P) (w := w) (β := β) (L := Live st.hp) (isS := true) (lov := lo.map a.eval) (hiv := hi.map a.eval) (mxv := mx.map a.eval) hsp
          (fun y hy => by obtain ⟨z, hz, rfl⟩ := map_some hy; exact ⟨a.eval z, by simp [hz], ev_den hr z⟩) (by cases lo <;> simp)
          (fun y hy => by obtain ⟨z, hz, rfl⟩ := map_some hy; exact ⟨a.eval z, by simp [hz], ev_den hr z⟩) (by cases hi <;> simp) (by cases mx <;> simp)
        refine ⟨.slice (some ⟨β b, if mm = l then off else off + l * s, none⟩) (hh - l) (mm - l), ?_, hlt, rfl⟩
        simp only [execOp, ho, ex, Instr.sliceAt, Instr.slice, underlying, Sem.run_bind, run_program, Result.andThen_ok, hu, Sem.run_pure, hsb, run_sizeOf hs]
        split <;> simp [addr_add]
      · simp at h
    · simp at h
  case fieldAddr s x f =>
    split at h
    · rename_i b off fs hx hf
      split at h
      · rename_i fd hfd
        split at h
        · rename_i n hn
          split at h
          · simp at h
          · rename_i hn0
            simp at h; obtain ⟨rfl, rfl, rfl⟩ := h
            refine .pure fun _ W m β₀ β a w hr => ?_
            have := ev_den hr x; rw [hx] at this
            obtain ⟨hlt, ex⟩ : Live st.hp b ∧ a.eval x = .pointer (some ⟨β b, off, none⟩) := this
            have hu := fieldsT_eq hf
            have hfd' : fs.toArray[f]? = some fd := by simpa using hfd
            refine ⟨.pointer (some ⟨β b, off + fd.offset, none⟩), ?_, hlt, rfl⟩
            simp only [execOp, ho, ex, Instr.fieldAt, underlying, Sem.run_bind, run_program, Result.andThen_ok, hu, Sem.run_pure, hfd', Instr.sureAddr, fieldPlace, run_sizeOf hn, hn0, if_false, addr_add]
        · simp at h
      · simp at h
    · simp at h
  case field s x f =>
    split at h
    · rename_i l fs hx hf
      split at h
      · rename_i fd hfd
        obtain ⟨y, hy, he⟩ := map_some h
        simp at he; obtain ⟨rfl, rfl, rfl⟩ := he
        refine .pure fun _ W m β₀ β a w hr => ?_
        have := ev_den hr x; rw [hx] at this
        obtain ⟨cs, ex, hd⟩ := this
        have hu := fieldsT_eq hf
        have hfd' : fs.toArray[f]? = some fd := by simpa using hfd
        obtain ⟨val, h1, h2⟩ := run_part (P := P) (w := w) hd hy
        refine ⟨val, ?_, h2⟩
        simp [execOp, ho, ex, Instr.field, underlying, hu, hfd', asAgg, h1]
      · simp at h
    · simp at h
  case indexAddr t x i =>
    obtain ⟨r, hr1, he⟩ := map_some h
    simp at he; obtain ⟨rfl, rfl, rfl⟩ := he
    refine .pure fun hq W m β₀ β a w hr => ?_
    obtain ⟨rq, rs⟩ := r
    unfold idxAddrEv at hr1
    split at hr1
    · rename_i k j hi
      have ei := litNat_den hi (ev_den hr i)
      split at hr1
      · rename_i b off n e hx ha
        split at hr1
        · rename_i s hs
          split at hr1
          · rename_i hj
            simp at hr1; obtain ⟨rfl, rfl⟩ := hr1
            have := ev_den hr x; rw [hx] at this
            obtain ⟨hlt, ex⟩ : Live st.hp b ∧ a.eval x = .pointer (some ⟨β b, off, none⟩) := this
            have hu := arrayT_eq ha
            refine ⟨.pointer (some ⟨β b, off + j * s, none⟩), ?_, hlt, rfl⟩
            have hb : (0 : Int) ≤ j ∧ (j : Int) < n := by omega
            simp [execOp, ho, ex, ei, Instr.indexAt, asIntOf, underlying, hu, Instr.sureAddr, hb, run_sizeOf hs, addr_add]
            omega
          · simp at hr1
        · simp at hr1
      · rename_i b off len cap e hx ha hsl
        split at hr1
        · rename_i s hs
          split at hr1
          · rename_i hj
            simp at hr1; obtain ⟨rfl, rfl⟩ := hr1
            have := ev_den hr x; rw [hx] at this
            obtain ⟨hlt, ex⟩ : Live st.hp b ∧ a.eval x = .slice (some ⟨β b, off, none⟩) len cap := this
            have hu := sliceT_eq hsl
            refine ⟨.pointer (some ⟨β b, off + j * s, none⟩), ?_, hlt, rfl⟩
            have hb : (0 : Int) ≤ j ∧ (j : Int) < len := by omega
            simp [execOp, ho, ex, ei, Instr.indexAt, asIntOf, underlying, hu, Instr.sureAddr, hb, run_sizeOf hs, addr_add]
            omega
          · simp at hr1
        · simp at hr1
      · simp at hr1
    · split at hr1
      · rename_i k z hi
        have ei := symInt_den hi (ev_den hr i)
        split at hr1
        · rename_i b off n e hx ha
          split at hr1
          · rename_i s hs
            simp at hr1; obtain ⟨rfl, rfl⟩ := hr1
            have hb : 0 ≤ z ∧ z < (n : Int) := hq
            have := ev_den hr x; rw [hx] at this
            obtain ⟨hlt, ex⟩ : Live st.hp b ∧ a.eval x = .pointer (some ⟨β b, off, none⟩) := this
            have hu := arrayT_eq ha
            refine ⟨.pointer (some ⟨β b, off + z.toNat * s, none⟩), ?_, hlt, by omega, rfl⟩
            simp [execOp, ho, ex, ei, Instr.indexAt, asIntOf, underlying, hu, Instr.sureAddr, hb, run_sizeOf hs, addr_add]
          · simp at hr1
        · rename_i b off len cap e hx ha hsl
          split at hr1
          · rename_i s hs
            simp at hr1; obtain ⟨rfl, rfl⟩ := hr1
            have hb : 0 ≤ z ∧ z < (len : Int) := hq
            have := ev_den hr x; rw [hx] at this
            obtain ⟨hlt, ex⟩ : Live st.hp b ∧ a.eval x = .slice (some ⟨β b, off, none⟩) len cap := this
            have hu := sliceT_eq hsl
            refine ⟨.pointer (some ⟨β b, off + z.toNat * s, none⟩), ?_, hlt, by omega, rfl⟩
            simp [execOp, ho, ex, ei, Instr.indexAt, asIntOf, underlying, hu, Instr.sureAddr, hb, run_sizeOf hs, addr_add]
          · simp at hr1
        · simp at hr1
      · simp at hr1
  case index t x i =>
    obtain ⟨r, hr1, he⟩ := map_some h
    simp at he; obtain ⟨rfl, rfl, rfl⟩ := he
    refine .pure fun hq W m β₀ β a w hr => ?_
    obtain ⟨rq, rs⟩ := r
    unfold idxEv at hr1
    split at hr1
    · rename_i k j hi
      have ei := litNat_den hi (ev_den hr i)
      split at hr1
      · rename_i l n e hx ha
        split at hr1
        · rename_i s hs
          split at hr1
          · rename_i hj
            obtain ⟨y, hy, he⟩ := map_some hr1
            simp at he; obtain ⟨rfl, rfl⟩ := he
            have := ev_den hr x; rw [hx] at this
            obtain ⟨cs, ex, hd⟩ := this
            have hu := arrayT_eq ha
            obtain ⟨val, h1, h2⟩ := run_part (P := P) (w := w) hd hy
            refine ⟨val, ?_, h2⟩
            have hb : (0 : Int) ≤ j ∧ (j : Int) < n := by omega
            simp [execOp, ho, ex, ei, Instr.index, asIntOf, underlying, hu, hb, run_sizeOf hs, h1]
            omega
          · simp at hr1
        · simp at hr1
      · simp at hr1
    · split at hr1
      · rename_i k z hi
        have ei := symInt_den hi (ev_den hr i)
        split at hr1
        · rename_i l n e hx ha
          split at hr1
          · rename_i s hs
            split at hr1
            · rename_i items hit
              obtain ⟨y, hy, he⟩ := map_some hr1
              simp at he; obtain ⟨rfl, rfl⟩ := he
              have hb : 0 ≤ z ∧ z < (n : Int) := hq
              have := ev_den hr x; rw [hx] at this
              obtain ⟨cs, ex, hd⟩ := this
              have hu := arrayT_eq ha
              obtain ⟨it, hi1, hi2⟩ := partsEv_get hit (j := z.toNat) (by omega)
              rw [Nat.zero_add] at hi2
              obtain ⟨val, h1, h2⟩ := run_part (P := P) (w := w) hd hi2
              refine ⟨val, ?_, selV_ok hi1 h2 hy⟩
              simp [execOp, ho, ex, ei, Instr.index, asIntOf, underlying, hu, hb, run_sizeOf hs, h1]
            · simp at hr1
          · simp at hr1
        · simp at hr1
      · simp at hr1
  case extract x i =>
    split at h
    · rename_i l hx
      obtain ⟨y, hy, he⟩ := map_some h
      simp at he; obtain ⟨rfl, rfl, rfl⟩ := he
      refine .pure fun _ W m β₀ β a w hr => ?_
      have := ev_den hr x; rw [hx] at this
      obtain ⟨cs, ex, hd⟩ := this
      obtain ⟨val, h1, h2⟩ := hd.get hy
      have h1' : cs.toArray[i]? = some val := by simpa using h1
      exact ⟨val, by simp [execOp, ho, ex, Instr.extract, h1'], h2⟩
    · simp at h
end

end Go.Ev
