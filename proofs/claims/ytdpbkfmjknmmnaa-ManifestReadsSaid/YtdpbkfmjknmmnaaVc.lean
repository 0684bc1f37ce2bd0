/- A reader of code, third make: operations on values; two values of which one is taken; types. -/
import Derived.Test.YtdpbkfmjknmmnaaVb
import Derived.Laws.Small
import Derived.Laws.StructEq
import Derived.ChangeKeysEq
set_option linter.unusedVariables false
set_option linter.unusedSimpArgs false
namespace Go.Ev
open Go

/-! ### Operations on numbers -/
def map2 (f : Int → Int → Int) : SI → SI → SI
  | .lit a, .lit b => .lit (f a b)
  | a, b => .sym (f a.val b.val)
def map2B (f : Int → Int → Bool) : SI → SI → SB
  | .lit a, .lit b => .lit (f a b)
  | a, b => .sym (f a.val b.val)
@[simp] theorem map2_val (f : Int → Int → Int) (a b : SI) : (map2 f a b).val = f a.val b.val := by cases a <;> cases b <;> rfl
@[simp] theorem map2B_val (f : Int → Int → Bool) (a b : SI) : (map2B f a b).val = f a.val b.val := by cases a <;> cases b <;> rfl

def bitAnd (k : IntKind) (x y : Int) : Int := k.wrap (BitVec.ofInt k.bits x &&& BitVec.ofInt k.bits y).toNat
def bitOr (k : IntKind) (x y : Int) : Int := k.wrap (BitVec.ofInt k.bits x ||| BitVec.ofInt k.bits y).toNat
def bitXor (k : IntKind) (x y : Int) : Int := k.wrap (BitVec.ofInt k.bits x ^^^ BitVec.ofInt k.bits y).toNat
def bitAndNot (k : IntKind) (x y : Int) : Int := k.wrap (BitVec.ofInt k.bits x &&& ~~~BitVec.ofInt k.bits y).toNat
def shl (k : IntKind) (x y : Int) : Int := k.wrap (x * 2 ^ (min y.toNat k.bits))
def shr (k : IntKind) (x y : Int) : Int := x.fdiv (2 ^ (min y.toNat k.bits))

/-- an operation on two numbers: what it asks, what it gives -/
def intEv (op : BinOp) (k : IntKind) (a : SI) (b : SI) : Option (Option Prop × SV) :=
  match op with
  | .add => some (none, .int k (map2 (fun x y => k.wrap (x + y)) a b))
  | .sub => some (none, .int k (map2 (fun x y => k.wrap (x - y)) a b))
  | .mul => some (none, .int k (map2 (fun x y => k.wrap (x * y)) a b))
  | .quo => match b with
    | .lit y => if y = 0 then none else some (none, .int k (map2 (fun x y => k.wrap (x.tdiv y)) a b))
    | .sym y => some (some (y ≠ 0), .int k (map2 (fun x y => k.wrap (x.tdiv y)) a b))
  | .rem => match b with
    | .lit y => if y = 0 then none else some (none, .int k (map2 (fun x y => x.tmod y) a b))
    | .sym y => some (some (y ≠ 0), .int k (map2 (fun x y => x.tmod y) a b))
  | .and => some (none, .int k (map2 (bitAnd k) a b))
  | .or => some (none, .int k (map2 (bitOr k) a b))
  | .xor => some (none, .int k (map2 (bitXor k) a b))
  | .andNot => some (none, .int k (map2 (bitAndNot k) a b))
  | .eql => some (none, .bool (map2B (fun x y => x == y) a b))
  | .neq => some (none, .bool (map2B (fun x y => x != y) a b))
  | .lss => some (none, .bool (map2B (fun x y => decide (x < y)) a b))
  | .leq => some (none, .bool (map2B (fun x y => decide (x ≤ y)) a b))
  | .gtr => some (none, .bool (map2B (fun x y => decide (x > y)) a b))
  | .geq => some (none, .bool (map2B (fun x y => decide (x ≥ y)) a b))
  | _ => none

def shiftEv (f : Int → Int → Int) (k : IntKind) (a b : SI) : Option (Option Prop × SV) :=
  match b with
  | .lit y => if y < 0 then none else some (none, .int k (map2 f a b))
  | .sym y => some (some (0 ≤ y), .int k (map2 f a b))

def binEv (P : Program) (op : BinOp) (t : TypeId) : SV → SV → Option (Option Prop × SV)
  | .int k a, .int k' b =>
    match op with
    | .shl => shiftEv (shl k) k a b
    | .shr => shiftEv (shr k) k a b
    | _ => if k = k' then intEv op k a b else none
  | .bool a, .bool b =>
    match op, P.underlying t with
    | .eql, some .bool => some (none, .bool (match a, b with | .lit x, .lit y => .lit (x == y) | a, b => .sym (a.val == b.val)))
    | .neq, some .bool => some (none, .bool (match a, b with | .lit x, .lit y => .lit (!(x == y)) | a, b => .sym (!(a.val == b.val))))
    | _, _ => none
  | .ptr _ _, .con (.pointer none) =>
    match op, P.underlying t with
    | .eql, some (.pointer _) => some (none, .bool (.lit false))
    | .neq, some (.pointer _) => some (none, .bool (.lit true))
    | _, _ => none
  | .con (.pointer none), .con (.pointer none) =>
    match op, P.underlying t with
    | .eql, some (.pointer _) => some (none, .bool (.lit true))
    | .neq, some (.pointer _) => some (none, .bool (.lit false))
    | _, _ => none
  | .slice _ _ _ _, .con (.slice none _ _) =>
    match op, P.underlying t with
    | .eql, some (.slice _) => some (none, .bool (.lit false))
    | .neq, some (.slice _) => some (none, .bool (.lit true))
    | _, _ => none
  | .con (.slice none _ _), .con (.slice none _ _) =>
    match op, P.underlying t with
    | .eql, some (.slice _) => some (none, .bool (.lit true))
    | .neq, some (.slice _) => some (none, .bool (.lit false))
    | _, _ => none
  | _, _ => none

def needs : Option Prop → Prop
  | none => True
  | some p => p

theorem eqGuard_plain {P : Program} {w : World} {op : BinOp} {t : TypeId} {x y : Operand} {a b : Value}
    (ha : ∀ c, a ≠ .agg c) (hi : a ≠ .nilIface) : (eqGuard op t x y a b).run P w = .ok () w := by
  unfold eqGuard
  cases op <;> first
    | rfl
    | (cases a <;> first
        | (exact absurd rfl (ha _))
        | (exact absurd rfl hi)
        | (cases b <;> rfl))

theorem run_equal_of {P : Program} {w : World} {t : TypeId} {x y : Value} {b : Bool} (h : ∀ d, (Op.equalIn (d + 1) t x y).run P w = .ok b w) : (Op.equal t x y).run P w = .ok b w := h 9999

section
variable {P : Program} {w : World} {t : TypeId}
theorem eq_bool {a b : Bool} (hu : P.underlying t = some .bool) : (Op.equal t (.bool a) (.bool b)).run P w = .ok (a == b) w :=
  run_equal_of fun d => by simp [Op.equalIn, run_underlying hu]
theorem eq_ptr_nil {e : TypeId} {p : Addr} (hu : P.underlying t = some (.pointer e)) : (Op.equal t (.pointer (some p)) (.pointer none)).run P w = .ok false w :=
  run_equal_of fun d => by simp [Op.equalIn, run_underlying hu]
theorem eq_nil_nil {e : TypeId} (hu : P.underlying t = some (.pointer e)) : (Op.equal t (.pointer none) (.pointer none)).run P w = .ok true w :=
  run_equal_of fun d => by simp [Op.equalIn, run_underlying hu]
theorem eq_slice_nil {e : TypeId} {p : Addr} {l c l' c' : Nat} (hu : P.underlying t = some (.slice e)) : (Op.equal t (.slice (some p) l c) (.slice none l' c')).run P w = .ok false w :=
  run_equal_of fun d => by simp [Op.equalIn, run_underlying hu]
theorem eq_nils {e : TypeId} {l c l' c' : Nat} (hu : P.underlying t = some (.slice e)) : (Op.equal t (.slice none l c) (.slice none l' c')).run P w = .ok true w :=
  run_equal_of fun d => by simp [Op.equalIn, run_underlying hu]
theorem eql_run {x y : Value} {b : Bool} (hx : binOp .eql t x y = (do pure (.bool (← Op.equal t x y)))) (h : (Op.equal t x y).run P w = .ok b w) : (binOp .eql t x y).run P w = .ok (.bool b) w := by
  rw [hx, Sem.run_bind, h]; rfl
theorem neq_run {x y : Value} {b : Bool} (hx : binOp .neq t x y = (do pure (.bool (!(← Op.equal t x y))))) (h : (Op.equal t x y).run P w = .ok b w) : (binOp .neq t x y).run P w = .ok (.bool (!b)) w := by
  rw [hx, Sem.run_bind, h]; rfl
end

theorem int_ok {P : Program} {w : World} {op : BinOp} {t : TypeId} {k : IntKind} {a b : SI} {β : Env} {L : Nat → Option Kd} {q : Option Prop} {s : SV}
    (h : intEv op k a b = some (q, s)) (hq : needs q) :
    ∃ v, (binOp op t (.int k a.val) (.int k b.val)).run P w = .ok v w ∧ s.den β L v := by
  cases op <;> simp only [intEv] at h <;> try (simp at h; done)
  case quo =>
    cases b with
    | lit y => simp only at h; split at h
               · simp at h
               · rename_i hy; simp at h; obtain ⟨_, rfl⟩ := h
                 exact ⟨_, by simp [binOp, Op.intDiv, SI.val, hy]; rfl, by simp only [SV.den, map2_val]; rfl⟩
    | sym y => simp at h; obtain ⟨rfl, rfl⟩ := h
               have hy : ¬ y = 0 := hq
               exact ⟨_, by simp [binOp, Op.intDiv, SI.val, hy]; rfl, by simp only [SV.den, map2_val]; rfl⟩
  case rem =>
    cases b with
    | lit y => simp only at h; split at h
               · simp at h
               · rename_i hy; simp at h; obtain ⟨_, rfl⟩ := h
                 exact ⟨_, by simp [binOp, Op.intDiv, SI.val, hy]; rfl, by simp only [SV.den, map2_val]; rfl⟩
    | sym y => simp at h; obtain ⟨rfl, rfl⟩ := h
               have hy : ¬ y = 0 := hq
               exact ⟨_, by simp [binOp, Op.intDiv, SI.val, hy]; rfl, by simp only [SV.den, map2_val]; rfl⟩
  all_goals
    simp at h; obtain ⟨_, rfl⟩ := h
    exact ⟨_, by simp [binOp, Op.intArith, Op.intBits, Op.intCmp]; rfl, by simp [SV.den, bitAnd, bitOr, bitXor, bitAndNot]⟩

theorem shift_ok {P : Program} {w : World} {op : BinOp} {t : TypeId} {k k' : IntKind} {a b : SI} {β : Env} {L : Nat → Option Kd} {q : Option Prop} {s : SV} {f : Int → Int → Int}
    (hop : (op = .shl ∧ f = shl k) ∨ (op = .shr ∧ f = shr k)) (h : shiftEv f k a b = some (q, s)) (hq : needs q) :
    ∃ v, (binOp op t (.int k a.val) (.int k' b.val)).run P w = .ok v w ∧ s.den β L v := by
  have key : 0 ≤ b.val → ∃ v, (binOp op t (.int k a.val) (.int k' b.val)).run P w = .ok v w ∧ (SV.int k (map2 f a b)).den β L v := by
    intro hb
    have hb' : ¬ b.val < 0 := by omega
    rcases hop with ⟨rfl, rfl⟩ | ⟨rfl, rfl⟩
    · exact ⟨_, by simp [binOp, Op.shift, hb']; rfl, by simp [SV.den, shl]⟩
    · exact ⟨_, by simp [binOp, Op.shift, hb']; rfl, by simp [SV.den, shr]⟩
  cases b with
  | lit y =>
    simp only [shiftEv] at h
    split at h
    · simp at h
    · simp at h; obtain ⟨_, rfl⟩ := h; exact key (by simp only [SI.val]; omega)
  | sym y =>
    simp only [shiftEv] at h
    simp at h; obtain ⟨rfl, rfl⟩ := h
    exact key hq

theorem bin_ok {P : Program} {w : World} {op : BinOp} {t : TypeId} {ox oy : Operand} {x y : SV} {xv yv : Value} {β : Env} {L : Nat → Option Kd} {q : Option Prop} {s : SV}
    (h : binEv P op t x y = some (q, s)) (hq : needs q) (hx : x.den β L xv) (hy : y.den β L yv) :
    ∃ v, (do eqGuard op t ox oy xv yv; binOp op t xv yv : Sem Value).run P w = .ok v w ∧ s.den β L v := by
  unfold binEv at h
  split at h
  · -- numbers
    rename_i k a k' b
    simp only [SV.den] at hx hy
    subst hx hy
    simp only [Sem.run_bind, eqGuard_plain (P := P) (w := w) (op := op) (t := t) (x := ox) (y := oy) (a := .int k a.val) (b := .int k' b.val) (by simp) (by simp), Result.andThen_ok]
    split at h
    · exact shift_ok (.inl ⟨rfl, rfl⟩) h hq
    · exact shift_ok (.inr ⟨rfl, rfl⟩) h hq
    · split at h
      · rename_i hk; subst hk; exact int_ok h hq
      · simp at h
  · rename_i a b
    simp only [SV.den] at hx hy
    subst hx hy
    simp only [Sem.run_bind, eqGuard_plain (P := P) (w := w) (op := op) (t := t) (x := ox) (y := oy) (a := .bool a.val) (b := .bool b.val) (by simp) (by simp), Result.andThen_ok]
    split at h
    · rename_i hu
      simp at h; obtain ⟨_, rfl⟩ := h
      exact ⟨.bool (a.val == b.val), eql_run rfl (eq_bool hu), by cases a <;> cases b <;> rfl⟩
    · rename_i hu
      simp at h; obtain ⟨_, rfl⟩ := h
      exact ⟨.bool (!(a.val == b.val)), neq_run rfl (eq_bool hu), by cases a <;> cases b <;> rfl⟩
    · simp at h
  · rename_i b o
    simp only [SV.den] at hx hy
    obtain ⟨_, rfl⟩ := hx
    obtain ⟨_, rfl⟩ := hy
    simp only [Sem.run_bind, eqGuard_plain (P := P) (w := w) (op := op) (t := t) (x := ox) (y := oy) (a := .pointer (some ⟨β b, o, none⟩)) (b := .pointer none) (by simp) (by simp), Result.andThen_ok]
    split at h
    · rename_i hu
      simp at h; obtain ⟨_, rfl⟩ := h
      exact ⟨.bool false, eql_run rfl (eq_ptr_nil hu), rfl⟩
    · rename_i hu
      simp at h; obtain ⟨_, rfl⟩ := h
      exact ⟨.bool true, neq_run rfl (eq_ptr_nil hu), rfl⟩
    · simp at h
  · simp only [SV.den] at hx hy
    obtain ⟨_, rfl⟩ := hx
    obtain ⟨_, rfl⟩ := hy
    simp only [Sem.run_bind, eqGuard_plain (P := P) (w := w) (op := op) (t := t) (x := ox) (y := oy) (a := .pointer none) (b := .pointer none) (by simp) (by simp), Result.andThen_ok]
    split at h
    · rename_i hu
      simp at h; obtain ⟨_, rfl⟩ := h
      exact ⟨.bool true, eql_run rfl (eq_nil_nil hu), rfl⟩
    · rename_i hu
      simp at h; obtain ⟨_, rfl⟩ := h
      exact ⟨.bool false, neq_run rfl (eq_nil_nil hu), rfl⟩
    · simp at h
  · rename_i b o l c l' c'
    simp only [SV.den] at hx hy
    obtain ⟨_, rfl⟩ := hx
    obtain ⟨_, rfl⟩ := hy
    simp only [Sem.run_bind, eqGuard_plain (P := P) (w := w) (op := op) (t := t) (x := ox) (y := oy) (a := .slice (some ⟨β b, o, none⟩) l c) (b := .slice none l' c') (by simp) (by simp), Result.andThen_ok]
    split at h
    · rename_i hu
      simp at h; obtain ⟨_, rfl⟩ := h
      exact ⟨.bool false, eql_run rfl (eq_slice_nil hu), rfl⟩
    · rename_i hu
      simp at h; obtain ⟨_, rfl⟩ := h
      exact ⟨.bool true, neq_run rfl (eq_slice_nil hu), rfl⟩
    · simp at h
  · rename_i l c l' c'
    simp only [SV.den] at hx hy
    obtain ⟨_, rfl⟩ := hx
    obtain ⟨_, rfl⟩ := hy
    simp only [Sem.run_bind, eqGuard_plain (P := P) (w := w) (op := op) (t := t) (x := ox) (y := oy) (a := .slice none l c) (b := .slice none l' c') (by simp) (by simp), Result.andThen_ok]
    split at h
    · rename_i hu
      simp at h; obtain ⟨_, rfl⟩ := h
      exact ⟨.bool true, eql_run rfl (eq_nils hu), rfl⟩
    · rename_i hu
      simp at h; obtain ⟨_, rfl⟩ := h
      exact ⟨.bool false, neq_run rfl (eq_nils hu), rfl⟩
    · simp at h
  · simp at h

/-! ### Strings -/
def strEq (l m : List Int) : Bool := (strOf l).toList == (strOf m).toList
/-- a string's bytes -/
def strOfS : SV → Option (List Int)
  | .str l => some l
  | .con (.string s) => some (strInts s)
  | _ => none
theorem strOfS_den {β : Env} {L : Nat → Option Kd} {s : SV} {l : List Int} {v : Value} (h : strOfS s = some l) (hd : s.den β L v) : v = .string (strOf l) := by
  unfold strOfS at h; split at h
  · simp at h; subst h; exact hd
  · simp at h; subst h
    obtain ⟨_, rfl⟩ := hd
    rw [strOf_strInts]
  · cases h
def strEv (op : BinOp) (l m : List Int) : Option SV :=
  match op with
  | .eql => some (.bool (.sym (strEq l m)))
  | .neq => some (.bool (.sym (!strEq l m)))
  | _ => none

/-! ### One of two values -/
/-- both have item i: as a block; as an own slice (its versions there, and here); it was made of nil there -/
structure JC where
  blk : Nat → Bool
  own : Nat → Option (Nat × Nat × Nat)
  nl : Nat → Bool
  nr : Nat → Bool
def joinRow (b : Bool) (J : JC) : SV → SV → Option SV
  | .arr t n l, .arr t' n' l' => if h : t' = t then (if n = n' then some (.arr t n (bif b then l else h ▸ l')) else none) else none
  | _, _ => none
def joinS (b : Bool) (J : JC) : SV → SV → SV
  | .int k x, .int k' y => if k = k' then
      match x, y with
      | .lit x, .lit y => if x = y then .int k (.lit x) else .int k (.sym (bif b then x else y))
      | x, y => .int k (.sym (bif b then x.val else y.val))
    else .junk
  | .bool x, .bool y => match x, y with
    | .lit x, .lit y => if x = y then .bool (.lit x) else .bool (.sym (bif b then x else y))
    | x, y => .bool (.sym (bif b then x.val else y.val))
  | .flt x, .flt y => .flt (bif b then x else y)
  | .str x, .str y => .str (bif b then x else y)
  | .str x, .con (.string y) => .str (bif b then x else strInts y)
  | .con (.string x), .str y => .str (bif b then strInts x else y)
  | .con (.string x), .con (.string y) => if x.data = y.data then .con (.string x) else .str (bif b then strInts x else strInts y)
  | .ptr i o, .ptr i' o' => if i = i' ∧ o = o' ∧ J.blk i = true then .ptr i o else .junk
  | .slice i o l c, .slice i' o' l' c' => if i = i' ∧ o = o' ∧ l = l' ∧ c = c' ∧ J.blk i = true then .slice i o l c else .junk
  | .con (.pointer none), .con (.pointer none) => .con (.pointer none)
  | .con (.slice none l c), .con (.slice none l' c') => if l = l' ∧ c = c' then .con (.slice none l c) else .junk
  | .con .nilIface, .con .nilIface => .con .nilIface
  | .con .nilFunc, .con .nilFunc => .con .nilFunc
  | .rd pm nn t l, .rd pm' nn' t' l' => if h : t' = t then .rd (pm && pm') (nn && nn') t (bif b then l else h ▸ l') else .junk
  | .rd pm _ t l, .con (.slice none 0 0) => .rd pm false t (bif b then l else [])
  | .con (.slice none 0 0), .rd pm _ t l => .rd pm false t (bif b then [] else l)
  | .sl i v, .sl i' v' => if i = i' then match J.own i with
      | some (vx, vy, vz) => if v = vx ∧ v' = vy then .sl i vz else .junk
      | none => .junk
    else .junk
  | .con (.slice none 0 0), .sl i v => match J.own i with
      | some (_, vy, vz) => if J.nl i = true ∧ v = vy then .sl i vz else .junk
      | none => .junk
  | .sl i v, .con (.slice none 0 0) => match J.own i with
      | some (vx, _, vz) => if J.nr i = true ∧ v = vx then .sl i vz else .junk
      | none => .junk
  | .vw i v w z n, .vw i' v' w' z' n' => if i = i' ∧ w = w' then match J.own i with
      | some (vx, vy, vz) => if v = vx ∧ v' = vy then .vw i vz w (bif b then z else z') (bif b then n else n') else .junk
      | none => .junk
    else .junk
  | .vb i o t m z n, .vb i' o' t' m' z' n' => if i = i' ∧ o = o' ∧ t = t' ∧ m = m' ∧ J.blk i = true then .vb i o t m (bif b then z else z') (bif b then n else n') else .junk
  | _, _ => .junk
def joinL (b : Bool) (J : JC) : List SV → List SV → Option (List SV)
  | [], [] => some []
  | x :: l, y :: r => match x, y with
    | .arr t n a, y => match joinRow b J (.arr t n a) y with
      | some z => (joinL b J l r).map (z :: ·)
      | none => none
    | _, .arr _ _ _ => none
    | x, y => (joinL b J l r).map (joinS b J x y :: ·)
  | _, _ => none
def joinW (b : Bool) (J : JC) : VV → VV → Option VV
  | .sc x, .sc y => some (.sc (joinS b J x y))
  | .agg l, .agg r => (joinL b J l r).map .agg
  | _, _ => none
def joinT (b : Bool) (J : JC) : List VV → List VV → Option (List VV)
  | [], [] => some []
  | x :: l, y :: r => match joinW b J x y, joinT b J l r with
    | some z, some m => some (z :: m)
    | _, _ => none
  | _, _ => none
def joinV (b : Bool) (J : JC) : LV → LV → LV
  | .one x, .one y => match joinW b J x y with
    | some z => .one z
    | none => .junk
  | .tup l, .tup r => match joinT b J l r with
    | some z => .tup z
    | none => .junk
  | _, _ => .junk

/-- the left one is there -/
structure JLeft (J : JC) (β : Env) (L₁ L : Nat → Option Kd) : Prop where
  blk : ∀ i, J.blk i = true → L₁ i = some .blk → L i = some .blk
  own : ∀ i x y z, J.own i = some (x, y, z) → L₁ i = some (.own x) ∧ L i = some (.own z)
  nil : ∀ i, J.nl i = true → β.h i = .slice none 0 0
structure JRight (J : JC) (β : Env) (L₁ L : Nat → Option Kd) : Prop where
  blk : ∀ i, J.blk i = true → L₁ i = some .blk → L i = some .blk
  own : ∀ i x y z, J.own i = some (x, y, z) → L₁ i = some (.own y) ∧ L i = some (.own z)
  nil : ∀ i, J.nr i = true → β.h i = .slice none 0 0

theorem joinS_left {J : JC} {β : Env} {L₁ L : Nat → Option Kd} (hJ : JLeft J β L₁ L) {x y : SV} {v : Value} (h : x.den β L₁ v) : (joinS true J x y).den β L v := by
  have h1 := SV.den_oneCell h
  unfold joinS
  split
  · split
    · rename_i hk; subst hk
      split
      · split <;> exact h
      · exact h
    · exact h1
  · split
    · split <;> exact h
    · exact h
  · exact h
  · exact h
  · exact h
  · obtain ⟨_, rfl⟩ := h
    simp only [SV.den, cond_true, strOf_strInts]
  · obtain ⟨_, rfl⟩ := h
    split
    · exact ⟨rfl, rfl⟩
    · simp only [SV.den, cond_true, strOf_strInts]
  · split
    · rename_i e; exact ⟨hJ.blk _ e.2.2 h.1, h.2⟩
    · exact h1
  · split
    · rename_i e; exact ⟨hJ.blk _ e.2.2.2.2 h.1, h.2⟩
    · exact h1
  · exact h
  · split
    · exact h
    · exact h1
  · exact h
  · exact h
  · split
    · rename_i e
      subst e
      obtain ⟨k1, k2, k3⟩ := h
      refine ⟨k1, fun hn => k2 (by simp at hn; exact hn.1), ?_⟩
      rcases k3 with k | ⟨rfl, k⟩ | k
      · exact .inl k
      · exact .inr (.inl ⟨rfl, k⟩)
      · exact .inr (.inr k)
    · exact h1
  · obtain ⟨k1, k2, k3⟩ := h
    exact ⟨k1, fun hn => (by cases hn), k3⟩
  · obtain ⟨_, rfl⟩ := h
    exact ⟨rfl, fun hn => (by cases hn), .inr (.inr ⟨rfl, rfl⟩)⟩
  · split
    · rename_i e; subst e
      split
      · rename_i vx vy vz ho
        split
        · rename_i e; obtain ⟨rfl, rfl⟩ := e
          obtain ⟨k1, c, k2, k3, k4⟩ := h
          obtain ⟨m1, m2⟩ := hJ.own _ _ _ _ ho
          rw [m1] at k2; simp at k2
          exact ⟨k1, vz, m2, Nat.le_refl _, fun _ => k4 k2⟩
        · exact h1
      · exact h1
    · exact h1
  · split
    · rename_i vx vy vz ho
      split
      · rename_i e
        obtain ⟨m1, m2⟩ := hJ.own _ _ _ _ ho
        obtain ⟨_, rfl⟩ := h
        exact ⟨rfl, vz, m2, Nat.le_refl _, fun _ => (hJ.nil _ e.1).symm⟩
      · exact h1
    · exact h1
  · split
    · rename_i vx vy vz ho
      split
      · rename_i e; obtain ⟨_, rfl⟩ := e
        obtain ⟨k1, c, k2, k3, k4⟩ := h
        obtain ⟨m1, m2⟩ := hJ.own _ _ _ _ ho
        rw [m1] at k2; simp at k2
        exact ⟨k1, vz, m2, Nat.le_refl _, fun _ => k4 k2⟩
      · exact h1
    · exact h1
  · split
    · rename_i e; obtain ⟨rfl, rfl⟩ := e
      split
      · rename_i vx vy vz ho
        split
        · rename_i e; obtain ⟨rfl, rfl⟩ := e
          obtain ⟨k1, c, k2, k3, k4⟩ := h
          obtain ⟨m1, m2⟩ := hJ.own _ _ _ _ ho
          rw [m1] at k2; simp at k2
          exact ⟨k1, vz, m2, Nat.le_refl _, fun _ => k4 k2⟩
        · exact h1
      · exact h1
    · exact h1
  · split
    · rename_i e
      obtain ⟨k1, k2⟩ := h
      exact ⟨hJ.blk _ e.2.2.2.2 k1, k2⟩
    · exact h1
  · exact h1

theorem joinS_right {J : JC} {β : Env} {L₁ L : Nat → Option Kd} (hJ : JRight J β L₁ L) {x y : SV} {v : Value} (h : y.den β L₁ v) : (joinS false J x y).den β L v := by
  have h1 := SV.den_oneCell h
  unfold joinS
  split
  · split
    · rename_i hk; subst hk
      split
      · split
        · rename_i e; subst e; exact h
        · exact h
      · exact h
    · exact h1
  · split
    · split
      · rename_i e; subst e; exact h
      · exact h
    · exact h
  · exact h
  · exact h
  · obtain ⟨_, rfl⟩ := h
    simp only [SV.den, cond_false, strOf_strInts]
  · exact h
  · obtain ⟨_, rfl⟩ := h
    split
    · rename_i e; exact ⟨rfl, by congr 1; exact congrArg ByteArray.mk e.symm⟩
    · simp only [SV.den, cond_false, strOf_strInts]
  · split
    · rename_i e; obtain ⟨rfl, rfl, e⟩ := e; exact ⟨hJ.blk _ e h.1, h.2⟩
    · exact h1
  · split
    · rename_i e; obtain ⟨rfl, rfl, rfl, rfl, e⟩ := e; exact ⟨hJ.blk _ e h.1, h.2⟩
    · exact h1
  · exact h
  · split
    · rename_i e; obtain ⟨rfl, rfl⟩ := e; exact h
    · exact h1
  · exact h
  · exact h
  · split
    · rename_i e
      subst e
      obtain ⟨k1, k2, k3⟩ := h
      refine ⟨k1, fun hn => k2 (by simp at hn; exact hn.2), ?_⟩
      rcases k3 with k | ⟨rfl, k⟩ | k
      · exact .inl k
      · exact .inr (.inl ⟨by simp, k⟩)
      · exact .inr (.inr k)
    · exact h1
  · obtain ⟨_, rfl⟩ := h
    exact ⟨rfl, fun hn => (by cases hn), .inr (.inr ⟨rfl, rfl⟩)⟩
  · obtain ⟨k1, k2, k3⟩ := h
    exact ⟨k1, fun hn => (by cases hn), k3⟩
  · split
    · rename_i e; subst e
      split
      · rename_i vx vy vz ho
        split
        · rename_i e; obtain ⟨rfl, rfl⟩ := e
          obtain ⟨k1, c, k2, k3, k4⟩ := h
          obtain ⟨m1, m2⟩ := hJ.own _ _ _ _ ho
          rw [m1] at k2; simp at k2
          exact ⟨k1, vz, m2, Nat.le_refl _, fun _ => k4 k2⟩
        · exact h1
      · exact h1
    · exact h1
  · split
    · rename_i vx vy vz ho
      split
      · rename_i e; obtain ⟨_, rfl⟩ := e
        obtain ⟨k1, c, k2, k3, k4⟩ := h
        obtain ⟨m1, m2⟩ := hJ.own _ _ _ _ ho
        rw [m1] at k2; simp at k2
        exact ⟨k1, vz, m2, Nat.le_refl _, fun _ => k4 k2⟩
      · exact h1
    · exact h1
  · split
    · rename_i vx vy vz ho
      split
      · rename_i e
        obtain ⟨m1, m2⟩ := hJ.own _ _ _ _ ho
        obtain ⟨_, rfl⟩ := h
        exact ⟨rfl, vz, m2, Nat.le_refl _, fun _ => (hJ.nil _ e.1).symm⟩
      · exact h1
    · exact h1
  · split
    · rename_i e; obtain ⟨rfl, rfl⟩ := e
      split
      · rename_i vx vy vz ho
        split
        · rename_i e; obtain ⟨rfl, rfl⟩ := e
          obtain ⟨k1, c, k2, k3, k4⟩ := h
          obtain ⟨m1, m2⟩ := hJ.own _ _ _ _ ho
          rw [m1] at k2; simp at k2
          exact ⟨k1, vz, m2, Nat.le_refl _, fun _ => k4 k2⟩
        · exact h1
      · exact h1
    · exact h1
  · split
    · rename_i e; obtain ⟨rfl, rfl, rfl, rfl, e⟩ := e
      obtain ⟨k1, k2⟩ := h
      exact ⟨hJ.blk _ e k1, k2⟩
    · exact h1
  · exact h1

theorem joinRow_left {J : JC} {β : Env} {L₁ L : Nat → Option Kd} {x y z : SV} {vs : List Value} (hz : joinRow true J x y = some z) (h : x.dens β L₁ vs) : z.dens β L vs := by
  unfold joinRow at hz; split at hz
  · split at hz
    · split at hz
      · simp at hz; subst hz; exact h
      · cases hz
    · cases hz
  · cases hz
theorem joinRow_right {J : JC} {β : Env} {L₁ L : Nat → Option Kd} {x y z : SV} {vs : List Value} (hz : joinRow false J x y = some z) (h : y.dens β L₁ vs) : z.dens β L vs := by
  unfold joinRow at hz; split at hz
  · split at hz
    · rename_i e; subst e
      split at hz
      · rename_i e; subst e; simp at hz; subst hz; exact h
      · cases hz
    · cases hz
  · cases hz
theorem joinL_left {J : JC} {β : Env} {L₁ L : Nat → Option Kd} (hJ : JLeft J β L₁ L) : ∀ {l r z : List SV} {cs : List Value}, joinL true J l r = some z → DenL β L₁ l cs → DenL β L z cs
  | [], [], z, cs, h, hd => by simp [joinL] at h; subst h; cases hd; exact .nil
  | x :: l, y :: r, z, cs, h, hd => by
    simp only [joinL] at h
    cases hd with
    | cons h1 h2 =>
      split at h
      · split at h
        · rename_i z' hz
          obtain ⟨z'', hz', rfl⟩ := Option.map_eq_some_iff.1 h
          exact .cons (joinRow_left hz h1) (joinL_left hJ hz' h2)
        · cases h
      · cases h
      · rename_i hx hy
        obtain ⟨z'', hz', rfl⟩ := Option.map_eq_some_iff.1 h
        obtain ⟨v, rfl, h3⟩ := SV.den_of h1 (fun t n l e => hx t n l e)
        exact DenL.cons1 (joinS_left hJ h3) (joinL_left hJ hz' h2)
  | [], _ :: _, _, _, h, _ => by simp [joinL] at h
  | _ :: _, [], _, _, h, _ => by simp [joinL] at h
theorem joinL_right {J : JC} {β : Env} {L₁ L : Nat → Option Kd} (hJ : JRight J β L₁ L) : ∀ {l r z : List SV} {cs : List Value}, joinL false J l r = some z → DenL β L₁ r cs → DenL β L z cs
  | [], [], z, cs, h, hd => by simp [joinL] at h; subst h; cases hd; exact .nil
  | x :: l, y :: r, z, cs, h, hd => by
    simp only [joinL] at h
    cases hd with
    | cons h1 h2 =>
      split at h
      · split at h
        · rename_i z' hz
          obtain ⟨z'', hz', rfl⟩ := Option.map_eq_some_iff.1 h
          exact .cons (joinRow_right hz h1) (joinL_right hJ hz' h2)
        · cases h
      · cases h
      · rename_i hx hy
        obtain ⟨z'', hz', rfl⟩ := Option.map_eq_some_iff.1 h
        obtain ⟨v, rfl, h3⟩ := SV.den_of h1 (fun t n l e => hy t n l e)
        exact DenL.cons1 (joinS_right hJ h3) (joinL_right hJ hz' h2)
  | [], _ :: _, _, _, h, _ => by simp [joinL] at h
  | _ :: _, [], _, _, h, _ => by simp [joinL] at h

theorem joinW_left {J : JC} {β : Env} {L₁ L : Nat → Option Kd} (hJ : JLeft J β L₁ L) {x y z : VV} {v : Value} (hz : joinW true J x y = some z) (h : x.den β L₁ v) : z.den β L v := by
  unfold joinW at hz
  split at hz
  · simp at hz; subst hz
    exact joinS_left (L₁ := L₁) hJ h
  · obtain ⟨z', hz', rfl⟩ := Option.map_eq_some_iff.1 hz
    obtain ⟨cs, rfl, hd⟩ := h
    exact ⟨cs, rfl, joinL_left hJ hz' hd⟩
  · simp at hz
theorem joinT_left {J : JC} {β : Env} {L₁ L : Nat → Option Kd} (hJ : JLeft J β L₁ L) : ∀ {l r z : List VV} {cs : List Value}, joinT true J l r = some z → All2 (VV.den β L₁) l cs → All2 (VV.den β L) z cs
  | [], [], z, cs, h, hd => by simp [joinT] at h; subst h; cases hd; exact .nil
  | x :: l, y :: r, z, cs, h, hd => by
    simp only [joinT] at h
    split at h
    · rename_i z' m h1 h2
      simp at h; subst h
      cases hd with
      | cons h3 h4 => exact .cons (joinW_left hJ h1 h3) (joinT_left hJ h2 h4)
    · simp at h
  | [], _ :: _, _, _, h, _ => by simp [joinT] at h
  | _ :: _, [], _, _, h, _ => by simp [joinT] at h
theorem joinV_left {J : JC} {β : Env} {L₁ L : Nat → Option Kd} (hJ : JLeft J β L₁ L) {x y : LV} {v : Value} (h : x.den β L₁ v) : (joinV true J x y).den β L v := by
  unfold joinV
  split
  · split
    · rename_i z hz; exact joinW_left hJ hz h
    · trivial
  · split
    · rename_i z hz
      obtain ⟨cs, rfl, hd⟩ := h
      exact ⟨cs, rfl, joinT_left hJ hz hd⟩
    · trivial
  · trivial
theorem joinW_right {J : JC} {β : Env} {L₁ L : Nat → Option Kd} (hJ : JRight J β L₁ L) {x y z : VV} {v : Value} (hz : joinW false J x y = some z) (h : y.den β L₁ v) : z.den β L v := by
  unfold joinW at hz
  split at hz
  · simp at hz; subst hz
    exact joinS_right (L₁ := L₁) hJ h
  · obtain ⟨z', hz', rfl⟩ := Option.map_eq_some_iff.1 hz
    obtain ⟨cs, rfl, hd⟩ := h
    exact ⟨cs, rfl, joinL_right hJ hz' hd⟩
  · simp at hz
theorem joinT_right {J : JC} {β : Env} {L₁ L : Nat → Option Kd} (hJ : JRight J β L₁ L) : ∀ {l r z : List VV} {cs : List Value}, joinT false J l r = some z → All2 (VV.den β L₁) r cs → All2 (VV.den β L) z cs
  | [], [], z, cs, h, hd => by simp [joinT] at h; subst h; cases hd; exact .nil
  | x :: l, y :: r, z, cs, h, hd => by
    simp only [joinT] at h
    split at h
    · rename_i z' m h1 h2
      simp at h; subst h
      cases hd with
      | cons h3 h4 => exact .cons (joinW_right hJ h1 h3) (joinT_right hJ h2 h4)
    · simp at h
  | [], _ :: _, _, _, h, _ => by simp [joinT] at h
  | _ :: _, [], _, _, h, _ => by simp [joinT] at h
theorem joinV_right {J : JC} {β : Env} {L₁ L : Nat → Option Kd} (hJ : JRight J β L₁ L) {x y : LV} {v : Value} (h : y.den β L₁ v) : (joinV false J x y).den β L v := by
  unfold joinV
  split
  · split
    · rename_i z hz; exact joinW_right hJ hz h
    · trivial
  · split
    · rename_i z hz
      obtain ⟨cs, rfl, hd⟩ := h
      exact ⟨cs, rfl, joinT_right hJ hz hd⟩
    · trivial
  · trivial

end Go.Ev
