/- A reader of code, third make: the operations. -/
import Derived.Test.YtdpbkfmjknmmnaaVe
set_option linter.unusedVariables false
set_option linter.unusedSimpArgs false
namespace Go.Ev
open Go

/-- what is asked, the value, the items that turn or come -/
abbrev Stp := Option (Option Prop × LV × List (Nat × Item))
def applyD : List (Nat × Item) → Hp → Hp
  | [], hp => hp
  | (i, x) :: d, hp => applyD d (setAt hp i x)

def wrapI (k : IntKind) : SI → SI
  | .lit x => .lit (k.wrap x)
  | .sym x => .sym (k.wrap x)
theorem wrapI_val (k : IntKind) (n : SI) : (wrapI k n).val = k.wrap n.val := by cases n <;> rfl
def unEv (op : UnOp) : SV → Option SV
  | .int k n => match op with
    | .neg => some (.int k (map2 (fun x y => k.wrap (x - y)) (.lit 0) n))
    | .xor => some (.int k (map2 (bitXor k) (.lit (if k.signed then -1 else k.max)) n))
    | _ => none
  | .bool b => match op with
    | .not => some (.bool (match b with | .lit x => .lit (!x) | .sym x => .sym (!x)))
    | _ => none
  | _ => none
/-- the shape of a slice's elements -/
def contTy : SV → Ask (Option Ty)
  | .rd _ _ t _ => .ret (some t)
  | .sl i _ => .get i fun x => .ret (match x with | some (.own _ t _) => some t | _ => none)
  | .vw i _ _ _ _ => .get i fun x => .ret (match x with | some (.own _ t _) => some t | _ => none)
  | .vb _ _ t _ _ _ => .ret (some t)
  | _ => .ret none
/-- shape and content -/
def contOf (s : SV) : Ask (Option (Bool × (t : Ty) × List t.D)) :=
  (contTy s).bind fun o => match o with
    | some t => (contAs t s).map fun c => c.map fun p => (p.1, ⟨t, p.2⟩)
    | none => .ret none
/-- the element type fits the shape -/
def fits (P : Program) (e : TypeId) (t : Ty) : Bool := decide (tyOf P 8 e = some t) && decide (sizeT P e = some t.w)
def boundEv (d : Int) : Option LV → Option Int
  | none => some d
  | some x => (anyInt x).map (·.2)
def slicePart (len cap : Nat) (lo hi mx : Option LV) : Option (Nat × Nat × Nat) :=
  match mx with
  | some _ => none
  | none =>
    let h : Option Nat := match hi with
      | none => some len
      | some x => match litNat x with
        | some (_, h) => if h ≤ cap then some h else none
        | none => none
    match h with
    | none => none
    | some h => match lo with
      | none => some (0, h, cap)
      | some x => match litNat x with
        | some (_, l) => if l ≤ h then some (l, h, cap) else none
        | none => none
/-- a part of a slice -/
def subS (w : Nat) (x y : Int) : SV → Option SV
  | .rd pm _ t l => some (.rd pm false t ((l.drop x.toNat).take (y - x).toNat))
  | .sl i ver => some (.vw i ver w x (y - x))
  | .vw i ver w z _ => some (.vw i ver w (z + x) (y - x))
  | .vb b o t m z _ => some (.vb b o t m (z + x) (y - x))
  | _ => none

def trivJ : JC := ⟨fun _ => true, fun _ => none, fun _ => false, fun _ => false⟩

/-- a value loaded -/
def loadEv (P : Program) (t : TypeId) : SV → Ask Stp
  | .ptr b off => .get b fun x => .ret (match x with
    | some (.blk cells _) => (partEv P t cells off).map fun x => (none, .one x, [])
    | _ => none)
  | .ptrx b base stride n z => .get b fun x => .ret (match x with
    | some (.blk cells _) => match partsEv P t cells base stride n with
      | some items => (selV z items).map fun x => (none, .one x, [])
      | none => none
    | _ => none)
  | .ep s w z f => (contOf s).map fun c => match c with
    | some (pm, ⟨ty, l⟩) => if w = ty.w then
        (match arrayT P t with
         | some (n, e) => if fits P e ty = true ∧ tyOf P 8 t ≠ some ty ∧ f = 0 ∧ (pm || ty.flat) = true ∧ aggType P t = some true ∧ sizeT P t = some (n * ty.w) then some (some (z.toNat + n ≤ l.length), .one (.agg [.arr ty n ((l.drop z.toNat).take n)]), [])
             else (partEv P t (ty.svs pm (l.getD z.toNat ty.z)) f).map fun x => (none, .one x, [])
         | none => (partEv P t (ty.svs pm (l.getD z.toNat ty.z)) f).map fun x => (none, .one x, []))
      else none
    | none => none
  | _ => .ret none

/-- an element with new cells in it -/
def newElem (t : Ty) (x : t.D) (f : Nat) (l : List SV) : Option t.D :=
  if f = 0 ∧ wL l = t.w then t.read true l else match putL (t.svs true x) f l with
    | some c => t.read true c
    | none => none
def setRowAt : List SV → Nat → SV → Option (List SV)
  | [], _, _ => none
  | .arr t n l :: r, off, s => if off = 0 then some (s :: r) else if n * t.w ≤ off then (setRowAt r (off - n * t.w) s).map (.arr t n l :: ·) else none
  | _ :: _, 0, _ => none
  | x :: r, off + 1, s => (setRowAt r off s).map (x :: ·)
def storeEv (P : Program) (t : TypeId) (a : SV) (l : List SV) : Ask Stp :=
  if sizeT P t = some (wL l) then
    match a with
    | .ptr b off => .get b fun x => .ret (match x with
      | some (.blk cells elem) => (putL cells off l).map fun c => (none, .tup [], [(b, .blk c elem)])
      | _ => none)
    | .ep (.sl i ver) w z f => .get i fun x => .ret (match x with
      | some (.own ver' ty m) => if ver = ver' ∧ w = ty.w then (newElem ty (m.getD z.toNat ty.z) f l).map fun y => (none, .tup [], [(i, .own ver' ty (m.set z.toNat y))]) else none
      | _ => none)
    | .ep (.vw i ver w' z' _) w z f => .get i fun x => .ret (match x with
      | some (.own ver' ty m) => if ver = ver' ∧ w = ty.w ∧ w' = ty.w then (newElem ty (m.getD (z'.toNat + z.toNat) ty.z) f l).map fun y => (none, .tup [], [(i, .own ver' ty (m.set (z'.toNat + z.toNat) y))]) else none
      | _ => none)
    | .ep (.vb b o ty n z' _) w z f => .get b fun x => .ret (match x with
      | some (.blk cells elem) => match rowAt cells o with
        | some (.arr ty' n' m) => if ty' = ty ∧ n' = n ∧ w = ty'.w then match newElem ty' (m.getD (z'.toNat + z.toNat) ty'.z) f l with
            | some y => (setRowAt cells o (.arr ty' n' (m.set (z'.toNat + z.toNat) y))).map fun c => (none, .tup [], [(b, .blk c elem)])
            | none => none
          else none
        | _ => none
      | _ => none)
    | _ => .ret none
  else .ret none

/-- an element's address -/
def idxAddrEv (P : Program) (t : TypeId) (x : SV) (i : LV) : Ask Stp :=
  match x, arrayT P t, sliceT P t with
  | .ptr b off, some (n, e), _ => match sizeT P e with
    | some s => match litNat i with
      | some (_, j) => .ret (if j < n then some (none, .one (.sc (.ptr b (off + j * s))), []) else none)
      | none => match anyInt i with
        | some (_, z) => .get b fun y => .ret (match y with
          | some (.blk cells _) => match rowAt cells off with
            | some (.arr ty n' _) => if n' = n ∧ s = ty.w then some (some (0 ≤ z ∧ z < n), .one (.sc (.ep (.vb b off ty n 0 n) s z 0)), []) else none
            | _ => some (some (0 ≤ z ∧ z < n), .one (.sc (.ptrx b off s n z)), [])
          | _ => none)
        | none => .ret none
    | none => .ret none
  | .slice b off len _, none, some e => .ret (match sizeT P e with
    | some s => match litNat i with
      | some (_, j) => if j < len then some (none, .one (.sc (.ptr b (off + j * s))), []) else none
      | none => match anyInt i with
        | some (_, z) => some (some (0 ≤ z ∧ z < len), .one (.sc (.ptrx b off s len z)), [])
        | none => none
    | none => none)
  | x, none, some e => (contOf x).map fun c => match c, sizeT P e, anyInt i with
    | some (_, ⟨ty, l⟩), some s, some (_, z) => if s = ty.w then some (some (0 ≤ z ∧ z < l.length), .one (.sc (.ep x s z 0)), []) else none
    | _, _, _ => none
  | _, _, _ => .ret none

def idxEv (P : Program) (t : TypeId) (x i : LV) : Option (Option Prop × VV) :=
  match x, arrayT P t with
  | .one (.agg l), some (n, e) => match sizeT P e with
    | some s => match litNat i with
      | some (_, j) => if j < n then (partEv P e l (j * s)).map fun x => (none, x) else none
      | none => match anyInt i with
        | some (_, z) => match l with
          | [.arr ty n' m] => if n' = n ∧ s = ty.w then (partEv P e (ty.svs true (m.getD z.toNat ty.z)) 0).map fun x => (some (0 ≤ z ∧ z < n), x) else none
          | _ => match partsEv P e l 0 s n with
            | some items => (selV z items).map fun x => (some (0 ≤ z ∧ z < n), x)
            | none => none
        | none => none
    | none => none
  | _, _ => none

def convEv (P : Program) (id : Nat) (src dst : TypeId) (x : SV) : Ask Stp :=
  match P.underlying src, P.underlying dst with
  | some _, some (.int k) => .ret (match x with
    | .int _ n => some (none, .one (.sc (.int k (wrapI k n))), [])
    | _ => none)
  | some (.slice e), some .string => match P.underlying e with
    | some (.int .u8) => (contAs (.int .u8) x).map fun c => c.map fun c => (none, .one (.sc (.str c.2)), [])
    | _ => .ret none
  | some .string, some .string => .ret (match strOfS x with
    | some l => some (none, .one (.sc (.str l)), [])
    | none => none)
  | some .string, some (.slice e) => .ret (match P.underlying e, strOfS x with
    | some (.int .u8), some l => if sizeT P e = some 1 then some (none, .one (.sc (.sl id 0)), [(id, .own 0 (.int .u8) (l.map fun n => ((UInt8.ofNat n.toNat).toNat : Int)))]) else none
    | _, _ => none)
  | some (.slice _), some (.slice e) => match x with
    | .sl i ver => if src = dst then match P.underlying e with
        | some (.int .u8) => .get i fun y => .ret (match y with
          | some (.own ver' (.int .u8) l) => if ver = ver' ∧ l ≠ [] then some (none, .one (.sc (.sl i ver)), [(i, .own ver' (.int .u8) l)]) else none
          | _ => none)
        | _ => .ret none
      else .ret none
    | _ => .ret none
  | _, _ => .ret none

/-- a slice's nilness -/
def nilEv : SV → Option Bool
  | .rd _ true _ _ => some false
  | .slice _ _ _ _ => some false
  | .con (.slice none _ _) => some true
  | _ => none
def nilCmp (P : Program) (op : BinOp) (t : TypeId) (x y : LV) : Option Bool :=
  match op, x, y, sliceT P t with
  | .eql, .one (.sc (.rd pm true ty l)), .one (.sc (.con (.slice none _ _))), some _ => some false
  | .neq, .one (.sc (.rd pm true ty l)), .one (.sc (.con (.slice none _ _))), some _ => some true
  | _, _, _, _ => none

def opEv (P : Program) (id : Nat) (e : Operand → LV) : Op → Ask Stp
  | .move x | .assign x => .ret (some (none, e x, []))
  | .pick c a b => .ret (match e c with
    | .one (.sc (.bool (.lit t))) => some (none, if t then e a else e b, [])
    | .one (.sc (.bool (.sym t))) => match e a, e b with
      | .one x, .one y => some (none, joinV t trivJ (.one x) (.one y), [])
      | .one x, _ => some (some (t = true), .one x, [])
      | _, .one y => some (some (t = false), .one y, [])
      | _, _ => none
    | _ => none)
  | .alloc t => .ret ((zeroT P t).map fun l => (none, .one (.sc (.ptr id 0)), [(id, .blk l t)]))
  | .box t x => .ret ((cellsOf (e x)).map fun l => (none, .one (.sc (.ptr id 0)), [(id, .blk l t)]))
  | .build t parts => .ret (match zeroT P t, placesT P t with
    | some z, some place => (fillEv place z (parts.toList.map fun p => (p.1, e p.2))).map fun l => (none, .one (.agg l), [])
    | _, _ => none)
  | .buildSlice t len parts => .ret (match sliceT P t with
    | some el => match sizeT P el, zeroT P el with
      | some s, some z => if len * s ≤ 16777216 ∧ wL z = s ∧ 0 < s then match fillEv (fun i => some (i * s, s)) ((List.replicate len z).flatten) (parts.toList.map fun p => (p.1, e p.2)) with
          | some l => match tyOf P 8 el with
            | some ty => if ty.w = s then match readN (ty.read true) ty.w len l with
                | some xs => some (none, .one (.sc (.sl id 0)), [(id, .own 0 ty xs)])
                | none => some (none, .one (.sc (.slice id 0 len len)), [(id, .blk l el)])
              else none
            | none => some (none, .one (.sc (.slice id 0 len len)), [(id, .blk l el)])
          | none => none
        else none
      | _, _ => none
    | none => none)
  | .load t a => match opSc (e a) with
    | some a => loadEv P t a
    | none => .ret none
  | .store t a x => match opSc (e a), cellsOf (e x) with
    | some a, some l => storeEv P t a l
    | _, _ => .ret none
  | .nilCheck x => .ret (match e x with
    | .one (.sc (.ptr b off)) => some (none, .one (.sc (.ptr b off)), [])
    | .one (.sc (.ep s w z f)) => some (none, .one (.sc (.ep s w z f)), [])
    | _ => none)
  | .binOp op t x y _ => .ret (match nilCmp P op t (e x) (e y) with
    | some b => some (none, .one (.sc (.bool (.lit b))), [])
    | none => (binLV P op t (e x) (e y)).map fun r => (r.1, .one (.sc r.2), []))
  | .unOp op _ x => .ret (match opSc (e x) with
    | some a => (unEv op a).map fun r => (none, .one (.sc r), [])
    | none => none)
  | .convert src dst x => match opSc (e x) with
    | some a => convEv P id src dst a
    | none => .ret none
  | .sliceToArrayPointer t x => match opSc (e x), arrayT P t with
    | some (.slice b off len _), some (n, _) => .ret (if n ≤ len then some (none, .one (.sc (.ptr b off)), []) else none)
    | some s, some (n, el) => (contOf s).map fun c => match c with
      | some (_, ⟨ty, l⟩) => if 0 < n ∧ sizeT P el = some ty.w then some (some (n ≤ l.length), .one (.sc (.ep s ty.w 0 0)), []) else none
      | none => none
    | _, _ => .ret none
  | .slice t x lo hi mx => match opSc (e x), arrayT P t, sliceT P t with
    | some (.ptr b off), some (n, el), _ => .get b fun y => .ret (match y, sizeT P el with
      | some (.blk cells _), some s => match rowAt cells off with
        | some (.arr ty n' _) => (match mx, boundEv 0 (lo.map e), boundEv n (hi.map e) with
          | none, some x, some y => if n' = n ∧ s = ty.w then some (some (0 ≤ x ∧ x ≤ y ∧ y ≤ n), .one (.sc (.vb b off ty n x (y - x))), []) else none
          | _, _, _ => none)
        | _ => (slicePart n n (lo.map e) (hi.map e) (mx.map e)).map fun r => (none, .one (.sc (.slice b (if r.2.2 = r.1 then off else off + r.1 * s) (r.2.1 - r.1) (r.2.2 - r.1))), [])
      | _, _ => none)
    | some (.slice b off len cap), none, some el => .ret (match slicePart len cap (lo.map e) (hi.map e) (mx.map e), sizeT P el with
      | some (l, h, m), some s => some (none, .one (.sc (.slice b (if m = l then off else off + l * s) (h - l) (m - l))), [])
      | _, _ => none)
    | some s, none, some el => (contOf s).map fun c => match c, sizeT P el with
      | some (_, ⟨ty, l⟩), some sz => (match mx, boundEv 0 (lo.map e), boundEv l.length (hi.map e) with
        | none, some x, some y => if sz = ty.w then (subS sz x y s).map fun r => (some (0 ≤ x ∧ x ≤ y ∧ y ≤ l.length), .one (.sc r), []) else none
        | _, _, _ => none)
      | _, _ => none
    | _, _, _ => .ret none
  | .fieldAddr s x f => .ret (match opSc (e x), fieldsT P s with
    | some a, some fs => match fs[f]? with
      | some fd => match sizeT P fd.type with
        | some n => if n = 0 then none else match a with
          | .ptr b off => some (none, .one (.sc (.ptr b (off + fd.offset))), [])
          | .ep s w z f0 => some (none, .one (.sc (.ep s w z (f0 + fd.offset))), [])
          | _ => none
        | none => none
      | none => none
    | _, _ => none)
  | .field s x f => .ret (match e x, fieldsT P s with
    | .one (.agg l), some fs => match fs[f]? with
      | some fd => (partEv P fd.type l fd.offset).map fun x => (none, .one x, [])
      | none => none
    | _, _ => none)
  | .indexAddr t x i => match opSc (e x) with
    | some a => idxAddrEv P t a (e i)
    | none => .ret none
  | .index t x i => .ret ((idxEv P t (e x) (e i)).map fun r => (r.1, .one r.2, []))
  | .extract x i => .ret (match e x with
    | .tup l => (l[i]?).map fun x => (none, .one x, [])
    | _ => none)
  | .makeSlice t n c => .ret (match sliceT P t, anyInt (e n), anyInt (e c) with
    | some el, some (_, n), some (_, c) => match tyOf P 8 el, sizeT P el, zeroT P el, bytesT P el with
      | some ty, some s, some z, some by_ => if s = ty.w ∧ 0 < s ∧ wL z = s then match ty.read true z with
          | some z => some (some (c = n ∧ 0 ≤ n ∧ by_ * n ≤ 2 ^ 46 ∧ n ≤ 2 ^ 46), .one (.sc (.sl id 0)), [(id, .own 0 ty (List.replicate n.toNat z))])
          | none => none
        else none
      | _, _, _, _ => none
    | _, _, _ => none)
  | _ => .ret none

/-- what an operation without a call does -/
def OpOk (P : Program) (o : Oper) (st : St) (q : Option Prop) (v : LV) (d : List (Nat × Item)) : Prop :=
  needs q → ∀ (W : World) (hp₀ : Hp) (β₀ β : Env) (a : Act) (w : World), Rel W hp₀ β₀ β st a w →
    ∃ (β' : Env) (w' : World) (r : Next) (val : Value), (execOp a.eval o).run P w = .ok r w' ∧ (r = .value val ∨ (r = .skip ∧ val = undef)) ∧ v.den β' (kd (applyD d st.hp)) val ∧
      HRel W hp₀ β₀ β' (applyD d st.hp) w' ∧ Agree β β' (kd st.hp) (kd (applyD d st.hp))
theorem OpOk.pure {P : Program} {o : Oper} {st : St} {q : Option Prop} {v : LV}
    (h : needs q → ∀ (W : World) (hp₀ : Hp) (β₀ β : Env) (a : Act) (w : World), Rel W hp₀ β₀ β st a w →
      ∃ val : Value, (execOp a.eval o).run P w = .ok (.value val) w ∧ v.den β (kd st.hp) val) : OpOk P o st q v [] :=
  fun hq W hp₀ β₀ β a w hr => let ⟨val, h1, h2⟩ := h hq W hp₀ β₀ β a w hr; ⟨β, w, _, val, h1, .inl rfl, h2, hr.heap, Agree.refl _ _⟩

def ev (st : St) : Operand → LV
  | .tmp t => st.fr.getD t .junk
  | .const v => LV.ofVal v
  | .func f => .one (.sc (.con (.func (.func f) #[] #[])))
  | .global _ => .junk
theorem ev_den {W : World} {hp₀ : Hp} {β₀ β : Env} {st : St} {a : Act} {w : World} (h : Rel W hp₀ β₀ β st a w) (x : Operand) : (ev st x).den β (kd st.hp) (a.eval x) := by
  cases x with
  | tmp t =>
    simp only [ev, Act.eval]
    cases hs : st.fr[t]? with
    | none => simp [List.getD, hs, LV.den]
    | some y =>
      obtain ⟨v, hv, hr⟩ := h.fr.get hs
      have e : a.tmps.getD t undef = v := by
        have : a.tmps[t]? = some v := by simpa using hv
        simp [Array.getD_eq_getD_getElem?, this]
      rw [e]
      simpa [List.getD, hs] using hr
  | const v => exact LV.ofVal_den v
  | func f => exact ⟨rfl, rfl⟩
  | global g => trivial
end Go.Ev
