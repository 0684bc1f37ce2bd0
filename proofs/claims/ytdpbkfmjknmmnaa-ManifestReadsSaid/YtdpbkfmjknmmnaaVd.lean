/- A reader of code, third make: parts of values, equality, one of many, what slices read as. -/
import Derived.Test.YtdpbkfmjknmmnaaVc
set_option linter.unusedVariables false
set_option linter.unusedSimpArgs false
namespace Go.Ev
open Go

/-! ### Numbers that are written out -/
def optNat : SI → Option Nat
  | .lit n => if 0 ≤ n then some n.toNat else none
  | .sym _ => none
theorem optNat_val {i : SI} {n : Nat} (h : optNat i = some n) : i.val = n := by
  cases i with
  | lit k => simp only [optNat] at h; split at h
             · simp at h; simp only [SI.val]; omega
             · cases h
  | sym k => cases h
def litNat (x : LV) : Option (IntKind × Nat) :=
  match x with
  | .one (.sc (.int k n)) => (optNat n).map (k, ·)
  | _ => none
theorem litNat_den {β : Env} {L : Nat → Option Kd} {x : LV} {k : IntKind} {i : Nat} {v : Value} (h : litNat x = some (k, i)) (hd : x.den β L v) : v = .int k i := by
  unfold litNat at h
  split at h
  · rename_i k' n
    obtain ⟨m, h1, h2⟩ := Option.map_eq_some_iff.1 h
    simp at h2; obtain ⟨rfl, rfl⟩ := h2
    have e : v = .int k' n.val := hd
    rw [e, optNat_val h1]
  · cases h
/-- a number, written out or not -/
def anyInt (x : LV) : Option (IntKind × Int) :=
  match x with
  | .one (.sc (.int k n)) => some (k, n.val)
  | _ => none
theorem anyInt_den {β : Env} {L : Nat → Option Kd} {x : LV} {k : IntKind} {i : Int} {v : Value} (h : anyInt x = some (k, i)) (hd : x.den β L v) : v = .int k i := by
  unfold anyInt at h
  split at h
  · simp at h; obtain ⟨rfl, rfl⟩ := h; exact hd
  · simp at h

def opSc : LV → Option SV
  | .one (.sc s) => some s
  | _ => none
theorem opSc_den {β : Env} {L : Nat → Option Kd} {x : LV} {s : SV} {v : Value} (h : opSc x = some s) (hd : x.den β L v) : s.den β L v := by
  unfold opSc at h; split at h
  · simp at h; subst h; exact hd
  · simp at h
theorem map_some {α β : Type} {f : α → β} {x : Option α} {y : β} (h : x.map f = some y) : ∃ a, x = some a ∧ f a = y := Option.map_eq_some_iff.1 h

/-- the cells of a value -/
def cellsOf : LV → Option (List SV)
  | .one (.sc s) => some [s]
  | .one (.agg l) => some l
  | _ => none
theorem oneCell_cells {v : Value} (h : v.oneCell' = true) : v.cells = #[v] := by cases v <;> first | rfl | cases h
theorem cellsOf_den {β : Env} {L : Nat → Option Kd} {x : LV} {l : List SV} {v : Value} (h : cellsOf x = some l) (hd : x.den β L v) : ∃ vs : List Value, v.cells = vs.toArray ∧ DenL β L l vs := by
  unfold cellsOf at h
  split at h
  · rename_i s
    simp at h; subst h
    exact ⟨[v], oneCell_cells (SV.den_oneCell hd), HasL.one (SV.dens_of hd)⟩
  · simp at h; subst h
    obtain ⟨cs, rfl, h⟩ := hd
    exact ⟨cs, rfl, h⟩
  · cases h

/-! ### Types -/
def aggType (P : Program) (t : TypeId) : Option Bool :=
  match P.underlying t with
  | some (.struct _) | some (.array _ _) => some true
  | some _ => some false
  | none => none
def sizeT (P : Program) (t : TypeId) : Option Nat := (P.info? t).map (·.size)
def bytesT (P : Program) (t : TypeId) : Option Nat := (P.info? t).map (·.bytes)
theorem run_isAgg {P : Program} {t : TypeId} {b : Bool} {w : World} (h : aggType P t = some b) : (isAgg t).run P w = .ok b w := by
  unfold aggType at h
  unfold isAgg underlying
  cases hu : P.underlying t with
  | none => simp [hu] at h
  | some d =>
    rw [hu] at h
    cases d <;> simp at h <;> subst h <;> simp [hu]
theorem run_sizeOf {P : Program} {t : TypeId} {n : Nat} {w : World} (h : sizeT P t = some n) : (sizeOf t).run P w = .ok n w := by
  unfold sizeT at h
  unfold sizeOf typeInfo
  cases hi : P.info? t with
  | none => simp [hi] at h
  | some i => simp [hi] at h; subst h; simp [hi]
def fieldsT (P : Program) (t : TypeId) : Option (List Field) :=
  match P.underlying t with
  | some (.struct fs) => some fs.toList
  | _ => none
def arrayT (P : Program) (t : TypeId) : Option (Nat × TypeId) :=
  match P.underlying t with
  | some (.array n e) => some (n, e)
  | _ => none
def sliceT (P : Program) (t : TypeId) : Option TypeId :=
  match P.underlying t with
  | some (.slice e) => some e
  | _ => none
theorem fieldsT_eq {P : Program} {t : TypeId} {fs : List Field} (h : fieldsT P t = some fs) : P.underlying t = some (.struct fs.toArray) := by
  unfold fieldsT at h; split at h
  · rename_i f hu; simp at h; subst h; simpa using hu
  · simp at h
theorem arrayT_eq {P : Program} {t e : TypeId} {n : Nat} (h : arrayT P t = some (n, e)) : P.underlying t = some (.array n e) := by
  unfold arrayT at h; split at h
  · rename_i f hu; simp at h; obtain ⟨rfl, rfl⟩ := h; simpa using hu
  · simp at h
theorem sliceT_eq {P : Program} {t e : TypeId} (h : sliceT P t = some e) : P.underlying t = some (.slice e) := by
  unfold sliceT at h; split at h
  · rename_i f hu; simp at h; subst h; simpa using hu
  · simp at h
/-- the shape of a type's elements -/
def tyOf (P : Program) : Nat → TypeId → Option Ty
  | 0, _ => none
  | f + 1, t => match P.underlying t with
    | some (.int k) => some (.int k)
    | some .bool => some .bool
    | some (.float .f64) => some .flt
    | some .string => some .str
    | some (.slice e) => (tyOf P f e).map .sl
    | some (.array n e) => (tyOf P f e).map (.arr · n)
    | some (.struct fs) => match optAll (fun fd : Field => tyOf P f fd.type) fs.toList with
      | some (x :: l) => some (l.foldr (fun a (g : Ty → Ty) b => .pair b (g a)) id x)
      | _ => none
    | _ => none

/-- which cells of a type are rows of numbers -/
def layout (P : Program) : Nat → TypeId → Option (List (Option (IntKind × Nat)))
  | 0, _ => none
  | f + 1, t => match P.underlying t with
    | some (.array n e) => (match P.underlying e with
      | some (.int k) => if 32 < n then some [some (k, n)] else some (List.replicate n none)
      | _ => (layout P f e).map fun l => (List.replicate n l).flatten)
    | some (.struct fs) => (optAll (fun fd : Field => layout P f fd.type) fs.toList).map List.flatten
    | some _ => some [none]
    | none => none
def isZero (k : IntKind) : Value → Bool
  | .int k' n => k' == k && n == 0
  | _ => false
def zeroBy : List (Option (IntKind × Nat)) → List Value → Option (List SV)
  | [], [] => some []
  | none :: r, v :: vs => match SV.ofVal v, zeroBy r vs with
    | some s, some l => some (s :: l)
    | _, _ => none
  | some (k, n) :: r, vs => if (vs.take n).length = n ∧ (vs.take n).all (isZero k) = true then (zeroBy r (vs.drop n)).map (SV.arr (.int k) n (List.replicate n (0 : Int)) :: ·) else none
  | _, _ => none
theorem zeros_has {β : Env} {k : IntKind} : ∀ {vs : List Value} {n : Nat}, vs.length = n → vs.all (isZero k) = true → HasL ((Ty.int k).has β true) (List.replicate n (0 : Int)) vs
  | [], _, h, _ => by simp at h; subst h; exact .nil
  | v :: vs, n, h, ha => by
    cases n with
    | zero => simp at h
    | succ n =>
      simp only [List.all_cons, Bool.and_eq_true] at ha
      have hv : v = .int k 0 := by
        unfold isZero at ha
        split at ha
        · simp at ha; rw [ha.1.1, ha.1.2]
        · simp at ha
      rw [List.replicate_succ]
      exact HasL.cons (vs := [v]) (by rw [hv]; rfl) (zeros_has (by simpa using h) ha.2)
theorem zeroBy_ok {β : Env} {L : Nat → Option Kd} : ∀ (lay : List (Option (IntKind × Nat))) (vs : List Value) {l : List SV}, zeroBy lay vs = some l → DenL β L l vs
  | [], [], _, h => by simp [zeroBy] at h; subst h; exact .nil
  | [], _ :: _, _, h => by simp [zeroBy] at h
  | none :: r, [], _, h => by simp [zeroBy] at h
  | none :: r, v :: vs, l, h => by
    simp only [zeroBy] at h
    split at h
    · rename_i s l' h1 h2
      simp at h; subst h
      exact DenL.cons1 (SV.ofVal_den h1) (zeroBy_ok r vs h2)
    · cases h
  | some (k, n) :: r, vs, l, h => by
    simp only [zeroBy] at h
    split at h
    · rename_i hc
      obtain ⟨l', h1, rfl⟩ := map_some h
      have := HasL.cons (R := SV.dens β L) (x := .arr (.int k) n (List.replicate n (0 : Int))) (vs := vs.take n) ⟨by simp, zeros_has hc.1 hc.2⟩ (zeroBy_ok r (vs.drop n) h1)
      rwa [List.take_append_drop] at this
    · cases h
def zeroT (P : Program) (t : TypeId) : Option (List SV) :=
  match P.info? t, layout P 8 t with
  | some i, some lay => match i.zero with
    | some z => zeroBy lay z.cells.toList
    | none => none
  | _, _ => none
theorem run_zero {P : Program} {t : TypeId} {l : List SV} {w : World} {β : Env} {L : Nat → Option Kd} (h : zeroT P t = some l) :
    ∃ z : Value, (zeroValue t).run P w = .ok z w ∧ DenL β L l z.cells.toList := by
  unfold zeroT at h
  unfold zeroValue typeInfo
  split at h
  · rename_i i lay hi _
    split at h
    · rename_i z hz
      exact ⟨z, by simp [hi, hz], zeroBy_ok _ _ h⟩
    · cases h
  · cases h

/-! ### Parts -/
/-- a part of a list of cells, as a value of a type -/
def partEv (P : Program) (t : TypeId) (l : List SV) (off : Nat) : Option VV :=
  match aggType P t, sizeT P t with
  | some true, some n => (subL l off n).map .agg
  | some false, some _ => (elemL l off).map .sc
  | _, _ => none
theorem run_part {P : Program} {w : World} {β : Env} {L : Nat → Option Kd} {t : TypeId} {l : List SV} {cs : List Value} {off : Nat} {x : VV} (hd : DenL β L l cs) (hx : partEv P t l off = some x) :
    ∃ v, (part t cs.toArray off).run P w = .ok v w ∧ x.den β L v := by
  unfold partEv at hx
  unfold part
  split at hx
  · rename_i k ha hn
    obtain ⟨s, hs, rfl⟩ := map_some hx
    obtain ⟨pre, mid, post, rfl, e1, e2, h3⟩ := subL_ok hs hd
    simp only [Sem.run_bind, run_isAgg ha, Result.andThen_ok, if_true, run_sizeOf hn]
    refine ⟨.agg mid.toArray, ?_, mid, rfl, h3⟩
    have : ((pre ++ (mid ++ post)).toArray.extract off (off + k)) = mid.toArray := by
      apply Array.ext'
      subst e1 e2
      simp
    rw [this]; rfl
  · rename_i k ha hn
    obtain ⟨s, hs, rfl⟩ := map_some hx
    obtain ⟨v, hv, hr⟩ := elemL_ok _ _ hs hd
    refine ⟨v, ?_, hr⟩
    have : cs.toArray[off]? = some v := by simpa using hv
    simp only [Sem.run_bind, run_isAgg ha, Result.andThen_ok]
    simp [this]
  · simp at hx
theorem run_loadPart {P : Program} {w : World} {β : Env} {L : Nat → Option Kd} {t : TypeId} {l : List SV} {vs : List Value} {off : Nat} {x : VV} {a : Addr} (hs : a.spot = none) (hh : HoldsAt w a vs) (hd : DenL β L l vs) (hx : partEv P t l off = some x) :
    ∃ v, (loadVar t (a.add off)).run P w = .ok v w ∧ x.den β L v := by
  unfold partEv at hx
  unfold loadVar
  split at hx
  · rename_i k ha hn
    obtain ⟨s, hs', rfl⟩ := map_some hx
    obtain ⟨pre, mid, post, rfl, e1, e2, h3⟩ := subL_ok hs' hd
    simp only [Sem.run_bind, run_isAgg ha, Result.andThen_ok, if_true, run_sizeOf hn]
    have h4 := run_loadRow (P := P) (HoldsAt.mid hs hh)
    rw [e1, e2] at h4
    rw [h4]
    exact ⟨_, rfl, mid, rfl, h3⟩
  · rename_i k ha hn
    obtain ⟨s, hs', rfl⟩ := map_some hx
    obtain ⟨v, hv, hr⟩ := elemL_ok _ _ hs' hd
    refine ⟨v, ?_, hr⟩
    simp only [Sem.run_bind, run_isAgg ha, Result.andThen_ok]
    simp [hh _ _ hv]
  · simp at hx

/-- where the parts of a literal stand -/
def placesT (P : Program) (t : TypeId) : Option (Nat → Option (Nat × Nat)) :=
  match P.underlying t with
  | some (.struct fs) => (optAll (fun f => (sizeT P f.type).map (f.offset, ·)) fs.toList).map fun l i => l[i]?
  | some (.array _ e) => (sizeT P e).map fun s i => some (i * s, s)
  | _ => none
def fillEv (place : Nat → Option (Nat × Nat)) : List SV → List (Nat × LV) → Option (List SV)
  | cells, [] => some cells
  | cells, (i, x) :: rest =>
    match place i, cellsOf x with
    | some (off, size), some l => if wL l = size then match putL cells off l with
        | some c => fillEv place c rest
        | none => none
      else none
    | _, _ => none
theorem fold_put : ∀ (ys pre old post : List Value), old.length = ys.length → ∀ (k off : Nat), pre.length = off + k →
    (ys.zipIdx k).foldl (fun (cs : Array Value) (p : Value × Nat) => cs.setIfInBounds (off + p.2) p.1) (pre ++ (old ++ post)).toArray = (pre ++ (ys ++ post)).toArray
  | [], pre, old, post, hl, k, off, _ => by
    have : old = [] := List.eq_nil_of_length_eq_zero (by simpa using hl)
    subst this; rfl
  | y :: ys, pre, o :: old, post, hl, k, off, hp => by
    have h1 : (pre ++ (o :: old ++ post)).toArray.setIfInBounds (off + k) y = ((pre ++ [y]) ++ (old ++ post)).toArray := by
      rw [← hp]
      simp
    rw [List.zipIdx_cons, List.foldl_cons, h1, fold_put ys (pre ++ [y]) old post (by simpa using hl) (k + 1) off (by simp; omega)]
    simp
  | _ :: _, _, [], _, hl, _, _, _ => by simp at hl
theorem fill_ok {β : Env} {L : Nat → Option Kd} {place : Nat → Option (Nat × Nat)} :
    ∀ (parts : List (Nat × LV)) (vparts : List (Nat × Value)) (cells : List SV) (cs : List Value) (l : List SV),
      DenL β L cells cs → All2 (fun (p : Nat × LV) (r : Nat × Value) => p.1 = r.1 ∧ p.2.den β L r.2) parts vparts → fillEv place cells parts = some l →
      ∃ c : List Value, Instr.fill place cs.toArray vparts = some c.toArray ∧ DenL β L l c
  | [], vparts, cells, cs, l, hc, hp, h => by
    cases hp
    simp [fillEv] at h; subst h
    exact ⟨cs, rfl, hc⟩
  | (i, x) :: rest, _, cells, cs, l, hc, .cons (b := (i', y)) (m := rs) h1 h2, h => by
    obtain ⟨e, hd⟩ := h1
    simp only at e hd; subst e
    simp only [fillEv] at h
    split at h
    · rename_i off size l' hpl hx
      split at h
      · rename_i hw
        split at h
        · rename_i c' hput
          obtain ⟨ys, hys, hdy⟩ := cellsOf_den hx hd
          obtain ⟨pre, old, post, rfl, e1, e2, h3⟩ := putL_ok _ _ hput _ _ hc hdy
          obtain ⟨c, h4, h5⟩ := fill_ok rest rs c' _ l h3 h2 h
          refine ⟨c, ?_, h5⟩
          simp only [Instr.fill, hpl, hys]
          have hyl : ys.length = size := by rw [hdy.length, hw]
          rw [if_neg (by simp; omega), ← h4]
          congr 1
          have := fold_put ys pre old post e2 0 off (by omega)
          rw [← this, ← Array.foldl_toList]
          simp
        · cases h
      · cases h
    · cases h
theorem run_mapM_places {P : Program} {w : World} : ∀ (fs : List Field) (l : List (Nat × Nat)), optAll (fun f => (sizeT P f.type).map (f.offset, ·)) fs = some l →
    (fs.mapM (fun f => do pure (f.offset, ← sizeOf f.type) : Field → Sem (Nat × Nat))).run P w = .ok l w
  | [], l, h => by simp [optAll] at h; subst h; simp
  | f :: fs, l, h => by
    simp only [optAll] at h
    split at h
    · rename_i y l' h1 h2
      simp at h; subst h
      obtain ⟨s, hs, rfl⟩ := map_some h1
      have := run_mapM_places (P := P) (w := w) fs l' h2
      simp only [List.mapM_cons, Sem.run_bind, run_sizeOf hs, Result.andThen_ok, Sem.run_pure, this]
    · simp at h

/-! ### Equality of whole values -/
def eqAll {α : Type} (f : α → Option Bool) : List α → Option Bool
  | [] => some true
  | x :: l => match f x, eqAll f l with
    | some a, some b => some (a && b)
    | _, _ => none
/-- two rows of numbers -/
def rowEq (P : Program) (n : Nat) (e : TypeId) : List SV → List SV → Option Bool
  | [.arr (.int k) n1 x], [.arr (.int k') n2 y] => match P.underlying e with
    | some (.int _) => if k = k' ∧ n1 = n ∧ n2 = n ∧ aggType P e = some false ∧ sizeT P e = some 1 then some (decide ((x : List Int) = y)) else none
    | _ => none
  | _, _ => none
def eqEv (P : Program) : Nat → TypeId → VV → VV → Option Bool
  | 0, _, _, _ => none
  | d + 1, t, x, y => match x, y with
    | .sc (.int k a), .sc (.int k' b) => (match P.underlying t with
      | some (.int _) => if k = k' then some (a.val == b.val) else none
      | _ => none)
    | .sc (.bool a), .sc (.bool b) => (match P.underlying t with
      | some .bool => some (a.val == b.val)
      | _ => none)
    | .agg l, .agg r => (match P.underlying t with
      | some (.struct fs) => if P.stoodInHeld t = false then
          eqAll (fun f : Field => if f.name = "_" then none else match partEv P f.type l f.offset, partEv P f.type r f.offset with
            | some a, some b => eqEv P d f.type a b
            | _, _ => none) fs.toList
        else none
      | some (.array n e) => match rowEq P n e l r with
        | some b => some b
        | none => match sizeT P e with
          | some s => eqAll (fun i => match partEv P e l (i * s), partEv P e r (i * s) with
              | some a, some b => eqEv P d e a b
              | _, _ => none) (List.range n)
          | none => none
      | _ => none)
    | _, _ => none

theorem sizeT_cells {P : Program} {t : TypeId} {n : Nat} (h : sizeT P t = some n) : P.cellsOf t = n := by
  unfold sizeT at h; unfold Program.cellsOf; rw [h]; rfl
theorem sizeT_info {P : Program} {t : TypeId} {n : Nat} (h : sizeT P t = some n) : ∃ i, P.info? t = some i := by
  unfold sizeT at h; cases hi : P.info? t with
  | none => simp [hi] at h
  | some i => exact ⟨i, rfl⟩

theorem ints_has {β : Env} {k : IntKind} {pm : Bool} : ∀ {l : List Int} {vs : List Value}, HasL ((Ty.int k).has β pm) l vs → vs = l.map (.int k)
  | [], _, h => by cases h; rfl
  | x :: l, _, .cons (vs := vs) h t => by
    have e : vs = [.int k x] := h
    rw [e, ints_has t]; rfl
theorem all_range_eq {x y : List Int} {n : Nat} (hx : x.length = n) (hy : y.length = n) : (List.range n).all (fun i => x.getD i 0 == y.getD i 0) = decide (x = y) := by
  rw [Bool.eq_iff_iff]
  simp only [List.all_eq_true, List.mem_range, beq_iff_eq, decide_eq_true_eq]
  constructor
  · intro h
    apply List.ext_getElem (by omega)
    intro i h1 h2
    have := h i (by omega)
    simpa [List.getD, h1, h2] using this
  · intro h; subst h; intro i _; rfl
theorem rowEq_ok {P : Program} {w : World} {β : Env} {L : Nat → Option Kd} {n d : Nat} {e : TypeId} {l r : List SV} {b : Bool} (h : rowEq P n e l r = some b) {xs ys : List Value} (hx : DenL β L l xs) (hy : DenL β L r ys) :
    (Op.eqItems (d + 1) e (P.cellsOf e) xs.toArray ys.toArray (List.range n)).run P w = .ok b w := by
  unfold rowEq at h
  split at h
  · rename_i k n1 x k' n2 y
    split at h
    · rename_i k0 hu
      split at h
      · rename_i hc
        obtain ⟨rfl, rfl, rfl, ha, hs⟩ := hc
        simp at h; subst h
        obtain ⟨hx1, hx2⟩ := HasL.of_one hx
        obtain ⟨hy1, hy2⟩ := HasL.of_one hy
        have ex := ints_has hx2
        have ey := ints_has hy2
        subst ex ey
        rw [← all_range_eq hx1 hy1, sizeT_cells hs]
        have key : ∀ (fl : List Nat), (∀ i ∈ fl, i < n2) → (Op.eqItems (d + 1) e 1 (x.map (Value.int k)).toArray (y.map (Value.int k)).toArray fl).run P w = .ok (fl.all fun i => x.getD i 0 == y.getD i 0) w := by
          intro fl
          induction fl with
          | nil => intro _; simp [Op.eqItems]
          | cons i fl ih =>
            intro hi
            have hi0 := hi i (by simp)
            have hp : ∀ (z : List Int), z.length = n2 → (part e (z.map (Value.int k)).toArray i).run P w = .ok (.int k (z.getD i 0)) w := by
              intro z hz
              unfold part
              simp only [Sem.run_bind, run_isAgg ha, Result.andThen_ok]
              have hlt : i < z.length := by omega
              simp [List.getD, hlt]
            simp only [Op.eqItems, Sem.run_bind, Nat.mul_one, hp x hx1, hp y hy1, Result.andThen_ok, Op.equalIn, run_underlying hu, if_true, Sem.run_pure, List.all_cons]
            cases hb : (x.getD i 0 == y.getD i 0)
            · simp
            · simpa using ih fun j hj => hi j (by simp [hj])
        exact key _ fun i hi => by simpa using hi
      · cases h
    · cases h
  · cases h

theorem eqEv_ok {P : Program} {w : World} {β : Env} {L : Nat → Option Kd} : ∀ (d : Nat) (t : TypeId) (x y : VV) (b : Bool), eqEv P d t x y = some b →
    ∀ (xv yv : Value), x.den β L xv → y.den β L yv → ∀ k, (Op.equalIn (k + 1 + d) t xv yv).run P w = .ok b w
  | 0, _, _, _, _, h => by simp [eqEv] at h
  | d + 1, t, x, y, b, h => by
    intro xv yv hx hy k
    simp only [eqEv] at h
    split at h
    · rename_i k1 a k2 c
      have e1 : xv = .int k1 a.val := hx
      have e2 : yv = .int k2 c.val := hy
      subst e1 e2
      split at h
      · rename_i hu
        split at h
        · rename_i hkk
          subst hkk
          simp at h; subst h
          show (Op.equalIn (k + 1 + d + 1) t _ _).run P w = _
          simp [Op.equalIn, run_underlying hu]
        · simp at h
      · simp at h
    · rename_i a c
      have e1 : xv = .bool a.val := hx
      have e2 : yv = .bool c.val := hy
      subst e1 e2
      split at h
      · rename_i hu
        simp at h; subst h
        show (Op.equalIn (k + 1 + d + 1) t _ _).run P w = _
        simp [Op.equalIn, run_underlying hu]
      · simp at h
    · rename_i l r
      obtain ⟨xs, rfl, hxs⟩ := hx
      obtain ⟨ys, rfl, hys⟩ := hy
      show (Op.equalIn (k + 1 + d + 1) t _ _).run P w = _
      split at h
      · rename_i fs hu
        split at h
        · rename_i hst
          have hfo : P.fieldsOf t = fs := by unfold Program.fieldsOf; rw [hu]
          rw [run_equalIn_struct w (k + 1 + d) t _ _ (by rw [hfo]; exact hu) hst, hfo]
          clear hu hst hfo
          generalize fs.toList = fl at h
          induction fl generalizing b with
          | nil => simp [eqAll] at h; subst h; simp [Op.eqFields]
          | cons f fl ih =>
            simp only [eqAll] at h
            split at h
            · rename_i a c ha hc
              simp at h; subst h
              split at ha
              · simp at ha
              · rename_i hnm
                split at ha
                · rename_i p1 p2 hp1 hp2
                  obtain ⟨v1, e1, e2⟩ := run_part (P := P) (w := w) hxs hp1
                  obtain ⟨v2, e3, e4⟩ := run_part (P := P) (w := w) hys hp2
                  have := eqEv_ok (w := w) d f.type p1 p2 a ha v1 v2 e2 e4 k
                  simp only [Op.eqFields, ne_eq, hnm, not_false_eq_true, if_true, Sem.run_bind, e1, e3, this, Result.andThen_ok]
                  cases a
                  · simp
                  · simpa using ih c hc
                · simp at ha
            · simp at h
        · simp at h
      · rename_i n e hu
        split at h
        · rename_i b' hrow
          simp at h; subst h
          have hi : ∃ i, P.info? e = some i := by
            unfold rowEq at hrow
            split at hrow
            · split at hrow
              · split at hrow
                · rename_i hc; exact sizeT_info hc.2.2.2.2
                · cases hrow
              · cases hrow
            · cases hrow
          obtain ⟨i, hi⟩ := hi
          rw [run_equalIn_array w (k + 1 + d) _ _ hu hi]
          rw [show k + 1 + d = k + d + 1 from by omega]
          exact rowEq_ok hrow hxs hys
        · split at h
          · rename_i s hs
            obtain ⟨i, hi⟩ := sizeT_info hs
            rw [run_equalIn_array w (k + 1 + d) _ _ hu hi, sizeT_cells hs]
            generalize List.range n = fl at h
            induction fl generalizing b with
            | nil => simp [eqAll] at h; subst h; simp [Op.eqItems]
            | cons j fl ih =>
              simp only [eqAll] at h
              split at h
              · rename_i a c ha hc
                simp at h; subst h
                split at ha
                · rename_i p1 p2 hp1 hp2
                  obtain ⟨v1, e1, e2⟩ := run_part (P := P) (w := w) hxs hp1
                  obtain ⟨v2, e3, e4⟩ := run_part (P := P) (w := w) hys hp2
                  have := eqEv_ok (w := w) d e p1 p2 a ha v1 v2 e2 e4 k
                  simp only [Op.eqItems, Sem.run_bind, e1, e3, this, Result.andThen_ok]
                  cases a
                  · simp
                  · simpa using ih c hc
                · simp at ha
              · simp at h
          · simp at h
      · simp at h
    · simp at h

/-- an operation on two values -/
def binLV (P : Program) (op : BinOp) (t : TypeId) (x y : LV) : Option (Option Prop × SV) :=
  match opSc x, opSc y with
  | some a, some b => (match strOfS a, strOfS b with
    | some l, some m => (strEv op l m).map fun s => (none, s)
    | _, _ => binEv P op t a b)
  | _, _ => match x, y with
    | .one (.agg l), .one (.agg r) => if P.eqGuardType P.depth t = false then
        match op with
        | .eql => (eqEv P 12 t (.agg l) (.agg r)).map fun b => (none, .bool (.sym b))
        | .neq => (eqEv P 12 t (.agg l) (.agg r)).map fun b => (none, .bool (.sym (!b)))
        | _ => none
      else none
    | _, _ => none

theorem binLV_ok {P : Program} {w : World} {op : BinOp} {t : TypeId} {ox oy : Operand} {x y : LV} {xv yv : Value} {β : Env} {L : Nat → Option Kd} {q : Option Prop} {s : SV}
    (h : binLV P op t x y = some (q, s)) (hq : needs q) (hx : x.den β L xv) (hy : y.den β L yv) :
    ∃ v, (do eqGuard op t ox oy xv yv; binOp op t xv yv : Sem Value).run P w = .ok v w ∧ s.den β L v := by
  unfold binLV at h
  split at h
  · rename_i a b ha hb
    split at h
    · rename_i l m hl hm
      obtain ⟨r, hr, he⟩ := map_some h
      simp at he; obtain ⟨_, rfl⟩ := he
      have e1 := strOfS_den hl (opSc_den ha hx)
      have e2 := strOfS_den hm (opSc_den hb hy)
      subst e1 e2
      rw [Sem.run_bind, eqGuard_plain (by simp) (by simp)]
      cases op <;> simp [strEv] at hr <;> subst hr
      · exact ⟨.bool (strEq l m), by simp [binOp, Op.stringOp, strEq], rfl⟩
      · exact ⟨.bool (!strEq l m), by simp [binOp, Op.stringOp, strEq], rfl⟩
    · exact bin_ok h hq (opSc_den ha hx) (opSc_den hb hy)
  · split at h
    · rename_i l r _
      split at h
      · rename_i hg
        have hx' : (VV.agg l).den β L xv := hx
        have hy' : (VV.agg r).den β L yv := hy
        obtain ⟨xs, rfl, hxs⟩ := hx
        obtain ⟨ys, rfl, hys⟩ := hy
        split at h
        · obtain ⟨b, hb, he⟩ := Option.map_eq_some_iff.1 h
          simp at he; obtain ⟨_, rfl⟩ := he
          have := eqEv_ok (w := w) 12 t _ _ b hb _ _ hx' hy' 9987
          refine ⟨.bool b, ?_, rfl⟩
          rw [Sem.run_bind, run_eqGuard_agg w .eql t ox oy _ _ hg]
          simp only [Result.andThen_ok, run_eql_struct, this]
        · obtain ⟨b, hb, he⟩ := Option.map_eq_some_iff.1 h
          simp at he; obtain ⟨_, rfl⟩ := he
          have := eqEv_ok (w := w) 12 t _ _ b hb _ _ hx' hy' 9987
          refine ⟨.bool (!b), ?_, rfl⟩
          rw [Sem.run_bind, run_eqGuard_agg w .neq t ox oy _ _ hg]
          simp only [Result.andThen_ok, run_neq_struct, this]
        · simp at h
      · simp at h
    · simp at h

end Go.Ev
