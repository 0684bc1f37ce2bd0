/- The reader of code: kinds of values of many cells. -/
import Derived.Test.YtndiiabkoeblgaaEvf
import Derived.Laws.Externs
namespace Go.Ev
open Go

/-- a kind of rows of cells -/
structure CC (α : Type) where
  rd : List SV → Option (α × List SV)
  wr : α → List SV
  ok : ∀ {l : List SV} {a : α} {rest : List SV}, rd l = some (a, rest) → ∀ {β : Nat → Nat} {L : Nat → Prop} {cs : List Value}, All2 (SV.den β L) l cs →
    ∃ c1 c2, cs = c1 ++ c2 ∧ All2 (SV.den β L) (wr a) c1 ∧ All2 (SV.den β L) rest c2
  pl : ∀ {l : List SV} {a : α} {rest : List SV}, rd l = some (a, rest) → rest.all SV.plain = true → l.all SV.plain = true
  plain : ∀ a, (wr a).all SV.plain = true

def ccInt (k : IntKind) : CC Int where
  rd l := match l with
    | .int k' n :: r => if k' = k then some (n.val, r) else none
    | _ => none
  wr a := [.int k (.sym a)]
  ok := by
    intro l a rest h β L cs hd
    split at h
    · split at h
      · rename_i hk; subst hk; simp at h; obtain ⟨rfl, rfl⟩ := h
        cases hd with
        | cons h1 h2 => exact ⟨_, _, rfl, .cons h1 .nil, h2⟩
      · simp at h
    · simp at h
  pl := by
    intro l a rest h hr
    split at h
    · split at h
      · simp at h; obtain ⟨_, rfl⟩ := h; simpa [SV.plain] using hr
      · simp at h
    · simp at h
  plain _ := rfl

def ccBool : CC Bool where
  rd l := match l with
    | .bool b :: r => some (b.val, r)
    | _ => none
  wr a := [.bool (.sym a)]
  ok := by
    intro l a rest h β L cs hd
    split at h
    · simp at h; obtain ⟨rfl, rfl⟩ := h
      cases hd with
      | cons h1 h2 => exact ⟨_, _, rfl, .cons h1 .nil, h2⟩
    · simp at h
  pl := by
    intro l a rest h hr
    split at h
    · simp at h; obtain ⟨_, rfl⟩ := h; simpa [SV.plain] using hr
    · simp at h
  plain _ := rfl

def ccUnit : CC Unit where
  rd l := some ((), l)
  wr _ := []
  ok := by intro l a rest h β L cs hd; simp at h; subst h; exact ⟨[], cs, rfl, .nil, hd⟩
  pl := by intro l a rest h hr; simp at h; subst h; exact hr
  plain _ := rfl

def ccPair {α β : Type} (A : CC α) (B : CC β) : CC (α × β) where
  rd l := match A.rd l with
    | some (a, r) => match B.rd r with
      | some (b, r') => some ((a, b), r')
      | none => none
    | none => none
  wr p := A.wr p.1 ++ B.wr p.2
  ok := by
    intro l a rest h β L cs hd
    split at h
    · rename_i x r h1
      split at h
      · rename_i y r' h2
        simp at h; obtain ⟨rfl, rfl⟩ := h
        obtain ⟨c1, c2, rfl, e1, e2⟩ := A.ok h1 hd
        obtain ⟨c3, c4, rfl, e3, e4⟩ := B.ok h2 e2
        exact ⟨c1 ++ c3, c4, by simp, e1.append e3, e4⟩
      · simp at h
    · simp at h
  pl := by
    intro l a rest h hr
    split at h
    · rename_i x r h1
      split at h
      · rename_i y r' h2
        simp at h; obtain ⟨_, rfl⟩ := h
        exact A.pl h1 (B.pl h2 hr)
      · simp at h
    · simp at h
  plain p := by simp only [List.all_append, A.plain, B.plain, Bool.and_self]

/-- n values, one after the other -/
def Vec (α : Type) : Nat → Type
  | 0 => Unit
  | n + 1 => α × Vec α n

def ccVec {α : Type} (A : CC α) : (n : Nat) → CC (Vec α n)
  | 0 => ccUnit
  | n + 1 => ccPair A (ccVec A n)

/-- a value of many cells -/
def cAgg {α : Type} (A : CC α) : Codec α where
  rd x := match x with
    | .agg l => match A.rd l with
      | some (a, []) => some a
      | _ => none
    | _ => none
  wr a := .agg (A.wr a)
  ok := by
    intro x a h β L v hd
    split at h
    · rename_i l
      split at h
      · rename_i a' hr
        simp at h; subst h
        obtain ⟨cs, rfl, hc⟩ := hd
        obtain ⟨c1, c2, rfl, h1, h2⟩ := A.ok hr hc
        cases h2
        exact ⟨_, by rw [List.append_nil], h1⟩
      · simp at h
    · simp at h
  pl := by
    intro x a h
    split at h
    · rename_i l
      split at h
      · rename_i a' hr
        exact A.pl hr rfl
      · simp at h
    · simp at h
  plain a := A.plain a

abbrev cVec (k : IntKind) (n : Nat) : Codec (Vec Int n) := cAgg (ccVec (ccInt k) n)

namespace Vec
variable {α β γ : Type}
def toList : {n : Nat} → Vec α n → List α
  | 0, _ => []
  | _ + 1, v => v.1 :: toList v.2
def map (f : α → β) : {n : Nat} → Vec α n → Vec β n
  | 0, _ => ()
  | _ + 1, v => (f v.1, map f v.2)
def zip (f : α → β → γ) : {n : Nat} → Vec α n → Vec β n → Vec γ n
  | 0, _, _ => ()
  | _ + 1, v, u => (f v.1 u.1, zip f v.2 u.2)
def ofFn : (n : Nat) → (Nat → α) → Vec α n
  | 0, _ => ()
  | n + 1, f => (f 0, ofFn n fun i => f (i + 1))
def get [Inhabited α] : {n : Nat} → Vec α n → Nat → α
  | 0, _, _ => default
  | _ + 1, v, 0 => v.1
  | _ + 1, v, i + 1 => get v.2 i
def ofList [Inhabited α] : (n : Nat) → List α → Vec α n
  | 0, _ => ()
  | n + 1, l => (l.headD default, ofList n l.tail)
theorem toList_length : {n : Nat} → (v : Vec α n) → v.toList.length = n
  | 0, _ => rfl
  | _ + 1, v => by simp [toList, toList_length v.2]
theorem toList_inj : {n : Nat} → {v u : Vec α n} → v.toList = u.toList → v = u
  | 0, _, _, _ => rfl
  | n + 1, v, u, h => by
    simp only [toList, List.cons.injEq] at h
    exact Prod.ext h.1 (toList_inj h.2)
theorem ofList_toList [Inhabited α] : {n : Nat} → (v : Vec α n) → ofList n v.toList = v
  | 0, _ => rfl
  | n + 1, v => by simp only [toList, ofList, List.headD_cons, List.tail_cons, ofList_toList v.2]; rfl
theorem toList_ofList [Inhabited α] : {n : Nat} → (l : List α) → l.length = n → (ofList n l).toList = l
  | 0, l, h => by simp at h; subst h; rfl
  | n + 1, [], h => by simp at h
  | n + 1, x :: l, h => by simp [ofList, toList, toList_ofList l (by simpa using h)]
end Vec

/-! ### Sums and differences with a carry -/
def add64 (x y c : Int) : Int × Int := ((((x.toNat + y.toNat + c.toNat) % 2 ^ 64 : Nat) : Int), (((x.toNat + y.toNat + c.toNat) / 2 ^ 64 : Nat) : Int))
def sub64 (x y b : Int) : Int × Int := ((((x.toNat + 2 ^ 64 - y.toNat - b.toNat) % 2 ^ 64 : Nat) : Int), if x.toNat < y.toNat + b.toNat then 1 else 0)
def zeroLit : LV → Bool
  | .one (.sc (.int _ (.lit n))) => n == 0
  | _ => false
def carryFn (f : Int → Int → Int → Int × Int) : PureFn
  | [x, y, z] => match rd1 (cInt .u64) x, rd1 (cInt .u64) y, rd1 (cInt .u64) z with
    | some a, some b, some c => some (if zeroLit z = true then none else some (0 ≤ c ∧ c ≤ 1), (two (cInt .u64) (cInt .u64)).wr (f a b c))
    | _, _, _ => none
  | _ => none

theorem carryFn_args {f : Int → Int → Int → Int × Int} {args : List LV} {q : Option Prop} {v : LV} (h : carryFn f args = some (q, v)) (hq : needs q) :
    ∃ x y z a b c, args = [x, y, z] ∧ rd1 (cInt .u64) x = some a ∧ rd1 (cInt .u64) y = some b ∧ rd1 (cInt .u64) z = some c ∧ (0 ≤ c ∧ c ≤ 1) ∧ v = (two (cInt .u64) (cInt .u64)).wr (f a b c) := by
  unfold carryFn at h
  split at h
  · rename_i x y z
    split at h
    · rename_i a b c ha hb hc
      simp at h; obtain ⟨h1, rfl⟩ := h
      refine ⟨x, y, z, a, b, c, rfl, ha, hb, hc, ?_, rfl⟩
      split at h1
      · rename_i hz
        unfold zeroLit at hz
        split at hz
        · rename_i k n
          simp at hz; subst hz
          simp only [rd1, cInt] at hc
          split at hc
          · simp [SI.val] at hc; omega
          · simp at hc
        · simp at hz
      · subst h1; exact hq
    · simp at h
  · simp at h

theorem carry_once {P : Program} {f : FuncId} {g : Int → Int → Int → Int × Int} (h : ∀ (a b c : Int) (w : World), 0 ≤ c → c ≤ 1 → (callFunc f #[.int .u64 a, .int .u64 b, .int .u64 c]).run P w = .ok (.value (.tuple #[.int .u64 (g a b c).1, .int .u64 (g a b c).2])) w) :
    RowP P f (carryFn g) := by
  refine row_ext (fun args q v hg hq vals w hv => ?_) fun args q v hg => ?_
  · obtain ⟨x, y, z, a, b, c, rfl, ha, hb, hc, hcc, rfl⟩ := carryFn_args hg hq
    have h0 := hv (fun _ => 0) (fun _ => False)
    cases h0 with
    | cons h1 h0 => cases h0 with
      | cons h2 h0 => cases h0 with
        | cons h3 h0 =>
          cases h0
          have e1 := rd1_ok ha h1
          have e2 := rd1_ok hb h2
          have e3 := rd1_ok hc h3
          simp only [LV.den, VV.den, SV.den, cInt, SI.val] at e1 e2 e3
          subst e1 e2 e3
          exact ⟨_, h a b c w hcc.1 hcc.2, fun β L => ⟨[.int .u64 (g a b c).1, .int .u64 (g a b c).2], rfl, .cons rfl (.cons rfl .nil)⟩⟩
  · unfold carryFn at hg
    split at hg
    · split at hg
      · rename_i a b c ha hb hc
        simp [rd1_pl ha, rd1_pl hb, rd1_pl hc]
      · simp at hg
    · simp at hg

theorem run_three {P : Program} (n : String) (a b c : Int) (w : World) (hc : ¬ c.toNat > 1) :
    (Extern.MathBitsCarry.three n #[.int .u64 a, .int .u64 b, .int .u64 c]).run P w = .ok (a.toNat, b.toNat, c.toNat) w := by
  have e : Extern.MathBitsCarry.three n #[.int .u64 a, .int .u64 b, .int .u64 c] = (do
    let c := (← asInt (.int .u64 c)).toNat
    if c > 1 then unsupported (.noEntry ("extern/math/bits." ++ n ++ ": a carry that is neither 0 nor 1"))
    pure ((← asInt (.int .u64 a)).toNat, (← asInt (.int .u64 b)).toNat, c)) := rfl
  rw [e]
  have hc' : ¬ 1 < c.toNat := hc
  simp [asInt, asIntOf]
  omega

theorem add64_row {P : Program} {f : FuncId} {fn : Func} (hf : P.funcs[f]? = some fn) (hname : (fn.name == "runtime.NumGoroutine") = false) (hb : fn.body.isNone = true) (hn : Extern.findNext fn = none)
    {e : Array Value → Sem Value} (he : Extern.find fn = some e) (hee : e = (Extern.MathBitsCarry.rows.getD 0 ("", fun _ => pure undef)).2) : RowP P f (carryFn add64) := by
  refine carry_once fun a b c w h0 h1 => ?_
  rw [run_callFunc_extern hf hname hb hn he, hee]
  have hc : ¬ c.toNat > 1 := by omega
  simp [Extern.MathBitsCarry.rows, run_three _ _ _ _ _ hc, Extern.MathBitsCarry.pair, Extern.MathBitsCarry.m64, add64]
theorem sub64_row {P : Program} {f : FuncId} {fn : Func} (hf : P.funcs[f]? = some fn) (hname : (fn.name == "runtime.NumGoroutine") = false) (hb : fn.body.isNone = true) (hn : Extern.findNext fn = none)
    {e : Array Value → Sem Value} (he : Extern.find fn = some e) (hee : e = (Extern.MathBitsCarry.rows.getD 1 ("", fun _ => pure undef)).2) : RowP P f (carryFn sub64) := by
  refine carry_once fun a b c w h0 h1 => ?_
  rw [run_callFunc_extern hf hname hb hn he, hee]
  have hc : ¬ c.toNat > 1 := by omega
  simp [Extern.MathBitsCarry.rows, run_three _ _ _ _ _ hc, Extern.MathBitsCarry.pair, Extern.MathBitsCarry.m64, sub64]
  split <;> rfl

end Go.Ev
