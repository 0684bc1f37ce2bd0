/- The reader of code: a function with a loop of many rounds. -/
import Derived.Test.YtndiiabkoeblgaaEvg
namespace Go.Ev
open Go

def chain : List Code → Code → Code
  | [], c => c
  | x :: l, c => .seq x (chain l c)
def cfst : Code → Code
  | .seq a _ => a
  | c => c
def csnd : Code → Code
  | .seq _ b => b
  | c => c
def cinn : Code → Code
  | .block _ c => c
  | .loop c => c
  | c => c
def bodyOf (fn : Func) : Code := fn.body.getD .skip
/-- the first n parts of a piece of code, and what is behind them -/
def cparts : Nat → Code → List Code
  | 0, _ => []
  | n + 1, c => cfst c :: cparts n (csnd c)
def crest : Nat → Code → Code
  | 0, c => c
  | n + 1, c => crest n (csnd c)

def execL (P : Program) (G : Gam) (m : Hp) : List Code → St → Option St
  | [], st => some st
  | c :: l, st => match exec P G m c st with
    | .leaf .normal s => execL P G m l s
    | _ => none
def cutR (keep : List Bool) (n : Nat) : Res → Option St
  | .leaf .normal s => some (s.cut keep n)
  | _ => none
def cutX (keep : List Bool) (n i : Nat) : Res → Option St
  | .leaf (.exit j) s => if j = i then some (s.cut keep n) else none
  | _ => none

section
variable {P : Program} {G : Gam} {m : Hp}

theorem Ex.chain (hG : GOk P G) (hmix : P.follows .mixedOrders = true) : ∀ {l : List Code} {c : Code} {st s : St} {r : Res}, execL P G m l st = some s → Ex P m c s r → Ex P m (chain l c) st r
  | [], c, st, s, r, h, hx => by simp [execL] at h; subst h; exact hx
  | x :: l, c, st, s, r, h, hx => by
    simp only [execL] at h
    split at h
    · rename_i s1 h1
      exact Ex.seq (.of_exec hG hmix h1) (Ex.chain hG hmix h hx)
    · simp at h

theorem ex_cutR (hG : GOk P G) (hmix : P.follows .mixedOrders = true) {keep : List Bool} {n : Nat} (hm : m.length ≤ n) {c : Code} {st s : St} (h : cutR keep n (exec P G m c st) = some s) : Ex P m c st (.leaf .normal s) := by
  unfold cutR at h
  split at h
  · rename_i s1 h1
    simp at h; subst h
    exact (Ex.of_exec hG hmix h1).cut keep n hm
  · simp at h
theorem ex_cutX (hG : GOk P G) (hmix : P.follows .mixedOrders = true) {keep : List Bool} {n i : Nat} (hm : m.length ≤ n) {c : Code} {st s : St} (h : cutX keep n i (exec P G m c st) = some s) : Ex P m c st (.leaf (.exit i) s) := by
  unfold cutX at h
  split at h
  · rename_i j s1 h1
    split at h
    · rename_i hj; subst hj
      simp at h; subst h
      exact (Ex.of_exec hG hmix h1).cut keep n hm
    · simp at h
  · simp at h

/-- a loop, and what is ahead of it -/
theorem ex_looped (hG : GOk P G) (hmix : P.follows .mixedOrders = true) {pre : List Code} {c2 L c3 : Code} {i : Nat} {st : St} {keep : List Bool} {h n : Nat} (hm : m.length ≤ h) (S : Nat → St)
    (h0 : (execL P G m (pre ++ [c2]) st).map (St.cut keep h) = some (S 0))
    (hr : ∀ k, k < n → cutR keep h (exec P G m L (S k)) = some (S (k + 1))) {s' : St} (hx : cutX keep h i (exec P G m L (S n)) = some s') {r : Res} (h3 : Ex P m c3 s' r) :
    Ex P m (chain pre (.seq (.seq c2 (.block i (.loop L))) c3)) st r := by
  obtain ⟨s, hs, he⟩ := Option.map_eq_some_iff.1 h0
  have hloop : Ex P m (.block i (.loop L)) s (.leaf .normal s') := by
    refine Ex.from_cut (keep := keep) (n := h) ?_ hm
    rw [he]
    have := (Ex.loop n S (fun k hk => ex_cutR hG hmix hm (hr k hk)) (ex_cutX hG hmix hm hx)).block (id := i)
    simpa [Res.block] using this
  have key : ∀ (pre : List Code) (st : St), execL P G m (pre ++ [c2]) st = some s → Ex P m (Go.Ev.chain pre (.seq (.seq c2 (.block i (.loop L))) c3)) st r := by
    intro pre
    induction pre with
    | nil =>
      intro st hs
      simp only [List.nil_append, execL] at hs
      split at hs
      · rename_i s1 h1
        simp at hs; subst hs
        exact Ex.seq (Ex.seq (.of_exec hG hmix h1) hloop) h3
      · simp at hs
    | cons x pre ih =>
      intro st hs
      simp only [List.cons_append, execL] at hs
      split at hs
      · rename_i s1 h1
        exact Ex.seq (.of_exec hG hmix h1) (ih s1 hs)
      · simp at hs
  exact key pre st hs

/-- a function with a loop of a known number of rounds -/
theorem gives_looped {f : FuncId} {fn : Func} (hG : GOk P G) (hmix : P.follows .mixedOrders = true) (hf : P.funcs[f]? = some fn) {args : List LV} {pre : List Code} {c2 L c3 : Code} {i : Nat}
    (hb : fn.body = some (chain pre (.seq (.seq c2 (.block i (.loop L))) c3))) (keep : List Bool) (h n : Nat) (S : Nat → St)
    (h0 : (execL P G [] (pre ++ [c2]) (entry fn args [])).map (St.cut keep h) = some (S 0))
    (hr : ∀ k, k < n → cutR keep h (exec P G [] L (S k)) = some (S (k + 1))) {s' : St} (hx : cutX keep h i (exec P G [] L (S n)) = some s')
    {v : LV} (h3 : (((exec P G [] c3 s').ends P fn []).one).map (fun p => (p.1, p.2.fr.map LV.norm)) = some (none, [v])) : Gives P f args v := by
  obtain ⟨⟨q, ⟨fr, hp⟩⟩, h4, h5⟩ := Option.map_eq_some_iff.1 h3
  simp at h5
  obtain ⟨rfl, h6⟩ := h5
  obtain ⟨x, rfl, rfl⟩ : ∃ x, fr = [x] ∧ x.norm = v := by
    match fr, h6 with
    | [x], h6 => exact ⟨x, rfl, by simpa using h6⟩
  exact gives_of_ex hf hb (ex_looped hG hmix (by simp) S h0 hr hx (.of_exec hG hmix rfl)) h4 trivial rfl
end

theorem of_range {α : Type} {n : Nat} {f g : Nat → α} (h : (List.range n).map f = (List.range n).map g) : ∀ k, k < n → f k = g k := by
  intro k hk
  have := congrArg (·[k]?) h
  simpa [hk] using this

/-- n rounds -/
def rnds {α : Type} (f : Nat → α → α) : Nat → α → α
  | 0, a => a
  | k + 1, a => f k (rnds f k a)
end Go.Ev
