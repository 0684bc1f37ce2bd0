/- Multiples of points as the program has them. -/
import Derived.Test.YtndiiabkoeblgaaFed
namespace Go.Ev
open Go
theorem Ex.need {P : Program} {m : Hp} {c : Code} {st : St} {p : Prop} {r : Res} (h : Ex P m c st (.need p r)) (hp : p) : Ex P m c st r :=
  fun W β₀ R Q hs hq β a w hr => h W β₀ R Q ⟨hp, hs⟩ hq β a w hr
theorem Ex.one {P : Program} {m : Hp} {c : Code} {st : St} : ∀ {r : Res} {q : Option Prop} {s : St}, Ex P m c st r → r.one = some (q, s) → needs q → Ex P m c st (.leaf .normal s)
  | .leaf .normal _, q, s, h, ho, hq => by simp [Res.one] at ho; obtain ⟨_, rfl⟩ := ho; exact h
  | .need p r, q, s, h, ho, hq => by
    simp only [Res.one] at ho
    split at ho
    · rename_i q' st' h1
      simp at ho; obtain ⟨rfl, rfl⟩ := ho
      have h2 : p ∧ needs q' := by
        cases q' with
        | none => exact ⟨hq, trivial⟩
        | some q' => exact hq
      exact Ex.one (h.need h2.1) h1 h2.2
    · simp at ho
  | .leaf (.exit _) _, _, _, _, h, _ => by simp [Res.one] at h
  | .leaf (.goto _) _, _, _, _, h, _ => by simp [Res.one] at h
  | .leaf .ret _, _, _, _, h, _ => by simp [Res.one] at h
  | .leaf (.panic _) _, _, _, _, h, _ => by simp [Res.one] at h
  | .leaf .outgrown _, _, _, _, h, _ => by simp [Res.one] at h
  | .ite _ _ _, _, _, _, h, _ => by simp [Res.one] at h
  | .fail, _, _, _, h, _ => by simp [Res.one] at h
def cutO (keep : List Bool) (n : Nat) (r : Res) : Option (Option Prop × St) := r.one.map fun p => (p.1, p.2.cut keep n)
theorem ex_cutO {P : Program} {G : Gam} {m : Hp} (hG : GOk P G) (hmix : P.follows .mixedOrders = true) {keep : List Bool} {n : Nat} (hm : m.length ≤ n) {c : Code} {st s : St} {q : Option Prop}
    (h : cutO keep n (exec P G m c st) = some (q, s)) (hq : needs q) : Ex P m c st (.leaf .normal s) := by
  obtain ⟨⟨q', s'⟩, h1, h2⟩ := Option.map_eq_some_iff.1 h
  simp at h2; obtain ⟨rfl, rfl⟩ := h2
  exact ((Ex.of_exec hG hmix rfl).one h1 hq).cut keep n hm

/-- a function with a loop, whose rounds are known otherwise -/
theorem gives_looped_ex {P : Program} {G : Gam} {f : FuncId} {fn : Func} (hG : GOk P G) (hmix : P.follows .mixedOrders = true) (hf : P.funcs[f]? = some fn) {args : List LV} {pre : List Code} {c2 L c3 : Code} {i : Nat}
    (hb : fn.body = some (chain pre (.seq (.seq c2 (.block i (.loop L))) c3))) (keep : List Bool) (h n : Nat) (S : Nat → St)
    (h0 : (execL P G [] (pre ++ [c2]) (entry fn args [])).map (St.cut keep h) = some (S 0))
    (hr : ∀ k, k < n → Ex P [] L (S k) (.leaf .normal (S (k + 1)))) {s' : St} (hx : cutX keep h i (exec P G [] L (S n)) = some s')
    {v : LV} (h3 : (((exec P G [] c3 s').ends P fn []).one).map (fun p => (p.1, p.2.fr.map LV.norm)) = some (none, [v])) : Gives P f args v := by
  obtain ⟨⟨q, ⟨fr, hp⟩⟩, h4, h5⟩ := Option.map_eq_some_iff.1 h3
  simp at h5
  obtain ⟨rfl, h6⟩ := h5
  obtain ⟨x, rfl, rfl⟩ : ∃ x, fr = [x] ∧ x.norm = v := by
    match fr, h6 with
    | [x], h6 => exact ⟨x, rfl, by simpa using h6⟩
  obtain ⟨s, hs, he⟩ := Option.map_eq_some_iff.1 h0
  have hloop : Ex P [] (.block i (.loop L)) s (.leaf .normal s') := by
    refine Ex.from_cut (keep := keep) (n := h) ?_ (by simp)
    rw [he]
    have := (Ex.loop n S hr (ex_cutX hG hmix (by simp) hx)).block (id := i)
    simpa [Res.block] using this
  have key : ∀ (pre : List Code) (st : St), execL P G [] (pre ++ [c2]) st = some s → Ex P [] (Go.Ev.chain pre (.seq (.seq c2 (.block i (.loop L))) c3)) st (exec P G [] c3 s') := by
    intro pre
    induction pre with
    | nil =>
      intro st hs
      simp only [List.nil_append, execL] at hs
      split at hs
      · rename_i s1 h1
        simp at hs; subst hs
        exact Ex.seq (Ex.seq (.of_exec hG hmix h1) hloop) (.of_exec hG hmix rfl)
      · simp at hs
    | cons x pre ih =>
      intro st hs
      simp only [List.cons_append, execL] at hs
      split at hs
      · rename_i s1 h1
        exact Ex.seq (.of_exec hG hmix h1) (ih s1 hs)
      · simp at hs
  exact gives_of_ex hf hb (key pre _ hs) h4 trivial rfl
end Go.Ev

namespace Go.Proofs.Ytndiiabkoeblgaa
open Go Go.Ev

set_option maxRecDepth 1000000

/-! ### One bit of a number -/
def fnBit (bit : B32 → Nat → Int) : PureFn
  | [x, .one (.sc (.int .i64 (.lit i)))] => match rd1 cB32 x with
    | some b => if 0 ≤ i ∧ i < 256 then some (none, .one ((cInt .i64).wr (bit b i.toNat))) else none
    | none => none
  | _ => none
noncomputable def bitFn (b : B32) (k : Nat) : Int := IntKind.i64.wrap (bitAnd .u8 (shr .u8 (b.get (k / 8)) ((k % 8 : Nat) : Int)) 1)
theorem bit_out (b : B32) : (List.range 256).map (fun k : Nat => outQ Try.prog (gam []) Try.f58 [.one (cB32.wr b), .one (.sc (.int .i64 (.lit (k : Int))))]) =
    (List.range 256).map (fun k => some (none, .one ((cInt .i64).wr (bitFn b k)))) := by kernel_rfl
theorem bit_row : RowP Try.prog 58 (fnBit bitFn) := by
  refine ⟨.inl ⟨Try.call58, fun args q v hg _ => ?_⟩, fun args q v hg => ?_⟩
  · unfold fnBit at hg
    split at hg
    · rename_i x i
      split at hg
      · rename_i b hb
        split at hg
        · rename_i hi
          simp at hg; obtain ⟨_, rfl⟩ := hg
          have h := gives_of_out (gam_ok (P := Try.prog) (t := []) trivial) mixed Try.func58 (of_range (bit_out b) i.toNat (by omega))
          rw [Int.toNat_of_nonneg hi.1] at h
          refine (CallsEv.args h fun β L vals hv => ?_).mono fun _ _ e => ⟨e, by rw [e]; rfl⟩
          cases hv with
          | cons h1 h2 => exact .cons (rd1_ok hb h1) h2
        · simp at hg
      · simp at hg
    · simp at hg
  · unfold fnBit at hg
    split at hg
    · rename_i x i
      split at hg
      · rename_i b hb
        have := rd1_pl hb
        show (x.plain && (true && true)) = true
        rw [this]; rfl
      · simp at hg
    · simp at hg

section
variable (bit : B32 → Nat → Int) (zero base : Pt) (double : Pt → Pt) (padd : Pt → Pt → Pt)
def multTab : Tab := [(58, fnBit bit), (17, fn0 (one cPt) zero), (29, fn1 cPt (one cPt) double), (22, fn2 cPt cPt (one cPt) padd), (40, fn0 (one cPt) base)]
abbrev ccPt : CC Pt := ccPair ccBool (ccPair ccFe (ccPair ccFe (ccPair ccFe ccFe)))
def junks (n : Nat) : List LV := List.replicate n .junk
noncomputable def ptBlank : List SV := [.bool (.lit false), .int .u64 (.lit 0), .int .u64 (.lit 0), .int .u64 (.lit 0), .int .u64 (.lit 0), .int .u64 (.lit 0), .int .u64 (.lit 0), .int .u64 (.lit 0), .int .u64 (.lit 0), .int .u64 (.lit 0), .int .u64 (.lit 0),
  .int .u64 (.lit 0), .int .u64 (.lit 0), .int .u64 (.lit 0), .int .u64 (.lit 0), .int .u64 (.lit 0), .int .u64 (.lit 0), .int .u64 (.lit 0), .int .u64 (.lit 0), .int .u64 (.lit 0), .int .u64 (.lit 0)]
noncomputable def multStep (n : B32) (p : Pt) (k : Nat) (r : Pt) : Pt := selPt (bit n (255 - k) == 1) (padd (double r) p) (double r)
noncomputable def multFn (n : B32) (p : Pt) : Pt := rnds (multStep bit double padd n p) 256 zero
def multKeep : List Bool := [false, false, true, true, true, true, true]
noncomputable def multS (n : B32) (p : Pt) (k : Nat) (r : Pt) : St :=
  ⟨[.junk, .junk, .one (.sc (.ptr 0 0)), .one (.sc (.ptr 1 0)), .one (.sc (.ptr 2 0)), .one (.sc (.ptr 3 0)), .one (.sc (.int .i64 (.lit (255 - k))))] ++ junks 15,
   [some ⟨(ccVec (ccInt .u8) 32).wr n, 22, false⟩, some ⟨ccPt.wr p, 29, false⟩, some ⟨ptBlank, 29, false⟩, some ⟨ccPt.wr r, 29, false⟩]⟩
noncomputable def multPre : List Code := cparts 2 (bodyOf Try.f23)
noncomputable def multR : Code := crest 2 (bodyOf Try.f23)
noncomputable def multC2 : Code := cfst (cfst multR)
noncomputable def multL : Code := cinn (cinn (csnd (cfst multR)))
noncomputable def multC3 : Code := csnd multR
theorem multBody : Try.f23.body = some (chain multPre (.seq (.seq multC2 (.block 0 (.loop multL))) multC3)) := by kernel_rfl
theorem mult0 (n : B32) (p : Pt) : (execL Try.prog (gam (multTab bit zero base double padd)) [] (multPre ++ [multC2]) (entry Try.f23 [.one (cB32.wr n), .one (cPt.wr p)] [])).map (St.cut multKeep 4) = some (multS n p 0 zero) := by kernel_rfl
theorem multRound (n : B32) (p r : Pt) : (List.range 256).map (fun k => cutR multKeep 4 (exec Try.prog (gam (multTab bit zero base double padd)) [] multL (multS n p k r))) =
    (List.range 256).map (fun k => some (multS (selN (bit n (255 - k) == 1) n n) (selPt (bit n (255 - k) == 1) p p) (k + 1) (multStep bit double padd n p k r))) := by kernel_rfl
theorem multEnd (n : B32) (p r : Pt) : cutX multKeep 4 0 (exec Try.prog (gam (multTab bit zero base double padd)) [] multL (multS n p 256 r)) = some (multS n p 256 r) := by kernel_rfl
theorem multPost (n : B32) (p r : Pt) : (((exec Try.prog (gam (multTab bit zero base double padd)) [] multC3 (multS n p 256 r)).ends Try.prog Try.f23 []).one).map (fun p => (p.1, p.2.fr.map LV.norm)) = some (none, [.one (cPt.wr r)]) := by kernel_rfl
theorem selPt_self (b : Bool) (p : Pt) : selPt b p p = p := by rw [selPt_eq]; cases b <;> rfl
theorem mult_gives (ht : TabOk Try.prog (multTab bit zero base double padd)) (n : B32) (p : Pt) : Gives Try.prog 23 [.one (cB32.wr n), .one (cPt.wr p)] (.one (cPt.wr (multFn bit zero double padd n p))) := by
  refine gives_looped (gam_ok ht) mixed Try.func23 multBody multKeep 4 256 (fun k => multS n p k (rnds (multStep bit double padd n p) k zero)) (mult0 bit zero base double padd n p) (fun k hk => ?_) (multEnd bit zero base double padd n p _) (multPost bit zero base double padd n p _)
  have := of_range (multRound bit zero base double padd n p (rnds (multStep bit double padd n p) k zero)) k hk
  rw [this, selN_self, selPt_self]; rfl
theorem multBase_out (mult : B32 → Pt → Pt) (n : B32) : outQ Try.prog (gam [(23, fn2 cB32 cPt (one cPt) mult), (40, fn0 (one cPt) base)]) Try.f34 [.one (cB32.wr n)] = some (none, .one (cPt.wr (mult n base))) := by kernel_rfl

end
end Go.Proofs.Ytndiiabkoeblgaa
