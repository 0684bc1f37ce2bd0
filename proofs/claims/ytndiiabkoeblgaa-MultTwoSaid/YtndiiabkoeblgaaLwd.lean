/- Walks of rounds whose number is not written out: multiples as the document has them, points out of bytes. -/
import Derived.Test.YtndiiabkoeblgaaEvi
import Derived.Test.YtndiiabkoeblgaaRfb
namespace Go.Proofs.Ytndiiabkoeblgaa
open Go Go.Ev

set_option maxRecDepth 1000000
theorem w_of {x : Int} (h0 : -9223372036854775808 ≤ x) (h1 : x < 9223372036854775808) : w x = x := by
  unfold w IntKind.wrap
  simp [IntKind.bits, IntKind.signed]
  omega
/-- one bit, of any place -/
def fnBitS (bit : B32 → Nat → Int) : PureFn
  | [x, .one (.sc (.int .i64 i))] => match rd1 cB32 x with
    | some b => some (some (0 ≤ i.val ∧ i.val < 256), .one ((cInt .i64).wr (bit b i.val.toNat)))
    | none => none
  | _ => none
theorem bitS_row {f : FuncId} {bit : B32 → Nat → Int} (he : Enters Try.prog f) (h : ∀ (b : B32) (k : Nat), k < 256 → Gives Try.prog f [.one (cB32.wr b), .one (.sc (.int .i64 (.lit (k : Int))))] (.one ((cInt .i64).wr (bit b k)))) : RowP Try.prog f (fnBitS bit) := by
  refine ⟨.inl ⟨he, fun args q v hg hq => ?_⟩, fun args q v hg => ?_⟩
  · unfold fnBitS at hg
    split at hg
    · rename_i x i
      split at hg
      · rename_i b hb
        simp at hg; obtain ⟨rfl, rfl⟩ := hg
        have h' := h b i.val.toNat (by have := hq.2; have := hq.1; omega)
        rw [Int.toNat_of_nonneg hq.1] at h'
        refine (CallsEv.args h' fun β L vals hv => ?_).mono fun _ _ e => ⟨e, by rw [e]; rfl⟩
        cases hv with
        | cons h1 h2 => cases h2 with
          | cons h2 h3 => exact .cons (rd1_ok hb h1) (.cons h2 h3)
      · simp at hg
    · simp at hg
  · unfold fnBitS at hg
    split at hg
    · rename_i x i
      split at hg
      · rename_i b hb
        have := rd1_pl hb
        show (x.plain && (true && true)) = true
        rw [this]; rfl
      · simp at hg
    · simp at hg
theorem bitS9_row : RowP Try.prog 72 (fnBitS bitFn9) := bitS_row Try.call72 fun b k hk =>
  gives_of_out (gam_ok (P := Try.prog) (t := []) trivial) mixed Try.func72 (of_range (bit9_out b) k hk)
theorem bitS13_row : RowP Try.prog 58 (fnBitS bitFn) := bitS_row Try.call58 fun b k hk =>
  gives_of_out (gam_ok (P := Try.prog) (t := []) trivial) mixed Try.func58 (of_range (bit_out b) k hk)

section
variable (bit : B32 → Nat → Int) (zero : Pn) (edge : Fn) (add : Fn → Fn → Fn) (plus3 : Pn → Pn → Fn → Pn)
/-! ### Mult, as the document has it -/
def multTab9 : Tab := [(72, fnBitS bit), (60, fn0 (one cPn) zero), (71, fn0 (one cFn) edge), (70, fn2 cFn cFn (one cFn) add), (69, fn3 cPn cPn cFn (one cPn) plus3)]
def multKeep9 : List Bool := [false, false, true, true, true, true, true, true]
noncomputable def multS9 (n : B32) (p : Pn) (d : Fn) (i : Int) (q : Pn) : St :=
  ⟨[.junk, .junk, .one (.sc (.ptr 0 0)), .one (.sc (.ptr 1 0)), .one (.sc (.ptr 2 0)), .one (.sc (.ptr 3 0)), .one (.sc (.ptr 4 0)), .one (.sc (.int .i64 (.sym i)))] ++ junks 21,
   [some ⟨(ccVec (ccInt .u8) 32).wr n, 22, false⟩, some ⟨ccPn.wr p, 46, false⟩, some ⟨List.replicate 64 (.int .i64 (.lit 0)), 46, false⟩, some ⟨ccFn.wr d, 44, false⟩, some ⟨ccPn.wr q, 46, false⟩]⟩
noncomputable def multPre9 : List Code := cparts 3 (bodyOf Try.f35)
noncomputable def multR9 : Code := crest 3 (bodyOf Try.f35)
noncomputable def multC29 : Code := cfst (cfst multR9)
noncomputable def multL9 : Code := cinn (cinn (csnd (cfst multR9)))
noncomputable def multC39 : Code := csnd multR9
theorem multBody9 : Try.f35.body = some (chain multPre9 (.seq (.seq multC29 (.block 0 (.loop multL9))) multC39)) := by kernel_rfl
noncomputable def multStep9 (n : B32) (p : Pn) (d : Fn) (i : Int) (q : Pn) : Pn := selPn (bit n i.toNat == 1) (plus3 (plus3 q q d) p d) (plus3 q q d)
theorem mult09 (n : B32) (p : Pn) : (execL Try.prog (gam (multTab9 bit zero edge add plus3)) [] (multPre9 ++ [multC29]) (entry Try.f35 [.one (cB32.wr n), .one (cPn.wr p)] [])).map (St.cutn multKeep9 [] 5) =
    some (multS9 n p (add edge edge) 255 zero) := by kernel_rfl
theorem multRound9 (n : B32) (p : Pn) (d : Fn) (i : Int) (q : Pn) : (exec Try.prog (gam (multTab9 bit zero edge add plus3)) [] multL9 (multS9 n p d i q)).cutn multKeep9 [] 5 =
    .ite (decide (i ≥ 0)) (.need (0 ≤ i ∧ i < 256) (.leaf .normal (multS9 (selN (bit n i.toNat == 1) n n) (selPn (bit n i.toNat == 1) p p) (selN (bit n i.toNat == 1) d d) (w ((bif bit n i.toNat == 1 then i else i) - 1)) (multStep9 bit plus3 n p d i q))))
      (.leaf (.exit 0) (multS9 n p d i q)) := by kernel_rfl
theorem multPost9 (n : B32) (p : Pn) (d : Fn) (i : Int) (q : Pn) : (((exec Try.prog (gam (multTab9 bit zero edge add plus3)) [] multC39 (multS9 n p d i q)).ends Try.prog Try.f35 []).one).map (fun p => (p.1, p.2.fr.map LV.norm)) = some (none, [.one (cPn.wr q)]) := by kernel_rfl
noncomputable def multFn9 (n : B32) (p : Pn) : Pn := rnds (fun k q => multStep9 bit plus3 n p (add edge edge) (255 - (k : Int)) q) 256 zero
theorem bif_self {α : Type} (b : Bool) (x : α) : (bif b then x else x) = x := by cases b <;> rfl
theorem mult9_gives (ht : TabOk Try.prog (multTab9 bit zero edge add plus3)) (n : B32) (p : Pn) : Gives Try.prog 35 [.one (cB32.wr n), .one (cPn.wr p)] (.one (cPn.wr (multFn9 bit zero edge add plus3 n p))) := by
  refine gives_of_ex' Try.func35 multBody9 (ex_looped' (gam_ok ht) mixed (by simp) 256 (fun k => multS9 n p (add edge edge) (255 - (k : Int)) (rnds (fun k q => multStep9 bit plus3 n p (add edge edge) (255 - (k : Int)) q) k zero))
    (mult09 bit zero edge add plus3 n p) (fun k hk => ?_) ?_ (.of_exec (gam_ok ht) mixed rfl)) (multPost9 bit zero edge add plus3 n p (add edge edge) (255 - ((256 : Nat) : Int)) _)
  · have h := ex_cutn (gam_ok ht) mixed (by simp) (multRound9 bit zero edge add plus3 n p (add edge edge) (255 - (k : Int)) (rnds (fun k q => multStep9 bit plus3 n p (add edge edge) (255 - (k : Int)) q) k zero))
    rw [selN_self, selPn_self, selN_self, bif_self, w_of (by omega) (by omega), show 255 - (k : Int) - 1 = 255 - ((k + 1 : Nat) : Int) from by omega] at h
    exact h.way (Way.yes (decide_eq_true (by omega)) (Way.need ⟨by omega, by omega⟩ (Way.leaf _ _)))
  · have h := ex_cutn (gam_ok ht) mixed (by simp) (multRound9 bit zero edge add plus3 n p (add edge edge) (255 - ((256 : Nat) : Int)) (rnds (fun k q => multStep9 bit plus3 n p (add edge edge) (255 - (k : Int)) q) 256 zero))
    exact h.way (Way.no (decide_eq_false (by omega)) (Way.leaf _ _))
end

/-! ### Points out of bytes -/
section
variable (decode : B32 → Pt × Bool) (base : Pt) (double : Pt → Pt)
def atTab : Tab := [(15, fn1 cB32 (two cPt cBool) decode), (40, fn0 (one cPt) base), (29, fn1 cPt (one cPt) double)]
noncomputable def atBody : Code := bodyOf Try.f20
noncomputable def atA (b : B32) : St := (execL Try.prog (gam (atTab decode base double)) [] (cparts 2 atBody) (entry Try.f20 [.one (cB32.wr b)] [])).getD ⟨[], []⟩
noncomputable def atB (b : B32) : Res := exec Try.prog (gam (atTab decode base double)) [] (cfst (crest 2 atBody)) (atA decode base double b)
noncomputable def atS (b : B32) (i : Int) (r : Pt) : St :=
  ⟨[.junk, .one (.sc (.ptr 0 0)), .one (.sc (.ptr 1 0)), .one (.sc (.ptr 2 0)), .junk, .one (.sc (.int .i64 (.sym i)))] ++ junks 19,
   [some ⟨(ccVec (ccInt .u8) 32).wr b, 22, false⟩, some ⟨ptBlank, 29, false⟩, some ⟨ccPt.wr r, 29, false⟩]⟩
noncomputable def atL : Code := cinn (cinn (csnd (cfst (crest 4 atBody))))
theorem atBody_eq : Try.f20.body = some (chain (cparts 2 atBody) (.seq (cfst (crest 2 atBody)) (chain (cparts 1 (crest 3 atBody)) (.seq (.seq (cfst (cfst (crest 4 atBody))) (.block 0 (.loop atL))) (csnd (crest 4 atBody)))))) := by kernel_rfl
theorem atA_eq (b : B32) : execL Try.prog (gam (atTab decode base double)) [] (cparts 2 atBody) (entry Try.f20 [.one (cB32.wr b)] []) = some (atA decode base double b) := by kernel_rfl
theorem atB_eq (b : B32) : exec Try.prog (gam (atTab decode base double)) [] (cfst (crest 2 atBody)) (atA decode base double b) = .ite (decode b).2 (.leaf .ret (Res.retS (atB decode base double b))) (.leaf .normal (Res.norS (atB decode base double b))) := by kernel_rfl
theorem at0_eq (b : B32) : (execL Try.prog (gam (atTab decode base double)) [] (cparts 1 (crest 3 atBody) ++ [cfst (cfst (crest 4 atBody))]) (Res.norS (atB decode base double b))).map (St.cutn [false, true, true, true, false, true] [] 3) = some (atS b 0 base) := by kernel_rfl
theorem atRound (b : B32) (i : Int) (r : Pt) : (exec Try.prog (gam (atTab decode base double)) [] atL (atS b i r)).cutn [false, true, true, true, false, true] [] 3 =
    .ite (decide (i < w (b.1.tmod 7))) (.leaf .normal (atS b (w (i + 1)) (double r))) (.leaf (.exit 0) (atS b i r)) := by kernel_rfl
noncomputable def atFn (b : B32) : Pt := selPt (decode b).2 (decode b).1 (rnds (fun _ => double) (w (b.1.tmod 7)).toNat base)
theorem atPost (b : B32) (i : Int) (r : Pt) : (((Res.ite (decode b).2 (.leaf .ret (Res.retS (atB decode base double b))) (exec Try.prog (gam (atTab decode base double)) [] (csnd (crest 4 atBody)) (atS b i r))).ends Try.prog Try.f20 []).one).map (fun p => (p.1, p.2.fr.map LV.norm)) =
    some (none, [.one (cPt.wr (selPt (decode b).2 (decode b).1 r))]) := by kernel_rfl
theorem at_gives (ht : TabOk Try.prog (atTab decode base double)) (b : B32) : Gives Try.prog 20 [.one (cB32.wr b)] (.one (cPt.wr (atFn decode base double b))) := by
  have hw : w (b.1.tmod 7) < 9223372036854775808 := by unfold w IntKind.wrap; simp [IntKind.bits, IntKind.signed]; omega
  have hG := gam_ok ht
  refine gives_of_ex' Try.func20 atBody_eq (ex_ret hG mixed (atA_eq decode base double b) (atB_eq decode base double b) (ex_looped' hG mixed (by simp) (w (b.1.tmod 7)).toNat (fun k => atS b (k : Int) (rnds (fun _ => double) k base))
    (at0_eq decode base double b) (fun k hk => ?_) ?_ (.of_exec hG mixed rfl))) (atPost decode base double b (((w (b.1.tmod 7)).toNat : Nat) : Int) (rnds (fun _ => double) (w (b.1.tmod 7)).toNat base))
  · have h := ex_cutn hG mixed (by simp) (atRound decode base double b (k : Int) (rnds (fun _ => double) k base))
    rw [w_of (x := (k : Int) + 1) (by omega) (by omega), show (k : Int) + 1 = ((k + 1 : Nat) : Int) from by omega] at h
    exact h.way (Way.yes (decide_eq_true (by omega)) (Way.leaf _ _))
  · have h := ex_cutn hG mixed (by simp) (atRound decode base double b (((w (b.1.tmod 7)).toNat : Nat) : Int) (rnds (fun _ => double) (w (b.1.tmod 7)).toNat base))
    exact h.way (Way.no (decide_eq_false (by omega)) (Way.leaf _ _))
end
section
variable (decode : B32 → Pt × Bool) (base : Pt) (double : Pt → Pt) (decode9 : B32 → Pn × Bool) (base9 : Pn) (plus9 : Pn → Pn → Pn)
def atTab2 : Tab := [(15, fn1 cB32 (two cPt cBool) decode), (40, fn0 (one cPt) base), (29, fn1 cPt (one cPt) double),
  (25, fn1 cB32 (two cPn cBool) decode9), (36, fn0 (one cPn) base9), (28, fn2 cPn cPn (one cPn) plus9)]
noncomputable def at2Body : Code := bodyOf Try.f27
noncomputable def at2A (b : B32) : St := (execL Try.prog (gam (atTab2 decode base double decode9 base9 plus9)) [] (cparts 3 at2Body) (entry Try.f27 [.one (cB32.wr b)] [])).getD ⟨[], []⟩
noncomputable def at2B (b : B32) : Res := exec Try.prog (gam (atTab2 decode base double decode9 base9 plus9)) [] (cfst (crest 3 at2Body)) (at2A decode base double decode9 base9 plus9 b)
noncomputable def at2S (b : B32) (i : Int) (r : Pt) (q : Pn) : St :=
  ⟨[.junk, .one (.sc (.ptr 0 0)), .one (.sc (.ptr 1 0)), .one (.sc (.ptr 2 0)), .one (.sc (.ptr 3 0)), .junk, .one (.sc (.ptr 4 0)), .junk, .one (.sc (.int .i64 (.sym i)))] ++ junks 33,
   [some ⟨(ccVec (ccInt .u8) 32).wr b, 22, false⟩, some ⟨ptBlank, 29, false⟩, some ⟨List.replicate 64 (.int .i64 (.lit 0)), 46, false⟩, some ⟨ccPt.wr r, 29, false⟩, some ⟨ccPn.wr q, 46, false⟩]⟩
def at2Keep : List Bool := [false, true, true, true, true, false, true, false, true]
noncomputable def at2L : Code := cinn (cinn (csnd (cfst (crest 6 at2Body))))
noncomputable def isBoth (b : B32) : Bool := bif (decode b).2 == true then (decode9 b).2 else false
theorem at2Body_eq : Try.f27.body = some (chain (cparts 3 at2Body) (.seq (cfst (crest 3 at2Body)) (chain (cparts 2 (crest 4 at2Body)) (.seq (.seq (cfst (cfst (crest 6 at2Body))) (.block 0 (.loop at2L))) (csnd (crest 6 at2Body)))))) := by kernel_rfl
theorem at2A_eq (b : B32) : execL Try.prog (gam (atTab2 decode base double decode9 base9 plus9)) [] (cparts 3 at2Body) (entry Try.f27 [.one (cB32.wr b)] []) = some (at2A decode base double decode9 base9 plus9 b) := by kernel_rfl
theorem at2B_eq (b : B32) : exec Try.prog (gam (atTab2 decode base double decode9 base9 plus9)) [] (cfst (crest 3 at2Body)) (at2A decode base double decode9 base9 plus9 b) =
    .ite (isBoth decode decode9 b) (.leaf .ret (Res.retS (at2B decode base double decode9 base9 plus9 b))) (.leaf .normal (Res.norS (at2B decode base double decode9 base9 plus9 b))) := by kernel_rfl
theorem at20_eq (b : B32) : (execL Try.prog (gam (atTab2 decode base double decode9 base9 plus9)) [] (cparts 2 (crest 4 at2Body) ++ [cfst (cfst (crest 6 at2Body))]) (Res.norS (at2B decode base double decode9 base9 plus9 b))).map (St.cutn at2Keep [] 5) = some (at2S (selN ((decode b).2 == true) b b) 0 base base9) := by kernel_rfl
theorem at2Round (b : B32) (i : Int) (r : Pt) (q : Pn) : (exec Try.prog (gam (atTab2 decode base double decode9 base9 plus9)) [] at2L (at2S b i r q)).cutn at2Keep [] 5 =
    .ite (decide (i < w (b.1.tmod 7))) (.leaf .normal (at2S b (w (i + 1)) (double r) (plus9 q q))) (.leaf (.exit 0) (at2S b i r q)) := by kernel_rfl
theorem at20_eq' (b : B32) : (execL Try.prog (gam (atTab2 decode base double decode9 base9 plus9)) [] (cparts 2 (crest 4 at2Body) ++ [cfst (cfst (crest 6 at2Body))]) (Res.norS (at2B decode base double decode9 base9 plus9 b))).map (St.cutn at2Keep [] 5) = some (at2S b 0 base base9) := by
  rw [at20_eq, selN_self]
noncomputable def at2Fn (b : B32) : Pt × Pn := (selPt (isBoth decode decode9 b) (decode b).1 (rnds (fun _ => double) (w (b.1.tmod 7)).toNat base), selPn (isBoth decode decode9 b) (decode9 b).1 (rnds (fun _ q => plus9 q q) (w (b.1.tmod 7)).toNat base9))
theorem at2Post (b : B32) (i : Int) (r : Pt) (q : Pn) : (((Res.ite (isBoth decode decode9 b) (.leaf .ret (Res.retS (at2B decode base double decode9 base9 plus9 b))) (exec Try.prog (gam (atTab2 decode base double decode9 base9 plus9)) [] (csnd (crest 6 at2Body)) (at2S b i r q))).ends Try.prog Try.f27 []).one).map (fun p => (p.1, p.2.fr.map LV.norm)) =
    some (none, [(two cPt cPn).wr (selPt (isBoth decode decode9 b) (selPt ((decode b).2 == true) (decode b).1 (decode b).1) r, selPn (isBoth decode decode9 b) (selPn ((decode b).2 == true) (decode9 b).1 (decode9 b).1) q)]) := by kernel_rfl
theorem at2Post' (b : B32) (i : Int) (r : Pt) (q : Pn) : (((Res.ite (isBoth decode decode9 b) (.leaf .ret (Res.retS (at2B decode base double decode9 base9 plus9 b))) (exec Try.prog (gam (atTab2 decode base double decode9 base9 plus9)) [] (csnd (crest 6 at2Body)) (at2S b i r q))).ends Try.prog Try.f27 []).one).map (fun p => (p.1, p.2.fr.map LV.norm)) =
    some (none, [(two cPt cPn).wr (selPt (isBoth decode decode9 b) (decode b).1 r, selPn (isBoth decode decode9 b) (decode9 b).1 q)]) := by
  rw [at2Post, selPt_self, selPn_self]
theorem at2_gives (ht : TabOk Try.prog (atTab2 decode base double decode9 base9 plus9)) (b : B32) : Gives Try.prog 27 [.one (cB32.wr b)] ((two cPt cPn).wr (at2Fn decode base double decode9 base9 plus9 b)) := by
  have hw : w (b.1.tmod 7) < 9223372036854775808 := by unfold w IntKind.wrap; simp [IntKind.bits, IntKind.signed]; omega
  have hG := gam_ok ht
  refine gives_of_ex' Try.func27 at2Body_eq (ex_ret hG mixed (at2A_eq decode base double decode9 base9 plus9 b) (at2B_eq decode base double decode9 base9 plus9 b) (ex_looped' hG mixed (by simp) (w (b.1.tmod 7)).toNat (fun k => at2S b (k : Int) (rnds (fun _ => double) k base) (rnds (fun _ q => plus9 q q) k base9))
    (at20_eq' decode base double decode9 base9 plus9 b) (fun k hk => ?_) ?_ (.of_exec hG mixed rfl))) (at2Post' decode base double decode9 base9 plus9 b (((w (b.1.tmod 7)).toNat : Nat) : Int) (rnds (fun _ => double) (w (b.1.tmod 7)).toNat base) (rnds (fun _ q => plus9 q q) (w (b.1.tmod 7)).toNat base9))
  · have h := ex_cutn hG mixed (by simp) (at2Round decode base double decode9 base9 plus9 b (k : Int) (rnds (fun _ => double) k base) (rnds (fun _ q => plus9 q q) k base9))
    rw [w_of (x := (k : Int) + 1) (by omega) (by omega), show (k : Int) + 1 = ((k + 1 : Nat) : Int) from by omega] at h
    exact h.way (Way.yes (decide_eq_true (by omega)) (Way.leaf _ _))
  · have h := ex_cutn hG mixed (by simp) (at2Round decode base double decode9 base9 plus9 b (((w (b.1.tmod 7)).toNat : Nat) : Int) (rnds (fun _ => double) (w (b.1.tmod 7)).toNat base) (rnds (fun _ q => plus9 q q) (w (b.1.tmod 7)).toNat base9))
    exact h.way (Way.no (decide_eq_false (by omega)) (Way.leaf _ _))
end
end Go.Proofs.Ytndiiabkoeblgaa
