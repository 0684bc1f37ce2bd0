/- Two multiples of points at once, as the program has them. -/
import Derived.Test.YtndiiabkoeblgaaLwd
namespace Go.Proofs.Ytndiiabkoeblgaa
open Go Go.Ev

set_option maxRecDepth 1000000
section
variable (bit : B32 → Nat → Int) (zero base : Pt) (double : Pt → Pt) (padd : Pt → Pt → Pt)
def twoTab : Tab := [(58, fnBitS bit), (17, fn0 (one cPt) zero), (29, fn1 cPt (one cPt) double), (22, fn2 cPt cPt (one cPt) padd), (40, fn0 (one cPt) base)]
def pickN (z : Int) : {n : Nat} → List (Vec Int n) → Vec Int n
  | 0, _ => ()
  | _ + 1, l => ((l.map (·.1)).getD z.toNat 0, pickN z (l.map (·.2)))
noncomputable def pickPt (z : Int) (l : List Pt) : Pt := ((l.map (·.1)).getD z.toNat false, pickN z (l.map (·.2.1)), pickN z (l.map (·.2.2.1)), pickN z (l.map (·.2.2.2.1)), pickN z (l.map (·.2.2.2.2)))
def vec4 (a b c d : Pt) : Vec Pt 4 := (a, b, c, d, ())
noncomputable def twoK (a b : B32) (i : Int) : Int := w (bit a i.toNat + w (2 * bit b i.toNat))
noncomputable def twoStep (a b : B32) (l : Vec Pt 4) (i : Int) (r : Pt) : Pt := selPt (decide (twoK bit a b i > 0)) (padd (double r) (pickPt (twoK bit a b i) l.toList)) (double r)
def twoKeep : List Bool := [false, false, false, true, true, true, true, true, true, true, true]
noncomputable def twoS (a b : B32) (p : Pt) (bs : Pt) (l : Vec Pt 4) (i : Int) (r : Pt) : St :=
  ⟨[.junk, .junk, .junk, .one (.sc (.ptr 0 0)), .one (.sc (.ptr 1 0)), .one (.sc (.ptr 2 0)), .one (.sc (.ptr 3 0)), .one (.sc (.ptr 4 0)), .one (.sc (.ptr 5 0)), .one (.sc (.ptr 6 0)), .one (.sc (.int .i64 (.sym i)))] ++ junks 32,
   [some ⟨(ccVec (ccInt .u8) 32).wr a, 22, false⟩, some ⟨ccPt.wr p, 29, false⟩, some ⟨(ccVec (ccInt .u8) 32).wr b, 22, false⟩, some ⟨ptBlank, 29, false⟩, some ⟨ccPt.wr bs, 29, false⟩, some ⟨(ccVec ccPt 4).wr l, 88, false⟩, some ⟨ccPt.wr r, 29, false⟩]⟩
noncomputable def twoPre : List Code := cparts 4 (bodyOf Try.f33)
noncomputable def twoR : Code := crest 4 (bodyOf Try.f33)
noncomputable def twoC2 : Code := cfst (cfst twoR)
noncomputable def twoL : Code := cinn (cinn (csnd (cfst twoR)))
noncomputable def twoC3 : Code := csnd twoR
theorem twoBody : Try.f33.body = some (chain twoPre (.seq (.seq twoC2 (.block 0 (.loop twoL))) twoC3)) := by kernel_rfl
theorem two0 (a b : B32) (p : Pt) : (execL Try.prog (gam (twoTab bit zero base double padd)) [] (twoPre ++ [twoC2]) (entry Try.f33 [.one (cB32.wr a), .one (cPt.wr p), .one (cB32.wr b)] [])).map (St.cutn twoKeep [] 7) =
    some (twoS a b p base (vec4 zero p base (padd p base)) 255 zero) := by kernel_rfl
theorem twoPost (a b : B32) (p bs : Pt) (l : Vec Pt 4) (i : Int) (r : Pt) : (((exec Try.prog (gam (twoTab bit zero base double padd)) [] twoC3 (twoS a b p bs l i r)).ends Try.prog Try.f33 []).one).map (fun p => (p.1, p.2.fr.map LV.norm)) = some (none, [.one (cPt.wr r)]) := by kernel_rfl
noncomputable def selV4 (b : Bool) (l : Vec Pt 4) : Vec Pt 4 := (selPt b l.1 l.1, selPt b l.2.1 l.2.1, selPt b l.2.2.1 l.2.2.1, selPt b l.2.2.2.1 l.2.2.2.1, ())
theorem selV4_self (b : Bool) (l : Vec Pt 4) : selV4 b l = l := by
  unfold selV4
  rw [selPt_self, selPt_self, selPt_self, selPt_self]; rfl
theorem twoRound (a b : B32) (p bs : Pt) (l : Vec Pt 4) (i : Int) (r : Pt) : (exec Try.prog (gam (twoTab bit zero base double padd)) [] twoL (twoS a b p bs l i r)).cutn twoKeep [] 7 =
    .ite (decide (i ≥ 0)) (.need (0 ≤ i ∧ i < 256) (.need (0 ≤ i ∧ i < 256) (.need (decide (twoK bit a b i > 0) = true → 0 ≤ twoK bit a b i ∧ twoK bit a b i < 4)
      (.leaf .normal (twoS (selN (decide (twoK bit a b i > 0)) a a) (selN (decide (twoK bit a b i > 0)) b b) (selPt (decide (twoK bit a b i > 0)) p p) (selPt (decide (twoK bit a b i > 0)) bs bs) (selV4 (decide (twoK bit a b i > 0)) l)
        (w ((bif decide (twoK bit a b i > 0) then i else i) - 1)) (twoStep bit double padd a b l i r))))))
      (.leaf (.exit 0) (twoS a b p bs l i r)) := by kernel_rfl
noncomputable def twoFn (a : B32) (p : Pt) (b : B32) : Pt := rnds (fun k r => twoStep bit double padd a b (vec4 zero p base (padd p base)) (255 - (k : Int)) r) 256 zero
theorem two_gives (hbit : ∀ b k, k < 256 → bit b k = 0 ∨ bit b k = 1) (ht : TabOk Try.prog (twoTab bit zero base double padd)) (a : B32) (p : Pt) (b : B32) : Gives Try.prog 33 [.one (cB32.wr a), .one (cPt.wr p), .one (cB32.wr b)] (.one (cPt.wr (twoFn bit zero base double padd a p b))) := by
  have hG := gam_ok ht
  refine gives_of_ex' Try.func33 twoBody (ex_looped' hG mixed (by simp) 256 (fun k => twoS a b p base (vec4 zero p base (padd p base)) (255 - (k : Int)) (rnds (fun k r => twoStep bit double padd a b (vec4 zero p base (padd p base)) (255 - (k : Int)) r) k zero))
    (two0 bit zero base double padd a b p) (fun k hk => ?_) ?_ (.of_exec hG mixed rfl)) (twoPost bit zero base double padd a b p base (vec4 zero p base (padd p base)) (255 - ((256 : Nat) : Int)) _)
  · have h := ex_cutn hG mixed (by simp) (twoRound bit zero base double padd a b p base (vec4 zero p base (padd p base)) (255 - (k : Int)) (rnds (fun k r => twoStep bit double padd a b (vec4 zero p base (padd p base)) (255 - (k : Int)) r) k zero))
    rw [selN_self, selN_self, selPt_self, selPt_self, selV4_self, bif_self, w_of (x := 255 - (k : Int) - 1) (by omega) (by omega), show 255 - (k : Int) - 1 = 255 - ((k + 1 : Nat) : Int) from by omega] at h
    refine h.way (Way.yes (decide_eq_true (by omega)) (Way.need ⟨by omega, by omega⟩ (Way.need ⟨by omega, by omega⟩ (Way.need (fun _ => ?_) (Way.leaf _ _)))))
    have h1 := hbit a (255 - (k : Int)).toNat (by omega)
    have h2 := hbit b (255 - (k : Int)).toNat (by omega)
    unfold twoK
    rcases h1 with h1 | h1 <;> rcases h2 with h2 | h2 <;> rw [h1, h2] <;> decide
  · have h := ex_cutn hG mixed (by simp) (twoRound bit zero base double padd a b p base (vec4 zero p base (padd p base)) (255 - ((256 : Nat) : Int)) (rnds (fun k r => twoStep bit double padd a b (vec4 zero p base (padd p base)) (255 - (k : Int)) r) 256 zero))
    exact h.way (Way.no (decide_eq_false (by omega)) (Way.leaf _ _))
end
end Go.Proofs.Ytndiiabkoeblgaa
