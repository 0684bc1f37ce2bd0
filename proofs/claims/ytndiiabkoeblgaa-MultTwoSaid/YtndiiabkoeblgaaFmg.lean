/- The program's quotients' roots. -/
import Derived.Test.YtndiiabkoeblgaaFmf
namespace Go.Proofs.Ytndiiabkoeblgaa
open Go Go.Ev BJ

theorem ratio_core (bv bu : Bool) (fu : F) (z : Fe × Bool) (y : F × Bool) (v : F) (hz1 : bv = decide (v = 0)) (hz2 : bu = decide (fu = 0)) (s1 : Ok5 z.1) (s2 : fe z.1 = y.1) (s3 : z.2 = y.2) :
    Ok5 (selN bv feZero z.1) ∧ fe (selN bv feZero z.1) = (if v = 0 then ((0 : F), decide (fu = 0)) else y).1 ∧ (bif bv then bu else z.2) = (if v = 0 then ((0 : F), decide (fu = 0)) else y).2 := by
  rw [selN_eq]
  by_cases h : v = 0
  · rw [if_pos h, hz1, decide_eq_true h]; exact ⟨zero_fe.1, zero_fe.2, hz2⟩
  · rw [if_neg h, hz1, decide_eq_false h]; exact ⟨s1, s2, s3⟩
theorem ratio_fe {u v : Fe} (hu : Ok5 u) (hv : Ok5 v) : Ok5 (ratioC u v).1 ∧ fe (ratioC u v).1 = (ratioOf (fe u) (fe v)).1 ∧ (ratioC u v).2 = (ratioOf (fe u) (fe v)).2 := by
  have hi := inv_fe hv
  have hm := mul_fe hu hi.1
  have hs := sqrt_fe hm.1
  have e : fe (mulOut mulFn add64 feCarry u (invC v)) = fe u * F.inv (fe v) := hm.2.trans (by rw [hi.2])
  rw [e] at hs
  exact ratio_core _ _ (fe u) _ _ (fe v) (isZero_fe hv) (isZero_fe hu) hs.1 hs.2.1 hs.2.2
end Go.Proofs.Ytndiiabkoeblgaa
