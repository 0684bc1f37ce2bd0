/- The base point, reckoned. -/
import Derived.Test.YtndiiabkoeblgaaLwa
namespace BJ
def F.powK (a : F) (e : Nat) : F := ⟨pm pp 256 a.val e % pp, Nat.mod_lt _ (by decide)⟩
theorem F.pow_K (a : F) {e : Nat} (he : e < 2 ^ 256) : F.pow a e = F.powK a e := by
  apply Fin.ext
  show a.val ^ e % pp = pm pp 256 a.val e % pp
  rw [pm_eq pp 256 a.val e he, Nat.mod_mod]
def F.invK (a : F) : F := F.powK a (pp - 2)
theorem F.inv_K (a : F) : F.inv a = F.invK a := F.pow_K a (by decide)
def rootK (a : F) : F × Bool :=
  let r := F.powK a ((pp + 3) / 8)
  let r1 := if r * r = a then r else r * F.powK 2 ((pp - 1) / 4)
  if r1 * r1 = a then (if r1.val % 2 = 1 then -r1 else r1, true) else (0, false)
theorem root_K (a : F) : rootOf a = rootK a := by
  unfold rootOf rootK
  rw [F.pow_K a (by decide), F.pow_K 2 (by decide)]
def xOfK (y : F) : F × Bool := if dd * (y * y) + 1 = 0 then (0, decide (y * y - 1 = 0)) else rootK ((y * y - 1) * F.invK (dd * (y * y) + 1))
theorem xOf_K (y : F) : xOfE y = xOfK y := by
  unfold xOfE ratioOf xOfK
  rw [root_K, F.inv_K]
def baseY : F := 46316835694926478169428394003475163141307993866256225615783033603165251855960
def baseX : F := 15112221349535400772501151409588531511454012693041857206046113283949847762202
theorem baseY_eq : 4 * F.inv 5 = baseY := by rw [F.inv_K]; decide +kernel
theorem baseX_eq : xOfE baseY = (baseX, true) := by rw [xOf_K]; decide +kernel
theorem base_lit : baseE = affE baseX baseY := by
  unfold baseE
  rw [baseY_eq, baseX_eq]
theorem inv_one : F.inv 1 = 1 := by rw [F.inv_K]; decide +kernel
end BJ
namespace Go.Proofs.Ytndiiabkoeblgaa
open Go Go.Ev BJ

theorem enc_aff (x y : F) : encE (affE x y) = if x.val % 2 = 1 then topSet (bytesF y) else bytesF y := by
  have hi : F.inv (affE x y).2.2.1 = 1 := inv_one
  unfold encE
  rw [hi]
  have h1 : (affE x y).1 * 1 = x := by show x * 1 = x; grobner
  have h2 : (affE x y).2.1 * 1 = y := by show y * 1 = y; grobner
  rw [h1, h2]
theorem base_even : ¬ baseX.val % 2 = 1 := by decide +kernel
theorem base_enc : encE baseE = bytesF baseY := by
  rw [base_lit, enc_aff, if_neg base_even]
theorem base_is : OkPt baseC ∧ ptE baseC = baseE := by
  obtain ⟨h1, h2, h3⟩ := base_pt
  obtain ⟨o1, o2⟩ := ok_of h1 h2
  exact ⟨o1, o2.trans h3⟩
theorem zero_is : OkPt zeroC ∧ ptE zeroC = zeroE := by
  obtain ⟨h1, h2, h3⟩ := zero_pt
  obtain ⟨o1, o2⟩ := ok_of h1 h2
  exact ⟨o1, o2.trans h3⟩
theorem alive_true : aliveC = true := by
  obtain ⟨b1, b2⟩ := base_is
  obtain ⟨z1, z2⟩ := zero_is
  obtain ⟨a1, _, a3⟩ := add_pt z1 b1
  unfold aliveC aliveFn
  simp only []
  rw [encode_pt b1, equal_pt a1 b1, a3, b2, z2, base_enc]
  have h0 : (bytesF baseY).get 0 = 88 := by decide +kernel
  have h1 : (bytesF baseY).get 1 = 102 := by decide +kernel
  have h31 : (bytesF baseY).get 31 = 102 := by decide +kernel
  have he : eqE (addE zeroE baseE) baseE = true := by rw [base_lit]; decide +kernel
  rw [h0, h1, h31, he]; rfl
end Go.Proofs.Ytndiiabkoeblgaa
