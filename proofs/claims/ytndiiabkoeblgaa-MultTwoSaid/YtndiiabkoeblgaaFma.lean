/- The program's numbers modulo p: what they stand for. Sums, differences. -/
import Derived.Test.YtndiiabkoeblgaaFeb
import Derived.Test.YtndiiabkoeblgaaBits
import Derived.Test.YtndiiabkoeblgaaCurve
namespace BJ

/-- the number modulo p -/
def toF (n : Int) : F := ⟨(n % (pp : Int)).toNat, by
  have h1 : 0 ≤ n % (pp : Int) := Int.emod_nonneg _ (by decide)
  have h2 : n % (pp : Int) < (pp : Int) := Int.emod_lt_of_pos _ (by decide)
  omega⟩
theorem toF_val (n : Int) : ((toF n).val : Int) = n % (pp : Int) := Int.toNat_of_nonneg (Int.emod_nonneg _ (by decide))
theorem F_ext {a b : F} (h : (a.val : Int) = b.val) : a = b := Fin.ext (Int.ofNat_inj.1 h)
theorem toF_iff {a b : Int} : toF a = toF b ↔ a % (pp : Int) = b % (pp : Int) := by
  constructor
  · intro h; rw [← toF_val, ← toF_val, h]
  · intro h; exact F_ext (by rw [toF_val, toF_val, h])
theorem toF_add (a b : Int) : toF (a + b) = toF a + toF b := by
  apply F_ext
  rw [toF_val, Fin.val_add, Int.natCast_emod, Int.natCast_add, toF_val, toF_val, ← Int.add_emod]
theorem toF_mul (a b : Int) : toF (a * b) = toF a * toF b := by
  apply F_ext
  rw [toF_val, Fin.val_mul, Int.natCast_emod, Int.natCast_mul, toF_val, toF_val, ← Int.mul_emod]
theorem toF_zero : toF 0 = 0 := by apply F_ext; rw [toF_val]; decide
theorem toF_one : toF 1 = 1 := by apply F_ext; rw [toF_val]; decide
theorem toF_sub (a b : Int) : toF (a - b) = toF a - toF b := by
  have h : toF (a - b) + toF b = toF a := by rw [← toF_add]; congr 1; omega
  grobner
theorem toF_neg (a : Int) : toF (-a) = - toF a := by
  have h : toF (-a) + toF a = 0 := by rw [← toF_add, ← toF_zero]; congr 1; omega
  grobner
theorem toF_pp (a k : Int) : toF (a + k * (pp : Int)) = toF a := toF_iff.2 (Int.add_mul_emod_self_right _ _ _)
end BJ

namespace Go.Proofs.Ytndiiabkoeblgaa
open Go Go.Ev BJ

def mk5 (a b c d e : Int) : Fe := (a, b, c, d, e, ())
def U64 (n : Int) : Prop := 0 ≤ n ∧ n < 18446744073709551616
def Lim (n : Int) : Prop := 0 ≤ n ∧ n < 2251799813947392
def U5 (x : Fe) : Prop := U64 x.1 ∧ U64 x.2.1 ∧ U64 x.2.2.1 ∧ U64 x.2.2.2.1 ∧ U64 x.2.2.2.2.1
def Ok5 (x : Fe) : Prop := Lim x.1 ∧ Lim x.2.1 ∧ Lim x.2.2.1 ∧ Lim x.2.2.2.1 ∧ Lim x.2.2.2.2.1
def val5 (x : Fe) : Int := x.1 + x.2.1 * 2251799813685248 + x.2.2.1 * 5070602400912917605986812821504 + x.2.2.2.1 * 11417981541647679048466287755595961091061972992 + x.2.2.2.2.1 * 25711008708143844408671393477458601640355247900524685364822016
def fe (x : Fe) : F := toF (val5 x)

theorem and_msk (x : Int) : and64 x msk = x % 2251799813685248 := by
  have := and_u64 (m := 51) (by decide) x msk (by decide)
  simpa [and64] using this
theorem shr_51 (x : Int) : shr64 x 51 = x / 2251799813685248 := by
  have := shr_div .u64 x 51 (by decide)
  simpa [shr64] using this

theorem carry_val {x : Fe} (h : U5 x) : Ok5 (feCarry x) ∧ ∃ k, val5 (feCarry x) = val5 x + k * (pp : Int) := by
  obtain ⟨x0, x1, x2, x3, x4, u⟩ := x
  obtain ⟨h0, h1, h2, h3, h4⟩ := h
  simp only [U64] at h0 h1 h2 h3 h4
  have e : feCarry (x0, x1, x2, x3, x4, u) = mk5 (x0 % 2251799813685248 + x4 / 2251799813685248 * 19) (x1 % 2251799813685248 + x0 / 2251799813685248) (x2 % 2251799813685248 + x1 / 2251799813685248)
      (x3 % 2251799813685248 + x2 / 2251799813685248) (x4 % 2251799813685248 + x3 / 2251799813685248) := by
    simp only [feCarry, and_msk, shr_51, w64]
    rw [wrap_u64 (n := x4 / 2251799813685248 * 19) (by omega) (by omega)]
    rw [wrap_u64 (by omega) (by omega), wrap_u64 (by omega) (by omega), wrap_u64 (by omega) (by omega), wrap_u64 (by omega) (by omega), wrap_u64 (by omega) (by omega)]
    rfl
  rw [e]
  refine ⟨?_, -(x4 / 2251799813685248), ?_⟩
  · simp only [Ok5, Lim, mk5]; omega
  · simp only [val5, pp, mk5]; omega

theorem carry_fe {x : Fe} (h : U5 x) : Ok5 (feCarry x) ∧ fe (feCarry x) = fe x := by
  obtain ⟨h1, k, h2⟩ := carry_val h
  exact ⟨h1, by unfold fe; rw [h2, toF_pp]⟩

theorem add_fe {x y : Fe} (hx : Ok5 x) (hy : Ok5 y) : Ok5 (feAdd feCarry x y) ∧ fe (feAdd feCarry x y) = fe x + fe y := by
  obtain ⟨x0, x1, x2, x3, x4, u⟩ := x
  obtain ⟨y0, y1, y2, y3, y4, v⟩ := y
  simp only [Ok5, Lim] at hx hy
  have e : Vec.zip (n := 5) (fun a b => w64 (a + b)) (x0, x1, x2, x3, x4, u) (y0, y1, y2, y3, y4, v) = mk5 (x0 + y0) (x1 + y1) (x2 + y2) (x3 + y3) (x4 + y4) := by
    show (w64 (x0 + y0), w64 (x1 + y1), w64 (x2 + y2), w64 (x3 + y3), w64 (x4 + y4), ()) = _
    simp only [w64]
    rw [wrap_u64 (by omega) (by omega), wrap_u64 (by omega) (by omega), wrap_u64 (by omega) (by omega), wrap_u64 (by omega) (by omega), wrap_u64 (by omega) (by omega)]
    rfl
  unfold feAdd
  rw [e]
  obtain ⟨h1, h2⟩ := carry_fe (x := mk5 (x0 + y0) (x1 + y1) (x2 + y2) (x3 + y3) (x4 + y4)) (by simp only [U5, U64, mk5]; omega)
  refine ⟨h1, ?_⟩
  rw [h2]
  unfold fe
  rw [← toF_add]
  congr 1
  simp only [val5, mk5]; omega

theorem sub_fe {x y : Fe} (hx : Ok5 x) (hy : Ok5 y) : Ok5 (feSub feCarry x y) ∧ fe (feSub feCarry x y) = fe x - fe y := by
  obtain ⟨x0, x1, x2, x3, x4, u⟩ := x
  obtain ⟨y0, y1, y2, y3, y4, v⟩ := y
  simp only [Ok5, Lim] at hx hy
  have e : Vec.zip (n := 5) (fun a b => w64 (a - b)) (Vec.zip (n := 5) (fun a b => w64 (a + b)) (x0, x1, x2, x3, x4, u) (4503599627370458, 4503599627370494, 4503599627370494, 4503599627370494, 4503599627370494, ())) (y0, y1, y2, y3, y4, v) =
      mk5 (x0 + 4503599627370458 - y0) (x1 + 4503599627370494 - y1) (x2 + 4503599627370494 - y2) (x3 + 4503599627370494 - y3) (x4 + 4503599627370494 - y4) := by
    show (w64 (w64 (x0 + 4503599627370458) - y0), w64 (w64 (x1 + 4503599627370494) - y1), w64 (w64 (x2 + 4503599627370494) - y2), w64 (w64 (x3 + 4503599627370494) - y3), w64 (w64 (x4 + 4503599627370494) - y4), ()) = _
    simp only [w64]
    rw [wrap_u64 (n := x0 + 4503599627370458) (by omega) (by omega), wrap_u64 (n := x1 + 4503599627370494) (by omega) (by omega), wrap_u64 (n := x2 + 4503599627370494) (by omega) (by omega), wrap_u64 (n := x3 + 4503599627370494) (by omega) (by omega), wrap_u64 (n := x4 + 4503599627370494) (by omega) (by omega)]
    rw [wrap_u64 (by omega) (by omega), wrap_u64 (by omega) (by omega), wrap_u64 (by omega) (by omega), wrap_u64 (by omega) (by omega), wrap_u64 (by omega) (by omega)]
    rfl
  unfold feSub
  rw [e]
  obtain ⟨h1, h2⟩ := carry_fe (x := mk5 (x0 + 4503599627370458 - y0) (x1 + 4503599627370494 - y1) (x2 + 4503599627370494 - y2) (x3 + 4503599627370494 - y3) (x4 + 4503599627370494 - y4)) (by simp only [U5, U64, mk5]; omega)
  refine ⟨h1, ?_⟩
  rw [h2]
  unfold fe
  rw [← toF_sub, ← toF_pp (val5 (x0, x1, x2, x3, x4, u) - _) 2]
  congr 1
  simp only [val5, pp, mk5]; omega
theorem zero_fe : Ok5 feZero ∧ fe feZero = 0 := by
  refine ⟨by simp [Ok5, Lim, feZero], ?_⟩
  rw [← toF_zero]; rfl

/-! ### Whole products -/
theorem mulFn_val {a b : Int} (ha : U64 a) (hb : U64 b) : mulFn a b = (a * b / 18446744073709551616, a * b % 18446744073709551616) := by
  simp only [U64] at ha hb
  have e0 : ∀ x, and64 x 4294967295 = x % 4294967296 := fun x => by
    have := and_u64 (m := 32) (by decide) x 4294967295 (by decide)
    simpa [and64] using this
  have e1 : ∀ x, shr64 x 32 = x / 4294967296 := fun x => by
    have := shr_div .u64 x 32 (by decide)
    simpa [shr64] using this
  obtain ⟨a0, a1, ha0, ha1, rfl⟩ : ∃ a0 a1 : Int, a % 4294967296 = a0 ∧ a / 4294967296 = a1 ∧ a = a1 * 4294967296 + a0 := ⟨_, _, rfl, rfl, by omega⟩
  obtain ⟨b0, b1, hb0, hb1, rfl⟩ : ∃ b0 b1 : Int, b % 4294967296 = b0 ∧ b / 4294967296 = b1 ∧ b = b1 * 4294967296 + b0 := ⟨_, _, rfl, rfl, by omega⟩
  have bnd : ∀ {p q : Int}, 0 ≤ p → p ≤ 4294967295 → 0 ≤ q → q ≤ 4294967295 → 0 ≤ p * q ∧ p * q ≤ 18446744065119617025 := fun {p q} h1 h2 h3 h4 =>
    ⟨Int.mul_nonneg h1 h3, Int.le_trans (Int.mul_le_mul h2 h4 h3 (by decide)) (by decide)⟩
  have h00 := bnd (p := a0) (q := b0) (by omega) (by omega) (by omega) (by omega)
  have h01 := bnd (p := a0) (q := b1) (by omega) (by omega) (by omega) (by omega)
  have h10 := bnd (p := a1) (q := b0) (by omega) (by omega) (by omega) (by omega)
  have h11 := bnd (p := a1) (q := b1) (by omega) (by omega) (by omega) (by omega)
  have hab : (a1 * 4294967296 + a0) * (b1 * 4294967296 + b0) = a1 * b1 * 18446744073709551616 + (a1 * b0 + a0 * b1) * 4294967296 + a0 * b0 := by grind
  simp only [mulFn, e0, e1, ha0, ha1, hb0, hb1, w64]
  rw [hab]
  generalize a0 * b0 = p00 at *
  generalize a0 * b1 = p01 at *
  generalize a1 * b0 = p10 at *
  generalize a1 * b1 = p11 at *
  rw [wrap_u64 (n := p00) (by omega) (by omega), wrap_u64 (n := p10) (by omega) (by omega), wrap_u64 (n := p01) (by omega) (by omega), wrap_u64 (n := p11) (by omega) (by omega)]
  rw [wrap_u64 (n := p10 + p00 / 4294967296) (by omega) (by omega)]
  rw [wrap_u64 (n := (p10 + p00 / 4294967296) % 4294967296 + p01) (by omega) (by omega)]
  rw [wrap_u64 (n := p11 + (p10 + p00 / 4294967296) / 4294967296) (by omega) (by omega)]
  rw [wrap_u64', wrap_u64']
  refine Prod.ext ?_ ?_
  · show _ = _ / _; omega
  · show _ = _ % _; omega

end Go.Proofs.Ytndiiabkoeblgaa
