/- The program's numbers modulo p: products, least numbers. -/
import Derived.Test.YtndiiabkoeblgaaFmb
namespace Go.Proofs.Ytndiiabkoeblgaa
open Go Go.Ev BJ

def tt : F := toF 2251799813685248
theorem tt5 : tt * tt * tt * tt * tt = 19 := by decide +kernel
theorem tt2 : toF 5070602400912917605986812821504 = tt * tt := by decide +kernel
theorem tt3 : toF 11417981541647679048466287755595961091061972992 = tt * tt * tt := by decide +kernel
theorem tt4 : toF 25711008708143844408671393477458601640355247900524685364822016 = tt * tt * tt * tt := by decide +kernel
theorem t19 : toF 19 = 19 := by decide +kernel
theorem toF_val5 (x0 x1 x2 x3 x4 : Int) : toF (x0 + x1 * 2251799813685248 + x2 * 5070602400912917605986812821504 + x3 * 11417981541647679048466287755595961091061972992 + x4 * 25711008708143844408671393477458601640355247900524685364822016) =
    toF x0 + toF x1 * tt + toF x2 * (tt * tt) + toF x3 * (tt * tt * tt) + toF x4 * (tt * tt * tt * tt) := by
  simp only [toF_add, toF_mul, tt2, tt3, tt4]; rfl

theorem tail_mk {R0 R1 R2 R3 R4 : Int} (n0 : 0 ≤ R0 ∧ R0 ≤ 1000000000000000000000000000000000) (n1 : 0 ≤ R1 ∧ R1 ≤ 1000000000000000000000000000000000) (n2 : 0 ≤ R2 ∧ R2 ≤ 1000000000000000000000000000000000)
    (n3 : 0 ≤ R3 ∧ R3 ≤ 1000000000000000000000000000000000) (n4 : 0 ≤ R4 ∧ R4 ≤ 26000000000000000000000000000000) :
    ((w64 (w64 (0 + R0 % 2251799813685248) + w64 (R4 / 2251799813685248 * 19)), w64 (w64 (0 + R0 / 2251799813685248) + R1 % 2251799813685248), w64 (w64 (0 + R1 / 2251799813685248) + R2 % 2251799813685248),
      w64 (w64 (0 + R2 / 2251799813685248) + R3 % 2251799813685248), w64 (w64 (0 + R3 / 2251799813685248) + R4 % 2251799813685248), ()) : Fe) = mk5 (R0 % 2251799813685248 + R4 / 2251799813685248 * 19) (R0 / 2251799813685248 + R1 % 2251799813685248) (R1 / 2251799813685248 + R2 % 2251799813685248)
      (R2 / 2251799813685248 + R3 % 2251799813685248) (R3 / 2251799813685248 + R4 % 2251799813685248) := by
  simp only [w64, Int.zero_add]
  rw [wrap_u64 (n := R0 % 2251799813685248) (by omega) (by omega), wrap_u64 (n := R4 / 2251799813685248 * 19) (by omega) (by omega), wrap_u64 (n := R0 / 2251799813685248) (by omega) (by omega), wrap_u64 (n := R1 / 2251799813685248) (by omega) (by omega),
    wrap_u64 (n := R2 / 2251799813685248) (by omega) (by omega), wrap_u64 (n := R3 / 2251799813685248) (by omega) (by omega)]
  rw [wrap_u64 (n := R0 % 2251799813685248 + R4 / 2251799813685248 * 19) (by omega) (by omega), wrap_u64 (n := R0 / 2251799813685248 + R1 % 2251799813685248) (by omega) (by omega), wrap_u64 (n := R1 / 2251799813685248 + R2 % 2251799813685248) (by omega) (by omega),
    wrap_u64 (n := R2 / 2251799813685248 + R3 % 2251799813685248) (by omega) (by omega), wrap_u64 (n := R3 / 2251799813685248 + R4 % 2251799813685248) (by omega) (by omega)]
  rfl
theorem tail_fe {R0 R1 R2 R3 R4 : Int} (n0 : 0 ≤ R0 ∧ R0 ≤ 1000000000000000000000000000000000) (n1 : 0 ≤ R1 ∧ R1 ≤ 1000000000000000000000000000000000) (n2 : 0 ≤ R2 ∧ R2 ≤ 1000000000000000000000000000000000)
    (n3 : 0 ≤ R3 ∧ R3 ≤ 1000000000000000000000000000000000) (n4 : 0 ≤ R4 ∧ R4 ≤ 26000000000000000000000000000000) :
    U5 (mk5 (R0 % 2251799813685248 + R4 / 2251799813685248 * 19) (R0 / 2251799813685248 + R1 % 2251799813685248) (R1 / 2251799813685248 + R2 % 2251799813685248)
      (R2 / 2251799813685248 + R3 % 2251799813685248) (R3 / 2251799813685248 + R4 % 2251799813685248)) ∧ fe (mk5 (R0 % 2251799813685248 + R4 / 2251799813685248 * 19) (R0 / 2251799813685248 + R1 % 2251799813685248) (R1 / 2251799813685248 + R2 % 2251799813685248)
      (R2 / 2251799813685248 + R3 % 2251799813685248) (R3 / 2251799813685248 + R4 % 2251799813685248)) =
      toF (R0 + R1 * 2251799813685248 + R2 * 5070602400912917605986812821504 + R3 * 11417981541647679048466287755595961091061972992 + R4 * 25711008708143844408671393477458601640355247900524685364822016) := by
  constructor
  · simp only [U5, U64, mk5]; omega
  · unfold fe
    rw [← toF_pp (val5 _) (R4 / 2251799813685248)]
    congr 1
    simp only [val5, pp, mk5]; omega

set_option maxHeartbeats 1000000 in
theorem mul_fe {x y : Fe} (hx : Ok5 x) (hy : Ok5 y) : Ok5 (mulOut mulFn add64 feCarry x y) ∧ fe (mulOut mulFn add64 feCarry x y) = fe x * fe y := by
  obtain ⟨_, hr⟩ := mulNeeds_ok hx hy
  obtain ⟨x0, x1, x2, x3, x4, u⟩ := x
  obtain ⟨y0, y1, y2, y3, y4, v⟩ := y
  have hv := mul_val x0 x1 x2 x3 x4 y0 y1 y2 y3 y4 u v hx
  have bnd : ∀ {p q : Int}, 0 ≤ p → p < 2251799813947392 → 0 ≤ q → q < 2251799813947392 → 0 ≤ p * q ∧ p * q ≤ 5070602402093548913987446767616 := fun {p q} h1 h2 h3 h4 =>
    ⟨Int.mul_nonneg h1 h3, Int.le_trans (Int.mul_le_mul (c := 2251799813947392) (d := 2251799813947392) (by omega) (by omega) h3 (by decide)) (by decide)⟩
  simp only [Ok5, Lim] at hx hy
  obtain ⟨hx0, hx1, hx2, hx3, hx4⟩ := hx
  obtain ⟨hy0, hy1, hy2, hy3, hy4⟩ := hy
  have b00 := bnd hx0.1 hx0.2 hy0.1 hy0.2
  have b01 := bnd hx0.1 hx0.2 hy1.1 hy1.2
  have b02 := bnd hx0.1 hx0.2 hy2.1 hy2.2
  have b03 := bnd hx0.1 hx0.2 hy3.1 hy3.2
  have b04 := bnd hx0.1 hx0.2 hy4.1 hy4.2
  have b10 := bnd hx1.1 hx1.2 hy0.1 hy0.2
  have b11 := bnd hx1.1 hx1.2 hy1.1 hy1.2
  have b12 := bnd hx1.1 hx1.2 hy2.1 hy2.2
  have b13 := bnd hx1.1 hx1.2 hy3.1 hy3.2
  have b14 := bnd hx1.1 hx1.2 hy4.1 hy4.2
  have b20 := bnd hx2.1 hx2.2 hy0.1 hy0.2
  have b21 := bnd hx2.1 hx2.2 hy1.1 hy1.2
  have b22 := bnd hx2.1 hx2.2 hy2.1 hy2.2
  have b23 := bnd hx2.1 hx2.2 hy3.1 hy3.2
  have b24 := bnd hx2.1 hx2.2 hy4.1 hy4.2
  have b30 := bnd hx3.1 hx3.2 hy0.1 hy0.2
  have b31 := bnd hx3.1 hx3.2 hy1.1 hy1.2
  have b32 := bnd hx3.1 hx3.2 hy2.1 hy2.2
  have b33 := bnd hx3.1 hx3.2 hy3.1 hy3.2
  have b34 := bnd hx3.1 hx3.2 hy4.1 hy4.2
  have b40 := bnd hx4.1 hx4.2 hy0.1 hy0.2
  have b41 := bnd hx4.1 hx4.2 hy1.1 hy1.2
  have b42 := bnd hx4.1 hx4.2 hy2.1 hy2.2
  have b43 := bnd hx4.1 hx4.2 hy3.1 hy3.2
  have b44 := bnd hx4.1 hx4.2 hy4.1 hy4.2
  have sw : ∀ a b : Int, a * 19 * b = 19 * (a * b) := fun a b => by rw [Int.mul_comm a 19, Int.mul_assoc]
  obtain ⟨p0, e0, k0, v0⟩ := hr 0 (by decide)
  obtain ⟨p1, e1, k1, v1⟩ := hr 1 (by decide)
  obtain ⟨p2, e2, k2, v2⟩ := hr 2 (by decide)
  obtain ⟨p3, e3, k3, v3⟩ := hr 3 (by decide)
  obtain ⟨p4, e4, k4, v4⟩ := hr 4 (by decide)
  rw [hv 0 (by decide)] at v0
  rw [hv 1 (by decide)] at v1
  rw [hv 2 (by decide)] at v2
  rw [hv 3 (by decide)] at v3
  rw [hv 4 (by decide)] at v4
  have v0' : pv p0 = x0 * y0 + x1 * 19 * y4 + x2 * 19 * y3 + x3 * 19 * y2 + x4 * 19 * y1 := v0
  have v1' : pv p1 = x0 * y1 + x1 * y0 + x2 * 19 * y4 + x3 * 19 * y3 + x4 * 19 * y2 := v1
  have v2' : pv p2 = x0 * y2 + x1 * y1 + x2 * y0 + x3 * 19 * y4 + x4 * 19 * y3 := v2
  have v3' : pv p3 = x0 * y3 + x1 * y2 + x2 * y1 + x3 * y0 + x4 * 19 * y4 := v3
  have v4' : pv p4 = x0 * y4 + x1 * y3 + x2 * y2 + x3 * y1 + x4 * y0 := v4
  have hring := mul_ring (toF x0) (toF x1) (toF x2) (toF x3) (toF x4) (toF y0) (toF y1) (toF y2) (toF y3) (toF y4) tt tt5
  have hR0 : toF (pv p0) = toF x0 * toF y0 + toF x1 * 19 * toF y4 + toF x2 * 19 * toF y3 + toF x3 * 19 * toF y2 + toF x4 * 19 * toF y1 := by rw [v0']; simp only [toF_add, toF_mul, t19]
  have hR1 : toF (pv p1) = toF x0 * toF y1 + toF x1 * toF y0 + toF x2 * 19 * toF y4 + toF x3 * 19 * toF y3 + toF x4 * 19 * toF y2 := by rw [v1']; simp only [toF_add, toF_mul, t19]
  have hR2 : toF (pv p2) = toF x0 * toF y2 + toF x1 * toF y1 + toF x2 * toF y0 + toF x3 * 19 * toF y4 + toF x4 * 19 * toF y3 := by rw [v2']; simp only [toF_add, toF_mul, t19]
  have hR3 : toF (pv p3) = toF x0 * toF y3 + toF x1 * toF y2 + toF x2 * toF y1 + toF x3 * toF y0 + toF x4 * 19 * toF y4 := by rw [v3']; simp only [toF_add, toF_mul, t19]
  have hR4 : toF (pv p4) = toF x0 * toF y4 + toF x1 * toF y3 + toF x2 * toF y2 + toF x3 * toF y1 + toF x4 * toF y0 := by rw [v4']; simp only [toF_add, toF_mul]
  rw [← hR0, ← hR1, ← hR2, ← hR3, ← hR4] at hring
  have n0 : 0 ≤ pv p0 ∧ pv p0 ≤ 1000000000000000000000000000000000 := by rw [v0']; simp only [sw]; omega
  have n1 : 0 ≤ pv p1 ∧ pv p1 ≤ 1000000000000000000000000000000000 := by rw [v1']; simp only [sw]; omega
  have n2 : 0 ≤ pv p2 ∧ pv p2 ≤ 1000000000000000000000000000000000 := by rw [v2']; simp only [sw]; omega
  have n3 : 0 ≤ pv p3 ∧ pv p3 ≤ 1000000000000000000000000000000000 := by rw [v3']; simp only [sw]; omega
  have n4 : 0 ≤ pv p4 ∧ pv p4 ≤ 26000000000000000000000000000000 := by rw [v4']; omega
  obtain ⟨l0, c0⟩ := high_low k0 rfl (by omega)
  obtain ⟨l1, c1⟩ := high_low k1 rfl (by omega)
  obtain ⟨l2, c2⟩ := high_low k2 rfl (by omega)
  obtain ⟨l3, c3⟩ := high_low k3 rfl (by omega)
  obtain ⟨l4, c4⟩ := high_low k4 rfl (by omega)
  generalize pv p0 = R0 at *
  generalize pv p1 = R1 at *
  generalize pv p2 = R2 at *
  generalize pv p3 = R3 at *
  generalize pv p4 = R4 at *
  have e : mulOut mulFn add64 feCarry (x0, x1, x2, x3, x4, u) (y0, y1, y2, y3, y4, v) = feCarry (mk5 (R0 % 2251799813685248 + R4 / 2251799813685248 * 19) (R0 / 2251799813685248 + R1 % 2251799813685248) (R1 / 2251799813685248 + R2 % 2251799813685248)
      (R2 / 2251799813685248 + R3 % 2251799813685248) (R3 / 2251799813685248 + R4 % 2251799813685248)) := by
    rw [← tail_mk n0 n1 n2 n3 n4]
    simp only [mulOut, e0, e1, e2, e3, e4, l0, l1, l2, l3, l4, c0, c1, c2, c3, c4]
  rw [e]
  obtain ⟨hU, h3⟩ := tail_fe n0 n1 n2 n3 n4
  obtain ⟨h1, h2⟩ := carry_fe hU
  refine ⟨h1, ?_⟩
  rw [h2, h3, toF_val5, hring]
  show _ = toF (x0 + x1 * _ + _ + _ + _) * toF (y0 + y1 * _ + _ + _ + _)
  rw [toF_val5, toF_val5]

/-- the least number that stands for the same -/
def Lim51 (n : Int) : Prop := 0 ≤ n ∧ n < 2251799813685248
def Lst5 (x : Fe) : Prop := (Lim51 x.1 ∧ Lim51 x.2.1 ∧ Lim51 x.2.2.1 ∧ Lim51 x.2.2.2.1 ∧ Lim51 x.2.2.2.2.1) ∧ val5 x < (pp : Int)
theorem least_fe {x : Fe} (hx : Ok5 x) : Lst5 (feLeast feCarry x) ∧ fe (feLeast feCarry x) = fe x := by
  obtain ⟨hy, hyx⟩ := carry_fe (x := x) (by simp only [Ok5, Lim] at hx; simp only [U5, U64]; omega)
  rw [← hyx]
  unfold feLeast
  generalize feCarry x = y at hy
  obtain ⟨y0, y1, y2, y3, y4, u⟩ := y
  simp only [Ok5, Lim] at hy
  simp only [and_msk, shr_51, w64]
  obtain ⟨a0, ha0⟩ : ∃ a, a = (y0 + 19) / 2251799813685248 := ⟨_, rfl⟩
  obtain ⟨a1, ha1⟩ : ∃ a, a = (y1 + a0) / 2251799813685248 := ⟨_, rfl⟩
  obtain ⟨a2, ha2⟩ : ∃ a, a = (y2 + a1) / 2251799813685248 := ⟨_, rfl⟩
  obtain ⟨a3, ha3⟩ : ∃ a, a = (y3 + a2) / 2251799813685248 := ⟨_, rfl⟩
  obtain ⟨q, hq⟩ : ∃ a, a = (y4 + a3) / 2251799813685248 := ⟨_, rfl⟩
  rw [wrap_u64 (n := y0 + 19) (by omega) (by omega), ← ha0]
  rw [wrap_u64 (n := y1 + a0) (by omega) (by omega), ← ha1]
  rw [wrap_u64 (n := y2 + a1) (by omega) (by omega), ← ha2]
  rw [wrap_u64 (n := y3 + a2) (by omega) (by omega), ← ha3]
  rw [wrap_u64 (n := y4 + a3) (by omega) (by omega), ← hq]
  have hq01 : q = 0 ∨ q = 1 := by omega
  rw [wrap_u64 (n := q * 19) (by omega) (by omega)]
  obtain ⟨c0, hc0⟩ : ∃ a, a = q * 19 + y0 := ⟨_, rfl⟩
  rw [wrap_u64 (n := q * 19 + y0) (by omega) (by omega), ← hc0]
  obtain ⟨c1, hc1⟩ : ∃ a, a = c0 / 2251799813685248 + y1 := ⟨_, rfl⟩
  rw [wrap_u64 (n := c0 / 2251799813685248 + y1) (by omega) (by omega), ← hc1]
  obtain ⟨c2, hc2⟩ : ∃ a, a = c1 / 2251799813685248 + y2 := ⟨_, rfl⟩
  rw [wrap_u64 (n := c1 / 2251799813685248 + y2) (by omega) (by omega), ← hc2]
  obtain ⟨c3, hc3⟩ : ∃ a, a = c2 / 2251799813685248 + y3 := ⟨_, rfl⟩
  rw [wrap_u64 (n := c2 / 2251799813685248 + y3) (by omega) (by omega), ← hc3]
  obtain ⟨c4, hc4⟩ : ∃ a, a = c3 / 2251799813685248 + y4 := ⟨_, rfl⟩
  rw [wrap_u64 (n := c3 / 2251799813685248 + y4) (by omega) (by omega), ← hc4]
  have hval : val5 (c0 % 2251799813685248, c1 % 2251799813685248, c2 % 2251799813685248, c3 % 2251799813685248, c4 % 2251799813685248, ()) = val5 (y0, y1, y2, y3, y4, u) - q * (pp : Int) ∧
      val5 (c0 % 2251799813685248, c1 % 2251799813685248, c2 % 2251799813685248, c3 % 2251799813685248, c4 % 2251799813685248, ()) < (pp : Int) := by
    simp only [val5, pp]
    rcases hq01 with rfl | rfl
    · constructor <;> omega
    · constructor <;> omega
  refine ⟨⟨by simp only [Lim51]; omega, hval.2⟩, ?_⟩
  unfold fe
  rw [hval.1, ← toF_pp (val5 (y0, y1, y2, y3, y4, u) - _) q]
  congr 1; omega
end Go.Proofs.Ytndiiabkoeblgaa
