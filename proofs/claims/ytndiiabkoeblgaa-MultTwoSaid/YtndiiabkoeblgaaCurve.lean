/- The field of 2^255 - 19 elements and the points of edwards25519: a commutative group. Plain numbers, no program. -/
import Derived.Test.YtndiiabkoeblgaaCert
namespace BJ

/-- the prime of the field -/
abbrev pp : Nat := 57896044618658097711785492504343953926634992332820282019728792003956564819949

abbrev F := Fin pp

instance : NeZero pp := ⟨by decide⟩

theorem pp_prime : IsPrime pp := p57896044618658097711785492504343953926634992332820282019728792003956564819949

theorem F.mul_eq_zero {a b : F} (h : a * b = 0) : a = 0 ∨ b = 0 := by
  have h1 : (a.val * b.val) % pp = 0 := by
    have := congrArg Fin.val h
    rwa [Fin.val_mul] at this
  rcases pp_prime.dvd_mul (Nat.dvd_of_mod_eq_zero h1) with h2 | h2
  · exact .inl (Fin.ext (Nat.eq_zero_of_dvd_of_lt h2 a.isLt))
  · exact .inr (Fin.ext (Nat.eq_zero_of_dvd_of_lt h2 b.isLt))

theorem F.mz (a : F) : a * 0 = 0 := by grobner
theorem F.az : (0 : F) + 0 = 0 := by grobner

theorem F.mul_ne {a b : F} (ha : a ≠ 0) (hb : b ≠ 0) : a * b ≠ 0 := fun h =>
  (F.mul_eq_zero h).elim ha hb

theorem F.cancel {a b c : F} (hc : c ≠ 0) (h : a * c = b * c) : a = b := by
  have : (a - b) * c = 0 := by grobner
  rcases F.mul_eq_zero this with h1 | h1
  · grobner
  · exact absurd h1 hc

/-- powers -/
def F.pow (a : F) (n : Nat) : F := ⟨a.val ^ n % pp, Nat.mod_lt _ (by decide)⟩

theorem F.pow_zero (a : F) : F.pow a 0 = 1 := by
  apply Fin.ext; simp [F.pow]

theorem F.pow_succ (a : F) (n : Nat) : F.pow a (n + 1) = F.pow a n * a := by
  apply Fin.ext
  simp only [F.pow, Fin.val_mul, Nat.pow_succ]
  rw [Nat.mul_mod, Nat.mod_eq_of_lt a.isLt]

/-- the inverse -/
def F.inv (a : F) : F := F.pow a (pp - 2)


theorem F.val_ne {a : F} (h : a ≠ 0) : a.val % pp ≠ 0 := by
  rw [Nat.mod_eq_of_lt a.isLt]
  intro e
  exact h (Fin.ext e)

theorem pp_root : Root pp 2 := r57896044618658097711785492504343953926634992332820282019728792003956564819949

theorem F.inv_mul {a : F} (h : a ≠ 0) : a * F.inv a = 1 := by
  have hf := pp_root.fermat (F.val_ne h)
  apply Fin.ext
  show (a.val * (a.val ^ (pp - 2) % pp)) % pp = 1 % pp
  rw [Nat.mul_mod, Nat.mod_mod, ← Nat.mul_mod, Nat.mul_comm, ← Nat.pow_succ]
  rw [show Nat.succ (pp - 2) = pp - 1 from by decide, hf]
  decide

theorem F.zero_pow {n : Nat} (hn : 0 < n) : F.pow 0 n = 0 := by
  apply Fin.ext
  show (0 : Nat) ^ n % pp = 0
  rw [Nat.zero_pow hn, Nat.zero_mod]
theorem F.inv_zero : F.inv 0 = 0 := F.zero_pow (by decide)

/-- the curve's number -/
def dd : F := 37095705934669439343138083508754565189542113879843219016388785533085940283555

/-- a root of -1 -/
def ii : F := 19681161376707505956807079304988542015446066515923890162744021073123829784752

theorem ii_sq : ii * ii = -1 := by decide +kernel

theorem dd_ne : dd ≠ 0 := by decide +kernel

/-- no square is d -/
theorem dd_nonsquare (s : F) : s * s ≠ dd := by
  intro h
  have hs : s ≠ 0 := by
    rintro rfl
    exact dd_ne (by rw [← h]; decide +kernel)
  have hf := pp_root.fermat (F.val_ne hs)
  have h1 : (s.val * s.val) % pp = dd.val := by
    have := congrArg Fin.val h
    rwa [Fin.val_mul] at this
  have h2 : dd.val ^ ((pp - 1) / 2) % pp = 1 := by
    rw [← h1, ← Nat.pow_mod, ← Nat.pow_two, ← Nat.pow_mul]
    rw [show 2 * ((pp - 1) / 2) = pp - 1 from by decide]
    exact hf
  rw [← pm_eq pp 255 _ _ (by decide +kernel)] at h2
  revert h2
  decide +kernel

theorem two_ne : (2 : F) ≠ 0 := by decide +kernel

def OnC (x y : F) : Prop := y * y - x * x = 1 + dd * (x * x) * (y * y)
theorem OnC.zero {x y : F} (h : OnC x y) : y * y - x * x - (1 + dd * (x * x) * (y * y)) = 0 := by unfold OnC at h; grobner

theorem denom {x1 y1 x2 y2 e : F} (h1 : OnC x1 y1) (h2 : OnC x2 y2) (he : e * e = 1) : dd * x1 * x2 * y1 * y2 ≠ e := by
  intro hd
  unfold OnC at h1 h2
  have e0 : e ≠ 0 := by rintro rfl; revert he; decide +kernel
  have hx1 : x1 ≠ 0 := by rintro rfl; apply e0; rw [← hd]; grobner
  have hy1 : y1 ≠ 0 := by rintro rfl; apply e0; rw [← hd]; grobner
  have hy2 : y2 ≠ 0 := by rintro rfl; apply e0; rw [← hd]; grobner
  have hi := ii_sq
  -- d (x1 y1)^2 (y2 + s i x2)^2 = (y1 + s e i x1)^2, of both signs
  have k1 : dd * ((x1 * y1 * (y2 + ii * x2)) * (x1 * y1 * (y2 + ii * x2))) = (y1 + e * ii * x1) * (y1 + e * ii * x1) := by grobner
  have k2 : dd * ((x1 * y1 * (y2 - ii * x2)) * (x1 * y1 * (y2 - ii * x2))) = (y1 - e * ii * x1) * (y1 - e * ii * x1) := by grobner
  have sq : ∀ t u : F, dd * (t * t) = u * u → t = 0 := by
    intro t u h
    refine Classical.byContradiction fun ht => ?_
    apply dd_nonsquare (u * F.inv t)
    have hv := F.inv_mul ht
    have : u * F.inv t * (u * F.inv t) = (u * u) * (F.inv t * F.inv t) := by grobner
    rw [this, ← h]
    have : dd * (t * t) * (F.inv t * F.inv t) = dd * ((t * F.inv t) * (t * F.inv t)) := by grobner
    rw [this, hv]; grobner
  have z1 := sq _ _ k1
  have z2 := sq _ _ k2
  have hxy := F.mul_ne hx1 hy1
  have w1 : y2 + ii * x2 = 0 := (F.mul_eq_zero z1).resolve_left hxy
  have w2 : y2 - ii * x2 = 0 := (F.mul_eq_zero z2).resolve_left hxy
  have : (2 : F) * y2 = 0 := by grobner
  exact hy2 ((F.mul_eq_zero this).resolve_left two_ne)

theorem denom_plus {x1 y1 x2 y2 : F} (h1 : OnC x1 y1) (h2 : OnC x2 y2) : 1 + dd * x1 * x2 * y1 * y2 ≠ 0 := by
  intro h
  exact denom h1 h2 (e := -1) (by decide +kernel) (by grobner)
theorem denom_minus {x1 y1 x2 y2 : F} (h1 : OnC x1 y1) (h2 : OnC x2 y2) : 1 - dd * x1 * x2 * y1 * y2 ≠ 0 := by
  intro h
  exact denom h1 h2 (e := 1) (by decide +kernel) (by grobner)

/-- a point of the curve -/
structure Pt where
  x : F
  y : F
  on : OnC x y

theorem Pt.ext' {p q : Pt} (hx : p.x = q.x) (hy : p.y = q.y) : p = q := by
  cases p; cases q; simp at hx hy; subst hx hy; rfl

def addX (x1 y1 x2 y2 : F) : F := (x1 * y2 + y1 * x2) * F.inv (1 + dd * x1 * x2 * y1 * y2)
def addY (x1 y1 x2 y2 : F) : F := (y1 * y2 + x1 * x2) * F.inv (1 - dd * x1 * x2 * y1 * y2)

theorem addX_mul {x1 y1 x2 y2 : F} (h1 : OnC x1 y1) (h2 : OnC x2 y2) : addX x1 y1 x2 y2 * (1 + dd * x1 * x2 * y1 * y2) = x1 * y2 + y1 * x2 := by
  have := F.inv_mul (denom_plus h1 h2)
  unfold addX
  generalize F.inv (1 + dd * x1 * x2 * y1 * y2) = v at *
  grobner
theorem addY_mul {x1 y1 x2 y2 : F} (h1 : OnC x1 y1) (h2 : OnC x2 y2) : addY x1 y1 x2 y2 * (1 - dd * x1 * x2 * y1 * y2) = y1 * y2 + x1 * x2 := by
  have := F.inv_mul (denom_minus h1 h2)
  unfold addY
  generalize F.inv (1 - dd * x1 * x2 * y1 * y2) = v at *
  grobner


/-! The identities behind the group law; their coefficients are made by a program (assoc.py). -/
theorem closure_id (d x1 y1 x2 y2 : F) : ((y1 * y2 + x1 * x2) * (y1 * y2 + x1 * x2)) * ((1 + d * x1 * x2 * y1 * y2) * (1 + d * x1 * x2 * y1 * y2)) - ((x1 * y2 + y1 * x2) * (x1 * y2 + y1 * x2)) * ((1 - d * x1 * x2 * y1 * y2) * (1 - d * x1 * x2 * y1 * y2)) - ((1 + d * x1 * x2 * y1 * y2) * (1 + d * x1 * x2 * y1 * y2)) * ((1 - d * x1 * x2 * y1 * y2) * (1 - d * x1 * x2 * y1 * y2)) - d * ((x1 * y2 + y1 * x2) * (x1 * y2 + y1 * x2)) * ((y1 * y2 + x1 * x2) * (y1 * y2 + x1 * x2)) = (y2 * y2 * y2 * y2 - 4 * x2 * x2 * y2 * y2 - 2 * x2 * x2 * y2 * y2 * d + 2 * x2 * x2 * y2 * y2 * y2 * y2 + x2 * x2 * x2 * x2 - 2 * x2 * x2 * x2 * x2 * y2 * y2 - 2 * x2 * x2 * x2 * x2 * y2 * y2 * y2 * y2 * d - x2 * x2 * x2 * x2 * y2 * y2 * y2 * y2 * d * d - y1 * y1 * x2 * x2 * y2 * y2 * y2 * y2 * d + y1 * y1 * x2 * x2 * x2 * x2 * y2 * y2 * d + y1 * y1 * x2 * x2 * x2 * x2 * y2 * y2 * y2 * y2 * d * d + x1 * x1 * x2 * x2 * y2 * y2 * y2 * y2 * d - x1 * x1 * x2 * x2 * x2 * x2 * y2 * y2 * d - x1 * x1 * x2 * x2 * x2 * x2 * y2 * y2 * y2 * y2 * d * d + x1 * x1 * y1 * y1 * x2 * x2 * x2 * x2 * y2 * y2 * y2 * y2 * d * d * d) * (y1 * y1 - x1 * x1 - (1 + d * (x1 * x1) * (y1 * y1))) + (1 + y2 * y2 - x2 * x2 + 2 * x2 * x2 * y2 * y2 + x2 * x2 * y2 * y2 * d - y1 * y1 * y2 * y2 + y1 * y1 * x2 * x2 - 2 * y1 * y1 * x2 * x2 * y2 * y2 - 2 * y1 * y1 * x2 * x2 * y2 * y2 * d + y1 * y1 * y1 * y1 * x2 * x2 * y2 * y2 * d + x1 * x1 * y2 * y2 - x1 * x1 * x2 * x2 + 2 * x1 * x1 * x2 * x2 * y2 * y2 + 2 * x1 * x1 * x2 * x2 * y2 * y2 * d + x1 * x1 * x1 * x1 * x2 * x2 * y2 * y2 * d) * (y2 * y2 - x2 * x2 - (1 + d * (x2 * x2) * (y2 * y2))) := by grobner
theorem assoc_x_id (d x1 y1 x2 y2 x3 y3 : F) : ((x1 * y2 + y1 * x2) * (1 - d * x1 * x2 * y1 * y2) * y3 + (y1 * y2 + x1 * x2) * (1 + d * x1 * x2 * y1 * y2) * x3) * ((1 + d * x2 * x3 * y2 * y3) * (1 - d * x2 * x3 * y2 * y3) + d * x1 * y1 * (x2 * y3 + y2 * x3) * (y2 * y3 + x2 * x3)) - (x1 * (y2 * y3 + x2 * x3) * (1 + d * x2 * x3 * y2 * y3) + y1 * (x2 * y3 + y2 * x3) * (1 - d * x2 * x3 * y2 * y3)) * ((1 + d * x1 * x2 * y1 * y2) * (1 - d * x1 * x2 * y1 * y2) + d * (x1 * y2 + y1 * x2) * (y1 * y2 + x1 * x2) * x3 * y3) = (- y1 * x2 * y2 * y2 * y2 * y2 * x3 * x3 * y3 * d - y1 * x2 * x2 * y2 * y2 * y2 * x3 * d - y1 * x2 * x2 * y2 * y2 * y2 * x3 * x3 * x3 * d - y1 * x2 * x2 * x2 * y2 * y2 * y3 * d + y1 * x2 * x2 * x2 * y2 * y2 * y3 * y3 * y3 * d + y1 * x2 * x2 * x2 * y2 * y2 * y2 * y2 * x3 * x3 * y3 * d * d + y1 * x2 * x2 * x2 * x2 * y2 * x3 * y3 * y3 * d + y1 * x2 * x2 * x2 * x2 * y2 * y2 * y2 * x3 * y3 * y3 * d * d + x1 * x2 * y2 * y2 * y2 * y2 * x3 * y3 * y3 * d - x1 * x2 * x2 * y2 * y2 * y2 * y3 * d + x1 * x2 * x2 * y2 * y2 * y2 * y3 * y3 * y3 * d - x1 * x2 * x2 * x2 * y2 * y2 * x3 * d - x1 * x2 * x2 * x2 * y2 * y2 * x3 * x3 * x3 * d - x1 * x2 * x2 * x2 * y2 * y2 * y2 * y2 * x3 * y3 * y3 * d * d - x1 * x2 * x2 * x2 * x2 * y2 * x3 * x3 * y3 * d - x1 * x2 * x2 * x2 * x2 * y2 * y2 * y2 * x3 * x3 * y3 * d * d) * (y1 * y1 - x1 * x1 - (1 + d * (x1 * x1) * (y1 * y1))) + (y1 * y2 * x3 - y1 * y2 * x3 * y3 * y3 + y1 * y2 * x3 * x3 * x3 + y1 * y2 * x3 * x3 * x3 * y3 * y3 * d + y1 * x2 * y3 - y1 * x2 * y3 * y3 * y3 + y1 * x2 * x3 * x3 * y3 + y1 * x2 * x3 * x3 * y3 * y3 * y3 * d - y1 * x2 * y2 * y2 * x3 * x3 * y3 * d - y1 * x2 * x2 * y2 * x3 * y3 * y3 * d - y1 * y1 * y1 * y2 * x3 + y1 * y1 * y1 * y2 * x3 * y3 * y3 - y1 * y1 * y1 * y2 * x3 * x3 * x3 - y1 * y1 * y1 * y2 * x3 * x3 * x3 * y3 * y3 * d - y1 * y1 * y1 * x2 * y3 + y1 * y1 * y1 * x2 * y3 * y3 * y3 - y1 * y1 * y1 * x2 * x3 * x3 * y3 - y1 * y1 * y1 * x2 * x3 * x3 * y3 * y3 * y3 * d + y1 * y1 * y1 * x2 * y2 * y2 * x3 * x3 * y3 * d + y1 * y1 * y1 * x2 * x2 * y2 * x3 * y3 * y3 * d + x1 * y2 * y3 - x1 * y2 * y3 * y3 * y3 + x1 * y2 * x3 * x3 * y3 + x1 * y2 * x3 * x3 * y3 * y3 * y3 * d + x1 * x2 * x3 - x1 * x2 * x3 * y3 * y3 + x1 * x2 * x3 * x3 * x3 + x1 * x2 * x3 * x3 * x3 * y3 * y3 * d + x1 * x2 * y2 * y2 * x3 * y3 * y3 * d + x1 * x2 * x2 * y2 * x3 * x3 * y3 * d - x1 * y1 * y1 * y2 * y3 + x1 * y1 * y1 * y2 * y3 * y3 * y3 - x1 * y1 * y1 * y2 * x3 * x3 * y3 - x1 * y1 * y1 * y2 * x3 * x3 * y3 * y3 * y3 * d - x1 * y1 * y1 * x2 * x3 + x1 * y1 * y1 * x2 * x3 * y3 * y3 - x1 * y1 * y1 * x2 * x3 * x3 * x3 - x1 * y1 * y1 * x2 * x3 * x3 * x3 * y3 * y3 * d - x1 * y1 * y1 * x2 * y2 * y2 * x3 * y3 * y3 * d + x1 * y1 * y1 * x2 * y2 * y2 * x3 * x3 * x3 * y3 * y3 * d * d - x1 * y1 * y1 * x2 * x2 * y2 * x3 * x3 * y3 * d - x1 * y1 * y1 * x2 * x2 * y2 * x3 * x3 * y3 * y3 * y3 * d * d + x1 * x1 * y1 * y2 * x3 - x1 * x1 * y1 * y2 * x3 * y3 * y3 + x1 * x1 * y1 * y2 * x3 * x3 * x3 + x1 * x1 * y1 * y2 * x3 * x3 * x3 * y3 * y3 * d + x1 * x1 * y1 * x2 * y3 - x1 * x1 * y1 * x2 * y3 * y3 * y3 + x1 * x1 * y1 * x2 * x3 * x3 * y3 + x1 * x1 * y1 * x2 * x3 * x3 * y3 * y3 * y3 * d - x1 * x1 * y1 * x2 * y2 * y2 * x3 * x3 * y3 * d - x1 * x1 * y1 * x2 * y2 * y2 * x3 * x3 * y3 * y3 * y3 * d * d - x1 * x1 * y1 * x2 * x2 * y2 * x3 * y3 * y3 * d + x1 * x1 * y1 * x2 * x2 * y2 * x3 * x3 * x3 * y3 * y3 * d * d + x1 * x1 * x1 * y2 * y3 - x1 * x1 * x1 * y2 * y3 * y3 * y3 + x1 * x1 * x1 * y2 * x3 * x3 * y3 + x1 * x1 * x1 * y2 * x3 * x3 * y3 * y3 * y3 * d + x1 * x1 * x1 * x2 * x3 - x1 * x1 * x1 * x2 * x3 * y3 * y3 + x1 * x1 * x1 * x2 * x3 * x3 * x3 + x1 * x1 * x1 * x2 * x3 * x3 * x3 * y3 * y3 * d + x1 * x1 * x1 * x2 * y2 * y2 * x3 * y3 * y3 * d + x1 * x1 * x1 * x2 * x2 * y2 * x3 * x3 * y3 * d) * (y2 * y2 - x2 * x2 - (1 + d * (x2 * x2) * (y2 * y2))) + (- y1 * y2 * x3 + y1 * y2 * y2 * y2 * x3 - y1 * x2 * y3 + y1 * x2 * y2 * y2 * y3 - y1 * x2 * x2 * y2 * x3 - y1 * x2 * x2 * x2 * y3 + y1 * y1 * y1 * y2 * x3 - y1 * y1 * y1 * y2 * y2 * y2 * x3 + y1 * y1 * y1 * x2 * y3 - y1 * y1 * y1 * x2 * y2 * y2 * y3 + y1 * y1 * y1 * x2 * x2 * y2 * x3 + y1 * y1 * y1 * x2 * x2 * x2 * y3 - x1 * y2 * y3 + x1 * y2 * y2 * y2 * y3 - x1 * x2 * x3 + x1 * x2 * y2 * y2 * x3 - x1 * x2 * x2 * y2 * y3 - x1 * x2 * x2 * x2 * x3 + x1 * y1 * y1 * y2 * y3 - x1 * y1 * y1 * y2 * y2 * y2 * y3 + x1 * y1 * y1 * x2 * x3 - x1 * y1 * y1 * x2 * y2 * y2 * x3 - x1 * y1 * y1 * x2 * y2 * y2 * x3 * d + x1 * y1 * y1 * x2 * x2 * y2 * y3 + x1 * y1 * y1 * x2 * x2 * y2 * y3 * d + x1 * y1 * y1 * x2 * x2 * x2 * x3 - x1 * x1 * y1 * y2 * x3 + x1 * x1 * y1 * y2 * y2 * y2 * x3 - x1 * x1 * y1 * x2 * y3 + x1 * x1 * y1 * x2 * y2 * y2 * y3 + x1 * x1 * y1 * x2 * y2 * y2 * y3 * d - x1 * x1 * y1 * x2 * x2 * y2 * x3 - x1 * x1 * y1 * x2 * x2 * y2 * x3 * d - x1 * x1 * y1 * x2 * x2 * x2 * y3 - x1 * x1 * x1 * y2 * y3 + x1 * x1 * x1 * y2 * y2 * y2 * y3 - x1 * x1 * x1 * x2 * x3 + x1 * x1 * x1 * x2 * y2 * y2 * x3 - x1 * x1 * x1 * x2 * x2 * y2 * y3 - x1 * x1 * x1 * x2 * x2 * x2 * x3) * (y3 * y3 - x3 * x3 - (1 + d * (x3 * x3) * (y3 * y3))) := by grobner
theorem assoc_y_id (d x1 y1 x2 y2 x3 y3 : F) : ((y1 * y2 + x1 * x2) * (1 + d * x1 * x2 * y1 * y2) * y3 + (x1 * y2 + y1 * x2) * (1 - d * x1 * x2 * y1 * y2) * x3) * ((1 + d * x2 * x3 * y2 * y3) * (1 - d * x2 * x3 * y2 * y3) - d * x1 * y1 * (x2 * y3 + y2 * x3) * (y2 * y3 + x2 * x3)) - (y1 * (y2 * y3 + x2 * x3) * (1 + d * x2 * x3 * y2 * y3) + x1 * (x2 * y3 + y2 * x3) * (1 - d * x2 * x3 * y2 * y3)) * ((1 + d * x1 * x2 * y1 * y2) * (1 - d * x1 * x2 * y1 * y2) - d * (x1 * y2 + y1 * x2) * (y1 * y2 + x1 * x2) * x3 * y3) = (y1 * x2 * y2 * y2 * y2 * y2 * x3 * y3 * y3 * d - y1 * x2 * x2 * y2 * y2 * y2 * y3 * d + y1 * x2 * x2 * y2 * y2 * y2 * y3 * y3 * y3 * d - y1 * x2 * x2 * x2 * y2 * y2 * x3 * d - y1 * x2 * x2 * x2 * y2 * y2 * x3 * x3 * x3 * d - y1 * x2 * x2 * x2 * y2 * y2 * y2 * y2 * x3 * y3 * y3 * d * d - y1 * x2 * x2 * x2 * x2 * y2 * x3 * x3 * y3 * d - y1 * x2 * x2 * x2 * x2 * y2 * y2 * y2 * x3 * x3 * y3 * d * d - x1 * x2 * y2 * y2 * y2 * y2 * x3 * x3 * y3 * d - x1 * x2 * x2 * y2 * y2 * y2 * x3 * d - x1 * x2 * x2 * y2 * y2 * y2 * x3 * x3 * x3 * d - x1 * x2 * x2 * x2 * y2 * y2 * y3 * d + x1 * x2 * x2 * x2 * y2 * y2 * y3 * y3 * y3 * d + x1 * x2 * x2 * x2 * y2 * y2 * y2 * y2 * x3 * x3 * y3 * d * d + x1 * x2 * x2 * x2 * x2 * y2 * x3 * y3 * y3 * d + x1 * x2 * x2 * x2 * x2 * y2 * y2 * y2 * x3 * y3 * y3 * d * d) * (y1 * y1 - x1 * x1 - (1 + d * (x1 * x1) * (y1 * y1))) + (y1 * y2 * y3 - y1 * y2 * y3 * y3 * y3 + y1 * y2 * x3 * x3 * y3 + y1 * y2 * x3 * x3 * y3 * y3 * y3 * d + y1 * x2 * x3 - y1 * x2 * x3 * y3 * y3 + y1 * x2 * x3 * x3 * x3 + y1 * x2 * x3 * x3 * x3 * y3 * y3 * d + y1 * x2 * y2 * y2 * x3 * y3 * y3 * d + y1 * x2 * x2 * y2 * x3 * x3 * y3 * d - y1 * y1 * y1 * y2 * y3 + y1 * y1 * y1 * y2 * y3 * y3 * y3 - y1 * y1 * y1 * y2 * x3 * x3 * y3 - y1 * y1 * y1 * y2 * x3 * x3 * y3 * y3 * y3 * d - y1 * y1 * y1 * x2 * x3 + y1 * y1 * y1 * x2 * x3 * y3 * y3 - y1 * y1 * y1 * x2 * x3 * x3 * x3 - y1 * y1 * y1 * x2 * x3 * x3 * x3 * y3 * y3 * d - y1 * y1 * y1 * x2 * y2 * y2 * x3 * y3 * y3 * d - y1 * y1 * y1 * x2 * x2 * y2 * x3 * x3 * y3 * d + x1 * y2 * x3 - x1 * y2 * x3 * y3 * y3 + x1 * y2 * x3 * x3 * x3 + x1 * y2 * x3 * x3 * x3 * y3 * y3 * d + x1 * x2 * y3 - x1 * x2 * y3 * y3 * y3 + x1 * x2 * x3 * x3 * y3 + x1 * x2 * x3 * x3 * y3 * y3 * y3 * d - x1 * x2 * y2 * y2 * x3 * x3 * y3 * d - x1 * x2 * x2 * y2 * x3 * y3 * y3 * d - x1 * y1 * y1 * y2 * x3 + x1 * y1 * y1 * y2 * x3 * y3 * y3 - x1 * y1 * y1 * y2 * x3 * x3 * x3 - x1 * y1 * y1 * y2 * x3 * x3 * x3 * y3 * y3 * d - x1 * y1 * y1 * x2 * y3 + x1 * y1 * y1 * x2 * y3 * y3 * y3 - x1 * y1 * y1 * x2 * x3 * x3 * y3 - x1 * y1 * y1 * x2 * x3 * x3 * y3 * y3 * y3 * d + x1 * y1 * y1 * x2 * y2 * y2 * x3 * x3 * y3 * d + x1 * y1 * y1 * x2 * y2 * y2 * x3 * x3 * y3 * y3 * y3 * d * d + x1 * y1 * y1 * x2 * x2 * y2 * x3 * y3 * y3 * d - x1 * y1 * y1 * x2 * x2 * y2 * x3 * x3 * x3 * y3 * y3 * d * d + x1 * x1 * y1 * y2 * y3 - x1 * x1 * y1 * y2 * y3 * y3 * y3 + x1 * x1 * y1 * y2 * x3 * x3 * y3 + x1 * x1 * y1 * y2 * x3 * x3 * y3 * y3 * y3 * d + x1 * x1 * y1 * x2 * x3 - x1 * x1 * y1 * x2 * x3 * y3 * y3 + x1 * x1 * y1 * x2 * x3 * x3 * x3 + x1 * x1 * y1 * x2 * x3 * x3 * x3 * y3 * y3 * d + x1 * x1 * y1 * x2 * y2 * y2 * x3 * y3 * y3 * d - x1 * x1 * y1 * x2 * y2 * y2 * x3 * x3 * x3 * y3 * y3 * d * d + x1 * x1 * y1 * x2 * x2 * y2 * x3 * x3 * y3 * d + x1 * x1 * y1 * x2 * x2 * y2 * x3 * x3 * y3 * y3 * y3 * d * d + x1 * x1 * x1 * y2 * x3 - x1 * x1 * x1 * y2 * x3 * y3 * y3 + x1 * x1 * x1 * y2 * x3 * x3 * x3 + x1 * x1 * x1 * y2 * x3 * x3 * x3 * y3 * y3 * d + x1 * x1 * x1 * x2 * y3 - x1 * x1 * x1 * x2 * y3 * y3 * y3 + x1 * x1 * x1 * x2 * x3 * x3 * y3 + x1 * x1 * x1 * x2 * x3 * x3 * y3 * y3 * y3 * d - x1 * x1 * x1 * x2 * y2 * y2 * x3 * x3 * y3 * d - x1 * x1 * x1 * x2 * x2 * y2 * x3 * y3 * y3 * d) * (y2 * y2 - x2 * x2 - (1 + d * (x2 * x2) * (y2 * y2))) + (- y1 * y2 * y3 + y1 * y2 * y2 * y2 * y3 - y1 * x2 * x3 + y1 * x2 * y2 * y2 * x3 - y1 * x2 * x2 * y2 * y3 - y1 * x2 * x2 * x2 * x3 + y1 * y1 * y1 * y2 * y3 - y1 * y1 * y1 * y2 * y2 * y2 * y3 + y1 * y1 * y1 * x2 * x3 - y1 * y1 * y1 * x2 * y2 * y2 * x3 + y1 * y1 * y1 * x2 * x2 * y2 * y3 + y1 * y1 * y1 * x2 * x2 * x2 * x3 - x1 * y2 * x3 + x1 * y2 * y2 * y2 * x3 - x1 * x2 * y3 + x1 * x2 * y2 * y2 * y3 - x1 * x2 * x2 * y2 * x3 - x1 * x2 * x2 * x2 * y3 + x1 * y1 * y1 * y2 * x3 - x1 * y1 * y1 * y2 * y2 * y2 * x3 + x1 * y1 * y1 * x2 * y3 - x1 * y1 * y1 * x2 * y2 * y2 * y3 - x1 * y1 * y1 * x2 * y2 * y2 * y3 * d + x1 * y1 * y1 * x2 * x2 * y2 * x3 + x1 * y1 * y1 * x2 * x2 * y2 * x3 * d + x1 * y1 * y1 * x2 * x2 * x2 * y3 - x1 * x1 * y1 * y2 * y3 + x1 * x1 * y1 * y2 * y2 * y2 * y3 - x1 * x1 * y1 * x2 * x3 + x1 * x1 * y1 * x2 * y2 * y2 * x3 + x1 * x1 * y1 * x2 * y2 * y2 * x3 * d - x1 * x1 * y1 * x2 * x2 * y2 * y3 - x1 * x1 * y1 * x2 * x2 * y2 * y3 * d - x1 * x1 * y1 * x2 * x2 * x2 * x3 - x1 * x1 * x1 * y2 * x3 + x1 * x1 * x1 * y2 * y2 * y2 * x3 - x1 * x1 * x1 * x2 * y3 + x1 * x1 * x1 * x2 * y2 * y2 * y3 - x1 * x1 * x1 * x2 * x2 * y2 * x3 - x1 * x1 * x1 * x2 * x2 * x2 * y3) * (y3 * y3 - x3 * x3 - (1 + d * (x3 * x3) * (y3 * y3))) := by grobner

theorem add_on {x1 y1 x2 y2 : F} (h1 : OnC x1 y1) (h2 : OnC x2 y2) : OnC (addX x1 y1 x2 y2) (addY x1 y1 x2 y2) := by
  have a := addX_mul h1 h2
  have b := addY_mul h1 h2
  have p := denom_plus h1 h2
  have q := denom_minus h1 h2
  have c := closure_id dd x1 y1 x2 y2
  have z1 := h1.zero
  have z2 := h2.zero
  rw [z1, z2, F.mz, F.mz, F.az] at c
  unfold OnC
  generalize addX x1 y1 x2 y2 = X at *
  generalize addY x1 y1 x2 y2 = Y at *
  rw [← a, ← b] at c
  generalize 1 + dd * x1 * x2 * y1 * y2 = D at *
  generalize 1 - dd * x1 * x2 * y1 * y2 = E at *
  clear a b z1 z2 h1 h2
  have k : (Y * Y - X * X - (1 + dd * (X * X) * (Y * Y))) * ((D * D) * (E * E)) = 0 := by grobner
  rcases F.mul_eq_zero k with k | k
  · grobner
  · exact absurd k (F.mul_ne (F.mul_ne p p) (F.mul_ne q q))

def Pt.add (p q : Pt) : Pt := ⟨addX p.x p.y q.x q.y, addY p.x p.y q.x q.y, add_on p.on q.on⟩
def Pt.zero : Pt := ⟨0, 1, by unfold OnC; grobner⟩
def Pt.neg (p : Pt) : Pt := ⟨-p.x, p.y, by have := p.on; unfold OnC at *; grobner⟩

theorem Pt.add_comm (p q : Pt) : p.add q = q.add p := by
  apply Pt.ext'
  · show addX _ _ _ _ = addX _ _ _ _
    unfold addX
    rw [show p.x * q.y + p.y * q.x = q.x * p.y + q.y * p.x from by grobner, show 1 + dd * p.x * q.x * p.y * q.y = 1 + dd * q.x * p.x * q.y * p.y from by grobner]
  · show addY _ _ _ _ = addY _ _ _ _
    unfold addY
    rw [show p.y * q.y + p.x * q.x = q.y * p.y + q.x * p.x from by grobner, show 1 - dd * p.x * q.x * p.y * q.y = 1 - dd * q.x * p.x * q.y * p.y from by grobner]

theorem Pt.add_zero (p : Pt) : p.add Pt.zero = p := by
  have h1 := addX_mul p.on Pt.zero.on
  have h2 := addY_mul p.on Pt.zero.on
  apply Pt.ext'
  · show addX p.x p.y 0 1 = p.x
    have e : addX p.x p.y 0 1 * (1 + dd * p.x * 0 * p.y * 1) = p.x * 1 + p.y * 0 := h1
    grobner
  · show addY p.x p.y 0 1 = p.y
    have e : addY p.x p.y 0 1 * (1 - dd * p.x * 0 * p.y * 1) = p.y * 1 + p.x * 0 := h2
    grobner

theorem Pt.add_neg (p : Pt) : p.add p.neg = Pt.zero := by
  have h1 := addX_mul p.on p.neg.on
  have h2 := addY_mul p.on p.neg.on
  have d1 := denom_plus p.on p.neg.on
  have d2 := denom_minus p.on p.neg.on
  have ho := p.on
  unfold OnC at ho
  simp only [Pt.neg] at h1 h2 d1 d2
  apply Pt.ext'
  · show addX p.x p.y (-p.x) p.y = 0
    apply F.cancel d1
    rw [h1]; grobner
  · show addY p.x p.y (-p.x) p.y = 1
    apply F.cancel d2
    rw [h2]; grobner

theorem Pt.add_assoc (p q r : Pt) : (p.add q).add r = p.add (q.add r) := by

  obtain ⟨x1, y1, o1⟩ := p
  obtain ⟨x2, y2, o2⟩ := q
  obtain ⟨x3, y3, o3⟩ := r
  have a12 := addX_mul o1 o2
  have b12 := addY_mul o1 o2
  have a23 := addX_mul o2 o3
  have b23 := addY_mul o2 o3
  have p12 := denom_plus o1 o2
  have q12 := denom_minus o1 o2
  have p23 := denom_plus o2 o3
  have q23 := denom_minus o2 o3
  have n12 := add_on o1 o2
  have n23 := add_on o2 o3
  have aL := addX_mul n12 o3
  have bL := addY_mul n12 o3
  have aR := addX_mul o1 n23
  have bR := addY_mul o1 n23
  have pL := denom_plus n12 o3
  have qL := denom_minus n12 o3
  have pR := denom_plus o1 n23
  have qR := denom_minus o1 n23
  have ix := assoc_x_id dd x1 y1 x2 y2 x3 y3
  have iy := assoc_y_id dd x1 y1 x2 y2 x3 y3
  have z1 := o1.zero
  have z2 := o2.zero
  have z3 := o3.zero
  rw [z1, z2, z3, F.mz, F.mz, F.mz, F.az, F.az] at ix iy
  apply Pt.ext'
  · show addX (addX x1 y1 x2 y2) (addY x1 y1 x2 y2) x3 y3 = addX x1 y1 (addX x2 y2 x3 y3) (addY x2 y2 x3 y3)
    clear z1 z2 z3 o1 o2 o3 n12 n23 bL bR iy qL qR
    generalize addX (addX x1 y1 x2 y2) (addY x1 y1 x2 y2) x3 y3 = XL at *
    generalize addX x1 y1 (addX x2 y2 x3 y3) (addY x2 y2 x3 y3) = XR at *
    generalize addX x1 y1 x2 y2 = u at *
    generalize addY x1 y1 x2 y2 = v at *
    generalize addX x2 y2 x3 y3 = s at *
    generalize addY x2 y2 x3 y3 = t at *
    generalize 1 + dd * x1 * x2 * y1 * y2 = D at *
    generalize 1 - dd * x1 * x2 * y1 * y2 = E at *
    generalize 1 + dd * x2 * x3 * y2 * y3 = G at *
    generalize 1 - dd * x2 * x3 * y2 * y3 = H at *
    rw [← a12, ← b12, ← a23, ← b23] at ix
    clear a12 b12 a23 b23
    generalize hA : 1 + dd * u * x3 * v * y3 = A at *
    generalize hB : 1 + dd * x1 * s * y1 * t = B at *
    have k1 : XL * (D * E * A) = (u * y3 + v * x3) * (D * E) := by grobner
    have k2 : XR * (G * H * B) = (x1 * t + y1 * s) * (G * H) := by grobner
    have k3 : (u * y3 + v * x3) * (D * E) * (G * H * B) = (x1 * t + y1 * s) * (G * H) * (D * E * A) := by grobner
    apply F.cancel (F.mul_ne (F.mul_ne (F.mul_ne p12 q12) pL) (F.mul_ne (F.mul_ne p23 q23) pR))
    grobner
  · show addY (addX x1 y1 x2 y2) (addY x1 y1 x2 y2) x3 y3 = addY x1 y1 (addX x2 y2 x3 y3) (addY x2 y2 x3 y3)
    clear z1 z2 z3 o1 o2 o3 n12 n23 aL aR ix pL pR
    generalize addY (addX x1 y1 x2 y2) (addY x1 y1 x2 y2) x3 y3 = XL at *
    generalize addY x1 y1 (addX x2 y2 x3 y3) (addY x2 y2 x3 y3) = XR at *
    generalize addX x1 y1 x2 y2 = u at *
    generalize addY x1 y1 x2 y2 = v at *
    generalize addX x2 y2 x3 y3 = s at *
    generalize addY x2 y2 x3 y3 = t at *
    generalize 1 + dd * x1 * x2 * y1 * y2 = D at *
    generalize 1 - dd * x1 * x2 * y1 * y2 = E at *
    generalize 1 + dd * x2 * x3 * y2 * y3 = G at *
    generalize 1 - dd * x2 * x3 * y2 * y3 = H at *
    rw [← a12, ← b12, ← a23, ← b23] at iy
    clear a12 b12 a23 b23
    generalize hA : 1 - dd * u * x3 * v * y3 = A at *
    generalize hB : 1 - dd * x1 * s * y1 * t = B at *
    have k1 : XL * (D * E * A) = (v * y3 + u * x3) * (D * E) := by grobner
    have k2 : XR * (G * H * B) = (y1 * t + x1 * s) * (G * H) := by grobner
    have k3 : (v * y3 + u * x3) * (D * E) * (G * H * B) = (y1 * t + x1 * s) * (G * H) * (D * E * A) := by grobner
    apply F.cancel (F.mul_ne (F.mul_ne (F.mul_ne p12 q12) qL) (F.mul_ne (F.mul_ne p23 q23) qR))
    grobner

end BJ
