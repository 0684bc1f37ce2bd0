/- Points in four numbers, and the curve's group: plain numbers. -/
import Derived.Test.YtndiiabkoeblgaaLwc
namespace BJ

/-! ### Roots -/
theorem F.one_ne : (1 : F) ≠ 0 := by decide +kernel
theorem F.pow_sq (s : F) (m : Nat) : F.pow (s * s) m = F.pow s (m + m) := by
  induction m with
  | zero => rw [F.pow_zero, F.pow_zero]
  | succ m ih =>
    rw [F.pow_succ, ih, show m + 1 + (m + 1) = (m + m + 1) + 1 from by omega, F.pow_succ, F.pow_succ]
    grobner
theorem F.fermat {s : F} (h : s ≠ 0) : F.pow s (pp - 1) = 1 := by
  apply Fin.ext
  show s.val ^ (pp - 1) % pp = 1
  exact pp_root.fermat (F.val_ne h)
theorem F.sq_one {t : F} (h : t * t = 1) : t = 1 ∨ t = -1 := by
  have : (t - 1) * (t + 1) = 0 := by grobner
  rcases F.mul_eq_zero this with h1 | h1
  · left; grobner
  · right; grobner
theorem F.sq_eq {a b : F} (h : a * a = b * b) : a = b ∨ a = -b := by
  have : (a - b) * (a + b) = 0 := by grobner
  rcases F.mul_eq_zero this with h1 | h1
  · left; grobner
  · right; grobner

theorem pick_true {r a : F} (h : r * r = a) : (pickRoot r a).2 = true := by
  unfold pickRoot; rw [if_pos h]
theorem pick_sq {r a : F} (h : (pickRoot r a).2 = true) : (pickRoot r a).1 * (pickRoot r a).1 = a := by
  unfold pickRoot at h ⊢
  by_cases h1 : r * r = a
  · rw [if_pos h1]
    show (if r.val % 2 = 1 then -r else r) * (if r.val % 2 = 1 then -r else r) = a
    by_cases h2 : r.val % 2 = 1
    · rw [if_pos h2]; grobner
    · rw [if_neg h2]; exact h1
  · rw [if_neg h1] at h; cases h
theorem root_abs {s c : F} {m k : Nat} (hm : m + m = k + 1) (hk : s ≠ 0 → F.pow s (k + k) * F.pow s (k + k) = 1) (hc : c * c = -1) :
    (pickRoot (if F.pow (s * s) m * F.pow (s * s) m = s * s then F.pow (s * s) m else F.pow (s * s) m * c) (s * s)).2 = true := by
  apply pick_true
  by_cases h : F.pow (s * s) m * F.pow (s * s) m = s * s
  · rw [if_pos h]; exact h
  · rw [if_neg h]
    have h1 : F.pow (s * s) m * F.pow (s * s) m = F.pow s (k + k) * (s * s) := by
      rw [← F.pow_add, hm, F.pow_succ, F.pow_sq]
    by_cases hs : s = 0
    · exfalso; apply h; rw [h1, hs]; grobner
    · rcases F.sq_one (hk hs) with h2 | h2
      · exfalso; apply h; rw [h1, h2]; grobner
      · rw [h2] at h1
        generalize F.pow (s * s) m = r at *
        grobner
theorem exp_half : (pp + 3) / 8 + (pp + 3) / 8 = (pp - 1) / 4 + 1 := by decide +kernel
theorem exp_full : (pp - 1) / 4 + (pp - 1) / 4 + ((pp - 1) / 4 + (pp - 1) / 4) = pp - 1 := by decide +kernel
theorem root_minus : F.pow 2 ((pp - 1) / 4) * F.pow 2 ((pp - 1) / 4) = -1 := by
  rw [F.pow_K 2 (by decide +kernel)]; decide +kernel
theorem root_of_sq (s : F) : (rootOf (s * s)).2 = true := by
  rw [root_pick]
  exact root_abs exp_half (fun hs => by rw [← F.pow_add, exp_full]; exact F.fermat hs) root_minus
theorem root_sq {a : F} (h : (rootOf a).2 = true) : (rootOf a).1 * (rootOf a).1 = a := by
  rw [root_pick] at h ⊢; exact pick_sq h

theorem den_ne (y : F) : dd * (y * y) + 1 ≠ 0 := by
  intro h
  have hy : y ≠ 0 := by rintro rfl; exact F.one_ne (by grobner)
  have hi := F.inv_mul hy
  have h2 := ii_sq
  apply dd_nonsquare (ii * F.inv y)
  generalize F.inv y = v at *
  grobner
theorem xOf_on {y : F} (h : (xOfE y).2 = true) : OnC (xOfE y).1 y := by
  unfold xOfE ratioOf at h ⊢
  rw [if_neg (den_ne y)] at h ⊢
  have h1 := root_sq h
  have h2 := F.inv_mul (den_ne y)
  generalize (rootOf ((y * y - 1) * F.inv (dd * (y * y) + 1))).1 = x at *
  generalize F.inv (dd * (y * y) + 1) = v at *
  unfold OnC
  grobner
theorem xOf_of {x y : F} (h : OnC x y) : (xOfE y).2 = true ∧ ((xOfE y).1 = x ∨ (xOfE y).1 = -x) := by
  have h2 := F.inv_mul (den_ne y)
  have e : (y * y - 1) * F.inv (dd * (y * y) + 1) = x * x := by
    apply F.cancel (den_ne y)
    unfold OnC at h
    generalize F.inv (dd * (y * y) + 1) = v at *
    grobner
  unfold xOfE ratioOf
  rw [if_neg (den_ne y), e]
  exact ⟨root_of_sq x, F.sq_eq (root_sq (root_of_sq x))⟩

/-! ### Four numbers -/
def IsP (p : E4) (P : Pt) : Prop := p.2.2.1 ≠ 0 ∧ p.1 = P.x * p.2.2.1 ∧ p.2.1 = P.y * p.2.2.1 ∧ p.2.2.2 = P.x * P.y * p.2.2.1
theorem isP_aff (P : Pt) : IsP (affE P.x P.y) P :=
  ⟨F.one_ne, (show P.x = P.x * 1 by grobner), (show P.y = P.y * 1 by grobner), (show P.x * P.y = P.x * P.y * 1 by grobner)⟩
theorem isP_zero : IsP zeroE Pt.zero := isP_aff Pt.zero
theorem add_aux {x1 y1 Z1 x2 y2 Z2 : F} {A B : F} (h1 : OnC x1 y1) (h2 : OnC x2 y2) (hz1 : Z1 ≠ 0) (hz2 : Z2 ≠ 0)
    (hA : A * (1 + dd * x1 * x2 * y1 * y2) = x1 * y2 + y1 * x2) (hB : B * (1 - dd * x1 * x2 * y1 * y2) = y1 * y2 + x1 * x2) {r : E4}
    (hr : addE (x1 * Z1, y1 * Z1, Z1, x1 * y1 * Z1) (x2 * Z2, y2 * Z2, Z2, x2 * y2 * Z2) = r) : r.2.2.1 ≠ 0 ∧ r.1 = A * r.2.2.1 ∧ r.2.1 = B * r.2.2.1 ∧ r.2.2.2 = A * B * r.2.2.1 := by
  have d1 := denom_plus h1 h2
  have d2 := denom_minus h1 h2
  subst hr
  unfold addE
  simp only []
  generalize hD : dd * x1 * x2 * y1 * y2 = D at *
  have e1 : y1 * Z1 * Z2 + y1 * Z1 * Z2 = y1 * Z1 * Z2 + y1 * Z1 * Z2 := rfl
  have eba : (y1 * Z1 + x1 * Z1) * (y2 * Z2 + x2 * Z2) - (y1 * Z1 - x1 * Z1) * (y2 * Z2 - x2 * Z2) = 2 * (Z1 * Z2) * (A * (1 + D)) := by rw [hA]; grobner
  have ebA : (y1 * Z1 + x1 * Z1) * (y2 * Z2 + x2 * Z2) + (y1 * Z1 - x1 * Z1) * (y2 * Z2 - x2 * Z2) = 2 * (Z1 * Z2) * (B * (1 - D)) := by rw [hB]; grobner
  have edc : Z1 * Z2 + Z1 * Z2 - (x1 * y1 * Z1 * (x2 * y2 * Z2) * dd + x1 * y1 * Z1 * (x2 * y2 * Z2) * dd) = 2 * (Z1 * Z2) * (1 - D) := by rw [← hD]; grobner
  have edC : Z1 * Z2 + Z1 * Z2 + (x1 * y1 * Z1 * (x2 * y2 * Z2) * dd + x1 * y1 * Z1 * (x2 * y2 * Z2) * dd) = 2 * (Z1 * Z2) * (1 + D) := by rw [← hD]; grobner
  rw [eba, ebA, edc, edC]
  have hne := F.mul_ne two_ne (F.mul_ne hz1 hz2)
  refine ⟨F.mul_ne (F.mul_ne hne d2) (F.mul_ne hne d1), ?_, ?_, ?_⟩ <;> grobner
theorem isP_form {p : E4} {P : Pt} (h : IsP p P) : p = (P.x * p.2.2.1, P.y * p.2.2.1, p.2.2.1, P.x * P.y * p.2.2.1) := by
  obtain ⟨X, Y, Z, T⟩ := p
  obtain ⟨_, h1, h2, h3⟩ := h
  simp only at h1 h2 h3
  rw [h1, h2, h3]
theorem isP_add {p q : E4} {P Q : Pt} (hp : IsP p P) (hq : IsP q Q) : IsP (addE p q) (P.add Q) := by
  have h := add_aux P.on Q.on hp.1 hq.1 (addX_mul P.on Q.on) (addY_mul P.on Q.on) (r := addE p q) (by rw [← isP_form hp, ← isP_form hq])
  exact h
theorem isP_neg {p : E4} {P : Pt} (hp : IsP p P) : IsP (negE p) P.neg := by
  obtain ⟨X, Y, Z, T⟩ := p
  obtain ⟨h0, h1, h2, h3⟩ := hp
  simp only at h0 h1 h2 h3
  refine ⟨h0, ?_, h2, ?_⟩
  · show -X = -P.x * Z
    grobner
  · show -T = -P.x * P.y * Z
    grobner
theorem isP_eq {p q : E4} {P Q : Pt} (hp : IsP p P) (hq : IsP q Q) : eqE p q = true ↔ P = Q := by
  obtain ⟨X, Y, Z, T⟩ := p
  obtain ⟨X', Y', Z', T'⟩ := q
  obtain ⟨h0, h1, h2, _⟩ := hp
  obtain ⟨k0, k1, k2, _⟩ := hq
  simp only at h0 h1 h2 k0 k1 k2
  unfold eqE
  rw [Bool.and_eq_true, decide_eq_true_eq, decide_eq_true_eq]
  show X * Z' = X' * Z ∧ Y * Z' = Y' * Z ↔ _
  constructor
  · rintro ⟨e1, e2⟩
    apply Pt.ext'
    · apply F.cancel (F.mul_ne h0 k0); grobner
    · apply F.cancel (F.mul_ne h0 k0); grobner
  · rintro rfl
    constructor <;> grobner
theorem isP_eqd {p q : E4} {P Q : Pt} (hp : IsP p P) (hq : IsP q Q) (h : P = Q) : eqE p q = true := (isP_eq hp hq).2 h
theorem isP_x {p : E4} {P : Pt} (hp : IsP p P) : p.1 * F.inv p.2.2.1 = P.x := by
  obtain ⟨h0, h1, _⟩ := hp
  have := F.inv_mul h0
  rw [h1]
  generalize F.inv p.2.2.1 = v at *
  grobner
theorem isP_y {p : E4} {P : Pt} (hp : IsP p P) : p.2.1 * F.inv p.2.2.1 = P.y := by
  obtain ⟨h0, _, h2, _⟩ := hp
  have := F.inv_mul h0
  rw [h2]
  generalize F.inv p.2.2.1 = v at *
  grobner

/-! ### Multiples -/
theorem Pt.zero_add (p : Pt) : Pt.zero.add p = p := by rw [Pt.add_comm, Pt.add_zero]
def nsm : Nat → Pt → Pt
  | 0, _ => Pt.zero
  | n + 1, p => (nsm n p).add p
theorem nsm_add (m n : Nat) (p : Pt) : nsm (m + n) p = (nsm m p).add (nsm n p) := by
  induction n with
  | zero =>
    show nsm m p = (nsm m p).add Pt.zero
    rw [Pt.add_zero]
  | succ n ih => rw [← Nat.add_assoc, nsm, nsm, ih, Pt.add_assoc]
theorem add4 (a b c d : Pt) : (a.add b).add (c.add d) = (a.add c).add (b.add d) := by
  rw [Pt.add_assoc, Pt.add_assoc, ← Pt.add_assoc b, Pt.add_comm b c, Pt.add_assoc c]
theorem nsm_over (n : Nat) (p q : Pt) : nsm n (p.add q) = (nsm n p).add (nsm n q) := by
  induction n with
  | zero =>
    show Pt.zero = Pt.zero.add Pt.zero
    rw [Pt.add_zero]
  | succ n ih => rw [nsm, nsm, nsm, ih, add4]
theorem nsm_zero (n : Nat) : nsm n Pt.zero = Pt.zero := by
  induction n with
  | zero => rfl
  | succ n ih => rw [nsm, ih, Pt.add_zero]
theorem nsm_mul (m n : Nat) (p : Pt) : nsm (m * n) p = nsm m (nsm n p) := by
  induction m with
  | zero => rw [Nat.zero_mul]; rfl
  | succ m ih => rw [Nat.succ_mul, nsm_add, ih, nsm]
theorem add_left {a b c : Pt} (h : a.add b = a.add c) : b = c := by
  have : a.neg.add (a.add b) = a.neg.add (a.add c) := by rw [h]
  rwa [← Pt.add_assoc, ← Pt.add_assoc, Pt.add_comm a.neg, Pt.add_neg, Pt.zero_add, Pt.zero_add] at this
theorem nsm_neg (n : Nat) (p : Pt) : nsm n p.neg = (nsm n p).neg := by
  apply add_left (a := nsm n p)
  rw [← nsm_over, Pt.add_neg, Pt.add_neg, nsm_zero]
theorem neg_neg (p : Pt) : p.neg.neg = p := by
  apply add_left (a := p.neg)
  rw [Pt.add_neg, Pt.add_comm, Pt.add_neg]
theorem nsm_one (p : Pt) : nsm 1 p = p := Pt.zero_add p
end BJ
