/- The program's powers and roots modulo p. -/
import Derived.Test.YtndiiabkoeblgaaFme
namespace BJ
theorem F.pow_add (a : F) (m n : Nat) : F.pow a (m + n) = F.pow a m * F.pow a n := by
  induction n with
  | zero => rw [Nat.add_zero, F.pow_zero]; grobner
  | succ n ih => rw [← Nat.add_assoc, F.pow_succ, ih, F.pow_succ]; grobner
theorem F.pow_double (a : F) (m : Nat) : F.pow a (2 * m) = F.pow a m * F.pow a m := by rw [Nat.two_mul, F.pow_add]
theorem F.pow_one (a : F) : F.pow a 1 = a := by rw [F.pow_succ, F.pow_zero]; grobner

/-- the root that is even, of a number that has one -/
def rootOf (a : F) : F × Bool :=
  let r := F.pow a ((pp + 3) / 8)
  let r1 := if r * r = a then r else r * F.pow 2 ((pp - 1) / 4)
  if r1 * r1 = a then (if r1.val % 2 = 1 then -r1 else r1, true) else (0, false)
def ratioOf (u v : F) : F × Bool := if v = 0 then (0, decide (u = 0)) else rootOf (u * F.inv v)
end BJ

namespace Go.Proofs.Ytndiiabkoeblgaa
open Go Go.Ev BJ

/-- the top bit of 32 bytes taken away -/
theorem andNot_top (x : Int) : bitAndNot .u8 x 128 = x % 128 := by
  have e : bitAndNot .u8 x 128 = bitAnd .u8 x 127 := by
    unfold bitAndNot bitAnd
    have : (~~~BitVec.ofInt IntKind.u8.bits 128) = BitVec.ofInt IntKind.u8.bits 127 := by decide
    rw [this]
  rw [e]
  exact and_u8 (m := 7) (by decide) x 127 (by decide)

theorem upd_last (g : Int → Int) : ∀ {n : Nat} {v : Vec Int (n + 1)}, OkB v → (∀ x, 0 ≤ x → x < 256 → 0 ≤ g x ∧ g x < 256) →
    OkB (Vec.upd g n v) ∧ valB (Vec.upd g n v) = valB v - v.get n * (256 ^ n : Nat) + g (v.get n) * (256 ^ n : Nat)
  | 0, v, h, hg => by
    obtain ⟨x, u⟩ := v
    refine ⟨⟨hg x h.1.1 h.1.2, h.2⟩, ?_⟩
    show g x + 256 * 0 = x + 256 * 0 - x * ((256 ^ 0 : Nat) : Int) + g x * ((256 ^ 0 : Nat) : Int)
    rw [Nat.pow_zero]; omega
  | n + 1, v, h, hg => by
    obtain ⟨x, u⟩ := v
    obtain ⟨h1, h2⟩ := upd_last g (n := n) (v := u) h.2 hg
    refine ⟨⟨h.1, h1⟩, ?_⟩
    show x + 256 * valB (Vec.upd g n u) = x + 256 * valB u - Vec.get u n * ((256 ^ (n + 1) : Nat) : Int) + g (Vec.get u n) * ((256 ^ (n + 1) : Nat) : Int)
    rw [h2]
    have e2 : (256 ^ (n + 1) : Nat) = 256 * 256 ^ n := by rw [Nat.pow_succ, Nat.mul_comm]
    rw [e2, Int.natCast_mul]
    have sw : ∀ a b : Int, a * (((256 : Nat) : Int) * b) = 256 * (a * b) := fun a b => by rw [← Int.mul_assoc, Int.mul_comm a, Int.mul_assoc]; rfl
    rw [sw, sw]; omega
theorem p255 : (256 ^ 31 : Nat) = 452312848583266388373324160190187140051835877600158453279131187530910662656 := by decide
theorem clear_val {b : B32} (h : OkB b) : OkB (clearTop b) ∧ valB (clearTop b) = valB b % 57896044618658097711785492504343953926634992332820282019728792003956564819968 := by
  obtain ⟨h1, h2⟩ := upd_last (fun x => bitAndNot .u8 x 128) (n := 31) h fun x h1 h2 => by show 0 ≤ bitAndNot .u8 x 128 ∧ bitAndNot .u8 x 128 < 256; rw [andNot_top]; omega
  refine ⟨h1, h2.trans ?_⟩
  have hV := valB_nonneg h
  have hV2 := valB_lt h
  rw [p256] at hV2
  show valB b - b.get 31 * _ + bitAndNot .u8 (b.get 31) 128 * _ = _
  rw [andNot_top, get_val h (by decide), p255]
  omega

theorem from_fe {b : B32} (h : OkB b) : Ok5 (feFrom b) ∧ fe (feFrom b) = toF (valB b % 57896044618658097711785492504343953926634992332820282019728792003956564819968) := by
  obtain ⟨h1, h2⟩ := from_val h
  exact ⟨h1, by unfold fe; rw [h2]⟩
theorem bytes_of_val {b : B32} (h : OkB b) (_hlt : valB b < 57896044618658097711785492504343953926634992332820282019728792003956564819968) : eqV (bytesF (toF (valB b))) b = decide (valB b < (pp : Int)) := by
  have h0 := valB_nonneg h
  by_cases hp : valB b < (pp : Int)
  · rw [decide_eq_true hp]
    refine (eqV_iff _ _).2 ?_
    obtain ⟨h1, h2⟩ := bytesF_val (toF (valB b))
    exact valB_inj h1 h (by rw [h2, toF_val, Int.emod_eq_of_lt h0 hp])
  · rw [decide_eq_false hp]
    refine Bool.eq_false_iff.2 fun e => hp ?_
    have e2 := (eqV_iff _ _).1 e
    have h2 := (bytesF_val (toF (valB b))).2
    rw [e2, toF_val] at h2
    rw [h2]; exact Int.emod_lt_of_pos _ (by decide)
theorem canonical_fe {b : B32} (h : OkB b) : eqV (feBytes (feFrom (clearTop b))) (clearTop b) = decide (valB (clearTop b) < (pp : Int)) := by
  obtain ⟨h1, h2⟩ := clear_val h
  obtain ⟨h3, h4⟩ := from_fe h1
  have hlt : valB (clearTop b) < 57896044618658097711785492504343953926634992332820282019728792003956564819968 := by rw [h2]; omega
  rw [bytes_fe h3, h4, Int.emod_eq_of_lt (valB_nonneg h1) hlt, bytes_of_val h1 hlt]

/-! ### Powers -/
noncomputable abbrev mulC : Fe → Fe → Fe := mulOut mulFn add64 feCarry
theorem bit_val {e : B32} (h : OkB e) {i : Nat} (hi : i < 256) : bitU8 e i = decide ((valB e).toNat / 2 ^ i % 2 = 1) := by
  have hV := valB_nonneg h
  unfold bitU8
  have e1 : shr .u8 (e.get (i / 8)) ((i % 8 : Nat) : Int) = e.get (i / 8) / (2 ^ (i % 8) : Nat) := shr_div .u8 _ _ (by show i % 8 ≤ 8; omega)
  rw [e1, and_u8 (m := 1) (by decide) _ 1 (by decide), get_val h (by omega)]
  obtain ⟨N, hN⟩ := Int.eq_ofNat_of_zero_le hV
  rw [hN]
  have key : (((N : Int) / (256 ^ (i / 8) : Nat) % 256 / (2 ^ (i % 8) : Nat) % (2 ^ 1 : Nat) == 1) = true) ↔ N / 2 ^ i % 2 = 1 := by
    rw [beq_iff_eq]
    have e2 : (2 ^ i : Nat) = 256 ^ (i / 8) * 2 ^ (i % 8) := by
      rw [show (256 : Nat) = 2 ^ 8 from rfl, ← Nat.pow_mul, ← Nat.pow_add]; congr 1; omega
    rw [e2, ← Nat.div_div_eq_div_mul, ← Int.natCast_ediv]
    generalize N / 256 ^ (i / 8) = W at *
    have h8 : i % 8 < 8 := Nat.mod_lt _ (by decide)
    generalize i % 8 = m at *
    have hm : m = 0 ∨ m = 1 ∨ m = 2 ∨ m = 3 ∨ m = 4 ∨ m = 5 ∨ m = 6 ∨ m = 7 := by omega
    rcases hm with rfl | rfl | rfl | rfl | rfl | rfl | rfl | rfl <;> simp <;> omega
  rw [Int.toNat_natCast]
  by_cases hb : N / 2 ^ i % 2 = 1
  · rw [decide_eq_true hb]; exact key.2 hb
  · rw [decide_eq_false hb]; exact Bool.eq_false_iff.2 fun e => hb (key.1 e)

theorem square_fe {x : Fe} (hx : Ok5 x) : Ok5 (mulC x x) ∧ fe (mulC x x) = fe x * fe x := mul_fe hx hx
noncomputable def powC (x : Fe) (e : B32) : Fe := powFn feSmall (fun x => mulC x x) mulC x e
theorem selN_ite {n : Nat} {b : Bool} {p : Prop} [Decidable p] (h : b = decide p) (v u : Vec Int n) : selN b v u = if p then v else u := by
  rw [selN_eq, h]; by_cases hp : p <;> simp [hp]
theorem pow_fe {x : Fe} {e : B32} (hx : Ok5 x) (he : OkB e) : Ok5 (powC x e) ∧ fe (powC x e) = F.pow (fe x) (valB e).toNat := by
  have hV := valB_nonneg he
  have hV2 := valB_lt he
  obtain ⟨N, hN⟩ := Int.eq_ofNat_of_zero_le hV
  have key : ∀ k, k ≤ 256 → Ok5 (rnds (powStep (fun x => mulC x x) mulC x e) k (feSmall 1)) ∧ fe (rnds (powStep (fun x => mulC x x) mulC x e) k (feSmall 1)) = F.pow (fe x) (N / 2 ^ (256 - k)) := by
    intro k
    induction k with
    | zero =>
      intro _
      obtain ⟨h1, h2⟩ := small_fe (n := 1) ⟨by decide, by decide⟩
      refine ⟨h1, ?_⟩
      have h256 : (256 ^ 32 : Nat) = 2 ^ 256 := by rw [show (256 : Nat) = 2 ^ 8 from rfl, ← Nat.pow_mul]
      have : N / 2 ^ (256 - 0) = 0 := Nat.div_eq_of_lt (by rw [hN] at hV2; rw [Nat.sub_zero, ← h256]; omega)
      rw [this, F.pow_zero]
      exact h2.trans toF_one
    | succ k ih =>
      intro hk
      obtain ⟨h1, h2⟩ := ih (by omega)
      show Ok5 (powStep (fun x => mulC x x) mulC x e k _) ∧ fe (powStep (fun x => mulC x x) mulC x e k _) = _
      generalize rnds (powStep (fun x => mulC x x) mulC x e) k (feSmall 1) = r at *
      obtain ⟨s1, s2⟩ := square_fe h1
      obtain ⟨m1, m2⟩ := mul_fe s1 hx
      unfold powStep
      rw [selN_ite (bit_val he (i := 255 - k) (by omega)), hN, Int.toNat_natCast]
      have hdiv : N / 2 ^ (256 - k) = N / 2 ^ (256 - (k + 1)) / 2 := by
        rw [Nat.div_div_eq_div_mul, ← Nat.pow_succ]; congr 2; omega
      rw [hdiv] at h2
      have e255 : 255 - k = 256 - (k + 1) := by omega
      rw [e255]
      generalize N / 2 ^ (256 - (k + 1)) = M at *
      split
      · rename_i hb
        refine ⟨m1, ?_⟩
        show fe (mulC (mulC r r) x) = _
        rw [m2, s2, h2]
        have : M = 2 * (M / 2) + 1 := by omega
        conv => rhs; rw [this]
        rw [F.pow_succ, F.pow_double]
      · rename_i hb
        refine ⟨s1, ?_⟩
        show fe (mulC r r) = _
        rw [s2, h2]
        have : M = 2 * (M / 2) := by omega
        conv => rhs; rw [this]
        rw [F.pow_double]
  have := key 256 (by omega)
  rw [hN, Int.toNat_natCast]
  have e : N / 2 ^ (256 - 256) = N := by simp
  rw [e] at this
  unfold powC powFn
  exact this

theorem OkB_ofFn {f : Nat → Int} : ∀ {n : Nat}, (∀ i, i < n → 0 ≤ f i ∧ f i < 256) → OkB (Vec.ofFn n f)
  | 0, _ => trivial
  | n + 1, h => ⟨h 0 (by omega), OkB_ofFn (n := n) fun i hi => h (i + 1) (by omega)⟩
theorem OkB_exp {lo hi : Int} (h1 : 0 ≤ lo ∧ lo < 256) (h2 : 0 ≤ hi ∧ hi < 256) : OkB (feExp lo hi) := OkB_ofFn fun i _ => by
  show 0 ≤ (if i = 0 then lo else if i = 31 then hi else 255) ∧ (if i = 0 then lo else if i = 31 then hi else 255) < 256
  split
  · exact h1
  · split
    · exact h2
    · omega
theorem exp_inv : (valB (feExp 235 127)).toNat = pp - 2 := by decide +kernel
theorem exp_root : (valB (feExp 254 15)).toNat = (pp + 3) / 8 := by decide +kernel
theorem exp_ii : (valB (feExp 251 31)).toNat = (pp - 1) / 4 := by decide +kernel

noncomputable def invC (x : Fe) : Fe := powC x (feExp 235 127)
theorem inv_fe {x : Fe} (hx : Ok5 x) : Ok5 (invC x) ∧ fe (invC x) = F.inv (fe x) := by
  obtain ⟨h1, h2⟩ := pow_fe hx (OkB_exp (lo := 235) (hi := 127) (by omega) (by omega))
  rw [exp_inv] at h2
  exact ⟨h1, h2⟩
noncomputable def addC : Fe → Fe → Fe := feAdd feCarry
noncomputable def subC : Fe → Fe → Fe := feSub feCarry
noncomputable def negC (x : Fe) : Fe := subC feZero x
noncomputable def eqC (x y : Fe) : Bool := eqV (feBytes x) (feBytes y)
noncomputable def oddC : Fe → Bool := feOdd feBytes
noncomputable def isZeroC (x : Fe) : Bool := eqC x feZero
noncomputable def sqrtC : Fe → Fe × Bool := rootFn powC feExp mulC (fun x => mulC x x) negC feSmall eqC oddC
noncomputable def ratioC : Fe → Fe → Fe × Bool := fun u v => (selN (isZeroC v) feZero (sqrtC (mulC u (invC v))).1, bif isZeroC v then isZeroC u else (sqrtC (mulC u (invC v))).2)
theorem neg_fe {x : Fe} (hx : Ok5 x) : Ok5 (negC x) ∧ fe (negC x) = -fe x := by
  obtain ⟨h1, h2⟩ := sub_fe zero_fe.1 hx
  refine ⟨h1, ?_⟩
  show fe (feSub feCarry feZero x) = _
  rw [h2, zero_fe.2]; grobner
theorem isZero_fe {x : Fe} (hx : Ok5 x) : isZeroC x = decide (fe x = 0) := by
  unfold isZeroC eqC; rw [equal_fe hx zero_fe.1, zero_fe.2]

theorem sqrt_fe {x : Fe} (hx : Ok5 x) : Ok5 (sqrtC x).1 ∧ fe (sqrtC x).1 = (rootOf (fe x)).1 ∧ (sqrtC x).2 = (rootOf (fe x)).2 := by
  obtain ⟨r1, r2⟩ := pow_fe hx (OkB_exp (lo := 254) (hi := 15) (by omega) (by omega))
  rw [exp_root] at r2
  obtain ⟨t1, t2⟩ := small_fe (n := 2) ⟨by decide, by decide⟩
  obtain ⟨i1, i2⟩ := pow_fe t1 (OkB_exp (lo := 251) (hi := 31) (by omega) (by omega))
  have t3 : toF 2 = 2 := by decide +kernel
  rw [exp_ii, t2, t3] at i2
  unfold sqrtC rootFn
  simp only [selN_self]
  obtain ⟨s1, s2⟩ := square_fe r1
  obtain ⟨m1, m2⟩ := mul_fe r1 i1
  have q1 : eqC (mulC (powC x (feExp 254 15)) (powC x (feExp 254 15))) x = decide (F.pow (fe x) ((pp + 3) / 8) * F.pow (fe x) ((pp + 3) / 8) = fe x) := by
    unfold eqC; rw [equal_fe s1 hx, s2, r2]
  generalize hR : selN (!eqC (mulC (powC x (feExp 254 15)) (powC x (feExp 254 15))) x) (mulC (powC x (feExp 254 15)) (powC (feSmall 2) (feExp 251 31))) (powC x (feExp 254 15)) = R
  have hR1 : Ok5 R ∧ fe R = if F.pow (fe x) ((pp + 3) / 8) * F.pow (fe x) ((pp + 3) / 8) = fe x then F.pow (fe x) ((pp + 3) / 8) else F.pow (fe x) ((pp + 3) / 8) * F.pow 2 ((pp - 1) / 4) := by
    rw [← hR, q1, selN_eq]
    by_cases hq : F.pow (fe x) ((pp + 3) / 8) * F.pow (fe x) ((pp + 3) / 8) = fe x
    · rw [decide_eq_true hq, if_pos hq]; exact ⟨r1, r2⟩
    · rw [decide_eq_false hq, if_neg hq]; exact ⟨m1, by show fe (mulC _ _) = _; rw [m2, r2, i2]⟩
  obtain ⟨hR1, hR2⟩ := hR1
  obtain ⟨u1, u2⟩ := square_fe hR1
  have q2 : eqC (mulC R R) x = decide (fe R * fe R = fe x) := by unfold eqC; rw [equal_fe u1 hx, u2]
  obtain ⟨n1, n2⟩ := neg_fe hR1
  have ho : oddC R = decide ((fe R).val % 2 = 1) := odd_fe hR1
  rw [q2, ho, selN_eq, selN_eq]
  have hroot : rootOf (fe x) = if fe R * fe R = fe x then (if (fe R).val % 2 = 1 then -fe R else fe R, true) else (0, false) := by
    unfold rootOf; rw [hR2]
  rw [hroot]
  by_cases h1 : fe R * fe R = fe x
  · rw [decide_eq_true h1, if_pos h1]
    by_cases h2 : (fe R).val % 2 = 1
    · rw [decide_eq_true h2, if_pos h2]; exact ⟨n1, n2, rfl⟩
    · rw [decide_eq_false h2, if_neg h2]; exact ⟨hR1, rfl, rfl⟩
  · rw [decide_eq_false h1, if_neg h1]; exact ⟨zero_fe.1, zero_fe.2, rfl⟩

end Go.Proofs.Ytndiiabkoeblgaa
