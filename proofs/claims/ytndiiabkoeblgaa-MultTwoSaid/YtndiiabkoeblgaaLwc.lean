/- Law PointBack: what it computes is true. -/
import Derived.Test.YtndiiabkoeblgaaLwb
namespace BJ
theorem neg_sum (x : F) : (x.val + (-x).val) % pp = 0 := by
  have h : x + -x = 0 := by grobner
  have := congrArg Fin.val h
  rw [Fin.val_add] at this
  exact this
theorem par {a b p : Nat} (hs : (a + b) % p = 0) (ha : a < p) (hb : b < p) (h0 : a ≠ 0) (hp : p % 2 = 1) : b % 2 = 1 ↔ a % 2 = 0 := by
  have h1 : a + b = p := by
    rcases Nat.lt_or_ge (a + b) p with h | h
    · rw [Nat.mod_eq_of_lt h] at hs; omega
    · rw [Nat.mod_eq_sub_mod h, Nat.mod_eq_of_lt (by omega)] at hs; omega
  omega
theorem pp_odd : pp % 2 = 1 := by decide +kernel
theorem neg_odd {x : F} (h : x ≠ 0) : (-x).val % 2 = 1 ↔ x.val % 2 = 0 :=
  par (neg_sum x) x.isLt (-x).isLt (fun e => h (Fin.ext e)) pp_odd
theorem pp_int : (pp : Int) = 57896044618658097711785492504343953926634992332820282019728792003956564819949 := rfl
theorem p2255_int : Go.Proofs.Ytndiiabkoeblgaa.p2255 = 57896044618658097711785492504343953926634992332820282019728792003956564819968 := rfl
def pickRoot (r a : F) : F × Bool := if r * r = a then (if r.val % 2 = 1 then -r else r, true) else (0, false)
theorem root_pick (a : F) : rootOf a = pickRoot (if F.pow a ((pp + 3) / 8) * F.pow a ((pp + 3) / 8) = a then F.pow a ((pp + 3) / 8) else F.pow a ((pp + 3) / 8) * F.pow 2 ((pp - 1) / 4)) a := rfl
theorem F.zero_val : (0 : F).val = 0 := rfl
theorem pick_even (r a : F) : (pickRoot r a).1.val % 2 = 0 := by
  unfold pickRoot
  by_cases h : r * r = a
  · rw [if_pos h]
    show (if r.val % 2 = 1 then -r else r).val % 2 = 0
    by_cases h1 : r.val % 2 = 1
    · rw [if_pos h1]
      have hr : r ≠ 0 := fun e => by rw [e, F.zero_val] at h1; cases h1
      have := neg_odd hr
      omega
    · rw [if_neg h1]; omega
  · rw [if_neg h]
    show (0 : F).val % 2 = 0
    rw [F.zero_val]
theorem root_even (a : F) : (rootOf a).1.val % 2 = 0 := by rw [root_pick]; exact pick_even _ _
theorem ratio_even (u v : F) : (ratioOf u v).1.val % 2 = 0 := by
  unfold ratioOf
  by_cases h : v = 0
  · rw [if_pos h]
    show (0 : F).val % 2 = 0
    rw [F.zero_val]
  · rw [if_neg h]; exact root_even _
theorem xOf_even (y : F) : (xOfE y).1.val % 2 = 0 := ratio_even _ _
theorem eqE_self (p : E4) : eqE p p = true := by
  unfold eqE
  rw [decide_eq_true rfl, decide_eq_true rfl]; rfl
end BJ
namespace Go.Proofs.Ytndiiabkoeblgaa
open Go Go.Ev BJ

theorem topSet_val {b : B32} (h : OkB b) (h31 : b.get 31 < 128) : OkB (topSet b) ∧ valB (topSet b) = valB b + p2255 := by
  have e : topSet b = Vec.upd (fun x => if x < 128 then x + 128 else x) 31 b := upd_congr (by show _ = if b.get 31 < 128 then _ else _; rw [if_pos h31])
  rw [e]
  obtain ⟨h1, h2⟩ := upd_last (fun x => if x < 128 then x + 128 else x) (n := 31) h (fun x h1 h2 => by show 0 ≤ (if x < 128 then x + 128 else x) ∧ (if x < 128 then x + 128 else x) < 256; split <;> omega)
  refine ⟨h1, h2.trans ?_⟩
  show valB b - b.get 31 * _ + (if b.get 31 < 128 then b.get 31 + 128 else b.get 31) * _ = _
  have := p2255_int
  rw [if_pos h31, p255]; omega

theorem enc_dec {a : B32} (ha : OkB a) (hok : (decE a).2 = true) : encE (decE a).1 = a := by
  have hV := valB_nonneg ha
  have hV2 := valB_lt ha
  rw [p256] at hV2
  have h31 := get_val ha (i := 31) (by decide)
  rw [p255] at h31
  have c1 := p2255_int
  have c2 := pp_int
  have c3 : valB a % p2255 = valB a % 57896044618658097711785492504343953926634992332820282019728792003956564819968 := rfl
  unfold decE at hok ⊢
  simp only [] at hok ⊢
  have hev := xOf_even (toF (valB a % p2255))
  generalize (xOfE (toF (valB a % p2255))).2 = ok at *
  generalize (xOfE (toF (valB a % p2255))).1 = X at *
  by_cases h : ok = true ∧ valB a % p2255 < (pp : Int) ∧ ¬(128 ≤ a.get 31 ∧ X = 0)
  · rw [if_pos h] at hok ⊢
    obtain ⟨_, hc, ht⟩ := h
    show encE (affE (if 128 ≤ a.get 31 then -X else X) (toF (valB a % p2255))) = a
    rw [enc_aff]
    obtain ⟨b1, b2⟩ := bytesF_val (toF (valB a % p2255))
    rw [toF_val, Int.emod_eq_of_lt (by omega) hc] at b2
    by_cases htop : 128 ≤ a.get 31
    · rw [if_pos htop]
      have hX : X ≠ 0 := fun e => ht ⟨htop, e⟩
      rw [if_pos ((neg_odd hX).2 hev)]
      obtain ⟨t1, t2⟩ := topSet_val b1 (bytes_top _).2
      exact valB_inj t1 ha (by rw [t2, b2]; omega)
    · rw [if_neg htop, if_neg (by omega)]
      exact valB_inj b1 ha (by rw [b2]; omega)
  · rw [if_neg h] at hok; cases hok

theorem back_true {a : B32} (ha : OkB a) : backC a = true := by
  obtain ⟨p1, p2, p3⟩ := decode_pt ha
  have hself : ∀ (b : Bool) (p : Pt), selPt b p p = p := selPt_self
  unfold backC backFn
  simp only [alive_true, hself, selN_self, Bool.cond_self, Bool.not_true, beq_self_eq_true, cond_true]
  have henc := encode_pt p1
  cases hok : (decodeC a).2 with
  | false =>
    rw [hok] at p3
    have hz : (decE a).1 = zeroE := by
      unfold decE at p3 ⊢
      simp only [] at p3 ⊢
      generalize (xOfE (toF (valB a % p2255))).2 = ok at *
      generalize (xOfE (toF (valB a % p2255))).1 = X at *
      by_cases h : ok = true ∧ valB a % p2255 < (pp : Int) ∧ ¬(128 ≤ a.get 31 ∧ X = 0)
      · rw [if_pos h] at p3; cases p3
      · rw [if_neg h]
    simp only [Bool.not_false, cond_true]
    rw [equal_pt p1 zero_is.1, p2, hz, zero_is.2, eqE_self]
  | true =>
    rw [hok] at p3
    rw [p2, enc_dec ha p3.symm] at henc
    simp only [Bool.not_true, cond_false]
    rw [henc, hok, (eqV_iff a a).2 rfl, equal_pt p1 p1, eqE_self]; rfl
end Go.Proofs.Ytndiiabkoeblgaa
