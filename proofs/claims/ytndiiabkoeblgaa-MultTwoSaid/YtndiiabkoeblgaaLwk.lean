/- Two multiples at once: what they stand for; law MultTwo. -/
import Derived.Test.YtndiiabkoeblgaaLwj
import Derived.Test.YtndiiabkoeblgaaLwi
namespace Go.Proofs.Ytndiiabkoeblgaa
open Go Go.Ev BJ

theorem bit_01 {e : B32} (_k : Nat) : bitFn e _k = 0 ∨ bitFn e _k = 1 := by
  unfold bitFn
  rw [and_u8 (m := 1) (by decide) _ 1 (by decide)]
  have h := Int.emod_nonneg (shr .u8 (e.get (_k / 8)) ((_k % 8 : Nat) : Int)) (b := ((2 ^ 1 : Nat) : Int)) (by decide)
  have h2 := Int.emod_lt_of_pos (shr .u8 (e.get (_k / 8)) ((_k % 8 : Nat) : Int)) (b := ((2 ^ 1 : Nat) : Int)) (by decide)
  generalize (shr .u8 (e.get (_k / 8)) ((_k % 8 : Nat) : Int)) % ((2 ^ 1 : Nat) : Int) = x at *
  have h3 : ((2 ^ 1 : Nat) : Int) = 2 := by decide
  rw [h3] at h2
  rw [wrap_i64 (by omega) (by omega)]
  omega
noncomputable def twoC : B32 → Pt → B32 → Pt := twoFn bitFn zeroC baseC doubleC addPC
theorem r_two : RowP Try.prog 33 (fn3 cB32 cPt cB32 (one cPt) twoC) := row3 Try.call33 fun a p b => two_gives bitFn zeroC baseC doubleC addPC (fun _ k _ => bit_01 k) ⟨bitS13_row, r_zero, r_double, r_padd, r_base, trivial⟩ a p b
theorem pickN_get (z : Nat) : ∀ {n : Nat} (l : List (Vec Int n)) (v : Vec Int n), l[z]? = some v → pickN (z : Int) l = v
  | 0, _, _, _ => rfl
  | n + 1, l, v, h => by
    have h1 : (l.map (·.1))[z]? = some v.1 := by rw [List.getElem?_map, h]; rfl
    have h2 : (l.map (·.2))[z]? = some v.2 := by rw [List.getElem?_map, h]; rfl
    show ((l.map (·.1)).getD ((z : Int)).toNat 0, pickN (z : Int) (l.map (·.2))) = v
    rw [pickN_get z _ _ h2, Int.toNat_natCast, List.getD_eq_getElem?_getD, h1]; rfl
theorem pickPt_get (z : Nat) (l : List Pt) (v : Pt) (h : l[z]? = some v) : pickPt (z : Int) l = v := by
  have hm : ∀ {α : Type} (f : Pt → α), (l.map f)[z]? = some (f v) := fun f => by rw [List.getElem?_map, h]; rfl
  unfold pickPt
  rw [Int.toNat_natCast, List.getD_eq_getElem?_getD, hm, pickN_get z _ _ (hm _), pickN_get z _ _ (hm _), pickN_get z _ _ (hm _), pickN_get z _ _ (hm _)]; rfl
theorem bit_half (V : Nat) (k : Nat) (hk : k < 256) (e : B32) (he : OkB e) (hV : V = (valB e).toNat) : bitFn e (255 - (k : Int)).toNat = ((V / 2 ^ (256 - (k + 1)) % 2 : Nat) : Int) := by
  have h1 := bitFn_val he (i := (255 - (k : Int)).toNat) (by omega)
  have e1 : (255 - (k : Int)).toNat = 256 - (k + 1) := by omega
  rw [e1] at h1 ⊢
  unfold bitE at h1
  rw [← hV] at h1
  generalize V / 2 ^ (256 - (k + 1)) = M at *
  rcases bit_01 (e := e) (256 - (k + 1)) with h | h
  · rw [h] at h1 ⊢
    have : ¬ M % 2 = 1 := fun h' => by rw [decide_eq_true h'] at h1; cases h1
    omega
  · rw [h] at h1 ⊢
    have : M % 2 = 1 := by
      refine Classical.byContradiction fun h' => ?_
      rw [decide_eq_false h'] at h1; cases h1
    omega
theorem nsm_succ (n : Nat) (P : BJ.Pt) : (nsm (n + 1) P) = (nsm n P).add P := rfl
theorem add_four (a b c d : BJ.Pt) : ((a.add b).add (c.add d)) = (a.add c).add (b.add d) := add4 a b c d
theorem two_rep {a b : B32} {p : Pt} {P : BJ.Pt} (ha : OkB a) (hb : OkB b) (hp : Rep p P) : Rep (twoC a p b) ((nsm (valB a).toNat P).add (nsm (valB b).toNat baseP)) := by
  have key : ∀ k, k ≤ 256 → Rep (rnds (fun k r => twoStep bitFn doubleC addPC a b (vec4 zeroC p baseC (addPC p baseC)) (255 - (k : Int)) r) k zeroC) ((nsm ((valB a).toNat / 2 ^ (256 - k)) P).add (nsm ((valB b).toNat / 2 ^ (256 - k)) baseP)) := by
    intro k
    induction k with
    | zero =>
      intro _
      rw [Nat.sub_zero, Nat.div_eq_of_lt (val_lt ha), Nat.div_eq_of_lt (val_lt hb)]
      have e : (nsm 0 P).add (nsm 0 baseP) = BJ.Pt.zero := by
        show BJ.Pt.zero.add BJ.Pt.zero = _
        rw [BJ.Pt.add_zero]
      rw [e]; exact rep_zero
    | succ k ih =>
      intro hk
      have h := ih (by omega)
      simp only [rnds]
      generalize rnds (fun k r => twoStep bitFn doubleC addPC a b (vec4 zeroC p baseC (addPC p baseC)) (255 - (k : Int)) r) k zeroC = r at *
      have hdiv : ∀ V : Nat, V / 2 ^ (256 - k) = V / 2 ^ (256 - (k + 1)) / 2 := fun V => by
        rw [Nat.div_div_eq_div_mul, ← Nat.pow_succ]; congr 2; omega
      rw [hdiv, hdiv] at h
      have b1 := bit_half _ k (by omega) a ha rfl
      have b2 := bit_half _ k (by omega) b hb rfl
      unfold twoStep twoK
      rw [b1, b2]
      generalize (valB a).toNat / 2 ^ (256 - (k + 1)) = A at *
      generalize (valB b).toNat / 2 ^ (256 - (k + 1)) = B at *
      have hd := rep_double h
      rw [add_four, ← nsm_add, ← nsm_add] at hd
      have hA : A % 2 = 0 ∨ A % 2 = 1 := by omega
      have hB : B % 2 = 0 ∨ B % 2 = 1 := by omega
      rcases hA with hA | hA <;> rcases hB with hB | hB <;> rw [hA, hB]
      · have e1 : A / 2 + A / 2 = A := by omega
        have e2 : B / 2 + B / 2 = B := by omega
        have e3 : w (((0 : Nat) : Int) + w (2 * ((0 : Nat) : Int))) = 0 := by decide
        rw [e1, e2] at hd
        rw [e3, selPt_eq]; exact hd
      · have e1 : A / 2 + A / 2 = A := by omega
        have e2 : B = B / 2 + B / 2 + 1 := by omega
        have e3 : w (((0 : Nat) : Int) + w (2 * ((1 : Nat) : Int))) = ((2 : Nat) : Int) := by decide
        have hs := rep_add hd rep_base
        rw [e1, BJ.Pt.add_assoc] at hs
        rw [e3, selPt_eq, pickPt_get 2 _ baseC rfl]
        have e4 : nsm B baseP = (nsm (B / 2 + B / 2) baseP).add baseP := by rw [← nsm_succ, ← e2]
        rw [e4]; exact hs
      · have e1 : A = A / 2 + A / 2 + 1 := by omega
        have e2 : B / 2 + B / 2 = B := by omega
        have e3 : w (((1 : Nat) : Int) + w (2 * ((0 : Nat) : Int))) = ((1 : Nat) : Int) := by decide
        have hs := rep_add hd hp
        have e5 : ∀ x y z : BJ.Pt, (x.add y).add z = (x.add z).add y := fun x y z => by rw [BJ.Pt.add_assoc, BJ.Pt.add_comm y z, ← BJ.Pt.add_assoc]
        rw [e2, e5] at hs
        rw [e3, selPt_eq, pickPt_get 1 _ p rfl]
        have e4 : nsm A P = (nsm (A / 2 + A / 2) P).add P := by rw [← nsm_succ, ← e1]
        rw [e4]; exact hs
      · have e1 : A = A / 2 + A / 2 + 1 := by omega
        have e2 : B = B / 2 + B / 2 + 1 := by omega
        have e3 : w (((1 : Nat) : Int) + w (2 * ((1 : Nat) : Int))) = ((3 : Nat) : Int) := by decide
        have hs := rep_add hd (rep_add hp rep_base)
        rw [add_four] at hs
        rw [e3, selPt_eq, pickPt_get 3 _ (addPC p baseC) rfl]
        have e4 : nsm A P = (nsm (A / 2 + A / 2) P).add P := by rw [← nsm_succ, ← e1]
        have e5 : nsm B baseP = (nsm (B / 2 + B / 2) baseP).add baseP := by rw [← nsm_succ, ← e2]
        rw [e4, e5]; exact hs
  have := key 256 (by omega)
  rw [Nat.sub_self, Nat.pow_zero, Nat.div_one, Nat.div_one] at this
  exact this
theorem mtwo_true {m n b : B32} (hm : OkB m) (hn : OkB n) (hb : OkB b) : equalPC (twoC m (atC b) n) (addPC (multC m (atC b)) (multBaseC n)) = true := by
  obtain ⟨P, hP⟩ := rep_at hb
  exact rep_same (two_rep hm hn hP) (rep_add (rep_mult hm hP) (rep_mbase hn))
end Go.Proofs.Ytndiiabkoeblgaa
