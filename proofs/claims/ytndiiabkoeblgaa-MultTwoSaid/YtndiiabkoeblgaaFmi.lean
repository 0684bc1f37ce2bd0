/- The program's points: bytes, multiples. -/
import Derived.Test.YtndiiabkoeblgaaFmh
import Derived.Test.YtndiiabkoeblgaaFee
namespace Go.Proofs.Ytndiiabkoeblgaa
open Go Go.Ev BJ

/-- the top bit set -/
noncomputable def topSet (b : B32) : B32 := Vec.upd (fun x => x + 128) 31 b
noncomputable def encE (p : E4) : B32 := if (p.1 * F.inv p.2.2.1).val % 2 = 1 then topSet (bytesF (p.2.1 * F.inv p.2.2.1)) else bytesF (p.2.1 * F.inv p.2.2.1)
abbrev p2255 : Int := 57896044618658097711785492504343953926634992332820282019728792003956564819968
noncomputable def decE (b : B32) : E4 × Bool :=
  let y := toF (valB b % p2255)
  let x := (xOfE y).1
  if (xOfE y).2 = true ∧ valB b % p2255 < (pp : Int) ∧ ¬ (128 ≤ b.get 31 ∧ x = 0) then (affE (if 128 ≤ b.get 31 then -x else x) y, true) else (zeroE, false)

theorem upd_congr {f g : Int → Int} : ∀ {n i : Nat} {v : Vec Int n}, f (v.get i) = g (v.get i) → Vec.upd f i v = Vec.upd g i v
  | 0, _, _, _ => rfl
  | n + 1, 0, v, h => by
    show (f v.1, v.2) = (g v.1, v.2)
    rw [show f v.1 = g v.1 from h]
  | n + 1, i + 1, v, h => by
    show (v.1, Vec.upd f i v.2) = (v.1, Vec.upd g i v.2)
    rw [upd_congr (n := n) (i := i) (v := v.2) h]
theorem bytes_top (a : F) : 0 ≤ (bytesF a).get 31 ∧ (bytesF a).get 31 < 128 := by
  obtain ⟨h1, h2⟩ := bytesF_val a
  rw [get_val h1 (by decide), h2, p255]
  have := a.isLt
  simp only [pp] at this
  omega

noncomputable def rootC : Fe → Fe × Bool := fun y => ratioC (subC (mulC y y) (feSmall 1)) (addC (mulC edgeC (mulC y y)) (feSmall 1))
theorem root_fe {y : Fe} (hy : Ok5 y) : Ok5 (rootC y).1 ∧ fe (rootC y).1 = (xOfE (fe y)).1 ∧ (rootC y).2 = (xOfE (fe y)).2 := by
  have s := mulC_fe hy hy
  have a := subC_fe s.1 one_fe.1
  have m := mulC_fe edge_fe.1 s.1
  have b := addC_fe m.1 one_fe.1
  have r := ratio_fe a.1 b.1
  have e1 : fe (subC (mulC y y) (feSmall 1)) = fe y * fe y - 1 := by rw [a.2, s.2, one_fe.2]
  have e2 : fe (addC (mulC edgeC (mulC y y)) (feSmall 1)) = dd * (fe y * fe y) + 1 := by rw [b.2, m.2, s.2, one_fe.2, edge_fe.2]
  rw [e1, e2] at r
  exact r
noncomputable def baseC : Pt := affineC (rootC (mulC (feSmall 4) (invC (feSmall 5)))).1 (mulC (feSmall 4) (invC (feSmall 5)))
theorem t4 : toF 4 = 4 := by decide +kernel
theorem t5 : toF 5 = 5 := by decide +kernel
theorem base_pt : baseC.1 = true ∧ Ok4 baseC ∧ ptF baseC = baseE := by
  have h4 := small_fe (n := 4) ⟨by decide, by decide⟩
  have h5 := small_fe (n := 5) ⟨by decide, by decide⟩
  have i := inv_fe h5.1
  have m := mulC_fe h4.1 i.1
  have r := root_fe m.1
  have e : fe (mulC (feSmall 4) (invC (feSmall 5))) = 4 * F.inv 5 := by rw [m.2, i.2, h4.2, h5.2, t4, t5]
  have a := affine_pt r.1 m.1
  refine ⟨a.1, a.2.1, a.2.2.trans ?_⟩
  rw [r.2.1, e]; rfl

noncomputable def placeC : Pt → Fe × Fe := placeFn mulC invC ownC
noncomputable def encodeC : Pt → B32 := encodeFn oddC feBytes placeC
theorem selN_dec {n : Nat} {p : Prop} [Decidable p] (v u : Vec Int n) : selN (decide p) v u = if p then v else u := selN_ite rfl v u
theorem encode_pt {p : Pt} (hp : OkPt p) : encodeC p = encE (ptE p) := by
  obtain ⟨p1, p2, p3⟩ := own_pt hp
  have i := inv_fe p2.2.2.1
  have x := mulC_fe p2.1 i.1
  have y := mulC_fe p2.2.1 i.1
  unfold encodeC encodeFn
  have ex : (placeC p).1 = mulC (ownC p).2.1 (invC (ownC p).2.2.2.1) := rfl
  have ey : (placeC p).2 = mulC (ownC p).2.2.1 (invC (ownC p).2.2.2.1) := rfl
  simp only [ex, ey]
  have ho : oddC (mulC (ownC p).2.1 (invC (ownC p).2.2.2.1)) = decide ((fe (mulC (ownC p).2.1 (invC (ownC p).2.2.2.1))).val % 2 = 1) := odd_fe x.1
  rw [ho, selN_dec, bytes_fe y.1, x.2, y.2, i.2]
  have hb := bytes_top (fe (ownC p).2.2.1 * F.inv (fe (ownC p).2.2.2.1))
  have hu : Vec.upd (fun x => bitOr .u8 x 128) 31 (bytesF (fe (ownC p).2.2.1 * F.inv (fe (ownC p).2.2.2.1))) = topSet (bytesF (fe (ownC p).2.2.1 * F.inv (fe (ownC p).2.2.2.1))) := by
    refine upd_congr ?_
    generalize Vec.get (bytesF (fe (ownC p).2.2.1 * F.inv (fe (ownC p).2.2.2.1))) 31 = z at *
    show bitOr .u8 z 128 = z + 128
    rw [or_comm', or_u8 (m := 7) (by omega) (by decide) hb.1 (by omega) (by omega)]; omega
  rw [hu, ← p3]; rfl

theorem topBit_val {b : B32} (h : OkB b) : topBit b = decide (128 ≤ b.get 31) := by
  obtain ⟨h1, h2⟩ := get_byte h (i := 31) (by decide)
  unfold topBit
  generalize b.get 31 = x at *
  have key : ∀ k : Fin 256, (bitAnd .u8 (k.val : Int) 128 != 0) = decide ((128 : Int) ≤ (k.val : Int)) := by decide +kernel
  obtain ⟨k, rfl⟩ := Int.eq_ofNat_of_zero_le h1
  exact key ⟨k, by omega⟩

noncomputable def canonicalC (b : B32) : Bool := eqV (feBytes (feFrom (clearTop b))) (clearTop b)
noncomputable def decodeC : B32 → Pt × Bool := decodeFn negC isZeroC feFrom canonicalC affineC rootC
theorem decode_pt {b : B32} (hb : OkB b) : OkPt (decodeC b).1 ∧ ptE (decodeC b).1 = (decE b).1 ∧ (decodeC b).2 = (decE b).2 := by
  obtain ⟨y1, y2⟩ := from_fe hb
  obtain ⟨x1, x2, x3⟩ := root_fe y1
  have hc : canonicalC b = decide (valB b % p2255 < (pp : Int)) := by unfold canonicalC; rw [canonical_fe hb, (clear_val hb).2]
  have ht := topBit_val hb
  have hz := isZero_fe x1
  obtain ⟨n1, n2⟩ := neg_fe x1
  rw [x2, y2] at hz n2
  rw [y2] at x2 x3
  have ha : ∀ (u : Fe), Ok5 u → (affineC u (feFrom b)).1 = true ∧ Ok4 (affineC u (feFrom b)) ∧ ptF (affineC u (feFrom b)) = affE (fe u) (toF (valB b % p2255)) := fun u hu => by
    have := affine_pt hu y1
    rw [y2] at this; exact this
  have hbad : ∀ (ok c t z : Bool), (bif (!ok) == false then bif (!c) == false then bif t == true then z else false else true else true) = !(ok && c && !(t && z)) := by decide
  have hnone : OkPt ptNone ∧ ptE ptNone = zeroE := ⟨fun h => by simp [ptNone] at h, rfl⟩
  unfold decodeC decodeFn decE
  simp only [selN_self, Bool.cond_self, hc, ht, hz, x3, hbad]
  generalize (xOfE (toF (valB b % p2255))).2 = ok at *
  generalize hX : (xOfE (toF (valB b % p2255))).1 = X at *
  have hg : (ok && decide (valB b % p2255 < (pp : Int)) && !(decide (128 ≤ b.get 31) && decide (X = 0))) = decide (ok = true ∧ valB b % p2255 < (pp : Int) ∧ ¬(128 ≤ b.get 31 ∧ X = 0)) := by
    cases ok
    · simp
    · by_cases h1 : valB b % p2255 < (pp : Int) <;> by_cases h2 : 128 ≤ b.get 31 <;> by_cases h3 : X = 0 <;> simp [h2, h3]
  rw [hg, selPt_eq, selN_dec]
  by_cases h : ok = true ∧ valB b % p2255 < (pp : Int) ∧ ¬(128 ≤ b.get 31 ∧ X = 0)
  · rw [decide_eq_true h, if_pos h]
    by_cases htop : 128 ≤ b.get 31
    · rw [if_pos htop, if_pos htop]
      obtain ⟨a1, a2, a3⟩ := ha _ n1
      obtain ⟨o1, o2⟩ := ok_of a1 a2
      exact ⟨o1, o2.trans (a3.trans (by rw [n2])), rfl⟩
    · rw [if_neg htop, if_neg htop]
      obtain ⟨a1, a2, a3⟩ := ha _ x1
      obtain ⟨o1, o2⟩ := ok_of a1 a2
      exact ⟨o1, o2.trans (a3.trans (by rw [x2])), rfl⟩
  · rw [decide_eq_false h, if_neg h]
    exact ⟨hnone.1, hnone.2, rfl⟩

/-! ### Multiples -/
def bitE (V : Nat) (i : Nat) : Bool := decide (V / 2 ^ i % 2 = 1)
noncomputable def stepE (V : Nat) (p : E4) (k : Nat) (r : E4) : E4 := if bitE V (255 - k) = true then addE (addE r r) p else addE r r
noncomputable def multE (V : Nat) (p : E4) : E4 := rnds (stepE V p) 256 zeroE
theorem bitFn_val {e : B32} (h : OkB e) {i : Nat} (hi : i < 256) : (bitFn e i == 1) = bitE (valB e).toNat i := by
  have h1 := bit_val h hi
  unfold bitU8 at h1
  unfold bitE bitFn
  rw [← h1]
  have e1 : shr .u8 (e.get (i / 8)) ((i % 8 : Nat) : Int) = e.get (i / 8) / (2 ^ (i % 8) : Nat) := shr_div .u8 _ _ (by show i % 8 ≤ 8; omega)
  rw [e1, and_u8 (m := 1) (by decide) _ 1 (by decide), wrap_i64 (by omega) (by omega)]
noncomputable def doubleC (p : Pt) : Pt := addPC p p
noncomputable def multC : B32 → Pt → Pt := multFn bitFn zeroC doubleC addPC
theorem mult_pt {n : B32} {p : Pt} (hn : OkB n) (hp : OkPt p) : OkPt (multC n p) ∧ ptE (multC n p) = multE (valB n).toNat (ptE p) := by
  have key : ∀ k, k ≤ 256 → OkPt (rnds (multStep bitFn doubleC addPC n p) k zeroC) ∧ ptE (rnds (multStep bitFn doubleC addPC n p) k zeroC) = rnds (stepE (valB n).toNat (ptE p)) k zeroE := by
    intro k
    induction k with
    | zero =>
      intro _
      obtain ⟨z1, z2, z3⟩ := zero_pt
      obtain ⟨o1, o2⟩ := ok_of z1 z2
      exact ⟨o1, o2.trans z3⟩
    | succ k ih =>
      intro hk
      obtain ⟨h1, h2⟩ := ih (by omega)
      show OkPt (multStep bitFn doubleC addPC n p k _) ∧ ptE (multStep bitFn doubleC addPC n p k _) = stepE _ _ k _
      rw [← h2]
      generalize rnds (multStep bitFn doubleC addPC n p) k zeroC = r at *
      obtain ⟨d1, _, d3⟩ := add_pt h1 h1
      obtain ⟨a1, _, a3⟩ := add_pt d1 hp
      unfold multStep stepE
      rw [selPt_eq, bitFn_val hn (by omega)]
      cases bitE (valB n).toNat (255 - k)
      · exact ⟨d1, d3⟩
      · refine ⟨a1, ?_⟩
        rw [if_pos rfl, ← d3]; exact a3
  exact key 256 (by omega)
end Go.Proofs.Ytndiiabkoeblgaa
