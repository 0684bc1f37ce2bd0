/- The program's numbers modulo p: products. -/
import Derived.Test.YtndiiabkoeblgaaFma
namespace Go.Proofs.Ytndiiabkoeblgaa
open Go Go.Ev BJ

theorem add64_val {x y c : Int} (hx : 0 ≤ x) (hy : 0 ≤ y) (hc : 0 ≤ c) : add64 x y c = ((x + y + c) % 18446744073709551616, (x + y + c) / 18446744073709551616) := by
  obtain ⟨a, rfl⟩ := Int.eq_ofNat_of_zero_le hx
  obtain ⟨b, rfl⟩ := Int.eq_ofNat_of_zero_le hy
  obtain ⟨d, rfl⟩ := Int.eq_ofNat_of_zero_le hc
  simp only [add64, Int.toNat_natCast]
  refine Prod.ext ?_ ?_
  · show (((a + b + d) % 2 ^ 64 : Nat) : Int) = _; omega
  · show (((a + b + d) / 2 ^ 64 : Nat) : Int) = _; omega

def OkP (p : Int × Int) : Prop := 0 ≤ p.2 ∧ p.2 < 18446744073709551616 ∧ 0 ≤ p.1
def pv (p : Int × Int) : Int := p.1 * 18446744073709551616 + p.2
def coef (x : Fe) (i j : Nat) : Int := if i + j < 5 then x.get i else w64 (x.get i * 19)
def sumAt (x y : Fe) (k : Nat) : List (Nat × Nat) → Int
  | [] => 0
  | (i, j) :: l => (if (i + j) % 5 = k then coef x i j * y.get j else 0) + sumAt x y k l

theorem mulRun_ok {x y : Fe} (hc : ∀ i j, i < 5 → j < 5 → 0 ≤ coef x i j ∧ coef x i j < 72057594037927936) (hy : ∀ j, j < 5 → 0 ≤ y.get j ∧ y.get j < 4503599627370496) :
    ∀ (l : List (Nat × Nat)) (r : List (Int × Int)) (B : Int), (∀ p ∈ l, p.1 < 5 ∧ p.2 < 5) → r.length = 5 → (∀ k, k < 5 → OkP (r.getD k (0, 0)) ∧ pv (r.getD k (0, 0)) ≤ B) →
      B + l.length * 324518553658426726783156020576256 < 340282366920938463463374607431768211456 →
      (∀ k, k < 5 → OkP ((mulRun mulFn add64 x y l r).1.getD k (0, 0)) ∧ pv ((mulRun mulFn add64 x y l r).1.getD k (0, 0)) = pv (r.getD k (0, 0)) + sumAt x y k l) ∧
      ∀ p ∈ (mulRun mulFn add64 x y l r).2, p
  | [], r, B, _, hl, hr, _ => ⟨fun k hk => ⟨(hr k hk).1, by simp [mulRun, sumAt]⟩, fun p hp => by simp [mulRun] at hp⟩
  | (i, j) :: l, r, B, hm, hl, hr, hB => by
    obtain ⟨hi, hj⟩ := hm (i, j) (by simp)
    obtain ⟨c0, c1⟩ := hc i j hi hj
    obtain ⟨y0, y1⟩ := hy j hj
    have hkk : (i + j) % 5 < 5 := Nat.mod_lt _ (by decide)
    obtain ⟨⟨p0, p1, p2⟩, p3⟩ := hr _ hkk
    have hpr : 0 ≤ coef x i j * y.get j ∧ coef x i j * y.get j ≤ 324518553658426726783156020576256 := ⟨Int.mul_nonneg c0 y0, by
      have := Int.mul_le_mul (a := coef x i j) (b := y.get j) (c := 72057594037927936) (d := 4503599627370496) (by omega) (by omega) (by omega) (by omega)
      omega⟩
    have hcB : 0 ≤ (l.length : Int) := by omega
    simp only [List.length_cons, Int.natCast_add] at hB
    have hmul := mulFn_val (a := coef x i j) (b := y.get j) ⟨c0, by omega⟩ ⟨y0, by omega⟩
    generalize hab : coef x i j * y.get j = ab at hpr hmul
    generalize hpe : r.getD ((i + j) % 5) (0, 0) = p at p0 p1 p2 p3
    unfold pv at p3
    have hs : add64 p.2 (mulFn (coef x i j) (y.get j)).2 0 = ((p.2 + ab % 18446744073709551616 + 0) % 18446744073709551616, (p.2 + ab % 18446744073709551616 + 0) / 18446744073709551616) := by
      rw [hmul]; exact add64_val p0 (by show 0 ≤ ab % 18446744073709551616; omega) (by omega)
    have ht : add64 p.1 (mulFn (coef x i j) (y.get j)).1 (add64 p.2 (mulFn (coef x i j) (y.get j)).2 0).2 = ((p.1 + ab / 18446744073709551616 + (p.2 + ab % 18446744073709551616 + 0) / 18446744073709551616) % 18446744073709551616,
        (p.1 + ab / 18446744073709551616 + (p.2 + ab % 18446744073709551616 + 0) / 18446744073709551616) / 18446744073709551616) := by
      rw [hs, hmul]; exact add64_val p2 (by show 0 ≤ ab / 18446744073709551616; omega) (by show 0 ≤ (p.2 + ab % 18446744073709551616 + 0) / 18446744073709551616; omega)
    have hstep : mulRun mulFn add64 x y ((i, j) :: l) r = ((mulRun mulFn add64 x y l (r.set ((i + j) % 5) ((add64 p.1 (mulFn (coef x i j) (y.get j)).1 (add64 p.2 (mulFn (coef x i j) (y.get j)).2 0).2).1, (add64 p.2 (mulFn (coef x i j) (y.get j)).2 0).1))).1,
        (0 ≤ (add64 p.2 (mulFn (coef x i j) (y.get j)).2 0).2 ∧ (add64 p.2 (mulFn (coef x i j) (y.get j)).2 0).2 ≤ 1) :: (mulRun mulFn add64 x y l (r.set ((i + j) % 5) ((add64 p.1 (mulFn (coef x i j) (y.get j)).1 (add64 p.2 (mulFn (coef x i j) (y.get j)).2 0).2).1, (add64 p.2 (mulFn (coef x i j) (y.get j)).2 0).1))).2) := by
      rw [← hpe]; rfl
    rw [hstep, ht, hs]
    have hget : ∀ (v : Int × Int) k, k < 5 → (r.set ((i + j) % 5) v).getD k (0, 0) = if (i + j) % 5 = k then v else r.getD k (0, 0) := by
      intro v k hk
      simp only [List.getD_eq_getElem?_getD, List.getElem?_set]
      split
      · rename_i e; subst e; simp [hl, hkk]
      · rfl
    obtain ⟨h1, h2⟩ := mulRun_ok hc hy l (r.set ((i + j) % 5) ((p.1 + ab / 18446744073709551616 + (p.2 + ab % 18446744073709551616 + 0) / 18446744073709551616) % 18446744073709551616, (p.2 + ab % 18446744073709551616 + 0) % 18446744073709551616))
      (B + 324518553658426726783156020576256) (fun p hp => hm p (by simp [hp])) (by simpa using hl) (fun k hk => by
        rw [hget _ k hk]
        split
        · refine ⟨⟨?_, ?_, ?_⟩, ?_⟩
          · show 0 ≤ (p.2 + ab % 18446744073709551616 + 0) % 18446744073709551616; omega
          · show (p.2 + ab % 18446744073709551616 + 0) % 18446744073709551616 < _; omega
          · show 0 ≤ (p.1 + ab / 18446744073709551616 + (p.2 + ab % 18446744073709551616 + 0) / 18446744073709551616) % 18446744073709551616; omega
          · show (p.1 + ab / 18446744073709551616 + (p.2 + ab % 18446744073709551616 + 0) / 18446744073709551616) % 18446744073709551616 * 18446744073709551616 + (p.2 + ab % 18446744073709551616 + 0) % 18446744073709551616 ≤ _
            omega
        · exact ⟨(hr k hk).1, by have := (hr k hk).2; omega⟩) (by omega)
    refine ⟨fun k hk => ?_, ?_⟩
    · obtain ⟨h3, h4⟩ := h1 k hk
      refine ⟨h3, ?_⟩
      show pv _ = _ + ((if (i + j) % 5 = k then coef x i j * y.get j else 0) + sumAt x y k l)
      rw [h4, hget _ k hk]
      split
      · rename_i e
        rw [← e, hpe, hab]
        simp only [pv]
        omega
      · omega
    · intro q hq
      rcases List.mem_cons.1 hq with rfl | hq
      · show 0 ≤ (p.2 + ab % 18446744073709551616 + 0) / 18446744073709551616 ∧ (p.2 + ab % 18446744073709551616 + 0) / 18446744073709551616 ≤ 1
        omega
      · exact h2 q hq

theorem needs_conjAll : ∀ {l : List Prop}, (∀ p ∈ l, p) → needs (conjAll l)
  | [], _ => trivial
  | p :: l, h => by
    have h1 := h p (by simp)
    have h2 := needs_conjAll (l := l) fun q hq => h q (by simp [hq])
    unfold conjAll
    cases hc : conjAll l with
    | none => exact h1
    | some q => rw [hc] at h2; exact ⟨h1, h2⟩

theorem get5 (x0 x1 x2 x3 x4 : Int) (u : Vec Int 0) : Vec.get (n := 5) (x0, x1, x2, x3, x4, u) 0 = x0 ∧ Vec.get (n := 5) (x0, x1, x2, x3, x4, u) 1 = x1 ∧ Vec.get (n := 5) (x0, x1, x2, x3, x4, u) 2 = x2 ∧
    Vec.get (n := 5) (x0, x1, x2, x3, x4, u) 3 = x3 ∧ Vec.get (n := 5) (x0, x1, x2, x3, x4, u) 4 = x4 := ⟨rfl, rfl, rfl, rfl, rfl⟩
theorem get5_all {x : Fe} {Q : Int → Prop} (h0 : Q x.1) (h1 : Q x.2.1) (h2 : Q x.2.2.1) (h3 : Q x.2.2.2.1) (h4 : Q x.2.2.2.2.1) : ∀ i, i < 5 → Q (x.get i)
  | 0, _ => h0
  | 1, _ => h1
  | 2, _ => h2
  | 3, _ => h3
  | 4, _ => h4
  | n + 5, h => absurd h (by omega)

theorem mulNeeds_ok {x y : Fe} (hx : Ok5 x) (hy : Ok5 y) : needs (conjAll (mulNeeds mulFn add64 x y)) ∧
    ∀ k, k < 5 → ∃ p, (mulRun mulFn add64 x y mulSteps [(0, 0), (0, 0), (0, 0), (0, 0), (0, 0)]).1.getD k (0, 0) = p ∧ OkP p ∧ pv p = sumAt x y k mulSteps := by
  have hgx : ∀ i, i < 5 → Lim (x.get i) := get5_all hx.1 hx.2.1 hx.2.2.1 hx.2.2.2.1 hx.2.2.2.2
  have hgy : ∀ i, i < 5 → Lim (y.get i) := get5_all hy.1 hy.2.1 hy.2.2.1 hy.2.2.2.1 hy.2.2.2.2
  obtain ⟨h1, h2⟩ := mulRun_ok (x := x) (y := y) (fun i j hi hj => by
      obtain ⟨a, b⟩ := hgx i hi
      unfold coef
      split
      · omega
      · unfold w64; rw [wrap_u64 (by omega) (by omega)]; omega) (fun j hj => by obtain ⟨a, b⟩ := hgy j hj; omega)
    mulSteps [(0, 0), (0, 0), (0, 0), (0, 0), (0, 0)] 0 (by decide) rfl (fun k hk => by
      have : ([(0, 0), (0, 0), (0, 0), (0, 0), (0, 0)] : List (Int × Int)).getD k (0, 0) = (0, 0) := by
        match k, hk with
        | 0, _ => rfl
        | 1, _ => rfl
        | 2, _ => rfl
        | 3, _ => rfl
        | 4, _ => rfl
      rw [this]; exact ⟨⟨by decide, by decide, by decide⟩, by decide⟩) (by decide)
  refine ⟨needs_conjAll h2, fun k hk => ⟨_, rfl, (h1 k hk).1, ?_⟩⟩
  rw [(h1 k hk).2]
  have : ([(0, 0), (0, 0), (0, 0), (0, 0), (0, 0)] : List (Int × Int)).getD k (0, 0) = (0, 0) := by
    match k, hk with
    | 0, _ => rfl
    | 1, _ => rfl
    | 2, _ => rfl
    | 3, _ => rfl
    | 4, _ => rfl
  rw [this]; simp [pv]

/-- the product's parts -/
theorem high_low {p : Int × Int} (h : OkP p) {R : Int} (hR : pv p = R) (hlt : R < 20769187434139310514121985316880384) :
    and64 p.2 msk = R % 2251799813685248 ∧ bitOr .u64 (shl .u64 p.1 13) (shr64 p.2 51) = R / 2251799813685248 := by
  obtain ⟨a, b⟩ := p
  obtain ⟨h0, h1, h2⟩ := h
  simp only [pv] at *
  rw [and_msk, shr_51]
  have e : shl .u64 a 13 = a * 8192 := by
    have := shl_mul .u64 a 13 (by decide)
    rw [show ((13 : Nat) : Int) = 13 from rfl] at this
    rw [this]
    exact wrap_u64 (by omega) (by omega)
  rw [e, or_u64 (m := 13) (by omega) (by omega) (by omega) (by omega) (by omega)]
  constructor <;> omega

theorem mul_val (x0 x1 x2 x3 x4 y0 y1 y2 y3 y4 : Int) (u v : Vec Int 0) (hx : Ok5 (x0, x1, x2, x3, x4, u)) (k : Nat) (hk : k < 5) :
    sumAt (x0, x1, x2, x3, x4, u) (y0, y1, y2, y3, y4, v) k mulSteps =
      [x0 * y0 + x1 * 19 * y4 + x2 * 19 * y3 + x3 * 19 * y2 + x4 * 19 * y1, x0 * y1 + x1 * y0 + x2 * 19 * y4 + x3 * 19 * y3 + x4 * 19 * y2, x0 * y2 + x1 * y1 + x2 * y0 + x3 * 19 * y4 + x4 * 19 * y3,
        x0 * y3 + x1 * y2 + x2 * y1 + x3 * y0 + x4 * 19 * y4, x0 * y4 + x1 * y3 + x2 * y2 + x3 * y1 + x4 * y0].getD k 0 := by
  simp only [Ok5, Lim] at hx
  have w1 : w64 (x1 * 19) = x1 * 19 := wrap_u64 (by omega) (by omega)
  have w2 : w64 (x2 * 19) = x2 * 19 := wrap_u64 (by omega) (by omega)
  have w3 : w64 (x3 * 19) = x3 * 19 := wrap_u64 (by omega) (by omega)
  have w4 : w64 (x4 * 19) = x4 * 19 := wrap_u64 (by omega) (by omega)
  obtain ⟨g0, g1, g2, g3, g4⟩ := get5 x0 x1 x2 x3 x4 u
  obtain ⟨f0, f1, f2, f3, f4⟩ := get5 y0 y1 y2 y3 y4 v
  match k, hk with
  | 0, _ => simp [sumAt, mulSteps, coef, g0, g1, g2, g3, g4, f0, f1, f2, f3, f4, w1, w2, w3, w4]; omega
  | 1, _ => simp [sumAt, mulSteps, coef, g0, g1, g2, g3, g4, f0, f1, f2, f3, f4, w2, w3, w4]; omega
  | 2, _ => simp [sumAt, mulSteps, coef, g0, g1, g2, g3, g4, f0, f1, f2, f3, f4, w3, w4]; omega
  | 3, _ => simp [sumAt, mulSteps, coef, g0, g1, g2, g3, g4, f0, f1, f2, f3, f4, w4]; omega
  | 4, _ => simp [sumAt, mulSteps, coef, g0, g1, g2, g3, g4, f0, f1, f2, f3, f4]; omega

theorem mul_ring (x0 x1 x2 x3 x4 y0 y1 y2 y3 y4 t : F) (ht : t * t * t * t * t = 19) :
    (x0 * y0 + x1 * 19 * y4 + x2 * 19 * y3 + x3 * 19 * y2 + x4 * 19 * y1) + (x0 * y1 + x1 * y0 + x2 * 19 * y4 + x3 * 19 * y3 + x4 * 19 * y2) * t + (x0 * y2 + x1 * y1 + x2 * y0 + x3 * 19 * y4 + x4 * 19 * y3) * (t * t) +
      (x0 * y3 + x1 * y2 + x2 * y1 + x3 * y0 + x4 * 19 * y4) * (t * t * t) + (x0 * y4 + x1 * y3 + x2 * y2 + x3 * y1 + x4 * y0) * (t * t * t * t) =
    (x0 + x1 * t + x2 * (t * t) + x3 * (t * t * t) + x4 * (t * t * t * t)) * (y0 + y1 * t + y2 * (t * t) + y3 * (t * t * t) + y4 * (t * t * t * t)) := by
  grobner
end Go.Proofs.Ytndiiabkoeblgaa
