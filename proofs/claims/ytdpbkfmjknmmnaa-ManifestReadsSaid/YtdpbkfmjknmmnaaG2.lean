/- Numbers as bytes. -/
import Derived.Test.YtdpbkfmjknmmnaaG1
import Derived.Test.YtdpbkfmjknmmnaaBt
set_option linter.unusedVariables false
set_option linter.unusedSimpArgs false
namespace Go.Proofs.Ytdpbkfmjknmmnaa
open Go Go.Ev
set_option maxRecDepth 100000

/-- the lowest bytes, the lowest one first -/
def lowL : Nat → Int → List Int
  | 0, _ => []
  | k + 1, x => x % 256 :: lowL k (x / 256)
theorem lowL_length : ∀ (k : Nat) (x : Int), (lowL k x).length = k
  | 0, _ => rfl
  | k + 1, x => by simp [lowL, lowL_length k]
theorem div_pow (x : Int) (i : Nat) : x / 256 / 256 ^ i = x / 256 ^ (i + 1) := by
  rw [Int.pow_succ, Int.mul_comm, Int.ediv_ediv_of_nonneg (by omega)]
theorem lowL_succ : ∀ (i : Nat) (x : Int), lowL (i + 1) x = lowL i x ++ [x / 256 ^ i % 256]
  | 0, x => by simp [lowL]
  | i + 1, x => by
    rw [lowL, lowL_succ i, lowL, List.cons_append, div_pow]
theorem lowL_map : ∀ (k : Nat) (x : Int), lowL k x = (List.range k).map fun i => x / 256 ^ i % 256
  | 0, _ => rfl
  | k + 1, x => by rw [lowL_succ, lowL_map k, List.range_succ, List.map_append]; rfl
theorem lowL_set (i k : Nat) (x : Int) (h : i < k) : (lowL i x ++ List.replicate (k - i) 0).set i (x / 256 ^ i % 256) = lowL (i + 1) x ++ List.replicate (k - (i + 1)) 0 := by
  rw [List.set_append_right _ _ (by rw [lowL_length]; exact Nat.le_refl _), lowL_length, Nat.sub_self, show k - i = (k - (i + 1)) + 1 from by omega, List.replicate_succ, List.set_cons_zero, lowL_succ, List.append_assoc]
  rfl
theorem pow_pos256 (i : Nat) : (0 : Int) < 256 ^ i := Int.pow_pos (by omega)
theorem div_range {x : Int} (i : Nat) (h0 : 0 ≤ x) (h1 : x < 18446744073709551616) : 0 ≤ x / 256 ^ i ∧ x / 256 ^ i < 18446744073709551616 :=
  ⟨Int.ediv_nonneg h0 (Int.le_of_lt (pow_pos256 i)), Int.lt_of_le_of_lt (Int.ediv_le_self _ h0) h1⟩

abbrev lowC : Cod (List LV) (Int × Int × Int × Unit) := lCons (vOne (sInt .u64)) (lCons (vOne (sInt .i64)) (jk 3 (lSkip (vOne (sSl 0 0)) (lCons (vOne (sInt .i64)) (jk 16 lNil)))))
abbrev lowK : List Wk := [.fr (fmS 23 [(0, .sym), (1, .sym), (5, .keep), (6, .sym)]), .auto, .vers]
abbrev lowX : List Wk := [.fr (fmS 23 [(5, .keep)]), .auto, .vers]
abbrev lowE' : Cod (List LV) Unit := jk 5 (lSkip (vOne (sSl 0 0)) (jk 17 lNil))
noncomputable abbrev lowFn : Func := Try.f41
theorem low_rnd (x k i : Int) (l : List Int) : rndT Try.prog [] [] lowFn 0 [] (wsE lowK 0 lowX) ((stC lowC own1).wr ((x, k, i, ()), (l, ()))) =
    .ite (decide (i < k)) (.need (0 ≤ i ∧ i < l.length) (.leaf .normal ((stC lowC own1).wr ((IntKind.u64.wrap (x.tdiv 256), k, IntKind.i64.wrap (i + 1), ()), (l.set i.toNat (IntKind.u8.wrap (x.tmod 256)), ())))))
      (.leaf (.exit 0) ((stC lowE' own1).wr ((), (l, ())))) := by kernel_rfl
noncomputable def lowF (y : (Int × Int × Int × Unit) × List Int × Unit) : Res :=
  .need (0 ≤ y.1.1 ∧ y.1.1 < 18446744073709551616 ∧ 0 ≤ y.1.2.1 ∧ y.1.2.1 ≤ 70368744177664 ∧ y.1.2.2.1 = 0 ∧ y.2.1 = List.replicate y.1.2.1.toNat 0) (.leaf (.exit 0) ((stC lowE' own1).wr ((), (lowL y.1.2.1.toNat y.1.1, ()))))
theorem low_loop (y) : Ex Try.prog [] (.loop (loopAt lowFn 0)) ((stC lowC own1).wr y) (lowF y) := by
  obtain ⟨⟨x, k, i, _⟩, l, _⟩ := y
  refine Ex.need fun ⟨h1, h2, h3, h4, h5, h6⟩ => ?_
  simp only at h1 h2 h3 h4 h5 h6
  subst h5 h6
  obtain ⟨k, rfl⟩ := Int.eq_ofNat_of_zero_le h3
  refine loopR mixed tab0 (LOk.nil _) (fun i => k - i) (fun i : Nat => (stC lowC own1).wr ((x / 256 ^ i, (k : Int), (i : Int), ()), (lowL i x ++ List.replicate (k - i) 0, ()))) (fun i => i ≤ k)
    (fun i => .leaf (.exit 0) ((stC lowE' own1).wr ((), (lowL k x, ())))) (fun i _ => low_rnd _ _ _ _) (fun i R hi hs => ?_) 0 (Nat.zero_le _) |> (fun h => by simpa [lowL] using h)
  obtain ⟨g1, g2⟩ := div_range i h1 h2
  refine ⟨fun hb => ?_, fun hb => ?_⟩
  · have hlt : i < k := by simpa using hb
    refine ⟨⟨by omega, by simp [lowL_length]; omega⟩, .inl ⟨rfl, i + 1, ?_, hlt, by omega, hs⟩⟩
    have e1 : IntKind.u64.wrap ((x / 256 ^ i).tdiv 256) = x / 256 ^ (i + 1) := by
      have e : x / 256 ^ i / 256 = x / 256 ^ (i + 1) := by rw [Int.ediv_ediv_of_nonneg (Int.le_of_lt (pow_pos256 i)), Int.pow_succ]
      obtain ⟨g3, g4⟩ := div_range (i + 1) h1 h2
      rw [Int.tdiv_eq_ediv_of_nonneg g1, e, wrap_u64 g3 g4]
    have e2 : IntKind.u8.wrap ((x / 256 ^ i).tmod 256) = x / 256 ^ i % 256 := by
      rw [Int.tmod_eq_emod_of_nonneg g1, wrap_u8]; omega
    rw [e1, e2, wrap_ok (by omega) (by omega), Int.toNat_natCast, lowL_set i k x hlt]
    rfl
  · have hge : i = k := by simp at hb; omega
    subst hge
    simp only [Nat.sub_self, List.replicate_zero, List.append_nil]
    exact .inr ⟨by simp, hs⟩
abbrev ukA : Cod (List LV) (Int × Int × Unit) := lCons (vOne (sInt .u64)) (lCons (vOne (sInt .i64)) lNil)
/-- the lowest bytes of a number -/
noncomputable def lowEnt : Ent := Ent.ofS [] ukA lNil fun x _ => .leaf (some (0 ≤ x.1 ∧ x.1 < 18446744073709551616 ∧ 0 ≤ x.2.1 ∧ x.2.1 ≤ 70368744177664)) (.one (.sc (.sl 0 0))) [(0, .own 0 u8 (lowL x.2.1.toNat x.1))]
noncomputable abbrev lowLT : LTab := [(0, loopF (stC lowC own1) 0 lowK lowF)]
theorem low_tree (x k : Int) : fnT Try.prog [] lowLT lowFn (ukA.wr (x, k, ())) [] [.auto, .vers] =
    End.need (k = k ∧ (0 : Int) ≤ k ∧ (1 : Int) * k ≤ (70368744177664 : Int) ∧ k ≤ (70368744177664 : Int))
      (End.need
        ((0 : Int) ≤ x ∧
          x < (18446744073709551616 : Int) ∧
            (0 : Int) ≤ k ∧
              k ≤ (70368744177664 : Int) ∧
                (0 : Int) = (0 : Int) ∧ List.replicate k.toNat (0 : Int) = List.replicate k.toNat (0 : Int))
        (End.leaf (LV.one (VV.sc (SV.sl (0 : Nat) (0 : Nat))))
          [some (Item.own (0 : Nat) (Ty.int IntKind.u8) (lowL k.toNat x))])) := by kernel_rfl
theorem low_ok : lowEnt.Ok Try.prog 41 := by
  refine (Ent.ofOk Try.call41 fun x y Q h => ?_).sym
  obtain ⟨x, k, _⟩ := x
  obtain ⟨⟨h1, h2, h3, h4⟩, hq⟩ := h
  simp only at h1 h2 h3 h4
  refine (fnT_ok mixed tab0 Try.func41 rfl (LT := lowLT) (ks := [.auto, .vers]) (LOk.ofTab (LTC rfl (loopF_ok (hp := []) low_loop) LT0))).use (D := [(0, .own 0 u8 (lowL k.toNat x))]) ?_ hq
  show (fnT _ _ _ _ (ukA.wr (x, k, ())) [] _).sat _
  rw [low_tree]
  exact ⟨⟨rfl, h3, by omega, h4⟩, ⟨h1, h2, h3, h4, rfl, rfl⟩, rfl, rfl⟩

theorem number_tree (x : Int) : fnT Try.prog [] [] Try.f40 (Cod.wr (lCons (vOne (sInt .u64)) lNil) (x, ())) [] [.auto, .vers] =
    End.need ((1 : Nat) ≤ (70368744177664 : Nat) ∧ (1 : Nat) ≤ (70368744177664 : Nat))
      (End.need ((2 : Nat) ≤ (70368744177664 : Nat) ∧ (2 : Nat) ≤ (70368744177664 : Nat))
        (End.need ((3 : Nat) ≤ (70368744177664 : Nat) ∧ (3 : Nat) ≤ (70368744177664 : Nat))
          (End.need ((4 : Nat) ≤ (70368744177664 : Nat) ∧ (4 : Nat) ≤ (70368744177664 : Nat))
            (End.need ((5 : Nat) ≤ (70368744177664 : Nat) ∧ (5 : Nat) ≤ (70368744177664 : Nat))
              (End.need ((6 : Nat) ≤ (70368744177664 : Nat) ∧ (6 : Nat) ≤ (70368744177664 : Nat))
                (End.need ((7 : Nat) ≤ (70368744177664 : Nat) ∧ (7 : Nat) ≤ (70368744177664 : Nat))
                  (End.need ((8 : Nat) ≤ (70368744177664 : Nat) ∧ (8 : Nat) ≤ (70368744177664 : Nat))
                    (End.leaf (LV.one (VV.sc (SV.sl (0 : Nat) (0 : Nat))))
                      [some
                          (Item.own (0 : Nat) (Ty.int IntKind.u8)
                            [IntKind.u8.wrap (shr IntKind.u64 x (0 : Int)), IntKind.u8.wrap (shr IntKind.u64 x (8 : Int)),
                              IntKind.u8.wrap (shr IntKind.u64 x (16 : Int)),
                              IntKind.u8.wrap (shr IntKind.u64 x (24 : Int)),
                              IntKind.u8.wrap (shr IntKind.u64 x (32 : Int)),
                              IntKind.u8.wrap (shr IntKind.u64 x (40 : Int)),
                              IntKind.u8.wrap (shr IntKind.u64 x (48 : Int)),
                              IntKind.u8.wrap (shr IntKind.u64 x (56 : Int))])])))))))) := by kernel_rfl
noncomputable def numEnt : Ent := Ent.ofS [] (lCons (vOne (sInt .u64)) lNil) lNil fun x _ => .leaf (some (0 ≤ x.1 ∧ x.1 < 18446744073709551616)) (.one (.sc (.sl 0 0))) [(0, .own 0 u8 (lowL 8 x.1))]
theorem num_ok : numEnt.Ok Try.prog 40 := by
  refine (Ent.ofOk Try.call40 fun x y Q h => ?_).sym
  obtain ⟨x, _⟩ := x
  obtain ⟨⟨h1, h2⟩, hq⟩ := h
  simp only at h1 h2
  refine (fnT_ok mixed tab0 Try.func40 rfl (LT := []) (ks := [.auto, .vers]) (LOk.nil _)).use (D := [(0, .own 0 u8 (lowL 8 x))]) ?_ hq
  show (fnT _ _ _ _ (Cod.wr (lCons (vOne (sInt .u64)) lNil) (x, ())) [] _).sat _
  rw [number_tree]
  have e : ∀ i : Nat, i < 8 → IntKind.u8.wrap (shr .u64 x (8 * i : Nat)) = x / 256 ^ i % 256 := by
    intro i hi
    have e1 : ((2 ^ (8 * i) : Nat) : Int) = 256 ^ i := by rw [Nat.pow_mul, Int.natCast_pow]; rfl
    rw [shr_div .u64 x (8 * i) (by simp [IntKind.bits]; omega), wrap_u8, e1]
  refine ⟨by omega, by omega, by omega, by omega, by omega, by omega, by omega, by omega, rfl, ?_⟩
  show _ = [some (Item.own 0 u8 (lowL 8 x))]
  rw [lowL_map, ← List.map_congr_left (fun i hi => e i (by simpa using hi))]
  rfl
end Go.Proofs.Ytdpbkfmjknmmnaa
