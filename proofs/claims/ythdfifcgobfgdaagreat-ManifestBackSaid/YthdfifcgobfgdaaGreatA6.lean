/- What the laws lean on, part 6: a reader of code, plain facts, and what each function gives; no conditions. -/
import Derived.Test.YthdfifcgobfgdaaGreatA5
section
set_option linter.unusedVariables false
set_option linter.unusedSimpArgs false
namespace Go.Proofs.YthdfifcgobfgdaaGreat
open Go Go.Ev BJ
def orderL : List Int := [6346243789798364141, 1503914060200516822, 0, 1152921504606846976, 0, 0, 0, 0]
def ll : Int := 7237005577332262213973186563042994240857116359379907606001950938285454250989
theorem ll_pos : 0 < ll := by decide
theorem order_val : vd qq orderL = ll := by decide +kernel
theorem order_in : orderL.length = 8 ∧ InB qq orderL := ⟨rfl, by unfold InB orderL; decide⟩
def putBit (r : List Int) (b : Int) : List Int := r.set 0 (bitOr .u64 (r.getD 0 0) b)
def redF (and : List Int → List Int → List Int) (less : List Int → List Int → List Int × Int) (bit : List Int → Int → Int) (o w : List Int) (k : Nat) (r : List Int) : List Int :=
  bif (less (putBit (and r r) (bit w (511 - (k : Int)))) o).2 == 0 then (less (putBit (and r r) (bit w (511 - (k : Int)))) o).1 else putBit (and r r) (bit w (511 - (k : Int)))
theorem bitW_01 (w : List Int) (i : Int) : 0 ≤ bitW w i ∧ bitW w i < 2 := by unfold bitW; omega
theorem qq8 : (2 : Int) ^ 254 ≤ qq ^ 8 := by decide +kernel
theorem ll_lt : ll + ll < 2 ^ 254 := by decide +kernel
theorem put_bit {R b : Int} (hR : 0 ≤ R ∧ R < ll) (hb : 0 ≤ b ∧ b < 2) : putBit (dg qq 8 (R + R)) b = dg qq 8 (2 * R + b) := by
  have h1 : 2 * R + b < qq ^ 8 := Int.lt_of_lt_of_le (by have := ll_lt; omega) qq8
  have h2 : R + R < qq ^ 8 := Int.lt_of_lt_of_le (by have := ll_lt; omega) qq8
  have hg : (dg qq 8 (R + R)).getD 0 0 = (R + R) % qq := by rw [dg_getD qq_pos (by decide)]; simp
  have hm : 0 ≤ (R + R) % qq := Int.emod_nonneg (R + R) (show qq ≠ 0 by decide)
  have hl : (R + R) % qq < 18446744073709551616 := Int.emod_lt_of_pos (R + R) qq_pos
  have hev : (R + R) % qq % 2 = 0 := by
    show (R + R) % 18446744073709551616 % 2 = 0
    omega
  have hv : vd qq (dg qq 8 (R + R)) = R + R := by rw [vd_dg qq_pos, Int.emod_eq_of_lt (by omega) h2]
  unfold putBit
  rw [hg]
  generalize (R + R) % qq = M at *
  rw [or_u64 (m := 1) hm (by simpa using hev) hb.1 (by simpa using hb.2) (by omega)]
  refine eq_dg qq_pos ((dg_in qq_pos 8 _).set ⟨by omega, (by omega : M + b < 18446744073709551616)⟩) (by rw [List.length_set, dg_length]) ?_
  rw [vd_set (by rw [dg_length]; decide), hg, hv, Int.emod_eq_of_lt (by omega) h1, Int.pow_zero, Int.mul_one]
  omega
theorem red_step {V : Int} {w : List Int} (hw : vd qq w = V) {k : Nat} (hk : k < 512) : redF sumW lessW bitW orderL w k (dg qq 8 (V / 2 ^ (512 - k) % ll)) = dg qq 8 (V / 2 ^ (512 - (k + 1)) % ll) := by
  have hlq : ∀ {x : Int}, x < ll + ll → x < qq ^ 8 := fun h => Int.lt_of_lt_of_le (Int.lt_trans h ll_lt) qq8
  have e0 := half_step V (512 - (k + 1))
  rw [show 512 - (k + 1) + 1 = 512 - k from by omega] at e0
  have eb : bitW w (511 - (k : Int)) = V / 2 ^ (512 - (k + 1)) % 2 := by
    unfold bitW
    rw [hw, show (511 - (k : Int)).toNat = 512 - (k + 1) from by omega]
  have hb : 0 ≤ V / 2 ^ (512 - (k + 1)) % 2 ∧ V / 2 ^ (512 - (k + 1)) % 2 < 2 := by omega
  have hR : 0 ≤ V / 2 ^ (512 - k) % ll ∧ V / 2 ^ (512 - k) % ll < ll := ⟨Int.emod_nonneg _ (by have := ll_pos; omega), Int.emod_lt_of_pos _ ll_pos⟩
  have em : (V / 2 ^ (512 - (k + 1))) % ll = (2 * (V / 2 ^ (512 - k) % ll) + V / 2 ^ (512 - (k + 1)) % 2) % ll := by
    conv => lhs; rw [e0]
    exact mod_two _ _ _
  rw [em, mod_step ll_pos hR hb]
  have es : sumW (dg qq 8 (V / 2 ^ (512 - k) % ll)) (dg qq 8 (V / 2 ^ (512 - k) % ll)) = dg qq 8 (V / 2 ^ (512 - k) % ll + V / 2 ^ (512 - k) % ll) := by
    unfold sumW
    rw [vd_dg qq_pos, Int.emod_eq_of_lt hR.1 (hlq (by omega))]
  unfold redF
  rw [eb, es, put_bit hR hb]
  generalize V / 2 ^ (512 - k) % ll = R at *
  generalize V / 2 ^ (512 - (k + 1)) % 2 = b at *
  have el : lessW (dg qq 8 (2 * R + b)) orderL = (dg qq 8 (2 * R + b - ll), if 2 * R + b < ll then 1 else 0) := by
    unfold lessW
    rw [order_val, vd_dg qq_pos, Int.emod_eq_of_lt (by omega) (hlq (by omega))]
  rw [el]
  by_cases h : 2 * R + b < ll
  · rw [if_pos h, if_pos h]; rfl
  · rw [if_neg h, if_neg h]; rfl
noncomputable def redW (w : List Int) : List Int := dg 256 32 (vd qq w % ll)
/-- a digit, and what goes on -/
def mulS (mu : Int → Int → Int × Int) (ad : Int → Int → Int → Int × Int) (x y c o : Int) : Int × Int :=
  ((ad o (ad (mu x y).2 c 0).1 0).1, IntKind.u64.wrap (IntKind.u64.wrap ((mu x y).1 + (ad (mu x y).2 c 0).2) + (ad o (ad (mu x y).2 c 0).1 0).2))
theorem mulS_val {x y c o : Int} (hx : U64 x) (hy : U64 y) (hc : U64 c) (ho : U64 o) : U64 (mulS mulFn add64 x y c o).1 ∧ U64 (mulS mulFn add64 x y c o).2 ∧ (mulS mulFn add64 x y c o).1 + qq * (mulS mulFn add64 x y c o).2 = o + x * y + c := by
  unfold mulS
  rw [mulFn_val hx hy]
  unfold U64 at *
  have hm0 : 0 ≤ x * y := Int.mul_nonneg hx.1 hy.1
  have hm1 : x * y ≤ 18446744073709551615 * 18446744073709551615 := Int.mul_le_mul (by omega) (by omega) hy.1 (by decide)
  simp only
  generalize x * y = m at *
  have q0 : 0 ≤ m % 18446744073709551616 := by omega
  rw [add64_val q0 hc.1 (by decide)]
  simp only
  rw [add64_val ho.1 (by omega) (by decide)]
  simp only
  rw [wrap_u64 (n := m / 18446744073709551616 + (m % 18446744073709551616 + c + 0) / 18446744073709551616) (by omega) (by omega), wrap_u64 (by omega) (by omega)]
  unfold qq
  omega
def timJ (mu : Int → Int → Int × Int) (ad : Int → Int → Int → Int × Int) (a b : List Int) (u : Nat) (j : Nat) (s : Int × List Int) : Int × List Int :=
  ((mulS mu ad (a.getD u 0) (b.getD j 0) s.1 (s.2.getD (u + j) 0)).2, s.2.set (u + j) (mulS mu ad (a.getD u 0) (b.getD j 0) s.1 (s.2.getD (u + j) 0)).1)
def timU (mu : Int → Int → Int × Int) (ad : Int → Int → Int → Int × Int) (a b : List Int) (u : Nat) (o : List Int) : List Int :=
  (upto (timJ mu ad a b u) 0 4 (0, o)).2.set (u + 4) (upto (timJ mu ad a b u) 0 4 (0, o)).1
structure TimI (a b o : List Int) (u j : Nat) (s : Int × List Int) : Prop where
  len : s.2.length = 8
  inb : InB qq s.2
  car : U64 s.1
  rest : ∀ i, u + 4 ≤ i → s.2.getD i 0 = o.getD i 0
  val : vd qq s.2 + s.1 * qq ^ (u + j) = vd qq o + a.getD u 0 * vd qq (b.take j) * qq ^ u
theorem timJ_step {a b o : List Int} (ha : InB qq a) (hb : InB qq b) (lb : b.length = 8) {u j : Nat} (hu : u < 4) (hj : j < 4) {s : Int × List Int} (h : TimI a b o u j s) : TimI a b o u (j + 1) (timJ mulFn add64 a b u j s) := by
  obtain ⟨h1, h2, h3, h4, h5⟩ := h
  obtain ⟨c, s⟩ := s
  simp only at h1 h2 h3 h4 h5
  have hlt : u + j < s.length := by omega
  obtain ⟨g1, g2, g3⟩ := mulS_val (InB.getD qq_pos ha u) (InB.getD qq_pos hb j) h3 (InB.getD qq_pos h2 (u + j))
  unfold timJ
  simp only
  generalize mulS mulFn add64 (a.getD u 0) (b.getD j 0) c (s.getD (u + j) 0) = p at *
  refine ⟨by rw [List.length_set]; exact h1, h2.set g1, g2, fun i hi => ?_, ?_⟩
  · rw [← h4 i hi, List.getD_eq_getElem?_getD, List.getD_eq_getElem?_getD, List.getElem?_set_ne (by omega)]
  · simp only
    rw [vd_set hlt, vd_take_succ (by omega), show u + (j + 1) = (u + j) + 1 from by omega, Int.pow_succ]
    generalize s.getD (u + j) 0 = o0 at *
    generalize a.getD u 0 = x at *
    generalize b.getD j 0 = y at *
    have e1 : x * (vd qq (b.take j) + y * qq ^ j) * qq ^ u = x * vd qq (b.take j) * qq ^ u + x * y * qq ^ (u + j) := by
      rw [Int.mul_add, Int.add_mul, Int.pow_add, Int.mul_comm (qq ^ u), ← Int.mul_assoc x y (qq ^ j), Int.mul_assoc (x * y) (qq ^ j)]
    have e2 : (p.1 + qq * p.2) * qq ^ (u + j) = (o0 + x * y + c) * qq ^ (u + j) := by rw [g3]
    have e3 : p.2 * (qq ^ (u + j) * qq) = qq * p.2 * qq ^ (u + j) := by
      rw [Int.mul_comm (qq ^ (u + j)), ← Int.mul_assoc, Int.mul_comm p.2]
    rw [e1, e3, Int.sub_mul]
    rw [Int.add_mul, Int.add_mul (o0 + x * y), Int.add_mul o0] at e2
    omega
structure TimO (a b : List Int) (u : Nat) (o : List Int) : Prop where
  len : o.length = 8
  inb : InB qq o
  rest : ∀ i, u + 4 ≤ i → o.getD i 0 = 0
  val : vd qq o = vd qq (a.take u) * vd qq (b.take 4)
theorem timU_step {a b o : List Int} (ha : InB qq a) (hb : InB qq b) (la : a.length = 8) (lb : b.length = 8) {u : Nat} (hu : u < 4) (h : TimO a b u o) : TimO a b (u + 1) (timU mulFn add64 a b u o) := by
  have k := upto_inv (f := timJ mulFn add64 a b u) (TimI a b o u) (n := 4) (fun j s hj hs => timJ_step ha hb lb hu hj hs) 4 0 (0, o) (by omega) ⟨h.len, h.inb, by unfold U64; omega, fun _ _ => rfl, by simp [vd]⟩
  unfold timU
  generalize upto (timJ mulFn add64 a b u) 0 4 (0, o) = s at *
  obtain ⟨c, s⟩ := s
  obtain ⟨k1, k2, k3, k4, k5⟩ := k
  simp only at k1 k2 k3 k4 k5
  simp only
  refine ⟨by rw [List.length_set]; exact k1, k2.set k3, fun i hi => ?_, ?_⟩
  · rw [List.getD_eq_getElem?_getD, List.getElem?_set_ne (by omega), ← List.getD_eq_getElem?_getD, k4 i (by omega), h.rest i (by omega)]
  · have e0 : s.getD (u + 4) 0 = 0 := by rw [k4 _ (Nat.le_refl _), h.rest _ (Nat.le_refl _)]
    rw [vd_set (by omega), e0, Int.sub_zero, show u + 4 = u + (0 + 4) from by omega, k5, h.val, vd_take_succ (l := a) (by omega), Nat.zero_add, Int.add_mul, Int.mul_assoc (a.getD u 0) (qq ^ u), Int.mul_comm (qq ^ u), Int.mul_assoc]
noncomputable def timesW (a b : List Int) : List Int := dg qq 8 (vd qq (a.take 4) * vd qq (b.take 4))
theorem times_all {a b : List Int} (ha : InB qq a) (hb : InB qq b) (la : a.length = 8) (lb : b.length = 8) : upto (timU mulFn add64 a b) 0 4 (List.replicate 8 0) = timesW a b := by
  have h := upto_inv (f := timU mulFn add64 a b) (TimO a b) (n := 4) (fun u o hu ho => timU_step ha hb la lb hu ho) 4 0 (List.replicate 8 0) (by omega) ⟨by simp, InB.zeros qq_pos 8, fun i _ => by
    rw [List.getD_eq_getElem?_getD, List.getElem?_replicate]; split <;> rfl, by rw [vd_zeros]; simp [vd]⟩
  exact eq_dg' qq_pos h.inb h.len h.val
theorem ofL_in (b : List Int) : (ofL b).length = 8 ∧ InB qq (ofL b) := ⟨dg_length _ _, dg_in qq_pos _ _⟩
theorem ofL_val {b : List Int} (hb : AllBy b) (hl : b.length ≤ 64) : vd qq (ofL b) = vd 256 b := by
  unfold ofL
  have h1 := vd_nonneg (by decide) (show InB 256 b from hb)
  have h2 := vd_lt (by decide) (show InB 256 b from hb)
  have e : (256 : Int) ^ 64 = qq ^ 8 := by decide +kernel
  have h3 : (256 : Int) ^ b.length ≤ 256 ^ 64 := ipow_le (by decide) hl
  rw [vd_dg qq_pos, Int.emod_eq_of_lt h1 (by rw [← e]; omega)]
theorem ofL_take {b : List Int} (hb : AllBy b) (hl : b.length = 32) : vd qq ((ofL b).take 4) = vd 256 b := by
  unfold ofL
  have h1 := vd_nonneg (by decide) (show InB 256 b from hb)
  have h2 := vd_lt (by decide) (show InB 256 b from hb)
  have e : (256 : Int) ^ 32 = qq ^ 4 := by decide +kernel
  rw [hl] at h2
  rw [dg_take qq_pos (by decide), vd_dg qq_pos, Int.emod_eq_of_lt h1 (by rw [← e]; exact h2)]
end Go.Proofs.YthdfifcgobfgdaaGreat
end

section
set_option linter.unusedVariables false
set_option linter.unusedSimpArgs false
namespace Go.Proofs.YthdfifcgobfgdaaGreat
open Go Go.Ev BJ
set_option maxRecDepth 1000000
abbrev cW : Cod LV (List Int) := vRow .u64 8
abbrev wA : Cod (List LV) (List Int × Unit) := lCons cW lNil
abbrev w2A : Cod (List LV) (List Int × List Int × Unit) := lCons cW (lCons cW lNil)
abbrev iW : Cod (Option Ev.Item) (List Int) := iRow 93 .u64 8
abbrev iB : Cod (Option Ev.Item) (List Int) := iRow 22 .u8 32
abbrev rwB (i : Nat) : Wk := .rowB i 0 8 .u64
abbrev nPW (r : List Int × Int) : LV := .tup [.agg [.arr (.int .u64) 8 r.1], .sc (.int .u64 (.sym r.2))]
def okW (w : List Int) : Prop := w.length = 8 ∧ InB 18446744073709551616 w
def okB (b : List Int) : Prop := b.length = 32 ∧ AllBy b
theorem take8 {w : List Int} (h : okW w) : List.take 8 (List.drop 0 w) = w := take_all h.1
def eWW (g : List Int → List Int → List Int) : Ent := Ent.ofS [] w2A lNil fun x _ => .leaf (some (okW x.1 ∧ okW x.2.1)) (nRow .u64 8 (g x.1 x.2.1)) []
def eLess (g : List Int → List Int → List Int × Int) : Ent := Ent.ofS [] w2A lNil fun x _ => .leaf (some (okW x.1 ∧ okW x.2.1)) (nPW (g x.1 x.2.1)) []
abbrev wiA : Cod (List LV) (List Int × Int × Unit) := lCons cW (lCons (vOne (sInt .i64)) lNil)
def eBit (g : List Int → Int → Int) : Ent := Ent.ofS [] wiA lNil fun x _ => .leaf (some (okW x.1 ∧ 0 ≤ x.2.1 ∧ x.2.1 < 512)) (nU (g x.1 x.2.1)) []
def e0W (c : List Int) : Ent := Ent.ofS [] lNil lNil fun _ _ => .leaf none (nRow .u64 8 c) []
def eWB (g : List Int → List Int) : Ent := Ent.ofS [] wA lNil fun x _ => .leaf (some (okW x.1)) (nRow .u8 32 (g x.1)) []
def eOf (g : List Int → List Int) : Ent := Ent.ofS [some u8] bA lNil fun x _ => .leaf (some (AllBy x.1 ∧ x.1.length ≤ 64)) (nRow .u64 8 (g x.1)) []
noncomputable abbrev soFn : Func := Tryz.f58
abbrev soC : Cod (List LV) (List Int × Int × Int × Unit) := (jk 2 (lSkip (vOne (sPtr 0 0)) (lSkip (vOne (sPtr 1 0)) (jk 2 (lCons (vOne (sRd false false u8)) (lCons (vOne (sInt .i64)) (lCons (vOne (sInt .i64)) (jk 18 lNil))))))))
abbrev soCf : Wk := .fr (fmS 27 [(2, .keep), (3, .keep), (6, .keep), (7, .sym), (8, .sym)])
abbrev soX : Cod (List LV) (Unit) := (jk 2 (lSkip (vOne (sPtr 0 0)) (lSkip (vOne (sPtr 1 0)) (jk 23 lNil))))
abbrev soXf : Wk := .fr (fmS 27 [(2, .keep), (3, .keep)])
abbrev soH : Cod Hp (List Int × List Int × Unit) := lCons iW (lCons iW lNil)
def soW : Exit → List Wk
  | .normal => [soCf, rwB 0, rwB 1, .auto]
  | .exit 0 => [soXf, rwB 0, rwB 1, .auto]
  | _ => []
theorem so_rnd (b : List Int) (n i : Int) (r m : List Int) : rndT Tryz.prog [] [] soFn 0 [] soW ((stC soC soH).wr ((b, n, i, ()), (r, m, ()))) =
  Res.ite (decide (i < n)) (Res.need ((0 : Int) ≤ i ∧ i < (↑b.length : Int)) (Res.need ((0 : Int) ≤ IntKind.i64.wrap (i.tdiv (8 : Int)) ∧
  IntKind.i64.wrap (i.tdiv (8 : Int)) < (8 : Int)) (Res.need ((0 : Int) ≤ IntKind.i64.wrap (i.tmod (8 : Int) * (8 : Int))) (Res.need ((0 : Int) ≤
  IntKind.i64.wrap (i.tdiv (8 : Int)) ∧ IntKind.i64.wrap (i.tdiv (8 : Int)) < (8 : Int)) (Res.leaf Exit.normal ((stC soC soH).wr ((b, n, IntKind.i64.wrap
  (i + (1 : Int)), PUnit.unit), r, m.set ((0 : Nat) + (IntKind.i64.wrap (i.tdiv (8 : Int))).toNat) (bitOr IntKind.u64 ((List.take (8 : Nat) (List.drop (0
  : Nat) m)).getD (IntKind.i64.wrap (i.tdiv (8 : Int))).toNat (0 : Int)) (shl IntKind.u64 (IntKind.u64.wrap (b.getD i.toNat (0 : Int))) (IntKind.i64.wrap
  (i.tmod (8 : Int) * (8 : Int))))), PUnit.unit))))))) (Res.leaf (Exit.exit (0 : Nat)) ((stC soX soH).wr (PUnit.unit, r, m, PUnit.unit))) := by kernel_rfl
def soLF (g : List Int → List Int) (x : (List Int × Int × Int × Unit) × List Int × List Int × Unit) : Res := .need (AllBy x.1.1 ∧ x.1.1.length ≤ 64 ∧ x.1.2.1 = x.1.1.length ∧ x.1.2.2.1 = 0 ∧ x.2.2.1 = List.replicate 8 0) (.leaf (.exit 0) ((stC soX soH).wr ((), (x.2.1, g x.1.1, ()))))
theorem tmod8 (k : Nat) : IntKind.i64.wrap ((k : Int).tmod 8 * 8) = ((k % 8 * 8 : Nat) : Int) := by
  rw [show (k : Int).tmod 8 = ((k % 8 : Nat) : Int) from tmodN k 8, wrap_ok (by omega) (by omega)]; omega
theorem ofL_nil : ofL [] = List.replicate 8 0 := dg_zero qq_pos 8
theorem so_loop (x) : Ex Tryz.prog [] (.loop (loopAt soFn 0)) ((stC soC soH).wr x) (soLF ofL x) := by
  obtain ⟨⟨b, n, i, _⟩, r, m, _⟩ := x
  refine Ex.need fun ⟨h1, h2, h3, h4, h5⟩ => ?_
  simp only at h1 h2 h3 h4 h5
  subst h3 h4 h5
  have key := loopUp (fn := soFn) (id := 0) (j := 0) (ws := soW) (hp := []) mixed tab0 (LOk.nil _) b.length (fun k (_ : Unit) => (stC soC soH).wr ((b, (b.length : Int), (k : Int), ()), (r, ofL (b.take k), ()))) (fun _ => (stC soX soH).wr ((), (r, ofL b, ()))) (fun _ u => u) (fun _ _ => True)
    (fun k o R hk _ hn hx => ?_) (fun _ _ _ _ => trivial) 0 () (by omega) trivial
  · rw [List.take_zero, ofL_nil] at key; exact key
  rw [so_rnd]
  refine ⟨fun hb => ?_, fun hb => ?_⟩
  · have hk' : k < b.length := by have := of_decide_eq_true hb; omega
    have e1 : IntKind.i64.wrap ((k : Int).tdiv 8) = ((k / 8 : Nat) : Int) := tdiv_nat k 8 (by omega)
    rw [e1, tmod8, take_all (ofL_in _).1, Int.toNat_natCast, Int.toNat_natCast, Nat.zero_add, of_step h1 h2 hk', wrap_succ k (by omega)]
    exact ⟨by omega, by omega, by omega, by omega, hn hk'⟩
  · have : k = b.length := by have := of_decide_eq_false hb; omega
    subst this
    have := hx rfl
    rw [List.take_length]; exact this
noncomputable abbrev soLT (g : List Int → List Int) : LTab := [(0, loopF (stC soC soH) 0 [soCf, rwB 0, rwB 1, .auto] (soLF g))]
noncomputable abbrev sofE : Ent := eOf ofL
theorem sof_tree (g : List Int → List Int) (b : List Int) : fnT Tryz.prog [] (soLT g) soFn (bA.wr (b, ())) [] [.fr [.sym], .rowF 0 0 8 .u64, .auto] =
  End.need (AllBy b ∧ b.length ≤ (64 : Nat) ∧ (↑b.length : Int) = (↑b.length : Int) ∧ (0 : Int) = (0 : Int) ∧ [(0 : Int), (0 : Int), (0 : Int), (0 :
  Int), (0 : Int), (0 : Int), (0 : Int), (0 : Int)] = List.replicate (8 : Nat) (0 : Int)) (End.leaf (LV.one (VV.agg [SV.arr (Ty.int IntKind.u64) (8 :
  Nat) (g b)])) []) := by kernel_rfl
theorem sof_ok : sofE.Ok Tryz.prog 58 := by
  refine (Ent.ofOk Tryz.call58 fun x_ y_ Q H_ => ?_).sym
  obtain ⟨b, _⟩ := x_
  obtain ⟨hn, hq⟩ := H_
  have hn : AllBy b ∧ b.length ≤ 64 := hn
  refine (fnT_ok mixed tab0 Tryz.func58 rfl (LT := soLT ofL) (ks := [.fr [.sym], .rowF 0 0 8 .u64, .auto]) (LOk.ofTab (LTC rfl (loopF_ok (hp := []) so_loop) LT0))).use (D := []) ?_ hq
  show (fnT _ _ _ _ (bA.wr (b, ())) [] _).sat _
  rw [sof_tree]
  exact ⟨⟨hn.1, hn.2, rfl, rfl, rfl⟩, rfl, rfl⟩
noncomputable abbrev byFn : Func := Tryz.f112
abbrev byC : Cod (List LV) (Int × Unit) := (jk 1 (lSkip (vOne (sPtr 0 0)) (lSkip (vOne (sPtr 1 0)) (lSkip (vOne (sPtr 2 0)) (jk 1 (lCons (vOne (sInt .i64)) (jk 15 lNil)))))))
abbrev byCf : Wk := .fr (fmS 21 [(1, .keep), (2, .keep), (3, .keep), (5, .sym)])
abbrev byX : Cod (List LV) (Unit) := (jk 2 (lSkip (vOne (sPtr 1 0)) (lSkip (vOne (sPtr 2 0)) (jk 17 lNil))))
abbrev byXf : Wk := .fr (fmS 21 [(2, .keep), (3, .keep)])
abbrev byH : Cod Hp (List Int × List Int × List Int × Unit) := lCons iW (lCons iB (lCons iB lNil))
def byW : Exit → List Wk
  | .normal => [byCf, rwB 0, .rowB 1 0 32 .u8, .rowB 2 0 32 .u8, .auto]
  | .exit 0 => [byXf, rwB 0, .rowB 1 0 32 .u8, .rowB 2 0 32 .u8]
  | _ => []
theorem by_rnd (i : Int) (w r o : List Int) : rndT Tryz.prog [] [] byFn 0 [] byW ((stC byC byH).wr ((i, ()), (w, r, o, ()))) =
  Res.ite (decide (i < (32 : Int))) (Res.need ((0 : Int) ≤ IntKind.i64.wrap (i.tdiv (8 : Int)) ∧ IntKind.i64.wrap (i.tdiv (8 : Int)) < (8 : Int))
  (Res.need ((0 : Int) ≤ IntKind.i64.wrap (i.tmod (8 : Int) * (8 : Int))) (Res.need ((0 : Int) ≤ i ∧ i < (32 : Int)) (Res.leaf Exit.normal ((stC byC
  byH).wr ((IntKind.i64.wrap (i + (1 : Int)), PUnit.unit), w, r, o.set ((0 : Nat) + i.toNat) (IntKind.u8.wrap (shr IntKind.u64 ((List.take (8 : Nat)
  (List.drop (0 : Nat) w)).getD (IntKind.i64.wrap (i.tdiv (8 : Int))).toNat (0 : Int)) (IntKind.i64.wrap (i.tmod (8 : Int) * (8 : Int))))),
  PUnit.unit)))))) (Res.leaf (Exit.exit (0 : Nat)) ((stC byX byH).wr (PUnit.unit, w, r, o, PUnit.unit))) := by kernel_rfl
def byLF (g : List Int → List Int) (x : (Int × Unit) × List Int × List Int × List Int × Unit) : Res := .need (x.1.1 = 0 ∧ okW x.2.1 ∧ x.2.2.2.1.length = 32) (.leaf (.exit 0) ((stC byX byH).wr ((), (x.2.1, x.2.2.1, g x.2.1, ()))))
theorem by_loop (x) : Ex Tryz.prog [] (.loop (loopAt byFn 0)) ((stC byC byH).wr x) (byLF bytesW x) := by
  obtain ⟨⟨i, _⟩, w, r, o, _⟩ := x
  refine Ex.need fun ⟨h1, h2, h3⟩ => ?_
  simp only at h1 h2 h3
  subst h1
  have key := loopUp (fn := byFn) (id := 0) (j := 0) (ws := byW) (hp := []) mixed tab0 (LOk.nil _) 32 (fun k o => (stC byC byH).wr (((k : Int), ()), (w, r, o, ()))) (fun o => (stC byX byH).wr ((), (w, r, o, ()))) (fun k o => o.set k (vd qq w / 256 ^ k % 256)) (fun _ _ => True)
    (fun k o R hk _ hn hx => ?_) (fun _ _ _ _ => trivial) 0 o (by omega) trivial
  · rw [Nat.sub_zero, upto_fill (fun k => vd qq w / 256 ^ k % 256) h3, dg_map (by decide)] at key; exact key
  rw [by_rnd]
  refine ⟨fun hb => ?_, fun hb => ?_⟩
  · have hk' : k < 32 := by have := of_decide_eq_true hb; omega
    have e1 : IntKind.i64.wrap ((k : Int).tdiv 8) = ((k / 8 : Nat) : Int) := tdiv_nat k 8 (by omega)
    rw [e1, tmod8, take8 h2, Int.toNat_natCast, Int.toNat_natCast, Nat.zero_add, by_digit h2.2 h2.1 (by omega), wrap_succ k (by omega)]
    exact ⟨by omega, by omega, by omega, hn hk'⟩
  · have : k = 32 := by have := of_decide_eq_false hb; omega
    exact hx this
noncomputable abbrev byLT (g : List Int → List Int) : LTab := [(0, loopF (stC byC byH) 0 [byCf, rwB 0, .rowB 1 0 32 .u8, .rowB 2 0 32 .u8, .auto] (byLF g))]
noncomputable abbrev sbytesE : Ent := eWB bytesW
theorem sbytes_tree (g : List Int → List Int) (w : List Int) : fnT Tryz.prog [] (byLT g) byFn (wA.wr (w, ())) [] kR =
  End.need ((0 : Int) = (0 : Int) ∧ okW w ∧ (32 : Nat) = (32 : Nat)) (End.leaf (LV.one (VV.agg [SV.arr (Ty.int IntKind.u8) (32 : Nat) (g w)])) []) := by kernel_rfl
theorem sbytes_ok : sbytesE.Ok Tryz.prog 112 := by
  refine (Ent.ofOk Tryz.call112 fun x_ y_ Q H_ => ?_).sym
  obtain ⟨w, _⟩ := x_
  obtain ⟨hn, hq⟩ := H_
  have hn : okW w := hn
  refine (fnT_ok mixed tab0 Tryz.func112 rfl (LT := byLT bytesW) (ks := kR) (LOk.ofTab (LTC rfl (loopF_ok (hp := []) by_loop) LT0))).use (D := []) ?_ hq
  show (fnT _ _ _ _ (wA.wr (w, ())) [] _).sat _
  rw [sbytes_tree]
  exact ⟨⟨rfl, hn, rfl⟩, rfl, rfl⟩
noncomputable abbrev leFn : Func := Tryz.f96
abbrev leC : Cod (List LV) (Int × Int × Unit) := (jk 2 (lSkip (vOne (sPtr 0 0)) (lSkip (vOne (sPtr 1 0)) (lSkip (vOne (sPtr 2 0)) (jk 1 (lCons (vOne (sInt .u64)) (jk 1 (lCons (vOne (sInt .i64)) (jk 18 lNil)))))))))
abbrev leCf : Wk := .fr (fmS 27 [(2, .keep), (3, .keep), (4, .keep), (6, .sym), (8, .sym)])
abbrev leX : Cod (List LV) (Int × Unit) := (jk 2 (lSkip (vOne (sPtr 0 0)) (jk 1 (lSkip (vOne (sPtr 2 0)) (jk 1 (lCons (vOne (sInt .u64)) (jk 20 lNil)))))))
abbrev leXf : Wk := .fr (fmS 27 [(2, .keep), (4, .keep), (6, .sym)])
abbrev w3H : Cod Hp (List Int × List Int × List Int × Unit) := lCons iW (lCons iW (lCons iW lNil))
def leW : Exit → List Wk
  | .normal => [leCf, rwB 0, rwB 1, rwB 2, .auto]
  | .exit 0 => [leXf, rwB 0, rwB 1, rwB 2]
  | _ => []
theorem le_rnd (sb : Int → Int → Int → Int × Int) (c i : Int) (w x r : List Int) : rndT Tryz.prog [(139, (onceE sb).sym)] [] leFn 0 [] leW ((stC leC w3H).wr ((c, i, ()), (w, x, r, ()))) =
  Res.ite (decide (i < (8 : Int))) (Res.need ((0 : Int) ≤ i ∧ i < (8 : Int)) (Res.need ((0 : Int) ≤ i ∧ i < (8 : Int)) (Res.need ((0 : Int) ≤ c ∧ c ≤ (1
  : Int)) (Res.need ((0 : Int) ≤ i ∧ i < (8 : Int)) (Res.leaf Exit.normal ((stC leC w3H).wr (((sb ((List.take (8 : Nat) (List.drop (0 : Nat) w)).getD
  i.toNat (0 : Int)) ((List.take (8 : Nat) (List.drop (0 : Nat) x)).getD i.toNat (0 : Int)) c).snd, IntKind.i64.wrap (i + (1 : Int)), PUnit.unit), w.set
  ((0 : Nat) + i.toNat) (sb ((List.take (8 : Nat) (List.drop (0 : Nat) w)).getD i.toNat (0 : Int)) ((List.take (8 : Nat) (List.drop (0 : Nat) x)).getD
  i.toNat (0 : Int)) c).fst, x, r, PUnit.unit))))))) (Res.leaf (Exit.exit (0 : Nat)) ((stC leX w3H).wr ((c, PUnit.unit), w, x, r, PUnit.unit))) := by kernel_rfl
def leLF (g : List Int → List Int → List Int × Int) (x : (Int × Int × Unit) × List Int × List Int × List Int × Unit) : Res := .need (x.1.1 = 0 ∧ x.1.2.1 = 0 ∧ okW x.2.1 ∧ okW x.2.2.1) (.leaf (.exit 0) ((stC leX w3H).wr (((g x.2.1 x.2.2.1).2, ()), ((g x.2.1 x.2.2.1).1, x.2.2.1, x.2.2.2.1, ()))))
abbrev sub64E : Ent := (onceE sub64).sym
theorem sub64_ok : sub64E.Ok Tryz.prog 139 := (sub64_once Tryz.func139 (by kernel_rfl) (by kernel_rfl) (by kernel_rfl) (by kernel_rfl) rfl).sym
theorem sbTab_ok : ∀ p ∈ [(139, (onceE sub64).sym)], p.2.Ok Tryz.prog p.1 := tabC sub64_ok tab0
theorem le_loop (x) : Ex Tryz.prog [] (.loop (loopAt leFn 0)) ((stC leC w3H).wr x) (leLF lessW x) := by
  obtain ⟨⟨c, i, _⟩, w, x, r, _⟩ := x
  refine Ex.need fun ⟨h1, h2, h3, h4⟩ => ?_
  simp only at h1 h2 h3 h4
  subst h1 h2
  have key := loopUp (fn := leFn) (id := 0) (j := 0) (ws := leW) (hp := []) mixed sbTab_ok (LOk.nil _) 8 (fun k (o : List Int × Int) => (stC leC w3H).wr ((o.2, (k : Int), ()), (o.1, x, r, ()))) (fun (o : List Int × Int) => (stC leX w3H).wr ((o.2, ()), (o.1, x, r, ()))) (lessF sub64 x) (LessI w x)
    (fun k o R hk hi hn hx => ?_) (fun k o hk hi => less_step h3.2 h4.2 h3.1 h4.1 hk hi) 0 (w, 0) (by omega) ⟨⟨h3.1, h3.2, fun _ _ => rfl⟩, .inl rfl, by simp [vd]⟩
  · rw [Nat.sub_zero, less_all h3.2 h4.2 h3.1 h4.1] at key; exact key
  rw [le_rnd sub64]
  refine ⟨fun hb => ?_, fun hb => ?_⟩
  · have hk' : k < 8 := by have := of_decide_eq_true hb; omega
    rw [take_all hi.1.len, take8 h4, Int.toNat_natCast, Nat.zero_add, wrap_succ k (by omega)]
    exact ⟨by omega, by omega, (by rcases hi.2.1 with e | e <;> rw [e] <;> decide), by omega, hn hk'⟩
  · have : k = 8 := by have := of_decide_eq_false hb; omega
    exact hx this
noncomputable abbrev leLT (g : List Int → List Int → List Int × Int) : LTab := [(0, loopF (stC leC w3H) 0 [leCf, rwB 0, rwB 1, rwB 2, .auto] (leLF g))]
noncomputable abbrev slessE : Ent := eLess lessW
theorem sless_tree (sb : Int → Int → Int → Int × Int) (g : List Int → List Int → List Int × Int) (w x : List Int) : fnT Tryz.prog [(139, (onceE sb).sym)] (leLT g) leFn (w2A.wr (w, x, ())) [] [.fr [.sym], .rowF 0 0 8 .u64, .auto] =
  End.need ((0 : Int) = (0 : Int) ∧ (0 : Int) = (0 : Int) ∧ okW w ∧ okW x) (End.leaf (LV.tup [VV.agg [SV.arr (Ty.int IntKind.u64) (8 : Nat) (g w x).fst],
  VV.sc (SV.int IntKind.u64 (SI.sym (g w x).snd))]) []) := by kernel_rfl
theorem sless_ok : slessE.Ok Tryz.prog 96 := by
  refine (Ent.ofOk Tryz.call96 fun x_ y_ Q H_ => ?_).sym
  obtain ⟨w, x, _⟩ := x_
  obtain ⟨hn, hq⟩ := H_
  have hn : okW w ∧ okW x := hn
  refine (fnT_ok mixed sbTab_ok Tryz.func96 rfl (LT := leLT lessW) (ks := [.fr [.sym], .rowF 0 0 8 .u64, .auto]) (LOk.ofTab (LTC rfl (loopF_ok (hp := []) le_loop) LT0))).use (D := []) ?_ hq
  show (fnT _ _ _ _ (w2A.wr (w, x, ())) [] _).sat _
  rw [sless_tree sub64]
  exact ⟨⟨rfl, rfl, hn.1, hn.2⟩, rfl, rfl⟩
noncomputable abbrev anFn : Func := Tryz.f69
abbrev anC : Cod (List LV) (Int × Int × Unit) := (jk 2 (lSkip (vOne (sPtr 0 0)) (lSkip (vOne (sPtr 1 0)) (lSkip (vOne (sPtr 2 0)) (lCons (vOne (sInt .u64)) (jk 1 (lCons (vOne (sInt .i64)) (jk 17 lNil))))))))
abbrev anCf : Wk := .fr (fmS 25 [(2, .keep), (3, .keep), (4, .keep), (5, .sym), (7, .sym)])
abbrev anX : Cod (List LV) (Unit) := (jk 2 (lSkip (vOne (sPtr 0 0)) (jk 1 (lSkip (vOne (sPtr 2 0)) (jk 20 lNil)))))
abbrev anXf : Wk := .fr (fmS 25 [(2, .keep), (4, .keep)])
def anW : Exit → List Wk
  | .normal => [anCf, rwB 0, rwB 1, rwB 2, .auto]
  | .exit 0 => [anXf, rwB 0, rwB 1, rwB 2]
  | _ => []
theorem an_rnd (ad : Int → Int → Int → Int × Int) (c i : Int) (w x r : List Int) : rndT Tryz.prog [(123, (onceE ad).sym)] [] anFn 0 [] anW ((stC anC w3H).wr ((c, i, ()), (w, x, r, ()))) =
  Res.ite (decide (i < (8 : Int))) (Res.need ((0 : Int) ≤ i ∧ i < (8 : Int)) (Res.need ((0 : Int) ≤ i ∧ i < (8 : Int)) (Res.need ((0 : Int) ≤ c ∧ c ≤ (1
  : Int)) (Res.need ((0 : Int) ≤ i ∧ i < (8 : Int)) (Res.leaf Exit.normal ((stC anC w3H).wr (((ad ((List.take (8 : Nat) (List.drop (0 : Nat) w)).getD
  i.toNat (0 : Int)) ((List.take (8 : Nat) (List.drop (0 : Nat) x)).getD i.toNat (0 : Int)) c).snd, IntKind.i64.wrap (i + (1 : Int)), PUnit.unit), w.set
  ((0 : Nat) + i.toNat) (ad ((List.take (8 : Nat) (List.drop (0 : Nat) w)).getD i.toNat (0 : Int)) ((List.take (8 : Nat) (List.drop (0 : Nat) x)).getD
  i.toNat (0 : Int)) c).fst, x, r, PUnit.unit))))))) (Res.leaf (Exit.exit (0 : Nat)) ((stC anX w3H).wr (PUnit.unit, w, x, r, PUnit.unit))) := by kernel_rfl
def anLF (g : List Int → List Int → List Int) (x : (Int × Int × Unit) × List Int × List Int × List Int × Unit) : Res := .need (x.1.1 = 0 ∧ x.1.2.1 = 0 ∧ okW x.2.1 ∧ okW x.2.2.1) (.leaf (.exit 0) ((stC anX w3H).wr ((), (g x.2.1 x.2.2.1, x.2.2.1, x.2.2.2.1, ()))))
theorem adTab_ok : ∀ p ∈ [(123, (onceE add64).sym)], p.2.Ok Tryz.prog p.1 := tabC add64_ok tab0
theorem an_loop (x) : Ex Tryz.prog [] (.loop (loopAt anFn 0)) ((stC anC w3H).wr x) (anLF sumW x) := by
  obtain ⟨⟨c, i, _⟩, w, x, r, _⟩ := x
  refine Ex.need fun ⟨h1, h2, h3, h4⟩ => ?_
  simp only at h1 h2 h3 h4
  subst h1 h2
  have key := loopUp (fn := anFn) (id := 0) (j := 0) (ws := anW) (hp := []) mixed adTab_ok (LOk.nil _) 8 (fun k (o : List Int × Int) => (stC anC w3H).wr ((o.2, (k : Int), ()), (o.1, x, r, ()))) (fun (o : List Int × Int) => (stC anX w3H).wr ((), (o.1, x, r, ()))) (addcF add64 x) (SumI w x)
    (fun k o R hk hi hn hx => ?_) (fun k o hk hi => sum_step h3.2 h4.2 h3.1 h4.1 hk hi) 0 (w, 0) (by omega) ⟨⟨h3.1, h3.2, fun _ _ => rfl⟩, .inl rfl, by simp [vd]⟩
  · rw [Nat.sub_zero, sum_all h3.2 h4.2 h3.1 h4.1] at key; exact key
  rw [an_rnd add64]
  refine ⟨fun hb => ?_, fun hb => ?_⟩
  · have hk' : k < 8 := by have := of_decide_eq_true hb; omega
    rw [take_all hi.1.len, take8 h4, Int.toNat_natCast, Nat.zero_add, wrap_succ k (by omega)]
    exact ⟨by omega, by omega, (by rcases hi.2.1 with e | e <;> rw [e] <;> decide), by omega, hn hk'⟩
  · have : k = 8 := by have := of_decide_eq_false hb; omega
    exact hx this
noncomputable abbrev anLT (g : List Int → List Int → List Int) : LTab := [(0, loopF (stC anC w3H) 0 [anCf, rwB 0, rwB 1, rwB 2, .auto] (anLF g))]
noncomputable abbrev sandE : Ent := eWW sumW
theorem sand_tree (ad : Int → Int → Int → Int × Int) (g : List Int → List Int → List Int) (w x : List Int) : fnT Tryz.prog [(123, (onceE ad).sym)] (anLT g) anFn (w2A.wr (w, x, ())) [] [.fr [.sym], .rowF 0 0 8 .u64, .auto] =
  End.need ((0 : Int) = (0 : Int) ∧ (0 : Int) = (0 : Int) ∧ okW w ∧ okW x) (End.leaf (LV.one (VV.agg [SV.arr (Ty.int IntKind.u64) (8 : Nat) (g w x)]))
  []) := by kernel_rfl
theorem sand_ok : sandE.Ok Tryz.prog 69 := by
  refine (Ent.ofOk Tryz.call69 fun x_ y_ Q H_ => ?_).sym
  obtain ⟨w, x, _⟩ := x_
  obtain ⟨hn, hq⟩ := H_
  have hn : okW w ∧ okW x := hn
  refine (fnT_ok mixed adTab_ok Tryz.func69 rfl (LT := anLT sumW) (ks := [.fr [.sym], .rowF 0 0 8 .u64, .auto]) (LOk.ofTab (LTC rfl (loopF_ok (hp := []) an_loop) LT0))).use (D := []) ?_ hq
  show (fnT _ _ _ _ (w2A.wr (w, x, ())) [] _).sat _
  rw [sand_tree add64]
  exact ⟨⟨rfl, rfl, hn.1, hn.2⟩, rfl, rfl⟩
noncomputable abbrev swbitE : Ent := eBit bitW
theorem swbit_tree (w : List Int) (i : Int) : fnT Tryz.prog [] [] Tryz.f111 (wiA.wr (w, i, ())) [] kK =
  End.need ((0 : Int) ≤ IntKind.i64.wrap (i.tdiv (64 : Int)) ∧ IntKind.i64.wrap (i.tdiv (64 : Int)) < (8 : Int)) (End.need ((0 : Int) ≤ i.tmod (64 :
  Int)) (End.leaf (LV.one (VV.sc (SV.int IntKind.u64 (SI.sym (bitAnd IntKind.u64 (shr IntKind.u64 ((List.take (8 : Nat) (List.drop (0 : Nat) w)).getD
  (IntKind.i64.wrap (i.tdiv (64 : Int))).toNat (0 : Int)) (i.tmod (64 : Int))) (1 : Int)))))) [])) := by kernel_rfl
theorem swbit_ok : swbitE.Ok Tryz.prog 111 := by
  refine (Ent.ofOk Tryz.call111 fun x_ y_ Q H_ => ?_).sym
  obtain ⟨w, i, _⟩ := x_
  obtain ⟨hn, hq⟩ := H_
  have hn : okW w ∧ 0 ≤ i ∧ i < 512 := hn
  refine (fnT_ok mixed tab0 Tryz.func111 rfl (LT := []) (ks := kK) (LOk.nil _)).use (D := []) ?_ hq
  show (fnT _ _ _ _ (wiA.wr (w, i, ())) [] _).sat _
  rw [swbit_tree]
  obtain ⟨hw, h0, h1⟩ := hn
  obtain ⟨k, rfl⟩ := Int.eq_ofNat_of_zero_le h0
  have hk : k < 512 := by omega
  have e1 : IntKind.i64.wrap ((k : Int).tdiv 64) = ((k / 64 : Nat) : Int) := tdiv_nat k 64 (by omega)
  rw [e1, show (k : Int).tmod 64 = ((k % 64 : Nat) : Int) from tmodN k 64, take8 hw, Int.toNat_natCast, bit_digit hw.2 hw.1 hk]
  exact ⟨by omega, by omega, rfl, rfl⟩
noncomputable abbrev sorderE : Ent := e0W orderL
theorem sorder_tree : fnT Tryz.prog [] [] Tryz.f97 [] [] [.fr [.sym], .rowF 0 0 8 .u64, .auto] = .leaf (nRow .u64 8 orderL) [] := by kernel_rfl
theorem sorder_ok : sorderE.Ok Tryz.prog 97 := by
  refine (Ent.ofOk Tryz.call97 fun x_ y_ Q H_ => ?_).sym
  refine (fnT_ok mixed tab0 Tryz.func97 rfl (LT := []) (ks := [.fr [.sym], .rowF 0 0 8 .u64, .auto]) (LOk.nil _)).use (D := []) ?_ H_.2
  show (fnT _ _ _ _ [] [] _).sat _
  rw [sorder_tree]
  exact ⟨rfl, rfl⟩
noncomputable abbrev reFn : Func := Tryz.f59
abbrev reC : Cod (List LV) (Int × Unit) := (jk 1 (lSkip (vOne (sPtr 0 0)) (lSkip (vOne (sPtr 1 0)) (lSkip (vOne (sPtr 2 0)) (lCons (vOne (sInt .i64)) (jk 27 lNil))))))
abbrev reCf : Wk := .fr (fmS 32 [(1, .keep), (2, .keep), (3, .keep), (4, .sym)])
abbrev reX : Cod (List LV) (Unit) := (jk 2 (lSkip (vOne (sPtr 1 0)) (lSkip (vOne (sPtr 2 0)) (jk 28 lNil))))
abbrev reXf : Wk := .fr (fmS 32 [(2, .keep), (3, .keep)])
abbrev reH : Cod Hp (List Int × List Int × List Int × Unit) := lCons iW (lCons iB (lCons iW lNil))
def reW : Exit → List Wk
  | .normal => [reCf, rwB 0, .rowB 1 0 32 .u8, rwB 2, .auto]
  | .exit 0 => [reXf, rwB 0, .rowB 1 0 32 .u8, rwB 2]
  | _ => []
noncomputable abbrev reTab (and : List Int → List Int → List Int) (less : List Int → List Int → List Int × Int) (bit : List Int → Int → Int) (o : List Int) : List (FuncId × Ent) := [(69, eWW and), (111, eBit bit), (96, eLess less), (97, e0W o)]
theorem re_rnd (and : List Int → List Int → List Int) (less : List Int → List Int → List Int × Int) (bit : List Int → Int → Int) (o : List Int) (i : Int) (w b r : List Int) : rndT Tryz.prog (reTab and less bit o) [] reFn 0 [] reW ((stC reC reH).wr ((i, ()), (w, b, r, ()))) =
  Res.ite (decide ((0 : Int) ≤ i)) (Res.need (okW r ∧ okW r) (Res.need (okW w ∧ (0 : Int) ≤ i ∧ i < (512 : Int)) (Res.need (okW ((and r r).set (0 : Nat)
  (bitOr IntKind.u64 ((and r r).getD (0 : Nat) (0 : Int)) (bit w i))) ∧ okW o) (Res.ite ((less ((and r r).set (0 : Nat) (bitOr IntKind.u64 ((and r
  r).getD (0 : Nat) (0 : Int)) (bit w i))) o).snd == (0 : Int)) (Res.leaf Exit.normal ((stC reC reH).wr ((IntKind.i64.wrap (i - (1 : Int)), PUnit.unit),
  w, b, (less ((and r r).set (0 : Nat) (bitOr IntKind.u64 ((and r r).getD (0 : Nat) (0 : Int)) (bit w i))) o).fst, PUnit.unit))) (Res.leaf Exit.normal
  ((stC reC reH).wr ((IntKind.i64.wrap (i - (1 : Int)), PUnit.unit), w, b, (and r r).set (0 : Nat) (bitOr IntKind.u64 ((and r r).getD (0 : Nat) (0 :
  Int)) (bit w i)), PUnit.unit))))))) (Res.leaf (Exit.exit (0 : Nat)) ((stC reX reH).wr (PUnit.unit, w, b, r, PUnit.unit))) := by kernel_rfl
theorem reTab_ok : ∀ p ∈ reTab sumW lessW bitW orderL, p.2.Ok Tryz.prog p.1 := tabC sand_ok (tabC swbit_ok (tabC sless_ok (tabC sorder_ok tab0)))
def reLF (g : List Int → List Int) (x : (Int × Unit) × List Int × List Int × List Int × Unit) : Res := .need (x.1.1 = 511 ∧ okW x.2.1 ∧ x.2.2.2.1 = List.replicate 8 0) (.leaf (.exit 0) ((stC reX reH).wr ((), (x.2.1, x.2.2.1, g x.2.1, ()))))
noncomputable def redR (w : List Int) : List Int := dg qq 8 (vd qq w % ll)
noncomputable def redAt (V : Int) (k : Nat) : List Int := dg qq 8 (V / 2 ^ (512 - k) % ll)
theorem redAt_put (V : Int) (k : Nat) (hk : k < 512) (b : Int) (hb : 0 ≤ b ∧ b < 2) : okW (redAt V k) ∧ okW (putBit (sumW (redAt V k) (redAt V k)) b) := by
  refine ⟨⟨dg_length _ _, dg_in qq_pos _ _⟩, ?_⟩
  have hR : 0 ≤ V / 2 ^ (512 - k) % ll ∧ V / 2 ^ (512 - k) % ll < ll := ⟨Int.emod_nonneg _ (by have := ll_pos; omega), Int.emod_lt_of_pos _ ll_pos⟩
  have es : sumW (redAt V k) (redAt V k) = dg qq 8 (V / 2 ^ (512 - k) % ll + V / 2 ^ (512 - k) % ll) := by
    unfold sumW redAt
    rw [vd_dg qq_pos, Int.emod_eq_of_lt hR.1 (Int.lt_of_lt_of_le (Int.lt_trans (by omega) ll_lt) qq8)]
  rw [es, put_bit hR hb]
  exact ⟨dg_length _ _, dg_in qq_pos _ _⟩
theorem re_loop (x) : Ex Tryz.prog [] (.loop (loopAt reFn 0)) ((stC reC reH).wr x) (reLF redR x) := by
  obtain ⟨⟨i, _⟩, w, b, r, _⟩ := x
  refine Ex.need fun ⟨h1, h2, h3⟩ => ?_
  simp only at h1 h2 h3
  subst h1 h3
  have hw0 := vd_nonneg qq_pos h2.2
  have hw1 := vd_lt qq_pos h2.2
  rw [h2.1] at hw1
  have key := loopUp (fn := reFn) (id := 0) (j := 0) (ws := reW) (hp := []) mixed reTab_ok (LOk.nil _) 512 (fun k (_ : Unit) => (stC reC reH).wr ((511 - (k : Int), ()), (w, b, redAt (vd qq w) k, ()))) (fun _ => (stC reX reH).wr ((), (w, b, redR w, ()))) (fun _ u => u) (fun _ _ => True)
    (fun k o R hk _ hn hx => ?_) (fun _ _ _ _ => trivial) 0 () (by omega) trivial
  · have e : redAt (vd qq w) 0 = List.replicate 8 0 := by
      unfold redAt
      have e : qq ^ 8 = 2 ^ 512 := by decide +kernel
      rw [Nat.sub_zero, Int.ediv_eq_zero_of_lt hw0 (by rw [← e]; exact hw1), Int.zero_emod, dg_zero qq_pos]
    rw [e] at key; exact key
  rw [re_rnd]
  refine ⟨fun hb => ?_, fun hb => ?_⟩
  · have hk' : k < 512 := by have := of_decide_eq_true hb; omega
    have e3 : IntKind.i64.wrap ((511 - (k : Int)) - 1) = 511 - ((k + 1 : Nat) : Int) := by rw [wrap_ok (by omega) (by omega)]; omega
    obtain ⟨g1, g2⟩ := redAt_put (vd qq w) k hk' (bitW w (511 - (k : Int))) (bitW_01 _ _)
    have hs : redF sumW lessW bitW orderL w k (redAt (vd qq w) k) = redAt (vd qq w) (k + 1) := red_step rfl hk'
    have hn' := hn hk'
    rw [e3]
    refine ⟨⟨g1, g1⟩, ⟨h2, by omega, by omega⟩, ⟨g2, order_in⟩, fun hc => ?_, fun hc => ?_⟩
    · have : redF sumW lessW bitW orderL w k (redAt (vd qq w) k) = (lessW (putBit (sumW (redAt (vd qq w) k) (redAt (vd qq w) k)) (bitW w (511 - (k : Int)))) orderL).1 := by
        have hc' : ((lessW (putBit (sumW (redAt (vd qq w) k) (redAt (vd qq w) k)) (bitW w (511 - (k : Int)))) orderL).2 == 0) = true := hc
        unfold redF; rw [hc']; rfl
      rw [← hs, this] at hn'; exact hn'
    · have : redF sumW lessW bitW orderL w k (redAt (vd qq w) k) = putBit (sumW (redAt (vd qq w) k) (redAt (vd qq w) k)) (bitW w (511 - (k : Int))) := by
        have hc' : ((lessW (putBit (sumW (redAt (vd qq w) k) (redAt (vd qq w) k)) (bitW w (511 - (k : Int)))) orderL).2 == 0) = false := hc
        unfold redF; rw [hc']; rfl
      rw [← hs, this] at hn'; exact hn'
  · have : k = 512 := by have := of_decide_eq_false hb; omega
    subst this
    have := hx rfl
    have e : redAt (vd qq w) 512 = redR w := by unfold redAt redR; rw [Nat.sub_self, Int.pow_zero, Int.ediv_one]
    rw [e]; exact this
noncomputable abbrev reLT (g : List Int → List Int) : LTab := [(0, loopF (stC reC reH) 0 [reCf, rwB 0, .rowB 1 0 32 .u8, rwB 2, .auto] (reLF g))]
noncomputable abbrev sredE : Ent := eWB redW
noncomputable abbrev reTab' (and : List Int → List Int → List Int) (less : List Int → List Int → List Int × Int) (bit : List Int → Int → Int) (o : List Int) (byt : List Int → List Int) : List (FuncId × Ent) := (112, eWB byt) :: reTab and less bit o
theorem reTab'_ok : ∀ p ∈ reTab' sumW lessW bitW orderL bytesW, p.2.Ok Tryz.prog p.1 := tabC sbytes_ok reTab_ok
theorem sred_tree (and : List Int → List Int → List Int) (less : List Int → List Int → List Int × Int) (bit : List Int → Int → Int) (o : List Int) (byt : List Int → List Int) (g : List Int → List Int) (w : List Int) : fnT Tryz.prog (reTab' and less bit o byt) (reLT g) reFn (wA.wr (w, ())) [] kR =
  End.need ((511 : Int) = (511 : Int) ∧ okW w ∧ [(0 : Int), (0 : Int), (0 : Int), (0 : Int), (0 : Int), (0 : Int), (0 : Int), (0 : Int)] = List.replicate
  (8 : Nat) (0 : Int)) (End.need (okW (g w)) (End.leaf (LV.one (VV.agg [SV.arr (Ty.int IntKind.u8) (32 : Nat) (byt (g w))])) [])) := by kernel_rfl
theorem redR_in (w : List Int) : okW (redR w) := ⟨dg_length _ _, dg_in qq_pos _ _⟩
theorem red_eq (w : List Int) : bytesW (redR w) = redW w := by
  unfold bytesW redW redR
  rw [vd_dg qq_pos, Int.emod_eq_of_lt (Int.emod_nonneg _ (by have := ll_pos; omega)) (Int.lt_of_lt_of_le (Int.lt_trans (Int.emod_lt_of_pos _ ll_pos) (by have := ll_lt; have := ll_pos; omega)) qq8)]
theorem sred_ok : sredE.Ok Tryz.prog 59 := by
  refine (Ent.ofOk Tryz.call59 fun x_ y_ Q H_ => ?_).sym
  obtain ⟨w, _⟩ := x_
  obtain ⟨hn, hq⟩ := H_
  have hn : okW w := hn
  refine (fnT_ok mixed reTab'_ok Tryz.func59 rfl (LT := reLT redR) (ks := kR) (LOk.ofTab (LTC rfl (loopF_ok (hp := []) re_loop) LT0))).use (D := []) ?_ hq
  show (fnT _ _ _ _ (wA.wr (w, ())) [] _).sat _
  rw [sred_tree]
  refine ⟨⟨rfl, hn, rfl⟩, redR_in w, ?_, rfl⟩
  rw [red_eq]
end Go.Proofs.YthdfifcgobfgdaaGreat
end

section
set_option linter.unusedVariables false
set_option linter.unusedSimpArgs false
namespace Go.Proofs.YthdfifcgobfgdaaGreat
open Go Go.Ev BJ
set_option maxRecDepth 1000000
noncomputable abbrev tiFn : Func := Tryz.f68
abbrev tjC : Cod (List LV) (Int × Int × Int × Int × Unit) := (jk 2 (lSkip (vOne (sPtr 0 0)) (lSkip (vOne (sPtr 1 0)) (lSkip (vOne (sPtr 2 0)) (lSkip (vOne (sPtr 3 0)) (lCons (vOne (sInt .i64)) (lCons (vOne (sInt .u64)) (jk 4 (lCons (vOne (sInt .i64)) (jk 2 (lCons (vOne (sInt .i64)) (jk 45 lNil))))))))))))
abbrev tjCf : Wk := .fr (fmS 61 [(2, .keep), (3, .keep), (4, .keep), (5, .keep), (6, .sym), (7, .sym), (12, .sym), (15, .sym)])
abbrev tjX : Cod (List LV) (Int × Int × Int × Unit) := (jk 2 (lSkip (vOne (sPtr 0 0)) (lSkip (vOne (sPtr 1 0)) (lSkip (vOne (sPtr 2 0)) (lSkip (vOne (sPtr 3 0)) (lCons (vOne (sInt .i64)) (lCons (vOne (sInt .u64)) (jk 4 (lCons (vOne (sInt .i64)) (jk 48 lNil))))))))))
abbrev tjXf : Wk := .fr (fmS 61 [(2, .keep), (3, .keep), (4, .keep), (5, .keep), (6, .sym), (7, .sym), (12, .sym)])
abbrev tiC : Cod (List LV) (Int × Unit) := (jk 2 (lSkip (vOne (sPtr 0 0)) (lSkip (vOne (sPtr 1 0)) (lSkip (vOne (sPtr 2 0)) (lSkip (vOne (sPtr 3 0)) (jk 6 (lCons (vOne (sInt .i64)) (jk 48 lNil))))))))
abbrev tiCf : Wk := .fr (fmS 61 [(2, .keep), (3, .keep), (4, .keep), (5, .keep), (12, .sym)])
abbrev tiX : Cod (List LV) (Unit) := (jk 4 (lSkip (vOne (sPtr 2 0)) (lSkip (vOne (sPtr 3 0)) (jk 55 lNil))))
abbrev tiXf : Wk := .fr (fmS 61 [(4, .keep), (5, .keep)])
abbrev tiH : Cod Hp (List Int × List Int × List Int × List Int × Unit) := lCons iW (lCons iW (lCons iW (lCons iW lNil)))
def tjW : Exit → List Wk
  | .normal => [tjCf, rwB 0, rwB 1, rwB 2, rwB 3, .auto]
  | .exit 2 => [tjXf, rwB 0, rwB 1, rwB 2, rwB 3, .auto]
  | _ => []
def eMul (mu : Int → Int → Int × Int) : Ent := Ent.ofS [] (lCons (vOne (sInt .u64)) (lCons (vOne (sInt .u64)) lNil)) lNil fun x _ => .leaf none (.tup [.sc (.int .u64 (.sym (mu x.1 x.2.1).1)), .sc (.int .u64 (.sym (mu x.1 x.2.1).2))]) []
noncomputable abbrev tiTab (ad : Int → Int → Int → Int × Int) (mu : Int → Int → Int × Int) : List (FuncId × Ent) := [(123, (onceE ad).sym), (122, eMul mu)]
theorem tj_rnd (ad : Int → Int → Int → Int × Int) (mu : Int → Int → Int × Int) (u c i j : Int) (a b r o : List Int) : rndT Tryz.prog (tiTab ad mu) [] tiFn 2 [] tjW ((stC tjC tiH).wr ((u, c, i, j, ()), (a, b, r, o, ()))) =
  Res.ite (decide (j < (4 : Int))) (Res.need ((0 : Int) ≤ u ∧ u < (8 : Int)) (Res.need ((0 : Int) ≤ j ∧ j < (8 : Int)) (Res.need ((0 : Int) ≤ (0 : Int) ∧
  (0 : Int) ≤ (1 : Int)) (Res.need ((0 : Int) ≤ IntKind.i64.wrap (u + j) ∧ IntKind.i64.wrap (u + j) < (8 : Int)) (Res.need ((0 : Int) ≤ (0 : Int) ∧ (0 :
  Int) ≤ (1 : Int)) (Res.need ((0 : Int) ≤ IntKind.i64.wrap (u + j) ∧ IntKind.i64.wrap (u + j) < (8 : Int)) (Res.leaf Exit.normal ((stC tjC tiH).wr ((u,
  IntKind.u64.wrap (IntKind.u64.wrap ((mu ((List.take (8 : Nat) (List.drop (0 : Nat) a)).getD u.toNat (0 : Int)) ((List.take (8 : Nat) (List.drop (0 :
  Nat) b)).getD j.toNat (0 : Int))).fst + (ad (mu ((List.take (8 : Nat) (List.drop (0 : Nat) a)).getD u.toNat (0 : Int)) ((List.take (8 : Nat) (List.drop
  (0 : Nat) b)).getD j.toNat (0 : Int))).snd c (0 : Int)).snd) + (ad ((List.take (8 : Nat) (List.drop (0 : Nat) o)).getD (IntKind.i64.wrap (u + j)).toNat
  (0 : Int)) (ad (mu ((List.take (8 : Nat) (List.drop (0 : Nat) a)).getD u.toNat (0 : Int)) ((List.take (8 : Nat) (List.drop (0 : Nat) b)).getD j.toNat
  (0 : Int))).snd c (0 : Int)).fst (0 : Int)).snd), i, IntKind.i64.wrap (j + (1 : Int)), PUnit.unit), a, b, r, o.set ((0 : Nat) + (IntKind.i64.wrap (u +
  j)).toNat) (ad ((List.take (8 : Nat) (List.drop (0 : Nat) o)).getD (IntKind.i64.wrap (u + j)).toNat (0 : Int)) (ad (mu ((List.take (8 : Nat) (List.drop
  (0 : Nat) a)).getD u.toNat (0 : Int)) ((List.take (8 : Nat) (List.drop (0 : Nat) b)).getD j.toNat (0 : Int))).snd c (0 : Int)).fst (0 : Int)).fst,
  PUnit.unit))))))))) (Res.leaf (Exit.exit (2 : Nat)) ((stC tjX tiH).wr ((u, c, i, PUnit.unit), a, b, r, o, PUnit.unit))) := by kernel_rfl
theorem mul64_as : mul64E = eMul mulFn := by kernel_rfl
theorem mul64'_ok : (eMul mulFn).Ok Tryz.prog 122 := mul64_as ▸ mul64_ok
theorem tiTab_ok : ∀ p ∈ tiTab add64 mulFn, p.2.Ok Tryz.prog p.1 := tabC add64_ok (tabC mul64'_ok tab0)
abbrev tjT : Type := (Int × Int × Int × Int × Unit) × List Int × List Int × List Int × List Int × Unit
def tjLF (g : List Int → List Int → Int → List Int → Int × List Int) (x : tjT) : Res := .need (x.1.2.2.2.1 = 0 ∧ x.1.2.1 = 0 ∧ 0 ≤ x.1.1 ∧ x.1.1 < 4 ∧ okW x.2.1 ∧ okW x.2.2.1 ∧ okW x.2.2.2.2.1) (.leaf (.exit 2) ((stC tjX tiH).wr ((x.1.1, (g x.2.1 x.2.2.1 x.1.1 x.2.2.2.2.1).1, x.1.2.2.1, ()), (x.2.1, x.2.2.1, x.2.2.2.1, (g x.2.1 x.2.2.1 x.1.1 x.2.2.2.2.1).2, ()))))
noncomputable def tjG (a b : List Int) (u : Int) (o : List Int) : Int × List Int := upto (timJ mulFn add64 a b u.toNat) 0 4 (0, o)
theorem tj_loop (x : tjT) : Ex Tryz.prog [] (.loop (loopAt tiFn 2)) ((stC tjC tiH).wr x) (tjLF tjG x) := by
  obtain ⟨⟨u, c, i, j, _⟩, a, b, r, o, _⟩ := x
  refine Ex.need fun ⟨h1, h2, h3, h4, h5, h6, h7⟩ => ?_
  simp only at h1 h2 h3 h4 h5 h6 h7
  subst h1 h2
  obtain ⟨u, rfl⟩ := Int.eq_ofNat_of_zero_le h3
  have hu : u < 4 := by omega
  have key := loopUp (fn := tiFn) (id := 2) (j := 2) (ws := tjW) (hp := []) mixed tiTab_ok (LOk.nil _) 4 (fun k (s : Int × List Int) => (stC tjC tiH).wr (((u : Int), s.1, i, (k : Int), ()), (a, b, r, s.2, ()))) (fun (s : Int × List Int) => (stC tjX tiH).wr (((u : Int), s.1, i, ()), (a, b, r, s.2, ()))) (timJ mulFn add64 a b u) (TimI a b o u)
    (fun k s R hk hi hn hx => ?_) (fun k s hk hi => timJ_step h5.2 h6.2 h6.1 hu hk hi) 0 (0, o) (by omega) ⟨h7.1, h7.2, by unfold U64; omega, fun _ _ => rfl, by simp [vd]⟩
  · exact key
  rw [tj_rnd add64 mulFn]
  refine ⟨fun hb => ?_, fun hb => ?_⟩
  · have hk' : k < 4 := by have := of_decide_eq_true hb; omega
    have e : IntKind.i64.wrap ((u : Int) + (k : Int)) = ((u + k : Nat) : Int) := by rw [wrap_ok (by omega) (by omega)]; omega
    rw [e, take_all hi.len, take8 h5, take8 h6, Int.toNat_natCast, Int.toNat_natCast, Int.toNat_natCast, Nat.zero_add, wrap_succ k (by omega)]
    exact ⟨by omega, by omega, by decide, by omega, by decide, by omega, hn hk'⟩
  · have : k = 4 := by have := of_decide_eq_false hb; omega
    exact hx this
noncomputable abbrev tjLT (g : List Int → List Int → Int → List Int → Int × List Int) : LTab := [(2, loopF (stC tjC tiH) 0 [tjCf, rwB 0, rwB 1, rwB 2, rwB 3, .auto] (tjLF g))]
def tiW : Exit → List Wk
  | .normal => [tiCf, rwB 0, rwB 1, rwB 2, rwB 3, .auto]
  | .exit 0 => [tiXf, rwB 0, rwB 1, rwB 2, rwB 3]
  | _ => []
theorem ti_rnd (g : List Int → List Int → Int → List Int → Int × List Int) (ad : Int → Int → Int → Int × Int) (mu : Int → Int → Int × Int) (i : Int) (a b r o : List Int) : rndT Tryz.prog (tiTab ad mu) (tjLT g) tiFn 0 [] tiW ((stC tiC tiH).wr ((i, ()), (a, b, r, o, ()))) =
  Res.ite (decide (i < (4 : Int))) (Res.need ((0 : Int) = (0 : Int) ∧ (0 : Int) = (0 : Int) ∧ (0 : Int) ≤ i ∧ i < (4 : Int) ∧ okW a ∧ okW b ∧ okW o)
  (Res.need ((0 : Int) ≤ IntKind.i64.wrap (i + (4 : Int)) ∧ IntKind.i64.wrap (i + (4 : Int)) < (8 : Int)) (Res.leaf Exit.normal ((stC tiC tiH).wr
  ((IntKind.i64.wrap (i + (1 : Int)), PUnit.unit), a, b, r, (g a b i o).snd.set ((0 : Nat) + (IntKind.i64.wrap (i + (4 : Int))).toNat) (g a b i o).fst,
  PUnit.unit))))) (Res.leaf (Exit.exit (0 : Nat)) ((stC tiX tiH).wr (PUnit.unit, a, b, r, o, PUnit.unit))) := by kernel_rfl
abbrev tiT : Type := (Int × Unit) × List Int × List Int × List Int × List Int × Unit
def tiLF (g : List Int → List Int → List Int) (x : tiT) : Res := .need (x.1.1 = 0 ∧ okW x.2.1 ∧ okW x.2.2.1 ∧ x.2.2.2.2.1 = List.replicate 8 0) (.leaf (.exit 0) ((stC tiX tiH).wr ((), (x.2.1, x.2.2.1, x.2.2.2.1, g x.2.1 x.2.2.1, ()))))
theorem tjL_mem : ∀ p ∈ tjLT tjG, isLoop (blkAt (bodyOf tiFn) p.1) = true ∧ ∀ st, Ex Tryz.prog [] (.loop (loopAt tiFn p.1)) st (p.2 st) := LTC rfl (loopF_ok (hp := []) tj_loop) LT0
theorem ti_loop (x : tiT) : Ex Tryz.prog [] (.loop (loopAt tiFn 0)) ((stC tiC tiH).wr x) (tiLF timesW x) := by
  obtain ⟨⟨i, _⟩, a, b, r, o, _⟩ := x
  refine Ex.need fun ⟨h1, h2, h3, h4⟩ => ?_
  simp only at h1 h2 h3 h4
  subst h1 h4
  have key := loopUp (fn := tiFn) (id := 0) (j := 0) (ws := tiW) (hp := []) mixed tiTab_ok (LOk.inner rfl tjL_mem) 4 (fun k (o : List Int) => (stC tiC tiH).wr (((k : Int), ()), (a, b, r, o, ()))) (fun (o : List Int) => (stC tiX tiH).wr ((), (a, b, r, o, ()))) (timU mulFn add64 a b) (TimO a b)
    (fun k o R hk hi hn hx => ?_) (fun k o hk hi => timU_step h2.2 h3.2 h2.1 h3.1 hk hi) 0 (List.replicate 8 0) (by omega) ⟨by simp, InB.zeros qq_pos 8, fun i _ => by
    rw [List.getD_eq_getElem?_getD, List.getElem?_replicate]; split <;> rfl, by rw [vd_zeros]; simp [vd]⟩
  · rw [Nat.sub_zero, times_all h2.2 h3.2 h2.1 h3.1] at key; exact key
  rw [ti_rnd]
  refine ⟨fun hb => ?_, fun hb => ?_⟩
  · have hk' : k < 4 := by have := of_decide_eq_true hb; omega
    have e : IntKind.i64.wrap ((k : Int) + 4) = ((k + 4 : Nat) : Int) := by rw [wrap_ok (by omega) (by omega)]; omega
    have hs := timU_step h2.2 h3.2 h2.1 h3.1 hk' hi
    have hn' := hn hk'
    rw [e, wrap_succ k (by omega), Int.toNat_natCast, Nat.zero_add]
    exact ⟨⟨rfl, rfl, by omega, by omega, h2, h3, hi.len, hi.inb⟩, by omega, hn'⟩
  · have : k = 4 := by have := of_decide_eq_false hb; omega
    exact hx this
noncomputable abbrev tiLT (g : List Int → List Int → List Int) : LTab := [(0, loopF (stC tiC tiH) 0 [tiCf, rwB 0, rwB 1, rwB 2, rwB 3, .auto] (tiLF g))]
noncomputable abbrev stimesE : Ent := eWW timesW
theorem stimes_tree (g : List Int → List Int → List Int) (ad : Int → Int → Int → Int × Int) (mu : Int → Int → Int × Int) (w x : List Int) : fnT Tryz.prog (tiTab ad mu) (tiLT g) tiFn (w2A.wr (w, x, ())) [] [.fr [.sym], .rowF 0 0 8 .u64, .auto] =
  End.need ((0 : Int) = (0 : Int) ∧ okW w ∧ okW x ∧ [(0 : Int), (0 : Int), (0 : Int), (0 : Int), (0 : Int), (0 : Int), (0 : Int), (0 : Int)] =
  List.replicate (8 : Nat) (0 : Int)) (End.leaf (LV.one (VV.agg [SV.arr (Ty.int IntKind.u64) (8 : Nat) (g w x)])) []) := by kernel_rfl
theorem stimes_ok : stimesE.Ok Tryz.prog 68 := by
  refine (Ent.ofOk Tryz.call68 fun x_ y_ Q H_ => ?_).sym
  obtain ⟨w, x, _⟩ := x_
  obtain ⟨hn, hq⟩ := H_
  have hn : okW w ∧ okW x := hn
  refine (fnT_ok mixed tiTab_ok Tryz.func68 rfl (LT := tiLT timesW) (ks := [.fr [.sym], .rowF 0 0 8 .u64, .auto]) (LOk.ofTab (LTC rfl (loopF_ok (hp := []) ti_loop) LT0))).use (D := []) ?_ hq
  show (fnT _ _ _ _ (w2A.wr (w, x, ())) [] _).sat _
  rw [stimes_tree]
  exact ⟨⟨rfl, hn.1, hn.2, rfl⟩, rfl, rfl⟩
abbrev b3A : Cod (List LV) (List Int × List Int × List Int × Unit) := lCons cB (lCons cB (lCons cB lNil))
abbrev b64A : Cod (List LV) (List Int × Unit) := lCons (vRow .u8 64) lNil
noncomputable def ordB : List Int := dg 256 32 ll
noncomputable def canB (b : List Int) : Bool := decide (vd 256 b < ll)
noncomputable def redB (b : List Int) : List Int := dg 256 32 (vd 256 b % ll)
noncomputable def mulB (a b c : List Int) : List Int := dg 256 32 ((vd 256 a * vd 256 b + vd 256 c) % ll)
def e0B (c : List Int) : Ent := Ent.ofS [] lNil lNil fun _ _ => .leaf none (nRow .u8 32 c) []
def eBB (g : List Int → Bool) : Ent := Ent.ofS [] bA32 lNil fun x _ => .leaf (some (okB x.1)) (nB (g x.1)) []
def e64B (g : List Int → List Int) : Ent := Ent.ofS [] b64A lNil fun x _ => .leaf (some (x.1.length = 64 ∧ AllBy x.1)) (nRow .u8 32 (g x.1)) []
def eB3 (g : List Int → List Int → List Int → List Int) : Ent := Ent.ofS [] b3A lNil fun x _ => .leaf (some (okB x.1 ∧ okB x.2.1 ∧ okB x.2.2.1)) (nRow .u8 32 (g x.1 x.2.1 x.2.2.1)) []
theorem ofL_ok (b : List Int) : okW (ofL b) := ofL_in b
theorem sumW_ok (w x : List Int) : okW (sumW w x) := ⟨dg_length _ _, dg_in qq_pos _ _⟩
theorem timesW_ok (w x : List Int) : okW (timesW w x) := ⟨dg_length _ _, dg_in qq_pos _ _⟩
theorem okB.val {b : List Int} (h : okB b) : vd qq (ofL b) = vd 256 b := ofL_val h.2 (by rw [h.1]; decide)
theorem okB.range {b : List Int} (h : okB b) : 0 ≤ vd 256 b ∧ vd 256 b < 2 ^ 256 := by
  have h1 := vd_nonneg (by decide) (show InB 256 b from h.2)
  have h2 := vd_lt (by decide) (show InB 256 b from h.2)
  have e : (256 : Int) ^ 32 = 2 ^ 256 := by decide +kernel
  rw [h.1, e] at h2
  exact ⟨h1, h2⟩
noncomputable abbrev sCanonE : Ent := eBB canB
theorem sCanon_tree (o : List Int) (of : List Int → List Int) (less : List Int → List Int → List Int × Int) (b : List Int) : fnT Tryz.prog [(97, e0W o), (58, eOf of), (96, eLess less)] [] Tryz.f43 ((bA32).wr (b, ())) [] kK =
  End.need ((0 : Int) ≤ (0 : Int) ∧ (0 : Int) ≤ (32 : Int) ∧ (32 : Int) ≤ (32 : Int)) (End.need (AllBy (List.take (32 : Nat) (List.drop (0 : Nat) b)) ∧
  (List.take (32 : Nat) (List.drop (0 : Nat) b)).length ≤ (64 : Nat)) (End.need (okW (of (List.take (32 : Nat) (List.drop (0 : Nat) b))) ∧ okW o)
  (End.leaf (LV.one (VV.sc (SV.bool (SB.sym ((less (of (List.take (32 : Nat) (List.drop (0 : Nat) b))) o).snd == (1 : Int)))))) []))) := by kernel_rfl
theorem sCanon_tab_ : ∀ p_ ∈ ([(97, e0W orderL), (58, eOf ofL), (96, eLess lessW)] : List (FuncId × Ent)), p_.2.Ok Tryz.prog p_.1 := (tabC sorder_ok (tabC sof_ok (tabC sless_ok tab0)))
theorem sCanon_ok : sCanonE.Ok Tryz.prog 43 := by
  refine (Ent.ofOk Tryz.call43 fun x_ y_ Q H_ => ?_).sym
  obtain ⟨b, _⟩ := x_
  obtain ⟨hn, hq⟩ := H_
  have hn : okB b := hn
  refine (fnT_ok (tab := [(97, e0W orderL), (58, eOf ofL), (96, eLess lessW)]) mixed sCanon_tab_ Tryz.func43 rfl (LT := []) (ks := kK) (LOk.nil _)).use (D := []) ?_ hq
  show (fnT _ _ _ _ ((bA32).wr (b, ())) [] _).sat _
  rw [sCanon_tree orderL ofL lessW]
  rw [take_all hn.1]
  refine ⟨by decide, ⟨hn.2, by rw [hn.1]; decide⟩, ⟨ofL_ok b, order_in⟩, ?_, rfl⟩
  have : ((lessW (ofL b) orderL).2 == 1) = canB b := by
    unfold lessW canB
    rw [hn.val, order_val]
    by_cases h : vd 256 b < ll
    · rw [if_pos h, decide_eq_true h]; rfl
    · rw [if_neg h, decide_eq_false h]; rfl
  rw [this]
noncomputable abbrev sReduceE : Ent := e64B redB
theorem sReduce_tree (of : List Int → List Int) (red : List Int → List Int) (b : List Int) : fnT Tryz.prog [(58, eOf of), (59, eWB red)] [] Tryz.f27 ((b64A).wr (b, ())) [] kR =
  End.need ((0 : Int) ≤ (0 : Int) ∧ (0 : Int) ≤ (64 : Int) ∧ (64 : Int) ≤ (64 : Int)) (End.need (AllBy (List.take (64 : Nat) (List.drop (0 : Nat) b)) ∧
  (List.take (64 : Nat) (List.drop (0 : Nat) b)).length ≤ (64 : Nat)) (End.need (okW (of (List.take (64 : Nat) (List.drop (0 : Nat) b)))) (End.leaf
  (LV.one (VV.agg [SV.arr (Ty.int IntKind.u8) (32 : Nat) (red (of (List.take (64 : Nat) (List.drop (0 : Nat) b))))])) []))) := by kernel_rfl
theorem sReduce_tab_ : ∀ p_ ∈ ([(58, eOf ofL), (59, eWB redW)] : List (FuncId × Ent)), p_.2.Ok Tryz.prog p_.1 := (tabC sof_ok (tabC sred_ok tab0))
theorem sReduce_ok : sReduceE.Ok Tryz.prog 27 := by
  refine (Ent.ofOk Tryz.call27 fun x_ y_ Q H_ => ?_).sym
  obtain ⟨b, _⟩ := x_
  obtain ⟨hn, hq⟩ := H_
  have hn : b.length = 64 ∧ AllBy b := hn
  refine (fnT_ok (tab := [(58, eOf ofL), (59, eWB redW)]) mixed sReduce_tab_ Tryz.func27 rfl (LT := []) (ks := kR) (LOk.nil _)).use (D := []) ?_ hq
  show (fnT _ _ _ _ ((b64A).wr (b, ())) [] _).sat _
  rw [sReduce_tree ofL redW]
  rw [take_all hn.1]
  refine ⟨by decide, ⟨hn.2, by rw [hn.1]; decide⟩, ofL_ok b, ?_, rfl⟩
  have : redW (ofL b) = redB b := by unfold redW redB; rw [ofL_val hn.2 (by rw [hn.1]; decide)]
  rw [this]
theorem lt_qq8 {x : Int} (h : x < 2 ^ 512) : x < qq ^ 8 := by
  have e : qq ^ 8 = 2 ^ 512 := by decide +kernel
  rw [e]; exact h
noncomputable abbrev sMulAddE : Ent := eB3 mulB
theorem sMulAdd_tree (of : List Int → List Int) (and times : List Int → List Int → List Int) (red : List Int → List Int) (a b c : List Int) : fnT Tryz.prog [(58, eOf of), (69, eWW and), (68, eWW times), (59, eWB red)] [] Tryz.f31 ((b3A).wr (a, b, c, ())) [] kR =
  End.need ((0 : Int) ≤ (0 : Int) ∧ (0 : Int) ≤ (32 : Int) ∧ (32 : Int) ≤ (32 : Int)) (End.need (AllBy (List.take (32 : Nat) (List.drop (0 : Nat) a)) ∧
  (List.take (32 : Nat) (List.drop (0 : Nat) a)).length ≤ (64 : Nat)) (End.need ((0 : Int) ≤ (0 : Int) ∧ (0 : Int) ≤ (32 : Int) ∧ (32 : Int) ≤ (32 :
  Int)) (End.need (AllBy (List.take (32 : Nat) (List.drop (0 : Nat) b)) ∧ (List.take (32 : Nat) (List.drop (0 : Nat) b)).length ≤ (64 : Nat)) (End.need
  (okW (of (List.take (32 : Nat) (List.drop (0 : Nat) a))) ∧ okW (of (List.take (32 : Nat) (List.drop (0 : Nat) b)))) (End.need ((0 : Int) ≤ (0 : Int) ∧
  (0 : Int) ≤ (32 : Int) ∧ (32 : Int) ≤ (32 : Int)) (End.need (AllBy (List.take (32 : Nat) (List.drop (0 : Nat) c)) ∧ (List.take (32 : Nat) (List.drop (0
  : Nat) c)).length ≤ (64 : Nat)) (End.need (okW (times (of (List.take (32 : Nat) (List.drop (0 : Nat) a))) (of (List.take (32 : Nat) (List.drop (0 :
  Nat) b)))) ∧ okW (of (List.take (32 : Nat) (List.drop (0 : Nat) c)))) (End.need (okW (and (times (of (List.take (32 : Nat) (List.drop (0 : Nat) a)))
  (of (List.take (32 : Nat) (List.drop (0 : Nat) b)))) (of (List.take (32 : Nat) (List.drop (0 : Nat) c))))) (End.leaf (LV.one (VV.agg [SV.arr (Ty.int
  IntKind.u8) (32 : Nat) (red (and (times (of (List.take (32 : Nat) (List.drop (0 : Nat) a))) (of (List.take (32 : Nat) (List.drop (0 : Nat) b)))) (of
  (List.take (32 : Nat) (List.drop (0 : Nat) c)))))])) []))))))))) := by kernel_rfl
theorem sMulAdd_tab_ : ∀ p_ ∈ ([(58, eOf ofL), (69, eWW sumW), (68, eWW timesW), (59, eWB redW)] : List (FuncId × Ent)), p_.2.Ok Tryz.prog p_.1 := (tabC sof_ok (tabC sand_ok (tabC stimes_ok (tabC sred_ok tab0))))
theorem sMulAdd_ok : sMulAddE.Ok Tryz.prog 31 := by
  refine (Ent.ofOk Tryz.call31 fun x_ y_ Q H_ => ?_).sym
  obtain ⟨a, b, c, _⟩ := x_
  obtain ⟨hn, hq⟩ := H_
  have hn : okB a ∧ okB b ∧ okB c := hn
  refine (fnT_ok (tab := [(58, eOf ofL), (69, eWW sumW), (68, eWW timesW), (59, eWB redW)]) mixed sMulAdd_tab_ Tryz.func31 rfl (LT := []) (ks := kR) (LOk.nil _)).use (D := []) ?_ hq
  show (fnT _ _ _ _ ((b3A).wr (a, b, c, ())) [] _).sat _
  rw [sMulAdd_tree ofL sumW timesW redW]
  obtain ⟨ha, hb, hc⟩ := hn
  rw [take_all ha.1, take_all hb.1, take_all hc.1]
  refine ⟨by decide, ⟨ha.2, by rw [ha.1]; decide⟩, by decide, ⟨hb.2, by rw [hb.1]; decide⟩, ⟨ofL_ok a, ofL_ok b⟩, by decide, ⟨hc.2, by rw [hc.1]; decide⟩, ⟨timesW_ok _ _, ofL_ok c⟩, sumW_ok _ _, ?_, rfl⟩
  have : redW (sumW (timesW (ofL a) (ofL b)) (ofL c)) = mulB a b c := by
    unfold redW mulB sumW timesW
    have h1 := ha.range
    have h2 := hb.range
    have h3 := hc.range
    have h4 : ((2 : Int) ^ 256 - 1) * (2 ^ 256 - 1) + 2 ^ 256 < 2 ^ 512 := by decide +kernel
    have h5 : vd 256 a * vd 256 b ≤ (2 ^ 256 - 1) * (2 ^ 256 - 1) := Int.mul_le_mul (by omega) (by omega) h2.1 (by decide +kernel)
    have h6 : 0 ≤ vd 256 a * vd 256 b := Int.mul_nonneg h1.1 h2.1
    rw [ofL_take ha.2 ha.1, ofL_take hb.2 hb.1, vd_dg qq_pos, vd_dg qq_pos, hc.val, Int.emod_eq_of_lt (a := vd 256 a * vd 256 b) h6 (lt_qq8 (Int.lt_trans (by omega) h4)), Int.emod_eq_of_lt (by omega) (lt_qq8 (Int.lt_trans (by omega) h4))]
  rw [this]
end Go.Proofs.YthdfifcgobfgdaaGreat
end

section
set_option linter.unusedVariables false
set_option linter.unusedSimpArgs false
namespace Go.Proofs.YthdfifcgobfgdaaGreat
open Go Go.Ev BJ
set_option maxRecDepth 1000000
def eSha (g : List Int → List Int) : Ent := Ent.ofS [some (.sl u8)] rrA lNil fun x _ => .leaf (some (x.1.length < 2305843009213693952 ∧ x.1.flatten.length < 1152921504606846976)) (nRow .u8 64 (g x.1.flatten)) []
theorem of_as : ofE = eSha shaF := by kernel_rfl
theorem of'_ok : (eSha shaF).Ok Tryz.prog 28 := of_as ▸ of_ok
noncomputable abbrev eCat : Ent := catE
theorem cat'_ok : eCat.Ok Tryz.prog 33 := cat_ok
def domL : List Int := [83, 105, 103, 69, 100, 50, 53, 53, 49, 57, 32, 110, 111, 32, 69, 100, 50, 53, 53, 49, 57, 32, 99, 111, 108, 108, 105, 115, 105, 111, 110, 115]
def preL (c : List Int) : List Int := if c.length ≤ 255 then domL ++ ([1, (c.length : Int)] ++ c) else []
def ePre (g : List Int → List Int) : Ent := Ent.ofS [some u8] bA lNil fun x _ => .leaf none (.one (.sc (.sl 0 0))) [(0, .own 0 u8 (g x.1))]
noncomputable abbrev preE : Ent := ePre preL
theorem prefix_tree (c : List Int) : fnT Tryz.prog [(33, catE)] [] Tryz.f10 (bA.wr (c, ())) [] [.ownF 0 u8, .auto, .vers] =
  End.ite (decide ((255 : Int) < (↑c.length : Int))) (End.leaf (LV.one (VV.sc (SV.sl (0 : Nat) (0 : Nat)))) [some (Item.own (0 : Nat) (Ty.int IntKind.u8)
  [])]) (End.need ([[(83 : Int), (105 : Int), (103 : Int), (69 : Int), (100 : Int), (50 : Int), (53 : Int), (53 : Int), (49 : Int), (57 : Int), (32 :
  Int), (110 : Int), (111 : Int), (32 : Int), (69 : Int), (100 : Int), (50 : Int), (53 : Int), (53 : Int), (49 : Int), (57 : Int), (32 : Int), (99 :
  Int), (111 : Int), (108 : Int), (108 : Int), (105 : Int), (115 : Int), (105 : Int), (111 : Int), (110 : Int), (115 : Int)], [(1 : Int), IntKind.u8.wrap
  (↑c.length : Int)], c].flatten.length ≤ (70368744177664 : Nat) ∧ (3 : Nat) ≤ (140737488355328 : Nat)) (End.leaf (LV.one (VV.sc (SV.sl (0 : Nat) (0 :
  Nat)))) [some (Item.own (0 : Nat) (Ty.int IntKind.u8) [[(83 : Int), (105 : Int), (103 : Int), (69 : Int), (100 : Int), (50 : Int), (53 : Int), (53 :
  Int), (49 : Int), (57 : Int), (32 : Int), (110 : Int), (111 : Int), (32 : Int), (69 : Int), (100 : Int), (50 : Int), (53 : Int), (53 : Int), (49 :
  Int), (57 : Int), (32 : Int), (99 : Int), (111 : Int), (108 : Int), (108 : Int), (105 : Int), (115 : Int), (105 : Int), (111 : Int), (110 : Int), (115
  : Int)], [(1 : Int), IntKind.u8.wrap (↑c.length : Int)], c].flatten)])) := by kernel_rfl
theorem pre_ok : preE.Ok Tryz.prog 10 := by
  refine (Ent.ofOk Tryz.call10 fun x_ y_ Q H_ => ?_).sym
  obtain ⟨c, _⟩ := x_
  refine (fnT_ok mixed (tabC cat_ok tab0) Tryz.func10 rfl (LT := []) (ks := [.ownF 0 u8, .auto, .vers]) (LOk.nil _)).use (D := [(0, .own 0 u8 (preL c))]) ?_ H_.2
  show (fnT _ _ _ _ (bA.wr (c, ())) [] _).sat _
  rw [prefix_tree]
  refine ⟨fun h => ?_, fun h => ?_⟩
  · have h := of_decide_eq_true h
    have e : preL c = [] := if_neg (by omega)
    rw [e]; exact ⟨rfl, rfl⟩
  · have h := of_decide_eq_false h
    have e : preL c = domL ++ ([1, (c.length : Int)] ++ c) := if_pos (by omega)
    have ew : IntKind.u8.wrap (c.length : Int) = c.length := by rw [wrap_u8]; omega
    rw [e, ew]
    refine ⟨⟨by simp; omega, by decide⟩, rfl, ?_⟩
    have e2 : applyD [(0, Ev.Item.own 0 u8 (domL ++ ([1, (c.length : Int)] ++ c)))] (lNil.wr y_) = [some (Ev.Item.own 0 u8 (domL ++ ([1, (c.length : Int)] ++ c)))] := rfl
    rw [e2]
    simp [domL]
def secF (h : List Int) : List Int := ((h.take 32).set 0 (bitAndNot .u8 ((h.take 32).getD 0 0) 7)).set 31 (bitOr .u8 (bitAndNot .u8 (((h.take 32).set 0 (bitAndNot .u8 ((h.take 32).getD 0 0) 7)).getD 31 0) 128) 64)
def ePa (sec sha : List Int → List Int) : Ent := Ent.ofS [] bA32 lNil fun x _ => .leaf (some (x.1.length = 32)) (.tup [.agg [.arr (.int .u8) 32 (sec x.1)], .sc (.vb 0 0 (.int .u8) 64 32 32)]) [(0, .blk [.arr (.int .u8) 64 (sha x.1)] 24)]
noncomputable def secL (s : List Int) : List Int := secF (shaF s)
noncomputable abbrev spartsE : Ent := ePa secL shaF
theorem parts_tree (sha : List Int → List Int) (s : List Int) : fnT Tryz.prog [(28, eSha sha)] [] Tryz.f26 (bA32.wr (s, ())) [] [.auto] =
  End.need ((0 : Int) ≤ (0 : Int) ∧ (0 : Int) ≤ (32 : Int) ∧ (32 : Int) ≤ (32 : Int)) (End.need ((1 : Nat) < (2305843009213693952 : Nat) ∧ [List.take (32
  : Nat) (List.drop (0 : Nat) s)].flatten.length < (1152921504606846976 : Nat)) (End.need ((0 : Int) ≤ (0 : Int) ∧ (0 : Int) ≤ (32 : Int) ∧ (32 : Int) ≤
  (64 : Int)) (End.need ((32 : Nat) ≤ (List.take (32 : Nat) (List.drop (0 : Nat) (sha [List.take (32 : Nat) (List.drop (0 : Nat) s)].flatten))).length)
  (End.need ((32 : Nat) ≤ (List.take (32 : Nat) (List.drop (0 : Nat) (sha [List.take (32 : Nat) (List.drop (0 : Nat) s)].flatten))).length) (End.need ((0
  : Int) ≤ (32 : Int) ∧ (32 : Int) ≤ (64 : Int) ∧ (64 : Int) ≤ (64 : Int)) (End.leaf (LV.tup [VV.agg [SV.arr (Ty.int IntKind.u8) (32 : Nat) (((List.take
  (32 : Nat) (List.drop (0 : Nat) (List.take (32 : Nat) (List.drop (0 : Nat) (sha [List.take (32 : Nat) (List.drop (0 : Nat) s)].flatten))))).set (0 :
  Nat) (bitAndNot IntKind.u8 ((List.take (32 : Nat) (List.drop (0 : Nat) (List.take (32 : Nat) (List.drop (0 : Nat) (sha [List.take (32 : Nat) (List.drop
  (0 : Nat) s)].flatten))))).getD (0 : Nat) (0 : Int)) (7 : Int))).set (31 : Nat) (bitOr IntKind.u8 (bitAndNot IntKind.u8 (((List.take (32 : Nat)
  (List.drop (0 : Nat) (List.take (32 : Nat) (List.drop (0 : Nat) (sha [List.take (32 : Nat) (List.drop (0 : Nat) s)].flatten))))).set (0 : Nat)
  (bitAndNot IntKind.u8 ((List.take (32 : Nat) (List.drop (0 : Nat) (List.take (32 : Nat) (List.drop (0 : Nat) (sha [List.take (32 : Nat) (List.drop (0 :
  Nat) s)].flatten))))).getD (0 : Nat) (0 : Int)) (7 : Int))).getD (31 : Nat) (0 : Int)) (128 : Int)) (64 : Int)))], VV.sc (SV.vb (0 : Nat) (0 : Nat)
  (Ty.int IntKind.u8) (64 : Nat) (32 : Int) (32 : Int))]) [some (Item.blk [SV.arr (Ty.int IntKind.u8) (64 : Nat) (sha [List.take (32 : Nat) (List.drop (0
  : Nat) s)].flatten)] (24 : Nat))])))))) := by kernel_rfl
theorem sparts_ok : spartsE.Ok Tryz.prog 26 := by
  refine (Ent.ofOk Tryz.call26 fun x_ y_ Q H_ => ?_).sym
  obtain ⟨s, _⟩ := x_
  obtain ⟨hn, hq⟩ := H_
  have hn : s.length = 32 := hn
  refine (fnT_ok mixed (tabC of'_ok tab0) Tryz.func26 rfl (LT := []) (ks := [.auto]) (LOk.nil _)).use (D := [(0, .blk [.arr (.int .u8) 64 (shaF s)] 24)]) ?_ hq
  show (fnT _ _ _ _ (bA32.wr (s, ())) [] _).sat _
  rw [parts_tree, take_all hn, List.flatten_singleton]
  have hs := sha_length s
  have e1 : List.take 32 (List.drop 0 (List.take 32 (List.drop 0 (shaF s)))) = (shaF s).take 32 := by rw [List.drop_zero, List.drop_zero, List.take_take, Nat.min_self]
  have hl : (List.take 32 (List.drop 0 (shaF s))).length = 32 := by simp [hs]
  rw [e1]
  exact ⟨by decide, ⟨by decide, by omega⟩, by decide, by omega, by omega, by decide, rfl, rfl⟩
def ePub (g : List Int → List Int) : Ent := Ent.ofS [] bA32 lNil fun x _ => .leaf (some (x.1.length = 32)) (nRow .u8 32 (g x.1)) []
theorem secF_len {h : List Int} (hl : h.length = 64) : (secF h).length = 32 := by simp [secF, hl]
theorem secL_len (s : List Int) : (secL s).length = 32 := secF_len (sha_length s)
noncomputable def pubL (s : List Int) : List Int := encodeL (mbaseL (secL s))
noncomputable abbrev pubE : Ent := ePub pubL
theorem pub_tree (sec sha : List Int → List Int) (mb : List Int → Pt) (en : Pt → List Int) (s : List Int) : fnT Tryz.prog [(26, ePa sec sha), (29, eMb mb), (30, eEn en)] [] Tryz.f12 ((bA32).wr (s, ())) [] kK =
  End.need (s.length = (32 : Nat)) (End.need ((sec s).length = (32 : Nat)) (End.leaf (LV.one (VV.agg [SV.arr (Ty.int IntKind.u8) (32 : Nat) (en (mb (sec
  s)))])) [])) := by kernel_rfl
theorem pub_tab_ : ∀ p_ ∈ ([(26, ePa secL shaF), (29, eMb mbaseL), (30, eEn encodeL)] : List (FuncId × Ent)), p_.2.Ok Tryz.prog p_.1 := (tabC sparts_ok (tabC mbase_ok (tabC qencode_ok tab0)))
theorem pub_ok : pubE.Ok Tryz.prog 12 := by
  refine (Ent.ofOk Tryz.call12 fun x_ y_ Q H_ => ?_).sym
  obtain ⟨s, _⟩ := x_
  obtain ⟨hn, hq⟩ := H_
  have hn : s.length = 32 := hn
  refine (fnT_ok (tab := [(26, ePa secL shaF), (29, eMb mbaseL), (30, eEn encodeL)]) mixed pub_tab_ Tryz.func12 rfl (LT := []) (ks := kK) (LOk.nil _)).use (D := []) ?_ hq
  show (fnT _ _ _ _ ((bA32).wr (s, ())) [] _).sat _
  rw [pub_tree secL shaF mbaseL encodeL]
  exact ⟨hn, secL_len s, rfl, rfl⟩
abbrev row64 : Cod LV (List Int) := vRow .u8 64
abbrev chA : Cod (List LV) (List Int × List Int × List Int × List Int × Unit) := lCons (vOne (sRd false false u8)) (lCons cB (lCons cB (lCons row64 lNil)))
def eCh (g : List Int → List Int → List Int → List Int → List Int) : Ent := Ent.ofS [some u8, none, none, none] chA lNil fun x _ => .leaf (some (x.2.1.length = 32 ∧ x.2.2.1.length = 32 ∧ x.2.2.2.1.length = 64)) (nRow .u8 32 (g x.1 x.2.1 x.2.2.1 x.2.2.2.1)) []
noncomputable def chalL (c r p m : List Int) : List Int := redB (shaF (preL c ++ (r ++ (p ++ m))))
theorem eight_by (x : Int) : AllBy (eightF x) := fun z hz => by
  obtain ⟨i, _, rfl⟩ := List.mem_map.1 hz
  rw [wrap_u8]; unfold By; omega
theorem sha_by (b : List Int) : AllBy (shaF b) := by
  have key : ∀ (l : List Nat) (s a : List Int), AllBy a → AllBy (l.foldl (fun a i => a ++ eightF (s.getD i 0)) a) := by
    intro l s
    induction l with
    | nil => exact fun a h => h
    | cons i l ih => exact fun a h => ih _ (h.append (eight_by _))
  exact key _ _ [] (fun z hz => by cases hz)
theorem bitAndNot_by (x y : Int) : By (bitAndNot .u8 x y) := by
  unfold bitAndNot By; rw [wrap_u8]; omega
theorem bitOr_by (x y : Int) : By (bitOr .u8 x y) := by
  unfold bitOr By
  show 0 ≤ IntKind.u8.wrap _ ∧ IntKind.u8.wrap _ < 256
  rw [wrap_u8]; omega
theorem allBy_set {l : List Int} (h : AllBy l) {i : Nat} {x : Int} (hx : By x) : AllBy (l.set i x) := fun z hz => by
  rcases List.mem_or_eq_of_mem_set hz with k | k
  · exact h z k
  · subst k; exact hx
theorem secL_by (s : List Int) : AllBy (secL s) := allBy_set (allBy_set ((sha_by s).take 32) (bitAndNot_by _ _)) (bitOr_by _ _)
theorem secL_ok (s : List Int) : okB (secL s) := ⟨secL_len s, secL_by s⟩
theorem redB_ok (b : List Int) : okB (redB b) := ⟨dg_length _ _, dg_in (by decide) _ _⟩
theorem pre_len (c : List Int) : (preL c).length ≤ 289 := by unfold preL domL; split <;> simp; omega
noncomputable abbrev chalE : Ent := eCh chalL
theorem chal_tree (sha pre red : List Int → List Int) (c r p m : List Int) : fnT Tryz.prog [(28, eSha sha), (10, ePre pre), (27, e64B red)] [] Tryz.f32 ((chA).wr (c, r, p, m, ())) [] kK =
  End.need ((0 : Int) ≤ (0 : Int) ∧ (0 : Int) ≤ (32 : Int) ∧ (32 : Int) ≤ (32 : Int)) (End.need ((0 : Int) ≤ (0 : Int) ∧ (0 : Int) ≤ (32 : Int) ∧ (32 :
  Int) ≤ (32 : Int)) (End.need ((0 : Int) ≤ (0 : Int) ∧ (0 : Int) ≤ (64 : Int) ∧ (64 : Int) ≤ (64 : Int)) (End.need ((4 : Nat) < (2305843009213693952 :
  Nat) ∧ [pre c, List.take (32 : Nat) (List.drop (0 : Nat) r), List.take (32 : Nat) (List.drop (0 : Nat) p), List.take (64 : Nat) (List.drop (0 : Nat)
  m)].flatten.length < (1152921504606846976 : Nat)) (End.need ((sha [pre c, List.take (32 : Nat) (List.drop (0 : Nat) r), List.take (32 : Nat) (List.drop
  (0 : Nat) p), List.take (64 : Nat) (List.drop (0 : Nat) m)].flatten).length = (64 : Nat) ∧ AllBy (sha [pre c, List.take (32 : Nat) (List.drop (0 : Nat)
  r), List.take (32 : Nat) (List.drop (0 : Nat) p), List.take (64 : Nat) (List.drop (0 : Nat) m)].flatten)) (End.leaf (LV.one (VV.agg [SV.arr (Ty.int
  IntKind.u8) (32 : Nat) (red (sha [pre c, List.take (32 : Nat) (List.drop (0 : Nat) r), List.take (32 : Nat) (List.drop (0 : Nat) p), List.take (64 :
  Nat) (List.drop (0 : Nat) m)].flatten))])) []))))) := by kernel_rfl
theorem chal_tab_ : ∀ p_ ∈ ([(28, eSha shaF), (10, ePre preL), (27, e64B redB)] : List (FuncId × Ent)), p_.2.Ok Tryz.prog p_.1 := (tabC of'_ok (tabC pre_ok (tabC sReduce_ok tab0)))
theorem chal_ok : chalE.Ok Tryz.prog 32 := by
  refine (Ent.ofOk Tryz.call32 fun x_ y_ Q H_ => ?_).sym
  obtain ⟨c, r, p, m, _⟩ := x_
  obtain ⟨hn, hq⟩ := H_
  have hn : r.length = 32 ∧ p.length = 32 ∧ m.length = 64 := hn
  refine (fnT_ok (tab := [(28, eSha shaF), (10, ePre preL), (27, e64B redB)]) mixed chal_tab_ Tryz.func32 rfl (LT := []) (ks := kK) (LOk.nil _)).use (D := []) ?_ hq
  show (fnT _ _ _ _ ((chA).wr (c, r, p, m, ())) [] _).sat _
  rw [chal_tree shaF preL redB]
  rw [take_all hn.1, take_all hn.2.1, take_all hn.2.2]
  have h1 := pre_len c
  have e : [preL c, r, p, m].flatten = preL c ++ (r ++ (p ++ m)) := by simp
  rw [e]
  refine ⟨by decide, by decide, by decide, ⟨by decide, by simp; omega⟩, ⟨sha_length _, sha_by _⟩, rfl, rfl⟩
abbrev siA : Cod (List LV) (List Int × List Int × List Int × Unit) := lCons cB (lCons (vOne (sRd false false u8)) (lCons row64 lNil))
abbrev nSi (r : List Int × Int) : LV := .tup [.agg [.arr (.int .u8) 64 r.1], .sc (.int .i64 (.sym r.2))]
def eSi (g : List Int → List Int → List Int → List Int × Int) : Ent := Ent.ofS [none, some u8, none] siA lNil fun x _ => .leaf (some (x.1.length = 32 ∧ x.2.2.1.length = 64)) (nSi (g x.1 x.2.1 x.2.2.1)) []
noncomputable def nonL (s c m : List Int) : List Int := redB (shaF (preL c ++ ((shaF s).drop 32 ++ m)))
noncomputable def sigL (s c m : List Int) : List Int := encodeL (mbaseL (nonL s c m)) ++ mulB (chalL c (encodeL (mbaseL (nonL s c m))) (pubL s) m) (secL s) (nonL s c m)
theorem signL_ex : ∃ f : List Int → List Int → List Int → List Int × Int, ∀ (s c m : List Int) , f s c m = (if c.length ≤ 255 then (sigL s c m, 0) else (List.replicate 64 0, 1)) := ⟨fun s c m => if c.length ≤ 255 then (sigL s c m, 0) else (List.replicate 64 0, 1), fun _ _ _ => rfl⟩
noncomputable def signL : List Int → List Int → List Int → List Int × Int := Classical.choose signL_ex
theorem signL_eq (s c m : List Int)  : signL s c m = (if c.length ≤ 255 then (sigL s c m, 0) else (List.replicate 64 0, 1)) := Classical.choose_spec signL_ex s c m
theorem encodeL_len (p : Pt) : (encodeL p).length = 32 := Vec.toList_length _
theorem pubL_len (s : List Int) : (pubL s).length = 32 := by unfold pubL; exact encodeL_len _
theorem chalL_ok (c r p m : List Int) : okB (chalL c r p m) := by unfold chalL; exact redB_ok _
theorem mulB_len (a b c : List Int) : (mulB a b c).length = 32 := dg_length _ _
theorem sign_tree0 (sec sha pre red : List Int → List Int) (mb : List Int → Pt) (en : Pt → List Int) (pub : List Int → List Int) (ch : List Int → List Int → List Int → List Int → List Int) (mul : List Int → List Int → List Int → List Int) (s c m : List Int) : fnT Tryz.prog [(26, ePa sec sha), (28, eSha sha), (10, ePre pre), (27, e64B red), (29, eMb mb), (30, eEn en), (12, ePub pub), (32, eCh ch), (31, eB3 mul), (33, eCat)] [] Tryz.f8 (siA.wr (s, c, m, ())) [] [.fr [.sym], .auto] =
  End.ite (decide ((255 : Int) < (↑c.length : Int))) (End.leaf (LV.tup [VV.agg [SV.arr (Ty.int IntKind.u8) (64 : Nat) (List.replicate (64 : Nat) (0 :
  Int))], VV.sc (SV.int IntKind.i64 (SI.sym (1 : Int)))]) []) (End.need (s.length = (32 : Nat)) (End.need ((0 : Int) ≤ (0 : Int) ∧ (0 : Int) ≤ (64 : Int)
  ∧ (64 : Int) ≤ (64 : Int)) (End.need ((3 : Nat) < (2305843009213693952 : Nat) ∧ [pre c, List.take (32 : Nat) (List.drop (32 : Nat) (sha s)), List.take
  (64 : Nat) (List.drop (0 : Nat) m)].flatten.length < (1152921504606846976 : Nat)) (End.need ((sha [pre c, List.take (32 : Nat) (List.drop (32 : Nat)
  (sha s)), List.take (64 : Nat) (List.drop (0 : Nat) m)].flatten).length = (64 : Nat) ∧ AllBy (sha [pre c, List.take (32 : Nat) (List.drop (32 : Nat)
  (sha s)), List.take (64 : Nat) (List.drop (0 : Nat) m)].flatten)) (End.need ((red (sha [pre c, List.take (32 : Nat) (List.drop (32 : Nat) (sha s)),
  List.take (64 : Nat) (List.drop (0 : Nat) m)].flatten)).length = (32 : Nat)) (End.need (s.length = (32 : Nat)) (End.need ((en (mb (red (sha [pre c,
  List.take (32 : Nat) (List.drop (32 : Nat) (sha s)), List.take (64 : Nat) (List.drop (0 : Nat) m)].flatten)))).length = (32 : Nat) ∧ (pub s).length =
  (32 : Nat) ∧ m.length = (64 : Nat)) (End.need (okB (ch c (en (mb (red (sha [pre c, List.take (32 : Nat) (List.drop (32 : Nat) (sha s)), List.take (64 :
  Nat) (List.drop (0 : Nat) m)].flatten)))) (pub s) m) ∧ okB (sec s) ∧ okB (red (sha [pre c, List.take (32 : Nat) (List.drop (32 : Nat) (sha s)),
  List.take (64 : Nat) (List.drop (0 : Nat) m)].flatten))) (End.need ((0 : Int) ≤ (0 : Int) ∧ (0 : Int) ≤ (32 : Int) ∧ (32 : Int) ≤ (32 : Int)) (End.need
  ((0 : Int) ≤ (0 : Int) ∧ (0 : Int) ≤ (32 : Int) ∧ (32 : Int) ≤ (32 : Int)) (End.need ([List.take (32 : Nat) (List.drop (0 : Nat) (en (mb (red (sha [pre
  c, List.take (32 : Nat) (List.drop (32 : Nat) (sha s)), List.take (64 : Nat) (List.drop (0 : Nat) m)].flatten))))), List.take (32 : Nat) (List.drop (0
  : Nat) (mul (ch c (en (mb (red (sha [pre c, List.take (32 : Nat) (List.drop (32 : Nat) (sha s)), List.take (64 : Nat) (List.drop (0 : Nat)
  m)].flatten)))) (pub s) m) (sec s) (red (sha [pre c, List.take (32 : Nat) (List.drop (32 : Nat) (sha s)), List.take (64 : Nat) (List.drop (0 : Nat)
  m)].flatten))))].flatten.length ≤ (70368744177664 : Nat) ∧ (2 : Nat) ≤ (140737488355328 : Nat)) (End.need ((64 : Nat) ≤ [List.take (32 : Nat)
  (List.drop (0 : Nat) (en (mb (red (sha [pre c, List.take (32 : Nat) (List.drop (32 : Nat) (sha s)), List.take (64 : Nat) (List.drop (0 : Nat)
  m)].flatten))))), List.take (32 : Nat) (List.drop (0 : Nat) (mul (ch c (en (mb (red (sha [pre c, List.take (32 : Nat) (List.drop (32 : Nat) (sha s)),
  List.take (64 : Nat) (List.drop (0 : Nat) m)].flatten)))) (pub s) m) (sec s) (red (sha [pre c, List.take (32 : Nat) (List.drop (32 : Nat) (sha s)),
  List.take (64 : Nat) (List.drop (0 : Nat) m)].flatten))))].flatten.length) (End.need ((64 : Nat) ≤ [List.take (32 : Nat) (List.drop (0 : Nat) (en (mb
  (red (sha [pre c, List.take (32 : Nat) (List.drop (32 : Nat) (sha s)), List.take (64 : Nat) (List.drop (0 : Nat) m)].flatten))))), List.take (32 : Nat)
  (List.drop (0 : Nat) (mul (ch c (en (mb (red (sha [pre c, List.take (32 : Nat) (List.drop (32 : Nat) (sha s)), List.take (64 : Nat) (List.drop (0 :
  Nat) m)].flatten)))) (pub s) m) (sec s) (red (sha [pre c, List.take (32 : Nat) (List.drop (32 : Nat) (sha s)), List.take (64 : Nat) (List.drop (0 :
  Nat) m)].flatten))))].flatten.length) (End.leaf (LV.tup [VV.agg [SV.arr (Ty.int IntKind.u8) (64 : Nat) (List.take (64 : Nat) (List.drop (0 : Nat)
  [List.take (32 : Nat) (List.drop (0 : Nat) (en (mb (red (sha [pre c, List.take (32 : Nat) (List.drop (32 : Nat) (sha s)), List.take (64 : Nat)
  (List.drop (0 : Nat) m)].flatten))))), List.take (32 : Nat) (List.drop (0 : Nat) (mul (ch c (en (mb (red (sha [pre c, List.take (32 : Nat) (List.drop
  (32 : Nat) (sha s)), List.take (64 : Nat) (List.drop (0 : Nat) m)].flatten)))) (pub s) m) (sec s) (red (sha [pre c, List.take (32 : Nat) (List.drop (32
  : Nat) (sha s)), List.take (64 : Nat) (List.drop (0 : Nat) m)].flatten))))].flatten))], VV.sc (SV.int IntKind.i64 (SI.sym (0 : Int)))])
  [])))))))))))))) := by kernel_rfl
theorem sign_sat (sec sha pre red : List Int → List Int) (mb : List Int → Pt) (en : Pt → List Int) (pub : List Int → List Int) (ch : List Int → List Int → List Int → List Int → List Int) (mul : List Int → List Int → List Int → List Int) {s c m : List Int} (hs : s.length = 32) (hm : m.length = 64) (h1 : ∀ b, (sha b).length = 64) (h2 : ∀ b, AllBy (sha b)) (h3 : ∀ b, okB (red b)) (h4 : ∀ q, (en q).length = 32) (h5 : (pub s).length = 32) (h6 : ∀ a b c d, okB (ch a b c d)) (h7 : okB (sec s)) (h8 : ∀ a b c, (mul a b c).length = 32) (h9 : (pre c).length ≤ 289) :
    ∃ t_ : Ev.End, fnT Tryz.prog [(26, ePa sec sha), (28, eSha sha), (10, ePre pre), (27, e64B red), (29, eMb mb), (30, eEn en), (12, ePub pub), (32, eCh ch), (31, eB3 mul), (33, eCat)] [] Tryz.f8 (siA.wr (s, c, m, ())) [] [.fr [.sym], .auto] = t_ ∧ t_.sat fun v hp' => v = nSi (if c.length ≤ 255 then (en (mb (red (sha (pre c ++ ((sha s).drop 32 ++ m))))) ++ mul (ch c (en (mb (red (sha (pre c ++ ((sha s).drop 32 ++ m)))))) (pub s) m) (sec s) (red (sha (pre c ++ ((sha s).drop 32 ++ m)))), 0) else (List.replicate 64 0, 1)) ∧ hp' = [] := by
  refine ⟨_, sign_tree0 .., ?_⟩
  have e1 : List.take 32 (List.drop 32 (sha s)) = (sha s).drop 32 := List.take_of_length_le (by rw [List.length_drop, h1]; decide)
  have e2 : List.take 64 (List.drop 0 m) = m := take_all hm
  have e3 : [pre c, (sha s).drop 32, m].flatten = pre c ++ ((sha s).drop 32 ++ m) := by simp
  rw [e1, e2, e3]
  have l1 : (pre c ++ ((sha s).drop 32 ++ m)).length < 1152921504606846976 := by simp [h1, hm]; omega
  have l2 := h3 (sha (pre c ++ ((sha s).drop 32 ++ m)))
  generalize red (sha (pre c ++ ((sha s).drop 32 ++ m))) = n at *
  have l3 : ∀ {l : List Int}, l.length = 32 → List.take 32 (List.drop 0 l) = l := fun h => take_all h
  rw [l3 (h4 _), l3 (h8 _ _ _)]
  have l4 : ∀ a b : List Int, [a, b].flatten = a ++ b := fun a b => by simp
  have l5 : (en (mb n) ++ mul (ch c (en (mb n)) (pub s) m) (sec s) n).length = 64 := by rw [List.length_append, h4, h8]
  rw [l4, take_all l5]
  refine ⟨fun h => ?_, fun h => ?_⟩
  · have h := of_decide_eq_true h
    rw [if_neg (by omega)]; exact ⟨rfl, rfl⟩
  · have h := of_decide_eq_false h
    rw [if_pos (by omega)]
    exact ⟨hs, by decide, ⟨by decide, l1⟩, ⟨h1 _, h2 _⟩, l2.1, hs, ⟨h4 _, h5, hm⟩, ⟨h6 _ _ _ _, h7, l2⟩, by decide, by decide, ⟨by omega, by decide⟩, by omega, by omega, rfl, rfl⟩
theorem signRes_eq (s c m : List Int) : signL s c m = (if c.length ≤ 255 then (encodeL (mbaseL (redB (shaF (preL c ++ ((shaF s).drop 32 ++ m))))) ++ mulB (chalL c (encodeL (mbaseL (redB (shaF (preL c ++ ((shaF s).drop 32 ++ m)))))) (pubL s) m) (secL s) (redB (shaF (preL c ++ ((shaF s).drop 32 ++ m)))), 0) else (List.replicate 64 0, 1)) := by rw [signL_eq, sigL, nonL]
noncomputable abbrev signE : Ent := eSi signL
theorem sign_tab_ : ∀ p_ ∈ ([(26, ePa secL shaF), (28, eSha shaF), (10, ePre preL), (27, e64B redB), (29, eMb mbaseL), (30, eEn encodeL), (12, ePub pubL), (32, eCh chalL), (31, eB3 mulB), (33, eCat)] : List (FuncId × Ent)), p_.2.Ok Tryz.prog p_.1 := (tabC sparts_ok (tabC of'_ok (tabC pre_ok (tabC sReduce_ok (tabC mbase_ok (tabC qencode_ok (tabC pub_ok (tabC chal_ok (tabC sMulAdd_ok (tabC cat'_ok tab0))))))))))
theorem sign_ok : signE.Ok Tryz.prog 8 := by
  refine (Ent.ofOk Tryz.call8 fun x_ y_ Q H_ => ?_).sym
  obtain ⟨s, c, m, _⟩ := x_
  obtain ⟨hn, hq⟩ := H_
  have hn : s.length = 32 ∧ m.length = 64 := hn
  have hc_ : CallsT Tryz.prog 8 ((siA).wr (s, c, m, ())) [] (fnT Tryz.prog [(26, ePa secL shaF), (28, eSha shaF), (10, ePre preL), (27, e64B redB), (29, eMb mbaseL), (30, eEn encodeL), (12, ePub pubL), (32, eCh chalL), (31, eB3 mulB), (33, eCat)] [] Tryz.f8 ((siA).wr (s, c, m, ())) [] [.fr [.sym], .auto]) := fnT_ok mixed sign_tab_ Tryz.func8 rfl (LOk.nil _)
  obtain ⟨t_, ht_, hs_⟩ := sign_sat secL shaF preL redB mbaseL encodeL pubL chalL mulB hn.1 hn.2 sha_length sha_by redB_ok encodeL_len (pubL_len s) chalL_ok (secL_ok s) mulB_len (pre_len c)
  rw [← signRes_eq s c m] at hs_
  rw [ht_] at hc_
  exact hc_.use (D := []) hs_ hq
abbrev veA : Cod (List LV) (List Int × List Int × List Int × List Int × Unit) := lCons cB (lCons (vOne (sRd false false u8)) (lCons row64 (lCons row64 lNil)))
def eVe (g : List Int → List Int → List Int → List Int → Bool) : Ent := Ent.ofS [none, some u8, none, none] veA lNil fun x _ => .leaf (some (x.1.length = 32 ∧ x.2.2.1.length = 64 ∧ x.2.2.2.1.length = 64 ∧ AllBy x.2.2.2.1)) (nB (g x.1 x.2.1 x.2.2.1 x.2.2.2.1)) []
theorem verL_ex : ∃ f : List Int → List Int → List Int → List Int → Bool, ∀ (p c m g : List Int) , f p c m g = ((decodeL p).2 && (decide (c.length ≤ 255) && (canB (g.drop 32) && decide (encodeL (twoL (chalL c (g.take 32) p m) (negPC (decodeL p).1) (g.drop 32)) = g.take 32)))) := ⟨fun p c m g => (decodeL p).2 && (decide (c.length ≤ 255) && (canB (g.drop 32) && decide (encodeL (twoL (chalL c (g.take 32) p m) (negPC (decodeL p).1) (g.drop 32)) = g.take 32))), fun _ _ _ _ => rfl⟩
noncomputable def verL : List Int → List Int → List Int → List Int → Bool := Classical.choose verL_ex
theorem verL_eq (p c m g : List Int)  : verL p c m g = ((decodeL p).2 && (decide (c.length ≤ 255) && (canB (g.drop 32) && decide (encodeL (twoL (chalL c (g.take 32) p m) (negPC (decodeL p).1) (g.drop 32)) = g.take 32)))) := Classical.choose_spec verL_ex p c m g
theorem take32 {l : List Int} (h : l.length = 32) : List.take 32 (List.drop 0 l) = l := take_all h
theorem verify_tree0 (de : List Int → Pt × Bool) (can : List Int → Bool) (two : List Int → Pt → List Int → Pt) (ch : List Int → List Int → List Int → List Int → List Int) (neg : Pt → Pt) (en : Pt → List Int) (p c m g : List Int) : fnT Tryz.prog [(42, eDe de), (43, eBB can), (44, eTw two), (32, eCh ch), (45, e1Q neg), (30, eEn en)] [] Tryz.f15 (veA.wr (p, c, m, g, ())) [] kK =
  End.need ((0 : Int) ≤ (0 : Int) ∧ (0 : Int) ≤ (32 : Int) ∧ (32 : Int) ≤ (64 : Int)) (End.need ((32 : Nat) ≤ (List.take (32 : Nat) (List.drop (0 : Nat)
  g)).length) (End.need ((32 : Nat) ≤ (List.take (32 : Nat) (List.drop (0 : Nat) g)).length) (End.need ((0 : Int) ≤ (32 : Int) ∧ (32 : Int) ≤ (64 : Int)
  ∧ (64 : Int) ≤ (64 : Int)) (End.need ((32 : Nat) ≤ (List.take (32 : Nat) (List.drop (32 : Nat) g)).length) (End.need ((32 : Nat) ≤ (List.take (32 :
  Nat) (List.drop (32 : Nat) g)).length) (End.need (p.length = (32 : Nat)) (End.ite ((!(de p).snd) == false) (End.ite (decide ((255 : Int) < (↑c.length :
  Int)) == false) (End.need (okB (List.take (32 : Nat) (List.drop (0 : Nat) (List.take (32 : Nat) (List.drop (32 : Nat) g))))) (End.ite (!can (List.take
  (32 : Nat) (List.drop (0 : Nat) (List.take (32 : Nat) (List.drop (32 : Nat) g))))) (End.leaf (LV.one (VV.sc (SV.bool (SB.sym false)))) []) (End.need
  ((List.take (32 : Nat) (List.drop (0 : Nat) (List.take (32 : Nat) (List.drop (0 : Nat) g)))).length = (32 : Nat) ∧ p.length = (32 : Nat) ∧ m.length =
  (64 : Nat)) (End.need ((ch c (List.take (32 : Nat) (List.drop (0 : Nat) (List.take (32 : Nat) (List.drop (0 : Nat) g)))) p m).length = (32 : Nat) ∧
  (List.take (32 : Nat) (List.drop (0 : Nat) (List.take (32 : Nat) (List.drop (32 : Nat) g)))).length = (32 : Nat)) (End.leaf (LV.one (VV.sc (SV.bool
  (SB.sym (decide (en (two (ch c (List.take (32 : Nat) (List.drop (0 : Nat) (List.take (32 : Nat) (List.drop (0 : Nat) g)))) p m) (neg (de p).fst)
  (List.take (32 : Nat) (List.drop (0 : Nat) (List.take (32 : Nat) (List.drop (32 : Nat) g))))) = List.take (32 : Nat) (List.drop (0 : Nat) (List.take
  (32 : Nat) (List.drop (0 : Nat) g))))))))) []))))) (End.leaf (LV.one (VV.sc (SV.bool (SB.sym false)))) [])) (End.leaf (LV.one (VV.sc (SV.bool (SB.sym
  false)))) [])))))))) := by kernel_rfl
theorem verify_sat (de : List Int → Pt × Bool) (can : List Int → Bool) (two : List Int → Pt → List Int → Pt) (ch : List Int → List Int → List Int → List Int → List Int) (neg : Pt → Pt) (en : Pt → List Int) {p c m g : List Int} (h1 : p.length = 32) (h2 : m.length = 64) (h3 : g.length = 64) (h4 : AllBy g) (h5 : ∀ a b c d, (ch a b c d).length = 32) :
    ∃ t_ : Ev.End, fnT Tryz.prog [(42, eDe de), (43, eBB can), (44, eTw two), (32, eCh ch), (45, e1Q neg), (30, eEn en)] [] Tryz.f15 (veA.wr (p, c, m, g, ())) [] kK = t_ ∧ t_.sat fun v hp' => v = nB ((de p).2 && (decide (c.length ≤ 255) && (can (g.drop 32) && decide (en (two (ch c (g.take 32) p m) (neg (de p).1) (g.drop 32)) = g.take 32)))) ∧ hp' = [] := by
  refine ⟨_, verify_tree0 .., ?_⟩
  have l1 : (g.take 32).length = 32 := by rw [List.length_take, h3]; decide
  have l2 : (g.drop 32).length = 32 := by rw [List.length_drop, h3]
  have e1 : List.take 32 (List.drop 32 g) = g.drop 32 := List.take_of_length_le (by omega)
  have e2 : List.take 32 (List.drop 0 g) = g.take 32 := by rw [List.drop_zero]
  rw [e1, e2, take32 l1, take32 l2]
  have hb : AllBy (g.drop 32) := h4.drop 32
  generalize de p = d at *
  generalize g.take 32 = r at *
  generalize g.drop 32 = s at *
  obtain ⟨a, ok⟩ := d
  refine ⟨by decide, by omega, by omega, by decide, by omega, by omega, h1, ?_⟩
  cases ok
  · exact ⟨fun h => (by cases h), fun _ => ⟨rfl, rfl⟩⟩
  · refine ⟨fun _ => ⟨fun h => ⟨⟨l2, hb⟩, fun h' => ?_, fun h' => ⟨⟨l1, h1, h2⟩, ⟨h5 _ _ _ _, l2⟩, ?_, rfl⟩⟩, fun h => ?_⟩, fun h => (by cases h)⟩
    · have h' : can s = false := by simpa using h'
      rw [h']; simp; exact ⟨rfl, rfl⟩
    · have h' : can s = true := by simpa using h'
      have h : c.length ≤ 255 := by simp at h; omega
      rw [h', decide_eq_true h]; simp
    · have h : ¬ c.length ≤ 255 := by simp at h; omega
      rw [decide_eq_false h]; simp; exact ⟨rfl, rfl⟩
noncomputable abbrev verifyE : Ent := eVe verL
theorem verify_tab_ : ∀ p_ ∈ ([(42, eDe decodeL), (43, eBB canB), (44, eTw twoL), (32, eCh chalL), (45, e1Q negPC), (30, eEn encodeL)] : List (FuncId × Ent)), p_.2.Ok Tryz.prog p_.1 := (tabC qdecode_ok (tabC sCanon_ok (tabC mtwo_ok (tabC chal_ok (tabC qneg_ok (tabC qencode_ok tab0))))))
theorem verify_ok : verifyE.Ok Tryz.prog 15 := by
  refine (Ent.ofOk Tryz.call15 fun x_ y_ Q H_ => ?_).sym
  obtain ⟨p, c, m, g, _⟩ := x_
  obtain ⟨hn, hq⟩ := H_
  have hn : p.length = 32 ∧ m.length = 64 ∧ g.length = 64 ∧ AllBy g := hn
  have hc_ : CallsT Tryz.prog 15 ((veA).wr (p, c, m, g, ())) [] (fnT Tryz.prog [(42, eDe decodeL), (43, eBB canB), (44, eTw twoL), (32, eCh chalL), (45, e1Q negPC), (30, eEn encodeL)] [] Tryz.f15 ((veA).wr (p, c, m, g, ())) [] kK) := fnT_ok mixed verify_tab_ Tryz.func15 rfl (LOk.nil _)
  obtain ⟨t_, ht_, hs_⟩ := verify_sat decodeL canB twoL chalL negPC encodeL hn.1 hn.2.1 hn.2.2.1 hn.2.2.2 (fun a b c d => (chalL_ok a b c d).1)
  rw [← verL_eq p c m g] at hs_
  rw [ht_] at hc_
  exact hc_.use (D := []) hs_ hq
end Go.Proofs.YthdfifcgobfgdaaGreat
end

section
set_option linter.unusedVariables false
set_option linter.unusedSimpArgs false
namespace BJ
abbrev N4 := Nat × Nat × Nat × Nat
def mulN (a b : Nat) : Nat := a * b % pp
def addN (a b : Nat) : Nat := (a + b) % pp
def subN (a b : Nat) : Nat := (pp - b + a) % pp
def ddN : Nat := 37095705934669439343138083508754565189542113879843219016388785533085940283555
def plusN (p q : N4) : N4 :=
  let a := mulN (subN p.2.1 p.1) (subN q.2.1 q.1)
  let b := mulN (addN p.2.1 p.1) (addN q.2.1 q.1)
  let c := addN (mulN (mulN p.2.2.2 q.2.2.2) ddN) (mulN (mulN p.2.2.2 q.2.2.2) ddN)
  let d := addN (mulN p.2.2.1 q.2.2.1) (mulN p.2.2.1 q.2.2.1)
  (mulN (subN b a) (subN d c), mulN (addN d c) (addN b a), mulN (subN d c) (addN d c), mulN (subN b a) (addN b a))
def vals (p : E4) : N4 := (p.1.val, p.2.1.val, p.2.2.1.val, p.2.2.2.val)
theorem plusN_vals (p q : E4) : plusN (vals p) (vals q) = vals (addE p q) := by
  have hd : dd.val = ddN := rfl
  simp only [plusN, vals, addE, mulN, addN, subN, Fin.val_mul, Fin.val_add, Fin.sub_def, hd]
def stepN (V : Nat) (p : N4) (k : Nat) (r : N4) : N4 := bif Nat.beq (V / 2 ^ (255 - k) % 2) 1 then plusN (plusN r r) p else plusN r r
end BJ
namespace Go.Proofs.YthdfifcgobfgdaaGreat
open Go Go.Ev BJ
theorem stepN_vals (V : Nat) (p : E4) (k : Nat) (r : E4) : stepN V (vals p) k (vals r) = vals (stepE4 V p k r) := by
  unfold stepN stepE4 bitE
  rw [plusN_vals, plusN_vals]
  by_cases h : V / 2 ^ (255 - k) % 2 = 1
  · rw [decide_eq_true h, h]; rfl
  · have e : Nat.beq (V / 2 ^ (255 - k) % 2) 1 = false := by
      cases e : Nat.beq (V / 2 ^ (255 - k) % 2) 1 with
      | false => rfl
      | true => exact absurd (Nat.eq_of_beq_eq_true e) h
    rw [decide_eq_false h, e]; rfl
def zeroN : N4 := (0, 1, 1, 0)
def baseN : N4 := (15112221349535400772501151409588531511454012693041857206046113283949847762202, 46316835694926478169428394003475163141307993866256225615783033603165251855960, 1, 46827403850823179245072216630277197565144205554125654976674165829533817101731)
theorem zeroN_eq : zeroN = vals zeroE := rfl
theorem baseN_eq : baseN = vals (affE baseX baseY) := by decide +kernel
def multN (V : Nat) : N4 := rnds (stepN V baseN) 256 zeroN
theorem multN_vals (V : Nat) : multN V = vals (multE V (affE baseX baseY)) := by
  have key : ∀ k, rnds (stepN V baseN) k zeroN = vals (rnds (stepE4 V (affE baseX baseY)) k zeroE) := by
    intro k
    induction k with
    | zero => exact zeroN_eq
    | succ k ih =>
      simp only [rnds]
      rw [ih, baseN_eq, stepN_vals]
  exact key 256
/-- a multiple of the base, reckoned: its two numbers, by what lies below -/
def isN (V x y : Nat) : Bool := (fun r : N4 => Nat.beq r.1 (mulN x r.2.2.1) && Nat.beq r.2.1 (mulN y r.2.2.1)) (multN V)
theorem isN_pt {V x y : Nat} (hV : V < 2 ^ 256) (hx : x < pp) (hy : y < pp) (h : isN V x y = true) : (nsm V baseP).x.val = x ∧ (nsm V baseP).y.val = y := by
  have hi : IsP (multE V (affE baseX baseY)) (nsm V baseP) := mult_isP hV (isP_aff baseP)
  unfold isN at h
  rw [multN_vals] at h
  generalize multE V (affE baseX baseY) = p at *
  generalize nsm V baseP = P at *
  obtain ⟨h0, h1, h2, _⟩ := hi
  simp only [Bool.and_eq_true] at h
  have e1 : p.1.val = x * p.2.2.1.val % pp := Nat.eq_of_beq_eq_true h.1
  have e2 : p.2.1.val = y * p.2.2.1.val % pp := Nat.eq_of_beq_eq_true h.2
  have f1 : p.1 = (⟨x, hx⟩ : F) * p.2.2.1 := Fin.ext (by rw [e1, Fin.val_mul])
  have f2 : p.2.1 = (⟨y, hy⟩ : F) * p.2.2.1 := Fin.ext (by rw [e2, Fin.val_mul])
  rw [h1] at f1
  rw [h2] at f2
  have c : ∀ {a b : F}, a * p.2.2.1 = b * p.2.2.1 → a = b := fun {a b} e => by
    have h3 : p.2.2.1 * F.inv p.2.2.1 = 1 := F.inv_mul h0
    have e' := congrArg (fun z => z * F.inv p.2.2.1) e
    grobner
  exact ⟨by rw [c f1], by rw [c f2]⟩
def llN : Nat := 7237005577332262213973186563042994240857116359379907606001950938285454250989
theorem order_raw : isN llN 0 1 = true := by decide +kernel
theorem order_zero : nsm llN baseP = BJ.Pt.zero := by
  obtain ⟨h1, h2⟩ := isN_pt (V := llN) (by decide) (by decide) (by decide) order_raw
  exact BJ.Pt.ext' (Fin.ext h1) (Fin.ext h2)
theorem base_ne : baseP ≠ BJ.Pt.zero := fun h => by
  have := congrArg (fun P : BJ.Pt => P.x.val) h
  revert this
  decide
theorem nsm_mul_zero {m : Nat} (h : nsm m baseP = BJ.Pt.zero) (k : Nat) : nsm (k * m) baseP = BJ.Pt.zero := by
  rw [nsm_mul, h, nsm_zero]
theorem order_abs {n a : Nat} (hr : Root n a) (hz : nsm n baseP = BJ.Pt.zero) {m : Nat} (hm : nsm m baseP = BJ.Pt.zero) : m % n = 0 := by
  refine Classical.byContradiction fun h => base_ne ?_
  have hf := hr.fermat h
  have hn := hr.1
  have e : m ^ (n - 1) = m ^ (n - 2) * m := by rw [← Nat.pow_succ]; congr 1; omega
  have h1 : nsm (m ^ (n - 1)) baseP = BJ.Pt.zero := by rw [e]; exact nsm_mul_zero hm _
  have h2 : m ^ (n - 1) = m ^ (n - 1) / n * n + 1 := by
    have := Nat.div_add_mod (m ^ (n - 1)) n
    rw [hf, Nat.mul_comm] at this; exact this.symm
  rw [h2, nsm_add, nsm_mul_zero hz, nsm_one, BJ.Pt.zero_add] at h1
  exact h1
theorem order_dvd {m : Nat} (hm : nsm m baseP = BJ.Pt.zero) : m % llN = 0 := order_abs r7237005577332262213973186563042994240857116359379907606001950938285454250989 order_zero hm
theorem nsm_mod_abs {n : Nat} (hz : nsm n baseP = BJ.Pt.zero) (m : Nat) : nsm (m % n) baseP = nsm m baseP := by
  have h2 : m = m / n * n + m % n := by
    have := Nat.div_add_mod m n
    rw [Nat.mul_comm] at this; exact this.symm
  conv => rhs; rw [h2, nsm_add, nsm_mul_zero hz, BJ.Pt.zero_add]
theorem nsm_mod (m : Nat) : nsm (m % llN) baseP = nsm m baseP := nsm_mod_abs order_zero m
theorem nsm_inj_abs {n a : Nat} (hr : Root n a) (hz : nsm n baseP = BJ.Pt.zero) {k m : Nat} (h1 : k < n) (h2 : m < n) (h : nsm k baseP = nsm m baseP) : k = m := by
  have key : ∀ {k m : Nat}, k < n → m < n → k ≤ m → nsm k baseP = nsm m baseP → k = m := fun {k m} h1 h2 hle h => by
    have e : nsm (m - k) baseP = BJ.Pt.zero := by
      have e1 : m = k + (m - k) := by omega
      rw [e1, nsm_add] at h
      have e2 : (nsm k baseP).add BJ.Pt.zero = (nsm k baseP).add (nsm (m - k) baseP) := by rw [BJ.Pt.add_zero]; exact h
      exact (add_left e2).symm
    have := order_abs hr hz e
    rw [Nat.mod_eq_of_lt (by omega)] at this
    omega
  rcases Nat.le_total k m with h3 | h3
  · exact key h1 h2 h3 h
  · exact (key h2 h1 h3 h.symm).symm
theorem nsm_inj {k m : Nat} (h1 : k < llN) (h2 : m < llN) (h : nsm k baseP = nsm m baseP) : k = m := nsm_inj_abs r7237005577332262213973186563042994240857116359379907606001950938285454250989 order_zero h1 h2 h
end Go.Proofs.YthdfifcgobfgdaaGreat
end

section
set_option linter.unusedVariables false
set_option linter.unusedSimpArgs false
namespace Go.Proofs.YthdfifcgobfgdaaGreat
open Go Go.Ev BJ
theorem okV {n : Nat} : ∀ {v : Vec Int n}, OkB v → AllBy v.toList ∧ vd 256 v.toList = valB v := by
  induction n with
  | zero => exact fun {v} _ => ⟨(fun z hz => by cases hz), rfl⟩
  | succ n ih =>
    intro v h
    obtain ⟨h1, h2⟩ := ih h.2
    refine ⟨fun z hz => ?_, ?_⟩
    · rcases List.mem_cons.1 hz with rfl | hz
      · exact h.1
      · exact h1 z hz
    · show v.1 + 256 * vd 256 v.2.toList = v.1 + 256 * valB v.2
      rw [h2]
theorem okB_v32 {l : List Int} (h : okB l) : OkB (v32 l) ∧ valB (v32 l) = vd 256 l := by
  have h1 : OkB (v32 l) := OkB_ofFn fun i _ => InB.getD (by decide) h.2 i
  have := (okV h1).2
  rw [v32_toList h.1] at this
  exact ⟨h1, this.symm⟩
noncomputable def sc (n : List Int) : Nat := (vd 256 n).toNat
theorem rep_multL {n : List Int} (hn : okB n) {p : Pt} {P : BJ.Pt} (hp : Rep p P) : Rep (multL n p) (nsm (sc n) P) := by
  obtain ⟨h1, h2⟩ := okB_v32 hn
  rw [multL_eq, sc, ← h2]; exact rep_mult h1 hp
theorem rep_mbaseL {n : List Int} (hn : okB n) : Rep (mbaseL n) (nsm (sc n) baseP) := rep_multL hn rep_base
theorem rep_twoL {n m : List Int} (hn : okB n) (hm : okB m) {p : Pt} {P : BJ.Pt} (hp : Rep p P) : Rep (twoL n p m) ((nsm (sc n) P).add (nsm (sc m) baseP)) := by
  obtain ⟨h1, h2⟩ := okB_v32 hn
  obtain ⟨h3, h4⟩ := okB_v32 hm
  rw [twoL_eq, sc, sc, ← h2, ← h4]; exact two_rep h1 h3 hp
noncomputable def encQ (P : BJ.Pt) : List Int := (encP P).toList
theorem encQ_ok (P : BJ.Pt) : okB (encQ P) := ⟨Vec.toList_length _, (okV (dec_encP P).1).1⟩
theorem encQ_inj {P Q : BJ.Pt} (h : encQ P = encQ Q) : P = Q := encP_inj (Vec.toList_inj h)
theorem enc_of {p : Pt} {P : BJ.Pt} (h : Rep p P) : encodeL p = encQ P := by unfold encodeL encQ; rw [rep_enc h]
theorem dec_of (P : BJ.Pt) : (decodeL (encQ P)).2 = true ∧ Rep (decodeL (encQ P)).1 P := by
  obtain ⟨h1, h2⟩ := dec_encP P
  obtain ⟨d1, d2, d3⟩ := decode_pt h1
  unfold decodeL encQ
  rw [v32_of]
  refine ⟨by rw [d3, h2], d1, ?_⟩
  rw [d2, h2]; exact isP_aff P
theorem sc_dg {x : Int} (h : 0 ≤ x ∧ x < ll) : sc (dg 256 32 x) = x.toNat := by
  have e : ll < 256 ^ 32 := by decide +kernel
  unfold sc
  rw [vd_dg (by decide), Int.emod_eq_of_lt h.1 (by omega)]
theorem llN_eq : ((llN : Nat) : Int) = ll := rfl
theorem sc_mulB {a b c : List Int} (ha : okB a) (hb : okB b) (hc : okB c) : sc (mulB a b c) = (sc a * sc b + sc c) % llN := by
  unfold mulB
  rw [sc_dg ⟨Int.emod_nonneg _ (by have := ll_pos; omega), Int.emod_lt_of_pos _ ll_pos⟩]
  have h1 := ha.range.1
  have h2 := hb.range.1
  have h3 := hc.range.1
  unfold sc
  obtain ⟨x, hx⟩ := Int.eq_ofNat_of_zero_le h1
  obtain ⟨y, hy⟩ := Int.eq_ofNat_of_zero_le h2
  obtain ⟨z, hz⟩ := Int.eq_ofNat_of_zero_le h3
  rw [hx, hy, hz, ← llN_eq]
  simp only [Int.toNat_natCast]
  rw [← Int.natCast_mul, ← Int.natCast_add, ← Int.natCast_emod, Int.toNat_natCast]
theorem mulB_lt (a b c : List Int) : okB (mulB a b c) ∧ sc (mulB a b c) < llN := by
  refine ⟨⟨dg_length _ _, dg_in (by decide) _ _⟩, ?_⟩
  unfold mulB
  have h1 := Int.emod_nonneg (vd 256 a * vd 256 b + vd 256 c) (show ll ≠ 0 by have := ll_pos; omega)
  have h2 := Int.emod_lt_of_pos (vd 256 a * vd 256 b + vd 256 c) ll_pos
  rw [sc_dg ⟨h1, h2⟩]
  have := llN_eq
  omega
theorem canB_iff {s : List Int} (h : okB s) : canB s = true ↔ sc s < llN := by
  unfold canB sc
  have h1 := h.range.1
  have := llN_eq
  rw [decide_eq_true_iff]
  omega
theorem okB_ext {a b : List Int} (ha : okB a) (hb : okB b) (h : sc a = sc b) : a = b := by
  refine vd_inj (B := 256) (by decide) ha.2 hb.2 (by rw [ha.1, hb.1]) ?_
  unfold sc at h
  have h1 := ha.range.1
  have h2 := hb.range.1
  omega
theorem add_neg_self (P : BJ.Pt) : P.neg.add P = BJ.Pt.zero := by rw [BJ.Pt.add_comm]; exact BJ.Pt.add_neg P
/-- of a signature's first half: a second half is verified just if it is the one that was signed -/
theorem ver_iff {s c m t : List Int} (hc : c.length ≤ 255) (ht : okB t) (hs : s.length = 32) :
    verL (pubL s) c m (encodeL (mbaseL (nonL s c m)) ++ t) = decide (t = mulB (chalL c (encodeL (mbaseL (nonL s c m))) (pubL s) m) (secL s) (nonL s c m)) := by
  have hn : okB (nonL s c m) := redB_ok _
  have hr := rep_mbaseL hn
  have er := enc_of hr
  have ha := rep_mbaseL (secL_ok s)
  have ep : pubL s = encQ (nsm (sc (secL s)) baseP) := enc_of ha
  obtain ⟨d1, d2⟩ := dec_of (nsm (sc (secL s)) baseP)
  rw [← ep] at d1 d2
  have hk : okB (chalL c (encodeL (mbaseL (nonL s c m))) (pubL s) m) := chalL_ok _ _ _ _
  have hrl : (encodeL (mbaseL (nonL s c m))).length = 32 := encodeL_len _
  have t1 : (encodeL (mbaseL (nonL s c m)) ++ t).take 32 = encodeL (mbaseL (nonL s c m)) := by rw [List.take_left' hrl]
  have t2 : (encodeL (mbaseL (nonL s c m)) ++ t).drop 32 = t := by rw [List.drop_left' hrl]
  rw [verL_eq, t1, t2, d1, decide_eq_true hc, Bool.true_and, Bool.true_and]
  have h2 := rep_twoL hk ht (rep_neg d2)
  have e2 := enc_of h2
  rw [e2]
  have hmul := sc_mulB hk (secL_ok s) hn
  obtain ⟨hm1, hm2⟩ := mulB_lt (chalL c (encodeL (mbaseL (nonL s c m))) (pubL s) m) (secL s) (nonL s c m)
  generalize mulB (chalL c (encodeL (mbaseL (nonL s c m))) (pubL s) m) (secL s) (nonL s c m) = z at *
  generalize chalL c (encodeL (mbaseL (nonL s c m))) (pubL s) m = k at *
  rw [er]
  generalize nonL s c m = n at *
  generalize secL s = a at *
  have key : (nsm (sc k) (nsm (sc a) baseP).neg).add (nsm (sc t) baseP) = nsm (sc n) baseP ↔ nsm (sc t) baseP = nsm (sc z) baseP := by
    have e3 : nsm (sc z) baseP = (nsm (sc k) (nsm (sc a) baseP)).add (nsm (sc n) baseP) := by
      rw [hmul, nsm_mod, nsm_add, nsm_mul]
    rw [e3, nsm_neg]
    generalize nsm (sc k) (nsm (sc a) baseP) = X
    constructor
    · intro h
      rw [← h, ← BJ.Pt.add_assoc, BJ.Pt.add_neg, BJ.Pt.zero_add]
    · intro h
      rw [h, ← BJ.Pt.add_assoc, add_neg_self, BJ.Pt.zero_add]
  by_cases h : t = z
  · subst h
    rw [decide_eq_true rfl, (canB_iff ht).2 hm2, key.2 rfl]
    simp
  · rw [decide_eq_false h]
    cases hcan : canB t with
    | false => rfl
    | true =>
      rw [Bool.true_and]
      refine decide_eq_false fun h' => h ?_
      exact okB_ext ht hm1 (nsm_inj ((canB_iff ht).1 hcan) hm2 (key.1 (encQ_inj h')))
theorem sig_half (s c m : List Int) : okB ((sigL s c m).drop 32) ∧ (sigL s c m).length = 64 ∧ AllBy (sigL s c m) := by
  unfold sigL
  have e := rep_mbaseL (show okB (nonL s c m) from redB_ok _)
  have h1 := encQ_ok (nsm (sc (nonL s c m)) baseP)
  rw [← enc_of e] at h1
  have h2 := (mulB_lt (chalL c (encodeL (mbaseL (nonL s c m))) (pubL s) m) (secL s) (nonL s c m)).1
  rw [List.drop_left' h1.1]
  exact ⟨h2, by rw [List.length_append, h1.1, h2.1], h1.2.append h2.2⟩
/-- of what was signed: another second half -/
theorem ver_half {s c m t : List Int} (hc : c.length ≤ 255) (ht : okB t) (hs : s.length = 32) : verL (pubL s) c m ((sigL s c m).take 32 ++ t) = decide (t = (sigL s c m).drop 32) := by
  unfold sigL
  have hrl : (encodeL (mbaseL (nonL s c m))).length = 32 := encodeL_len _
  rw [List.take_left' hrl, List.drop_left' hrl]
  exact ver_iff hc ht hs
theorem ver_sig {s c m : List Int} (hc : c.length ≤ 255) (hs : s.length = 32) : verL (pubL s) c m (sigL s c m) = true := by
  have := ver_half (m := m) hc (sig_half s c m).1 hs
  rw [List.take_append_drop] at this
  rw [this]; exact decide_eq_true rfl
end Go.Proofs.YthdfifcgobfgdaaGreat
end

section
set_option linter.unusedVariables false
set_option linter.unusedSimpArgs false
namespace Go.Proofs.YthdfifcgobfgdaaGreat
open Go Go.Ev BJ
set_option maxRecDepth 1000000
end Go.Proofs.YthdfifcgobfgdaaGreat
end

section
set_option linter.unusedVariables false
set_option linter.unusedSimpArgs false
namespace Go.Proofs.YthdfifcgobfgdaaGreat
open Go Go.Ev BJ
set_option maxRecDepth 1000000
abbrev ckA : Cod (List LV) (List (List Int) × List Int × Unit) := lCons (vOne (sRd false false (.arr u8 32))) (lCons (vOne (sRd false false u8)) lNil)
structure Lab where
  key : Int
  blocks : Int
  man : MM
  sign : List Int
def lab0 : Lab := ⟨0, 0, mm0, List.replicate 64 0⟩
abbrev cLab : Cod (List SV) Lab := (rowsHead (rowsMan (lCons (sArr u8 64) lNil))).iso (fun x => ⟨x.1, x.2.1, ⟨x.2.2.1, x.2.2.2.1, x.2.2.2.2.1, x.2.2.2.2.2.1, x.2.2.2.2.2.2.1⟩, x.2.2.2.2.2.2.2.1⟩) (fun l => (l.key, l.blocks, l.man.ver, l.man.flo, l.man.len, l.man.list, l.man.plain, l.sign, ())) (fun _ => rfl)
abbrev labV (r : Lab × Int) : LV := .tup [.agg (cLab.wr r.1), .sc (.int .i64 (.sym r.2))]
def ctxL : List Int := [98, 111, 111, 116, 106, 97, 99, 107]
def k0 : List Int := List.replicate 32 0
def labOf (b : List Int) : Lab := ⟨(getHeadF (b.take 8)).1.1, (getHeadF (b.take 8)).1.2, (getF ((b.drop 8).take 152)).1, b.drop 160⟩
def checkF (ver : List Int → List Int → List Int → List Int → Bool) (ks : List (List Int)) (b : List Int) : Lab × Int :=
  if b.length = 224 ∧ (getHeadF (b.take 8)).2 = true then
    (if (ks.length : Int) ≤ (getHeadF (b.take 8)).1.1 then (lab0, 15)
     else if ver (ks.getD (getHeadF (b.take 8)).1.1.toNat k0) ctxL (signedF b) (b.drop 160) = true then
       (if (getF ((b.drop 8).take 152)).2 = true then (labOf b, 0) else (lab0, 6))
     else (lab0, 8))
  else (lab0, 6)
def okKs (ks : List (List Int)) : Prop := ∀ k : Nat, k < ks.length → (ks.getD k k0).length = 32
def eCk (g : List (List Int) → List Int → Lab × Int) : Ent := Ent.ofS [some (.arr u8 32), some u8] ckA lNil fun x _ => .leaf (some (AllBy x.2.1 ∧ x.2.1.length < 1152921504606846976 ∧ okKs x.1)) (labV (g x.1 x.2.1)) []
theorem getHead_key {l : List Int} : 0 ≤ (getHeadF l).1.1 ∧ (getHeadF l).1.1 < 8 := by
  unfold getHeadF
  split
  · rename_i h
    simp only
    have h2 := h.2
    have : (headF (IntKind.i64.wrap (l.getD 4 0)) (IntKind.i64.wrap (l.getD 5 0))).length = 8 := by rw [strEq_len h2, h.1]
    unfold headF at this
    split at this
    · omega
    · simp at this
  · exact ⟨by decide, by decide⟩
theorem lab_eq {r r' : Lab × Int} (h : r = r') : labV r = labV r' := by rw [h]
theorem check_tree0 (ver : List Int → List Int → List Int → List Int → Bool) (ks : List (List Int)) (b : List Int) : fnT Tryz.prog [(50, getHeadE), (15, eVe ver), (23, ctxE), (24, signedE), (51, getE)] [] Tryz.f18 (ckA.wr (ks, b, ())) [] [.fr [.sym], .auto] =
  End.ite ((↑b.length : Int) != (224 : Int)) (End.leaf (LV.tup [VV.agg [SV.int IntKind.i64 (SI.sym (0 : Int)), SV.int IntKind.i64 (SI.sym (0 : Int)),
  SV.int IntKind.u64 (SI.sym (0 : Int)), SV.int IntKind.u64 (SI.sym (0 : Int)), SV.int IntKind.i64 (SI.sym (0 : Int)), SV.arr (Ty.int IntKind.u8) (64 :
  Nat) (List.replicate (64 : Nat) (0 : Int)), SV.arr (Ty.int IntKind.u8) (64 : Nat) (List.replicate (64 : Nat) (0 : Int)), SV.arr (Ty.int IntKind.u8) (64
  : Nat) (List.replicate (64 : Nat) (0 : Int))], VV.sc (SV.int IntKind.i64 (SI.sym (6 : Int)))]) []) (End.need ((0 : Int) ≤ (0 : Int) ∧ (0 : Int) ≤ (8 :
  Int) ∧ (8 : Int) ≤ (↑b.length : Int)) (End.ite (!(getHeadF (List.take (8 : Nat) (List.drop (0 : Nat) b))).snd) (End.leaf (LV.tup [VV.agg [SV.int
  IntKind.i64 (SI.sym (0 : Int)), SV.int IntKind.i64 (SI.sym (0 : Int)), SV.int IntKind.u64 (SI.sym (0 : Int)), SV.int IntKind.u64 (SI.sym (0 : Int)),
  SV.int IntKind.i64 (SI.sym (0 : Int)), SV.arr (Ty.int IntKind.u8) (64 : Nat) (List.replicate (64 : Nat) (0 : Int)), SV.arr (Ty.int IntKind.u8) (64 :
  Nat) (List.replicate (64 : Nat) (0 : Int)), SV.arr (Ty.int IntKind.u8) (64 : Nat) (List.replicate (64 : Nat) (0 : Int))], VV.sc (SV.int IntKind.i64
  (SI.sym (6 : Int)))]) []) (End.ite (decide ((↑ks.length : Int) ≤ (getHeadF (List.take (8 : Nat) (List.drop (0 : Nat) b))).fst.fst)) (End.leaf (LV.tup
  [VV.agg [SV.int IntKind.i64 (SI.sym (0 : Int)), SV.int IntKind.i64 (SI.sym (0 : Int)), SV.int IntKind.u64 (SI.sym (0 : Int)), SV.int IntKind.u64
  (SI.sym (0 : Int)), SV.int IntKind.i64 (SI.sym (0 : Int)), SV.arr (Ty.int IntKind.u8) (64 : Nat) (List.replicate (64 : Nat) (0 : Int)), SV.arr (Ty.int
  IntKind.u8) (64 : Nat) (List.replicate (64 : Nat) (0 : Int)), SV.arr (Ty.int IntKind.u8) (64 : Nat) (List.replicate (64 : Nat) (0 : Int))], VV.sc
  (SV.int IntKind.i64 (SI.sym (15 : Int)))]) []) (End.need ((0 : Int) ≤ (160 : Int) ∧ (160 : Int) ≤ (↑b.length : Int) ∧ (↑b.length : Int) ≤ (↑b.length :
  Int)) (End.need ((64 : Nat) ≤ (List.take ((↑b.length : Int) - (160 : Int)).toNat (List.drop (160 : Nat) b)).length) (End.need ((64 : Nat) ≤ (List.take
  ((↑b.length : Int) - (160 : Int)).toNat (List.drop (160 : Nat) b)).length) (End.need ((0 : Int) ≤ (getHeadF (List.take (8 : Nat) (List.drop (0 : Nat)
  b))).fst.fst ∧ (getHeadF (List.take (8 : Nat) (List.drop (0 : Nat) b))).fst.fst < (↑ks.length : Int)) (End.need (b.length < (1152921504606846976 :
  Nat)) (End.need (List.length (ks.getD (getHeadF (List.take (8 : Nat) (List.drop (0 : Nat) b))).fst.fst.toNat (List.replicate (32 : Nat) (0 : Int))) =
  (32 : Nat) ∧ (64 : Nat) = (64 : Nat) ∧ (List.take (64 : Nat) (List.drop (0 : Nat) (List.take ((↑b.length : Int) - (160 : Int)).toNat (List.drop (160 :
  Nat) b)))).length = (64 : Nat) ∧ AllBy (List.take (64 : Nat) (List.drop (0 : Nat) (List.take ((↑b.length : Int) - (160 : Int)).toNat (List.drop (160 :
  Nat) b))))) (End.ite (!ver (ks.getD (getHeadF (List.take (8 : Nat) (List.drop (0 : Nat) b))).fst.fst.toNat (List.replicate (32 : Nat) (0 : Int))) [(98
  : Int), (111 : Int), (111 : Int), (116 : Int), (106 : Int), (97 : Int), (99 : Int), (107 : Int)] (signedF b) (List.take (64 : Nat) (List.drop (0 : Nat)
  (List.take ((↑b.length : Int) - (160 : Int)).toNat (List.drop (160 : Nat) b))))) (End.leaf (LV.tup [VV.agg [SV.int IntKind.i64 (SI.sym (0 : Int)),
  SV.int IntKind.i64 (SI.sym (0 : Int)), SV.int IntKind.u64 (SI.sym (0 : Int)), SV.int IntKind.u64 (SI.sym (0 : Int)), SV.int IntKind.i64 (SI.sym (0 :
  Int)), SV.arr (Ty.int IntKind.u8) (64 : Nat) (List.replicate (64 : Nat) (0 : Int)), SV.arr (Ty.int IntKind.u8) (64 : Nat) (List.replicate (64 : Nat) (0
  : Int)), SV.arr (Ty.int IntKind.u8) (64 : Nat) (List.replicate (64 : Nat) (0 : Int))], VV.sc (SV.int IntKind.i64 (SI.sym (8 : Int)))]) []) (End.need
  ((0 : Int) ≤ (8 : Int) ∧ (8 : Int) ≤ (160 : Int) ∧ (160 : Int) ≤ (↑b.length : Int)) (End.need (AllBy (List.take (152 : Nat) (List.drop (8 : Nat) b)))
  (End.ite (!(getF (List.take (152 : Nat) (List.drop (8 : Nat) b))).snd) (End.leaf (LV.tup [VV.agg [SV.int IntKind.i64 (SI.sym (0 : Int)), SV.int
  IntKind.i64 (SI.sym (0 : Int)), SV.int IntKind.u64 (SI.sym (0 : Int)), SV.int IntKind.u64 (SI.sym (0 : Int)), SV.int IntKind.i64 (SI.sym (0 : Int)),
  SV.arr (Ty.int IntKind.u8) (64 : Nat) (List.replicate (64 : Nat) (0 : Int)), SV.arr (Ty.int IntKind.u8) (64 : Nat) (List.replicate (64 : Nat) (0 :
  Int)), SV.arr (Ty.int IntKind.u8) (64 : Nat) (List.replicate (64 : Nat) (0 : Int))], VV.sc (SV.int IntKind.i64 (SI.sym (6 : Int)))]) []) (End.leaf
  (LV.tup [VV.agg [SV.int IntKind.i64 (SI.sym (getHeadF (List.take (8 : Nat) (List.drop (0 : Nat) b))).fst.fst), SV.int IntKind.i64 (SI.sym (getHeadF
  (List.take (8 : Nat) (List.drop (0 : Nat) b))).fst.snd), SV.int IntKind.u64 (SI.sym (getF (List.take (152 : Nat) (List.drop (8 : Nat) b))).fst.ver),
  SV.int IntKind.u64 (SI.sym (getF (List.take (152 : Nat) (List.drop (8 : Nat) b))).fst.flo), SV.int IntKind.i64 (SI.sym (getF (List.take (152 : Nat)
  (List.drop (8 : Nat) b))).fst.len), SV.arr (Ty.int IntKind.u8) (64 : Nat) (getF (List.take (152 : Nat) (List.drop (8 : Nat) b))).fst.list, SV.arr
  (Ty.int IntKind.u8) (64 : Nat) (getF (List.take (152 : Nat) (List.drop (8 : Nat) b))).fst.plain, SV.arr (Ty.int IntKind.u8) (64 : Nat) (List.take (64 :
  Nat) (List.drop (0 : Nat) (List.take ((↑b.length : Int) - (160 : Int)).toNat (List.drop (160 : Nat) b))))], VV.sc (SV.int IntKind.i64 (SI.sym (0 :
  Int)))]) [])))))))))))))) := by kernel_rfl
theorem check_sat {ver : List Int → List Int → List Int → List Int → Bool} {ks : List (List Int)} {b : List Int} (hb : AllBy b) (hl : b.length < 1152921504606846976) (hk : okKs ks) :
    ∃ t_ : Ev.End, fnT Tryz.prog [(50, getHeadE), (15, eVe ver), (23, ctxE), (24, signedE), (51, getE)] [] Tryz.f18 (ckA.wr (ks, b, ())) [] [.fr [.sym], .auto] = t_ ∧ t_.sat fun v hp' => v = labV (checkF ver ks b) ∧ hp' = [] := by
  refine ⟨_, check_tree0 .., ?_⟩
  have e0 : List.drop 0 b = b := rfl
  rw [e0]
  refine ⟨fun h => ?_, fun h => ?_⟩
  · have hn : ¬ (b.length = 224 ∧ (getHeadF (b.take 8)).2 = true) := fun ⟨h', _⟩ => by rw [h'] at h; simp at h
    exact ⟨lab_eq (r := (lab0, 6)) (by unfold checkF; rw [if_neg hn]), rfl⟩
  have hl' : b.length = 224 := by have : ((b.length : Int) != 224) = false := h
                                  simp at this; omega
  have e1 : List.take ((b.length : Int) - 160).toNat (List.drop 160 b) = b.drop 160 := List.take_of_length_le (by rw [List.length_drop]; omega)
  have e2 : List.take 64 (List.drop 0 (b.drop 160)) = b.drop 160 := by rw [List.drop_zero]; exact List.take_of_length_le (by rw [List.length_drop]; omega)
  have l1 : (b.drop 160).length = 64 := by rw [List.length_drop, hl']
  rw [e1, e2]
  obtain ⟨k1, k2⟩ := getHead_key (l := b.take 8)
  have by1 := hb.drop 160
  have by2 : AllBy (List.take 152 (List.drop 8 b)) := (hb.drop 8).take 152
  refine ⟨by omega, fun h1 => ?_, fun h1 => ?_⟩
  · have hn : ¬ (b.length = 224 ∧ (getHeadF (b.take 8)).2 = true) := fun ⟨_, h'⟩ => by rw [h'] at h1; simp at h1
    exact ⟨lab_eq (r := (lab0, 6)) (by unfold checkF; rw [if_neg hn]), rfl⟩
  have hp : b.length = 224 ∧ (getHeadF (b.take 8)).2 = true := ⟨hl', by simpa using h1⟩
  refine ⟨fun h2 => ?_, fun h2 => ?_⟩
  · have h2 := of_decide_eq_true h2
    exact ⟨lab_eq (r := (lab0, 15)) (by unfold checkF; rw [if_pos hp, if_pos h2]), rfl⟩
  have h2 := of_decide_eq_false h2
  refine ⟨by omega, by omega, by omega, by omega, by omega, ⟨hk _ (by omega), rfl, l1, by1⟩, fun h3 => ?_, fun h3 => ?_⟩
  · have h3 : ¬ ver (ks.getD (getHeadF (b.take 8)).1.1.toNat k0) ctxL (signedF b) (b.drop 160) = true := fun h' => by
      have h3' : (!ver (ks.getD (getHeadF (b.take 8)).1.1.toNat k0) ctxL (signedF b) (b.drop 160)) = true := h3
      rw [h'] at h3'; cases h3'
    exact ⟨lab_eq (r := (lab0, 8)) (by unfold checkF; rw [if_pos hp, if_neg h2, if_neg h3]), rfl⟩
  have h3' : ver (ks.getD (getHeadF (b.take 8)).1.1.toNat k0) ctxL (signedF b) (b.drop 160) = true := by
    have h3' : (!ver (ks.getD (getHeadF (b.take 8)).1.1.toNat k0) ctxL (signedF b) (b.drop 160)) = false := h3
    simpa using h3'
  refine ⟨by omega, by2, fun h4 => ?_, fun h4 => ?_⟩
  · have h4 : ¬ (getF ((b.drop 8).take 152)).2 = true := fun h' => by rw [h'] at h4; cases h4
    exact ⟨lab_eq (r := (lab0, 6)) (by unfold checkF; rw [if_pos hp, if_neg h2, if_pos h3', if_neg h4]), rfl⟩
  · have h4 : (getF ((b.drop 8).take 152)).2 = true := by simpa using h4
    exact ⟨lab_eq (r := (labOf b, 0)) (by unfold checkF; rw [if_pos hp, if_neg h2, if_pos h3', if_pos h4]), rfl⟩
theorem check_ok : (eCk (checkF verL)).Ok Tryz.prog 18 := by
  refine (Ent.ofOk Tryz.call18 fun x_ y_ Q h => ?_).sym
  obtain ⟨ks, b, _⟩ := x_
  obtain ⟨hn, hq⟩ := h
  have hc : CallsT Tryz.prog 18 (ckA.wr (ks, b, ())) [] (fnT Tryz.prog [(50, getHeadE), (15, eVe verL), (23, ctxE), (24, signedE), (51, getE)] [] Tryz.f18 (ckA.wr (ks, b, ())) [] [.fr [.sym], .auto]) := fnT_ok mixed (tabC getHead_ok (tabC verify_ok (tabC ctx_ok (tabC signed_ok (tabC get_ok tab0))))) Tryz.func18 rfl (LOk.nil _)
  obtain ⟨t, ht, hs⟩ := check_sat (ver := verL) hn.1 hn.2.1 hn.2.2
  rw [ht] at hc
  exact hc.use (D := []) hs hq
end Go.Proofs.YthdfifcgobfgdaaGreat
end

section
set_option linter.unusedVariables false
set_option linter.unusedSimpArgs false
namespace Go.Proofs.YthdfifcgobfgdaaGreat
open Go Go.Ev BJ
set_option maxRecDepth 1000000
abbrev iA24 : Cod (List LV) (Int × Unit) := lCons (vOne (sInt .i64)) lNil
noncomputable def num24E : Ent := Ent.ofS [] (iA24) (lNil) fun x_ y_ => (fun (x : Int) => .leaf none (nI x) []) x_.1
theorem num24_tree (x : Int) : fnT Tryz.prog [] [] Tryz.f20 ((iA24).wr (x, ())) ((lNil).wr ()) [.fr [.sym], .auto] = .leaf (nI x) ([]) := by kernel_rfl
theorem num24_ok : num24E.Ok Tryz.prog 20 := by
  refine (Ent.ofOk Tryz.call20 fun x_ y_ Q H_ => ?_).sym
  obtain ⟨x, _⟩ := x_
  have hq := H_.2
  refine (fnT_ok mixed tab0 Tryz.func20 rfl (LT := []) (ks := [.fr [.sym], .auto]) (LOk.nil _)).use (D := []) ?_ hq
  show (fnT _ _ _ _ ((iA24).wr (x, ())) ((lNil).wr ()) _).sat _
  rw [num24_tree]
  exact ⟨rfl, rfl⟩
theorem fill_all {α : Type} (c : α) {n : Nat} {o : List α} (h : o.length = n) : upto (fun k (o : List α) => o.set k c) 0 n o = List.replicate n c := by
  have key : ∀ k, k ≤ n → upto (fun k (o : List α) => o.set k c) 0 k o = List.replicate k c ++ o.drop k := by
    intro k
    induction k with
    | zero => intro _; rfl
    | succ k ih =>
      intro hk
      rw [upto_succ, ih (by omega), Nat.zero_add, List.set_append_right _ _ (by simp), List.length_replicate, Nat.sub_self, List.drop_eq_getElem_cons (by omega : k < o.length), List.set_cons_zero, List.replicate_succ', List.append_assoc]
      rfl
  rw [key n (Nat.le_refl n), List.drop_eq_nil_of_le (by omega), List.append_nil]
end Go.Proofs.YthdfifcgobfgdaaGreat
end

section
set_option linter.unusedVariables false
set_option linter.unusedSimpArgs false
namespace Go.Proofs.YthdfifcgobfgdaaGreat
open Go Go.Ev BJ
set_option maxRecDepth 1000000
theorem headF_some {a b : Int} (h : (headF a b).length ≠ 0) : 0 ≤ a ∧ a < 8 ∧ 1 ≤ b ∧ b ≤ 16 ∧ headF a b = [66, 74, 75, 49, a, b, 0, 0] := by
  unfold headF at *
  split at h
  · rename_i hh; exact ⟨hh.1, hh.2.1, hh.2.2.1, hh.2.2.2, by rw [if_pos hh]⟩
  · exact absurd rfl h
theorem getHead_head {a b : Int} (h : (headF a b).length ≠ 0) : getHeadF (headF a b) = ((a, b), true) := by
  obtain ⟨h1, h2, h3, h4, e⟩ := headF_some h
  have e4 : (headF a b).getD 4 0 = a := by rw [e]; rfl
  have e5 : (headF a b).getD 5 0 = b := by rw [e]; rfl
  have w4 : IntKind.i64.wrap a = a := wrap_ok (by omega) (by omega)
  have w5 : IntKind.i64.wrap b = b := wrap_ok (by omega) (by omega)
  unfold getHeadF
  rw [e4, e5, w4, w5, if_pos ⟨by rw [e]; rfl, strEq_self _⟩]
end Go.Proofs.YthdfifcgobfgdaaGreat
end

section
set_option linter.unusedVariables false
set_option linter.unusedSimpArgs false
namespace Go.Proofs.YthdfifcgobfgdaaGreat
open Go Go.Ev BJ
set_option maxRecDepth 1000000
abbrev cFn : Cod LV Fn := vAgg (vecL .i64 16)
abbrev fnA : Cod (List LV) (Fn × Unit) := lCons cFn lNil
abbrev fn2A : Cod (List LV) (Fn × Fn × Unit) := lCons cFn (lCons cFn lNil)
abbrev nPN (r : Fn × Bool) : LV := .tup [.agg ((vecL .i64 16).wr r.1), .sc (.bool (.sym r.2))]
def e0N (c : Fn) : Ent := Ent.ofS [] lNil lNil fun _ _ => .leaf none (cFn.wr c) []
def e1N (g : Fn → Fn) : Ent := Ent.ofS [] fnA lNil fun x _ => .leaf none (cFn.wr (g x.1)) []
def e2N (g : Fn → Fn → Fn) : Ent := Ent.ofS [] fn2A lNil fun x _ => .leaf none (cFn.wr (g x.1 x.2.1)) []
def e1NB (g : Fn → Bool) : Ent := Ent.ofS [] fnA lNil fun x _ => .leaf none (nB (g x.1)) []
def e2NB (g : Fn → Fn → Bool) : Ent := Ent.ofS [] fn2A lNil fun x _ => .leaf none (nB (g x.1 x.2.1)) []
def e1NP (g : Fn → Fn × Bool) : Ent := Ent.ofS [] fnA lNil fun x _ => .leaf none (nPN (g x.1)) []
def e2NP (g : Fn → Fn → Fn × Bool) : Ent := Ent.ofS [] fn2A lNil fun x _ => .leaf none (nPN (g x.1 x.2.1)) []
def eNF (g : List Int → Fn) : Ent := Ent.ofS [] bA32 lNil fun x _ => .leaf none (cFn.wr (g x.1)) []
def eNS (g : Int → Fn) : Ent := Ent.ofS [] u64A lNil fun x _ => .leaf none (cFn.wr (g x.1)) []
def eNY (g : Fn → List Int) : Ent := Ent.ofS [] fnA lNil fun x _ => .leaf none (nRow .u8 32 (g x.1)) []
def eNC (g : List Int → Bool) : Ent := Ent.ofS [] bA32 lNil fun x _ => .leaf (some (x.1.length = 32)) (nB (g x.1)) []
noncomputable abbrev nprimeE : Ent := e0N prime9
theorem nprime_tree   : fnT Tryz.prog [] [] Tryz.f153 ((lNil).wr ()) [] kK = .leaf (cFn.wr prime9) [] := by kernel_rfl
theorem nprime_tab_ : ∀ p_ ∈ ([] : List (FuncId × Ent)), p_.2.Ok Tryz.prog p_.1 := tab0
theorem nprime_ok : nprimeE.Ok Tryz.prog 153 := by
  refine (Ent.ofOk Tryz.call153 fun x_ y_ Q H_ => ?_).sym
  have hq := H_.2
  refine (fnT_ok (tab := []) mixed nprime_tab_ Tryz.func153 rfl (LT := []) (ks := kK) (LOk.nil _)).use (D := []) ?_ hq
  show (fnT _ _ _ _ ((lNil).wr ()) [] _).sat _
  rw [nprime_tree ]
  exact ⟨rfl, rfl⟩
def belowTree (a b : Fn) : Nat → Ev.End
  | 0 => .leaf (nB false) []
  | k + 1 => .ite (a.get k != b.get k) (.leaf (nB (decide (a.get k < b.get k))) []) (belowTree a b k)
theorem below_sat (a b : Fn) : ∀ k, (belowTree a b k).sat fun v hp' => v = nB (belowAt a b k) ∧ hp' = []
  | 0 => ⟨rfl, rfl⟩
  | k + 1 => by
    refine ⟨fun h => ⟨?_, rfl⟩, fun h => ?_⟩
    · rw [belowAt, h]; rfl
    · rw [belowAt, h]; exact below_sat a b k
noncomputable abbrev nbelowE : Ent := e2NB below9C
theorem nbelow_tree  (a b : Fn) : fnT Tryz.prog [] [] Tryz.f152 ((fn2A).wr (a, b, ())) [] kK = belowTree a b 16 := by kernel_rfl
theorem nbelow_tab_ : ∀ p_ ∈ ([] : List (FuncId × Ent)), p_.2.Ok Tryz.prog p_.1 := tab0
theorem nbelow_ok : nbelowE.Ok Tryz.prog 152 := by
  refine (Ent.ofOk Tryz.call152 fun x_ y_ Q H_ => ?_).sym
  obtain ⟨a, b, _⟩ := x_
  have hq := H_.2
  refine (fnT_ok (tab := []) mixed nbelow_tab_ Tryz.func152 rfl (LT := []) (ks := kK) (LOk.nil _)).use (D := []) ?_ hq
  show (fnT _ _ _ _ ((fn2A).wr (a, b, ())) [] _).sat _
  rw [nbelow_tree ]
  exact below_sat a b 16
noncomputable def normR (t : Fn) : Fn := pass9 (fold9 (pass9 (fold9 (pass9 (fold9 (pass9 (fold9 (pass9 t))))))))
theorem selN_sat {b : Bool} {u v x : Fn} (h : x = selN b u v) : (Ev.End.ite b (.leaf (cFn.wr u) []) (.leaf (cFn.wr v) [])).sat fun v hp' => v = cFn.wr x ∧ hp' = [] := by
  subst h
  rw [selN_eq]
  cases b
  · exact ⟨fun h => (by cases h), fun _ => ⟨rfl, rfl⟩⟩
  · exact ⟨fun _ => ⟨rfl, rfl⟩, fun h => (by cases h)⟩
theorem leafN {u x : Fn} (h : x = u) : (Ev.End.leaf (cFn.wr u) []).sat fun v hp' => v = cFn.wr x ∧ hp' = [] := by subst h; exact ⟨rfl, rfl⟩
theorem norm_eq (t : Fn) : normC t = selN (!(below9C (normR t) prime9)) (pass9 (Vec.zip (fun a b => w (a - b)) (normR t) prime9)) (normR t) := by unfold normC norm9; rfl
noncomputable abbrev nnormE : Ent := e1N normC
theorem nnorm_tree (p : Fn) (bel : Fn → Fn → Bool) (t : Fn) : fnT Tryz.prog [(153, e0N p), (152, e2NB bel)] [] Tryz.f130 ((fnA).wr (t, ())) [] kK = .ite (!(bel (normR t) p)) (.leaf (cFn.wr (pass9 (Vec.zip (fun a b => w (a - b)) (normR t) p))) []) (.leaf (cFn.wr (normR t)) []) := by kernel_rfl
theorem nnorm_tab_ : ∀ p_ ∈ ([(153, e0N prime9), (152, e2NB below9C)] : List (FuncId × Ent)), p_.2.Ok Tryz.prog p_.1 := (tabC nprime_ok (tabC nbelow_ok tab0))
theorem nnorm_ok : nnormE.Ok Tryz.prog 130 := by
  refine (Ent.ofOk Tryz.call130 fun x_ y_ Q H_ => ?_).sym
  obtain ⟨t, _⟩ := x_
  have hq := H_.2
  refine (fnT_ok (tab := [(153, e0N prime9), (152, e2NB below9C)]) mixed nnorm_tab_ Tryz.func130 rfl (LT := []) (ks := kK) (LOk.nil _)).use (D := []) ?_ hq
  show (fnT _ _ _ _ ((fnA).wr (t, ())) [] _).sat _
  rw [nnorm_tree prime9 below9C]
  exact selN_sat (norm_eq t)
noncomputable def from9L (b : List Int) : Fn := from9C (v32 b)
theorem from9L_eq (b : List Int) : from9L b = from9 normC (v32 b) := by unfold from9L from9C; rfl
noncomputable abbrev nfromE : Ent := eNF from9L
theorem nfrom_tree (norm : Fn → Fn) (b : List Int) : fnT Tryz.prog [(130, e1N norm)] [] Tryz.f104 ((bA32).wr (b, ())) [] kK = .leaf (cFn.wr (from9 norm (v32 b))) [] := by kernel_rfl
theorem nfrom_tab_ : ∀ p_ ∈ ([(130, e1N normC)] : List (FuncId × Ent)), p_.2.Ok Tryz.prog p_.1 := (tabC nnorm_ok tab0)
theorem nfrom_ok : nfromE.Ok Tryz.prog 104 := by
  refine (Ent.ofOk Tryz.call104 fun x_ y_ Q H_ => ?_).sym
  obtain ⟨b, _⟩ := x_
  have hq := H_.2
  refine (fnT_ok (tab := [(130, e1N normC)]) mixed nfrom_tab_ Tryz.func104 rfl (LT := []) (ks := kK) (LOk.nil _)).use (D := []) ?_ hq
  show (fnT _ _ _ _ ((bA32).wr (b, ())) [] _).sat _
  rw [nfrom_tree normC]
  exact leafN (from9L_eq b)
noncomputable abbrev nsmallE : Ent := eNS small9
theorem nsmall_tree  (n : Int) : fnT Tryz.prog [] [] Tryz.f86 ((u64A).wr (n, ())) [] kK = .leaf (cFn.wr (small9 n)) [] := by kernel_rfl
theorem nsmall_tab_ : ∀ p_ ∈ ([] : List (FuncId × Ent)), p_.2.Ok Tryz.prog p_.1 := tab0
theorem nsmall_ok : nsmallE.Ok Tryz.prog 86 := by
  refine (Ent.ofOk Tryz.call86 fun x_ y_ Q H_ => ?_).sym
  obtain ⟨n, _⟩ := x_
  have hq := H_.2
  refine (fnT_ok (tab := []) mixed nsmall_tab_ Tryz.func86 rfl (LT := []) (ks := kK) (LOk.nil _)).use (D := []) ?_ hq
  show (fnT _ _ _ _ ((u64A).wr (n, ())) [] _).sat _
  rw [nsmall_tree ]
  exact ⟨rfl, rfl⟩
noncomputable def bytes9L (x : Fn) : List Int := (bytes9 x).toList
noncomputable abbrev nbytesE : Ent := eNY bytes9L
theorem nbytes_tree  (x : Fn) : fnT Tryz.prog [] [] Tryz.f78 ((fnA).wr (x, ())) [] kR = .leaf (nRow .u8 32 (bytes9 x).toList) [] := by kernel_rfl
theorem nbytes_tab_ : ∀ p_ ∈ ([] : List (FuncId × Ent)), p_.2.Ok Tryz.prog p_.1 := tab0
theorem nbytes_ok : nbytesE.Ok Tryz.prog 78 := by
  refine (Ent.ofOk Tryz.call78 fun x_ y_ Q H_ => ?_).sym
  obtain ⟨x, _⟩ := x_
  have hq := H_.2
  refine (fnT_ok (tab := []) mixed nbytes_tab_ Tryz.func78 rfl (LT := []) (ks := kR) (LOk.nil _)).use (D := []) ?_ hq
  show (fnT _ _ _ _ ((fnA).wr (x, ())) [] _).sat _
  rw [nbytes_tree ]
  exact ⟨rfl, rfl⟩
noncomputable def canonical9L (b : List Int) : Bool := canonical9C (v32 b)
noncomputable abbrev ncanonE : Ent := eNC canonical9L
theorem ncanon_tree (frm : List Int → Fn) (bytes : Fn → List Int) (b : List Int) : fnT Tryz.prog [(104, eNF frm), (78, eNY bytes)] [] Tryz.f103 ((bA32).wr (b, ())) [] kK = .leaf (nB (decide (bytes (frm (b.set 31 (bitAnd .u8 (b.getD 31 0) 127))) = b.set 31 (bitAnd .u8 (b.getD 31 0) 127)))) [] := by kernel_rfl
theorem ncanon_tab_ : ∀ p_ ∈ ([(104, eNF from9L), (78, eNY bytes9L)] : List (FuncId × Ent)), p_.2.Ok Tryz.prog p_.1 := (tabC nfrom_ok (tabC nbytes_ok tab0))
theorem ncanon_ok : ncanonE.Ok Tryz.prog 103 := by
  refine (Ent.ofOk Tryz.call103 fun x_ y_ Q H_ => ?_).sym
  obtain ⟨b, _⟩ := x_
  obtain ⟨hn, hq⟩ := H_
  have hn : b.length = 32 := hn
  refine (fnT_ok (tab := [(104, eNF from9L), (78, eNY bytes9L)]) mixed ncanon_tab_ Tryz.func103 rfl (LT := []) (ks := kK) (LOk.nil _)).use (D := []) ?_ hq
  show (fnT _ _ _ _ ((bA32).wr (b, ())) [] _).sat _
  rw [ncanon_tree from9L bytes9L]
  have e := v32_set hn (k := 31) (by omega) (fun x => bitAnd .u8 x 127)
  unfold from9L bytes9L canonical9L
  rw [e]
  rw [show b.set 31 (bitAnd .u8 (b.getD 31 0) 127) = (v32 (b.set 31 (bitAnd .u8 (b.getD 31 0) 127))).toList from (v32_toList (by simpa using hn)).symm, eqV_dec, e]
  exact ⟨rfl, rfl⟩
theorem nadd_eq (x y : Fn) : add9C x y = add9 normC x y := by unfold add9C; rfl
noncomputable abbrev naddE : Ent := e2N add9C
theorem nadd_tree (norm : Fn → Fn) (x y : Fn) : fnT Tryz.prog [(130, e1N norm)] [] Tryz.f81 ((fn2A).wr (x, y, ())) [] kK = .leaf (cFn.wr (add9 norm x y)) [] := by kernel_rfl
theorem nadd_tab_ : ∀ p_ ∈ ([(130, e1N normC)] : List (FuncId × Ent)), p_.2.Ok Tryz.prog p_.1 := (tabC nnorm_ok tab0)
theorem nadd_ok : naddE.Ok Tryz.prog 81 := by
  refine (Ent.ofOk Tryz.call81 fun x_ y_ Q H_ => ?_).sym
  obtain ⟨x, y, _⟩ := x_
  have hq := H_.2
  refine (fnT_ok (tab := [(130, e1N normC)]) mixed nadd_tab_ Tryz.func81 rfl (LT := []) (ks := kK) (LOk.nil _)).use (D := []) ?_ hq
  show (fnT _ _ _ _ ((fn2A).wr (x, y, ())) [] _).sat _
  rw [nadd_tree normC]
  exact leafN (nadd_eq x y)
theorem nsub_eq (x y : Fn) : sub9C x y = sub9 prime9 normC x y := by unfold sub9C; rfl
noncomputable abbrev nsubE : Ent := e2N sub9C
theorem nsub_tree (p : Fn) (norm : Fn → Fn) (x y : Fn) : fnT Tryz.prog [(153, e0N p), (130, e1N norm)] [] Tryz.f131 ((fn2A).wr (x, y, ())) [] kK = .leaf (cFn.wr (sub9 p norm x y)) [] := by kernel_rfl
theorem nsub_tab_ : ∀ p_ ∈ ([(153, e0N prime9), (130, e1N normC)] : List (FuncId × Ent)), p_.2.Ok Tryz.prog p_.1 := (tabC nprime_ok (tabC nnorm_ok tab0))
theorem nsub_ok : nsubE.Ok Tryz.prog 131 := by
  refine (Ent.ofOk Tryz.call131 fun x_ y_ Q H_ => ?_).sym
  obtain ⟨x, y, _⟩ := x_
  have hq := H_.2
  refine (fnT_ok (tab := [(153, e0N prime9), (130, e1N normC)]) mixed nsub_tab_ Tryz.func131 rfl (LT := []) (ks := kK) (LOk.nil _)).use (D := []) ?_ hq
  show (fnT _ _ _ _ ((fn2A).wr (x, y, ())) [] _).sat _
  rw [nsub_tree prime9 normC]
  exact leafN (nsub_eq x y)
theorem nmul_eq (x y : Fn) : mul9C x y = mul9 normC x y := by unfold mul9C; rfl
noncomputable abbrev nmulE : Ent := e2N mul9C
theorem nmul_tree (norm : Fn → Fn) (x y : Fn) : fnT Tryz.prog [(130, e1N norm)] [] Tryz.f79 ((fn2A).wr (x, y, ())) [] kK = .leaf (cFn.wr (mul9 norm x y)) [] := by kernel_rfl
theorem nmul_tab_ : ∀ p_ ∈ ([(130, e1N normC)] : List (FuncId × Ent)), p_.2.Ok Tryz.prog p_.1 := (tabC nnorm_ok tab0)
theorem nmul_ok : nmulE.Ok Tryz.prog 79 := by
  refine (Ent.ofOk Tryz.call79 fun x_ y_ Q H_ => ?_).sym
  obtain ⟨x, y, _⟩ := x_
  have hq := H_.2
  refine (fnT_ok (tab := [(130, e1N normC)]) mixed nmul_tab_ Tryz.func79 rfl (LT := []) (ks := kK) (LOk.nil _)).use (D := []) ?_ hq
  show (fnT _ _ _ _ ((fn2A).wr (x, y, ())) [] _).sat _
  rw [nmul_tree normC]
  exact leafN (nmul_eq x y)
theorem nneg_eq (x : Fn) : neg9C x = sub9C zero9 x := by unfold neg9C; rfl
noncomputable abbrev nnegE : Ent := e1N neg9C
theorem nneg_tree (sub : Fn → Fn → Fn) (x : Fn) : fnT Tryz.prog [(131, e2N sub)] [] Tryz.f105 ((fnA).wr (x, ())) [] kK = .leaf (cFn.wr (sub zero9 x)) [] := by kernel_rfl
theorem nneg_tab_ : ∀ p_ ∈ ([(131, e2N sub9C)] : List (FuncId × Ent)), p_.2.Ok Tryz.prog p_.1 := (tabC nsub_ok tab0)
theorem nneg_ok : nnegE.Ok Tryz.prog 105 := by
  refine (Ent.ofOk Tryz.call105 fun x_ y_ Q H_ => ?_).sym
  obtain ⟨x, _⟩ := x_
  have hq := H_.2
  refine (fnT_ok (tab := [(131, e2N sub9C)]) mixed nneg_tab_ Tryz.func105 rfl (LT := []) (ks := kK) (LOk.nil _)).use (D := []) ?_ hq
  show (fnT _ _ _ _ ((fnA).wr (x, ())) [] _).sat _
  rw [nneg_tree sub9C]
  exact leafN (nneg_eq x)
noncomputable abbrev noddE : Ent := e1NB odd9
theorem nodd_tree  (x : Fn) : fnT Tryz.prog [] [] Tryz.f80 ((fnA).wr (x, ())) [] kK = .leaf (nB (odd9 x)) [] := by kernel_rfl
theorem nodd_tab_ : ∀ p_ ∈ ([] : List (FuncId × Ent)), p_.2.Ok Tryz.prog p_.1 := tab0
theorem nodd_ok : noddE.Ok Tryz.prog 80 := by
  refine (Ent.ofOk Tryz.call80 fun x_ y_ Q H_ => ?_).sym
  obtain ⟨x, _⟩ := x_
  have hq := H_.2
  refine (fnT_ok (tab := []) mixed nodd_tab_ Tryz.func80 rfl (LT := []) (ks := kK) (LOk.nil _)).use (D := []) ?_ hq
  show (fnT _ _ _ _ ((fnA).wr (x, ())) [] _).sat _
  rw [nodd_tree ]
  exact ⟨rfl, rfl⟩
end Go.Proofs.YthdfifcgobfgdaaGreat
end

section
set_option linter.unusedVariables false
set_option linter.unusedSimpArgs false
namespace Go.Proofs.YthdfifcgobfgdaaGreat
open Go Go.Ev BJ
set_option maxRecDepth 1000000
noncomputable def bit9L (a : List Int) (i : Int) : Int := bitFn9 (v32 a) i.toNat
noncomputable def nbitE : Ent := Ent.ofS [] (biA) (lNil) fun x_ y_ => (fun (a : List Int) (i : Int) => .leaf (some (a.length = 32 ∧ 0 ≤ i ∧ i < 256)) (nI (bit9L a i)) []) x_.1 x_.2.1
theorem nbit_tree (a : List Int) (i : Int) : fnT Tryz.prog [] [] Tryz.f85 ((biA).wr (a, i, ())) ((lNil).wr ()) [.fr [.sym], .auto] =
  End.ite (decide (i < (0 : Int)) == false) (End.ite (decide ((255 : Int) < i)) (End.leaf (LV.one (VV.sc (SV.int IntKind.i64 (SI.sym (0 : Int))))) [])
  (End.need ((0 : Int) ≤ IntKind.i64.wrap (i.tdiv (8 : Int)) ∧ IntKind.i64.wrap (i.tdiv (8 : Int)) < (32 : Int)) (End.need ((0 : Int) ≤ IntKind.u64.wrap
  (i.tmod (8 : Int))) (End.leaf (LV.one (VV.sc (SV.int IntKind.i64 (SI.sym (bitAnd IntKind.i64 (IntKind.i64.wrap (shr IntKind.u8 ((List.take (32 : Nat)
  (List.drop (0 : Nat) a)).getD (IntKind.i64.wrap (i.tdiv (8 : Int))).toNat (0 : Int)) (IntKind.u64.wrap (i.tmod (8 : Int))))) (1 : Int)))))) []))))
  (End.leaf (LV.one (VV.sc (SV.int IntKind.i64 (SI.sym (0 : Int))))) []) := by kernel_rfl
theorem nbit_ok : nbitE.Ok Tryz.prog 85 := by
  refine (Ent.ofOk Tryz.call85 fun x_ y_ Q H_ => ?_).sym
  obtain ⟨a, i, _⟩ := x_
  obtain ⟨hn, hq⟩ := H_
  have hn : a.length = 32 ∧ 0 ≤ i ∧ i < 256 := hn
  refine (fnT_ok mixed tab0 Tryz.func85 rfl (LT := []) (ks := [.fr [.sym], .auto]) (LOk.nil _)).use (D := []) ?_ hq
  show (fnT _ _ _ _ ((biA).wr (a, i, ())) ((lNil).wr ()) _).sat _
  rw [nbit_tree]
  obtain ⟨ha, h0, h1⟩ := hn
  obtain ⟨k, rfl⟩ := Int.eq_ofNat_of_zero_le h0
  have hk : k < 256 := by omega
  have e1 : IntKind.i64.wrap ((k : Int).tdiv 8) = ((k / 8 : Nat) : Int) := tdiv_nat k 8 (by omega)
  have e2 : IntKind.u64.wrap ((k : Int).tmod 8) = ((k % 8 : Nat) : Int) := by rw [show (k : Int).tmod 8 = ((k % 8 : Nat) : Int) from tmod_nat k 8, wrap_u64 (by omega) (by omega)]
  have e : bit9L a (k : Int) = bitAnd .i64 (IntKind.i64.wrap (shr .u8 (a.getD (k / 8) 0) ((k % 8 : Nat) : Int))) 1 := by
    unfold bit9L bitFn9
    rw [Int.toNat_natCast, v32_get a (show k / 8 < 32 by omega)]
  rw [e1, e2, take_all ha, Int.toNat_natCast, e]
  refine ⟨fun _ => ⟨fun h => ?_, fun _ => ⟨by omega, by omega, rfl, rfl⟩⟩, fun h => ?_⟩
  · have := of_decide_eq_true h; omega
  · exfalso; revert h; simp
theorem nbit_as : nbitE = eBi bit9L := by kernel_rfl
theorem nbit'_ok : (eBi bit9L).Ok Tryz.prog 85 := nbit_as ▸ nbit_ok
noncomputable abbrev pwFn : Func := Tryz.f128
abbrev pwC : Cod (List LV) (Int × Unit) := (jk 2 (lSkip (vOne (sPtr 0 0)) (lSkip (vOne (sPtr 1 0)) (lSkip (vOne (sPtr 2 0)) (lSkip (vOne (sPtr 3 0)) (lCons (vOne (sInt .i64)) (jk 16 lNil)))))))
abbrev pwCf : Wk := .fr (fmS 23 [(2, .keep), (3, .keep), (4, .keep), (5, .keep), (6, .sym)])
abbrev pwX : Cod (List LV) (Unit) := (jk 4 (lSkip (vOne (sPtr 0 0)) (lSkip (vOne (sPtr 1 0)) (jk 17 lNil))))
abbrev iFn : Cod (Option Ev.Item) Fn := iBlk 72 (vecL .i64 16)
abbrev pwH : Cod Hp (Fn × List Int × Fn × Fn × Unit) := lCons iFn (lCons (iRow 22 .u8 32) (lCons iFn (lCons iFn lNil)))
abbrev pwHX : Cod Hp (Fn × Fn × Unit) := lCons iFn (lCons iFn lNil)
abbrev symN (i : Nat) : Wk := .blk i (List.replicate 16 .sym)
def pwW : Exit → List Wk
  | .normal => [pwCf, symN 2, symN 3, .auto]
  | .exit 0 => [.fr (fmS 23 [(4, .keep), (5, .keep)]), .auto]
  | _ => []
theorem pw_rnd (bit : List Int → Int → Int) (mul : Fn → Fn → Fn) (x r o : Fn) (e : List Int) (i : Int) : rndT Tryz.prog [(85, eBi bit), (79, e2N mul)] [] pwFn 0 [] pwW ((stC pwC pwH).wr ((i, ()), (x, e, r, o, ()))) =
  Res.ite (decide ((0 : Int) ≤ i)) (Res.need (e.length = (32 : Nat) ∧ (0 : Int) ≤ i ∧ i < (256 : Int)) (Res.ite (bit e i == (1 : Int)) (Res.leaf
  Exit.normal ((stC pwC pwH).wr ((IntKind.i64.wrap (i - (1 : Int)), PUnit.unit), x, e, r, mul (mul o o) x, PUnit.unit))) (Res.leaf Exit.normal ((stC pwC
  pwH).wr ((IntKind.i64.wrap (i - (1 : Int)), PUnit.unit), x, e, r, mul o o, PUnit.unit))))) (Res.leaf (Exit.exit (0 : Nat)) ((stC pwX pwHX).wr
  (PUnit.unit, r, o, PUnit.unit))) := by kernel_rfl
def powG (bit : List Int → Int → Int) (mul : Fn → Fn → Fn) (x : Fn) (e : List Int) (k : Nat) (r : Fn) : Fn := bif bit e (255 - (k : Int)) == 1 then mul (mul r r) x else mul r r
theorem pwTab_ok : ∀ p ∈ ([(85, eBi bit9L), (79, e2N mul9C)] : List (FuncId × Ent)), p.2.Ok Tryz.prog p.1 := tabC nbit'_ok (tabC nmul_ok tab0)
abbrev pwT : Type := (Int × Unit) × Fn × List Int × Fn × Fn × Unit
def pwLF (w : Fn → List Int → Fn → Fn) (x : pwT) : Res := .need (x.1.1 = 255 ∧ x.2.2.1.length = 32) (.leaf (.exit 0) ((stC pwX pwHX).wr ((), (x.2.2.2.1, w x.2.1 x.2.2.1 x.2.2.2.2.1, ()))))
theorem pow9W_ex : ∃ f : Fn → List Int → Fn → Fn, ∀ (x : Fn) (e : List Int) (o : Fn) , f x e o = (rnds (powG bit9L mul9C x e) 256 o) := ⟨fun x e o => rnds (powG bit9L mul9C x e) 256 o, fun _ _ _ => rfl⟩
noncomputable def pow9W : Fn → List Int → Fn → Fn := Classical.choose pow9W_ex
theorem pow9W_eq (x : Fn) (e : List Int) (o : Fn)  : pow9W x e o = (rnds (powG bit9L mul9C x e) 256 o) := Classical.choose_spec pow9W_ex x e o
theorem pw_loop (x : pwT) : Ex Tryz.prog [] (.loop (loopAt pwFn 0)) ((stC pwC pwH).wr x) (pwLF pow9W x) := by
  obtain ⟨⟨i, _⟩, x, e, r, o, _⟩ := x
  refine Ex.need fun ⟨h1, h2⟩ => ?_
  simp only at h1 h2
  subst h1
  have key := loopUp (fn := pwFn) (id := 0) (j := 0) (ws := pwW) (hp := []) mixed pwTab_ok (LOk.nil _) 256 (fun k o => (stC pwC pwH).wr ((255 - (k : Int), ()), (x, e, r, o, ()))) (fun o => (stC pwX pwHX).wr ((), (r, o, ()))) (powG bit9L mul9C x e) (fun _ _ => True)
    (fun k o R hk _ hn hx => ?_) (fun _ _ _ _ => trivial) 0 o (by omega) trivial
  · rw [Nat.sub_zero, rnds_upto, ← pow9W_eq] at key; exact key
  rw [pw_rnd bit9L mul9C]
  refine ⟨fun hb => ?_, fun hb => ?_⟩
  · have hk' : k < 256 := by have := of_decide_eq_true hb; omega
    have hn' := hn hk'
    have e3 : IntKind.i64.wrap ((255 - (k : Int)) - 1) = 255 - ((k + 1 : Nat) : Int) := by rw [wrap_ok (by omega) (by omega)]; omega
    rw [e3]
    refine ⟨⟨h2, by omega, by omega⟩, fun hc => ?_, fun hc => ?_⟩
    · have : powG bit9L mul9C x e k o = mul9C (mul9C o o) x := by unfold powG; rw [hc]; rfl
      rw [this] at hn'; exact hn'
    · have : powG bit9L mul9C x e k o = mul9C o o := by unfold powG; rw [hc]; rfl
      rw [this] at hn'; exact hn'
  · have : k = 256 := by have := of_decide_eq_false hb; omega
    exact hx this
abbrev pwA : Cod (List LV) (Fn × List Int × Unit) := lCons cFn (lCons cB lNil)
def eNW (g : Fn → List Int → Fn) : Ent := Ent.ofS [] pwA lNil fun x _ => .leaf (some (x.2.1.length = 32)) (cFn.wr (g x.1 x.2.1)) []
abbrev pwLT (w : Fn → List Int → Fn → Fn) : LTab := [(0, loopF (stC pwC pwH) 0 [pwCf, .auto, symN 2, symN 3] (pwLF w))]
abbrev pwTab (bit : List Int → Int → Int) (mul : Fn → Fn → Fn) (sm : Int → Fn) : List (FuncId × Ent) := [(85, eBi bit), (79, e2N mul), (86, eNS sm)]
theorem npow_tree (w : Fn → List Int → Fn → Fn) (bit : List Int → Int → Int) (mul : Fn → Fn → Fn) (sm : Int → Fn) (x : Fn) (e : List Int) : fnT Tryz.prog (pwTab bit mul sm) (pwLT w) pwFn (pwA.wr (x, e, ())) [] kK =
    .need ((255 : Int) = 255 ∧ e.length = 32) (.leaf (cFn.wr (w x e (sm 1))) []) := by kernel_rfl
theorem pow9L_ex : ∃ f : Fn → List Int → Fn, ∀ (x : Fn) (e : List Int) , f x e = (pow9C x (v32 e)) := ⟨fun x e => pow9C x (v32 e), fun _ _ => rfl⟩
noncomputable def pow9L : Fn → List Int → Fn := Classical.choose pow9L_ex
theorem pow9L_eq (x : Fn) (e : List Int)  : pow9L x e = (pow9C x (v32 e)) := Classical.choose_spec pow9L_ex x e
noncomputable abbrev npowE : Ent := eNW pow9L
theorem pow9_same (x : Fn) (e : List Int) : pow9W x e (small9 1) = pow9L x e := by
  rw [pow9W_eq, pow9L_eq]
  unfold pow9C powFn9
  refine rnds_congr (fun k hk r => ?_) _ 256 (Nat.le_refl _)
  unfold powG powStep9 bit9L
  rw [selN_eq, show (255 - (k : Int)).toNat = 255 - k from by omega]
theorem pwL_ok : LOk Tryz.prog [] (pwLT pow9W) (bodyOf pwFn) := LOk.ofTab (LTC rfl (loopF_ok (hp := []) pw_loop) LT0)
theorem npow_ok : npowE.Ok Tryz.prog 128 := by
  refine (Ent.ofOk Tryz.call128 fun x_ y_ Q H_ => ?_).sym
  obtain ⟨x, e, _⟩ := x_
  obtain ⟨hn, hq⟩ := H_
  have hn : e.length = 32 := hn
  have hc : CallsT Tryz.prog 128 (pwA.wr (x, e, ())) [] (fnT Tryz.prog (pwTab bit9L mul9C small9) (pwLT pow9W) pwFn (pwA.wr (x, e, ())) [] kK) := fnT_ok mixed (tabC nbit'_ok (tabC nmul_ok (tabC nsmall_ok tab0))) Tryz.func128 rfl pwL_ok
  rw [npow_tree pow9W bit9L mul9C small9] at hc
  exact hc.use (D := []) (show (Ev.End.need _ _).sat _ from ⟨⟨rfl, hn⟩, by rw [pow9_same], rfl⟩) hq
def sLit (k : IntKind) (n : Int) : Cod SV Unit where
  rd s := match s with
    | .int k' (.lit m) => if k' = k ∧ m = n then some () else none
    | _ => none
  wr _ := .int k (.lit n)
  ok := by
    intro s x h
    split at h
    · split at h
      · rename_i hh; rw [hh.1, hh.2]
      · cases h
    · cases h
abbrev onA (a h : Int) : Cod (List LV) Unit := lSkip (vOne (sLit .i64 a)) (lSkip (vOne (sLit .i64 h)) lNil)
def eOn (a h : Int) (c : List Int) : Ent := Ent.of [] (onA a h) lNil fun _ _ => .leaf none (nRow .u8 32 c) []
def eOn3 (f : Int → Int → List Int) : Ent := (eOn 2 0 (f 2 0)).or ((eOn 1 3 (f 1 3)).or (eOn 1 2 (f 1 2)))
noncomputable def ones9 (a h : Int) : List Int := if h = 0 then (feExp 235 127).toList else if h = 3 then (feExp 253 15).toList else (feExp 251 31).toList
theorem on_tree0 : fnT Tryz.prog [] [] Tryz.f129 ((onA 2 0).wr ()) [] [.rowF 0 0 32 .u8, .auto] = .leaf (nRow .u8 32 (ones9 2 0)) [] := by kernel_rfl
theorem on_tree3 : fnT Tryz.prog [] [] Tryz.f129 ((onA 1 3).wr ()) [] [.rowF 0 0 32 .u8, .auto] = .leaf (nRow .u8 32 (ones9 1 3)) [] := by kernel_rfl
theorem on_tree2 : fnT Tryz.prog [] [] Tryz.f129 ((onA 1 2).wr ()) [] [.rowF 0 0 32 .u8, .auto] = .leaf (nRow .u8 32 (ones9 1 2)) [] := by kernel_rfl
theorem on_ok {a h : Int} {c : List Int} (ht : fnT Tryz.prog [] [] Tryz.f129 ((onA a h).wr ()) [] [.rowF 0 0 32 .u8, .auto] = .leaf (nRow .u8 32 c) []) : (eOn a h c).Ok Tryz.prog 129 := by
  refine Ent.ofOk Tryz.call129 fun x y Q H => ?_
  have hc : CallsT Tryz.prog 129 ((onA a h).wr ()) [] (fnT Tryz.prog [] [] Tryz.f129 ((onA a h).wr ()) [] [.rowF 0 0 32 .u8, .auto]) := fnT_ok mixed tab0 Tryz.func129 rfl (LOk.nil _)
  rw [ht] at hc
  exact hc.use (D := []) ⟨rfl, rfl⟩ H.2
theorem nones_ok : (eOn3 ones9).Ok Tryz.prog 129 := (on_ok on_tree0).or ((on_ok on_tree3).or (on_ok on_tree2))
theorem ones_len (a h : Int) : (ones9 a h).length = 32 := by unfold ones9; split; exact Vec.toList_length _; split <;> exact Vec.toList_length _
theorem pow9L_v (x : Fn) (e : B32) : pow9L x e.toList = pow9C x e := by rw [pow9L_eq, v32_of]
theorem inv9_eq (x : Fn) : pow9L x (ones9 2 0) = inv9C x := by
  rw [show ones9 2 0 = (feExp 235 127).toList from rfl, pow9L_v]; unfold inv9C; rfl
noncomputable abbrev ninvE : Ent := e1N inv9C
theorem ninv_tree (pow : Fn → List Int → Fn) (on : Int → Int → List Int) (x : Fn) : fnT Tryz.prog [(128, eNW pow), (129, eOn3 on)] [] Tryz.f77 ((fnA).wr (x, ())) [] kK = .need ((on 2 0).length = 32) (.leaf (cFn.wr (pow x (on 2 0))) []) := by kernel_rfl
theorem ninv_tab_ : ∀ p_ ∈ ([(128, eNW pow9L), (129, eOn3 ones9)] : List (FuncId × Ent)), p_.2.Ok Tryz.prog p_.1 := (tabC npow_ok (tabC nones_ok tab0))
theorem ninv_ok : ninvE.Ok Tryz.prog 77 := by
  refine (Ent.ofOk Tryz.call77 fun x_ y_ Q H_ => ?_).sym
  obtain ⟨x, _⟩ := x_
  have hq := H_.2
  refine (fnT_ok (tab := [(128, eNW pow9L), (129, eOn3 ones9)]) mixed ninv_tab_ Tryz.func77 rfl (LT := []) (ks := kK) (LOk.nil _)).use (D := []) ?_ hq
  show (fnT _ _ _ _ ((fnA).wr (x, ())) [] _).sat _
  rw [ninv_tree pow9L ones9]
  exact ⟨ones_len _ _, leafN (inv9_eq x).symm⟩
def plusOne (l : List Int) : List Int := l.set 0 (IntKind.u8.wrap (l.getD 0 0 + 1))
theorem plusOne_len (l : List Int) : (plusOne l).length = l.length := by unfold plusOne; rw [List.length_set]
theorem exp9 : plusOne (ones9 1 3) = (feExp 254 15).toList := by kernel_rfl
theorem root9_sat {t1 t2 o1 o2 : Bool} {r r2 n1 n2 : Fn} {p1 p2 : Prop} (h1 : p1) (h2 : p2) {q : Fn × Bool} (hq : q = bif t1 then (bif o1 then n1 else r, true) else bif t2 then (bif o2 then n2 else r2, true) else (zero9, false)) :
    (Ev.End.need p1 (.ite (!t1) (.need p2 (.ite (!t2) (.leaf (nPN (zero9, false)) []) (.ite o2 (.leaf (nPN (n2, true)) []) (.leaf (nPN (r2, true)) [])))) (.ite (!t1) (.leaf (nPN (zero9, false)) []) (.ite o1 (.leaf (nPN (n1, true)) []) (.leaf (nPN (r, true)) []))))).sat fun v hp' => v = nPN q ∧ hp' = [] := by
  subst hq
  refine ⟨h1, ?_⟩
  cases t1
  · refine ⟨fun _ => ⟨h2, ?_⟩, fun h => (by cases h)⟩
    cases t2
    · exact ⟨fun _ => ⟨rfl, rfl⟩, fun h => (by cases h)⟩
    · refine ⟨fun h => (by cases h), fun _ => ?_⟩
      cases o2
      · exact ⟨fun h => (by cases h), fun _ => ⟨rfl, rfl⟩⟩
      · exact ⟨fun _ => ⟨rfl, rfl⟩, fun h => (by cases h)⟩
  · refine ⟨fun h => (by cases h), fun _ => ⟨fun h => (by cases h), fun _ => ?_⟩⟩
    cases o1
    · exact ⟨fun h => (by cases h), fun _ => ⟨rfl, rfl⟩⟩
    · exact ⟨fun _ => ⟨rfl, rfl⟩, fun h => (by cases h)⟩
theorem root9_eq (pw : Fn → B32 → Fn) (ml : Fn → Fn → Fn) (ng : Fn → Fn) (sm : Int → Fn) (od : Fn → Bool) (x : Fn) :
    rootFn9 sm ml ng od pw x = bif eqV (ml (pw x (feExp 254 15)) (pw x (feExp 254 15))) x then (bif od (pw x (feExp 254 15)) then ng (pw x (feExp 254 15)) else pw x (feExp 254 15), true)
      else bif eqV (ml (ml (pw x (feExp 254 15)) (pw (sm 2) (feExp 251 31))) (ml (pw x (feExp 254 15)) (pw (sm 2) (feExp 251 31)))) x then (bif od (ml (pw x (feExp 254 15)) (pw (sm 2) (feExp 251 31))) then ng (ml (pw x (feExp 254 15)) (pw (sm 2) (feExp 251 31))) else ml (pw x (feExp 254 15)) (pw (sm 2) (feExp 251 31)), true) else (zero9, false) := by
  have hsel : ∀ (b : Bool) (u v : Fn), selN b u v = bif b then u else v := fun b u v => selN_eq b u v
  unfold rootFn9
  simp only [hsel]
  generalize pw x (feExp 254 15) = r
  generalize pw (sm 2) (feExp 251 31) = c
  cases h : eqV (ml r r) x
  · simp only [Bool.not_false, cond_true, cond_false]
    cases eqV (ml (ml r c) (ml r c)) x <;> rfl
  · simp only [Bool.not_true, cond_true, cond_false, h]
theorem sqrt9_eq (x : Fn) : sqrt9C x = rootFn9 small9 mul9C neg9C odd9 pow9C x := by unfold sqrt9C; rfl
noncomputable abbrev nsqrtE : Ent := e1NP sqrt9C
theorem nsqrt_tree (pow : Fn → List Int → Fn) (on : Int → Int → List Int) (mul : Fn → Fn → Fn) (neg : Fn → Fn) (odd : Fn → Bool) (sm : Int → Fn) (x : Fn) : fnT Tryz.prog [(128, eNW pow), (129, eOn3 on), (79, e2N mul), (105, e1N neg), (80, e1NB odd), (86, eNS sm)] [] Tryz.f154 ((fnA).wr (x, ())) [] kK = .need ((plusOne (on 1 3)).length = 32) (.ite (!(eqV (mul (pow x (plusOne (on 1 3))) (pow x (plusOne (on 1 3)))) x)) (.need ((on 1 2).length = 32) (.ite (!(eqV (mul (mul (pow x (plusOne (on 1 3))) (pow (sm 2) (on 1 2))) (mul (pow x (plusOne (on 1 3))) (pow (sm 2) (on 1 2)))) x)) (.leaf (nPN (zero9, false)) []) (.ite (odd (mul (pow x (plusOne (on 1 3))) (pow (sm 2) (on 1 2)))) (.leaf (nPN (neg (mul (pow x (plusOne (on 1 3))) (pow (sm 2) (on 1 2))), true)) []) (.leaf (nPN (mul (pow x (plusOne (on 1 3))) (pow (sm 2) (on 1 2)), true)) [])))) (.ite (!(eqV (mul (pow x (plusOne (on 1 3))) (pow x (plusOne (on 1 3)))) x)) (.leaf (nPN (zero9, false)) []) (.ite (odd (pow x (plusOne (on 1 3)))) (.leaf (nPN (neg (pow x (plusOne (on 1 3))), true)) []) (.leaf (nPN (pow x (plusOne (on 1 3)), true)) [])))) := by kernel_rfl
theorem nsqrt_tab_ : ∀ p_ ∈ ([(128, eNW pow9L), (129, eOn3 ones9), (79, e2N mul9C), (105, e1N neg9C), (80, e1NB odd9), (86, eNS small9)] : List (FuncId × Ent)), p_.2.Ok Tryz.prog p_.1 := (tabC npow_ok (tabC nones_ok (tabC nmul_ok (tabC nneg_ok (tabC nodd_ok (tabC nsmall_ok tab0))))))
theorem nsqrt_ok : nsqrtE.Ok Tryz.prog 154 := by
  refine (Ent.ofOk Tryz.call154 fun x_ y_ Q H_ => ?_).sym
  obtain ⟨x, _⟩ := x_
  have hq := H_.2
  refine (fnT_ok (tab := [(128, eNW pow9L), (129, eOn3 ones9), (79, e2N mul9C), (105, e1N neg9C), (80, e1NB odd9), (86, eNS small9)]) mixed nsqrt_tab_ Tryz.func154 rfl (LT := []) (ks := kK) (LOk.nil _)).use (D := []) ?_ hq
  show (fnT _ _ _ _ ((fnA).wr (x, ())) [] _).sat _
  rw [nsqrt_tree pow9L ones9 mul9C neg9C odd9 small9]
  have hl : (plusOne (ones9 1 3)).length = 32 := by rw [plusOne_len, ones_len]
  refine root9_sat hl (ones_len _ _) ?_
  rw [sqrt9_eq, root9_eq, exp9, show ones9 1 2 = (feExp 251 31).toList from rfl, pow9L_v, pow9L_v]
theorem ratio9_eq (u v : Fn) : ratio9C u v = (selN (eqV v zero9) zero9 (sqrt9C (mul9C u (inv9C v))).1, bif eqV v zero9 then eqV u zero9 else (sqrt9C (mul9C u (inv9C v))).2) := by unfold ratio9C ratioFn9; rfl
theorem ratio9_sat {z zu : Bool} {s r : Fn × Bool} (hr : r = (selN z zero9 s.1, bif z then zu else s.2)) : (Ev.End.ite z (.leaf (nPN (zero9, zu)) []) (.leaf (nPN s) [])).sat fun v hp' => v = nPN r ∧ hp' = [] := by
  subst hr
  rw [selN_eq]
  cases z
  · exact ⟨fun h => (by cases h), fun _ => ⟨rfl, rfl⟩⟩
  · exact ⟨fun _ => ⟨rfl, rfl⟩, fun h => (by cases h)⟩
noncomputable abbrev nratioE : Ent := e2NP ratio9C
theorem nratio_tree (mul : Fn → Fn → Fn) (inv : Fn → Fn) (sqrt : Fn → Fn × Bool) (u v : Fn) : fnT Tryz.prog [(79, e2N mul), (77, e1N inv), (154, e1NP sqrt)] [] Tryz.f132 ((fn2A).wr (u, v, ())) [] kK = .ite (eqV v zero9) (.leaf (nPN (zero9, eqV u zero9)) []) (.leaf (nPN (sqrt (mul u (inv v)))) []) := by kernel_rfl
theorem nratio_tab_ : ∀ p_ ∈ ([(79, e2N mul9C), (77, e1N inv9C), (154, e1NP sqrt9C)] : List (FuncId × Ent)), p_.2.Ok Tryz.prog p_.1 := (tabC nmul_ok (tabC ninv_ok (tabC nsqrt_ok tab0)))
theorem nratio_ok : nratioE.Ok Tryz.prog 132 := by
  refine (Ent.ofOk Tryz.call132 fun x_ y_ Q H_ => ?_).sym
  obtain ⟨u, v, _⟩ := x_
  have hq := H_.2
  refine (fnT_ok (tab := [(79, e2N mul9C), (77, e1N inv9C), (154, e1NP sqrt9C)]) mixed nratio_tab_ Tryz.func132 rfl (LT := []) (ks := kK) (LOk.nil _)).use (D := []) ?_ hq
  show (fnT _ _ _ _ ((fn2A).wr (u, v, ())) [] _).sat _
  rw [nratio_tree mul9C inv9C sqrt9C]
  exact ratio9_sat (ratio9_eq u v)
end Go.Proofs.YthdfifcgobfgdaaGreat
end

section
set_option linter.unusedVariables false
set_option linter.unusedSimpArgs false
namespace Go.Proofs.YthdfifcgobfgdaaGreat
open Go Go.Ev BJ
set_option maxRecDepth 1000000
abbrev rPn : Cod (List SV) Pn := vecA .i64 (vecA .i64 (vecA .i64 (vecL .i64 16) 16) 16) 16
abbrev cPn : Cod LV Pn := vAgg rPn
abbrev pnA : Cod (List LV) (Pn × Unit) := lCons cPn lNil
abbrev pn2A : Cod (List LV) (Pn × Pn × Unit) := lCons cPn (lCons cPn lNil)
abbrev nPB (r : Pn × Bool) : LV := .tup [.agg (rPn.wr r.1), .sc (.bool (.sym r.2))]
def e0P (c : Pn) : Ent := Ent.ofS [] lNil lNil fun _ _ => .leaf none (cPn.wr c) []
def e1Pn (g : Pn → Pn) : Ent := Ent.ofS [] pnA lNil fun x _ => .leaf none (cPn.wr (g x.1)) []
def e2Pn (g : Pn → Pn → Pn) : Ent := Ent.ofS [] pn2A lNil fun x _ => .leaf none (cPn.wr (g x.1 x.2.1)) []
def e3Pn (g : Pn → Pn → Fn → Pn) : Ent := Ent.ofS [] (lCons cPn (lCons cPn (lCons cFn lNil))) lNil fun x _ => .leaf none (cPn.wr (g x.1 x.2.1 x.2.2.1)) []
def eOfN (g : Fn → Fn → Pn) : Ent := Ent.ofS [] fn2A lNil fun x _ => .leaf none (cPn.wr (g x.1 x.2.1)) []
def eNE (g : Pn → List Int) : Ent := Ent.ofS [] pnA lNil fun x _ => .leaf none (nRow .u8 32 (g x.1)) []
def eND (g : List Int → Pn × Bool) : Ent := Ent.ofS [] bA32 lNil fun x _ => .leaf (some (x.1.length = 32)) (nPB (g x.1)) []
theorem leafP {u x : Pn} (h : x = u) : (Ev.End.leaf (cPn.wr u) []).sat fun v hp' => v = cPn.wr x ∧ hp' = [] := by subst h; exact ⟨rfl, rfl⟩
theorem leafNP {u x : Fn × Bool} (h : x = u) : (Ev.End.leaf (nPN u) []).sat fun v hp' => v = nPN x ∧ hp' = [] := by subst h; exact ⟨rfl, rfl⟩
theorem edge9_eq : edge9C = mul9C (neg9C (small9 121665)) (inv9C (small9 121666)) := by unfold edge9C; rfl
noncomputable abbrev nedgeE : Ent := e0N edge9C
theorem nedge_tree (mul : Fn → Fn → Fn) (neg inv : Fn → Fn) (sm : Int → Fn)  : fnT Tryz.prog [(79, e2N mul), (105, e1N neg), (77, e1N inv), (86, eNS sm)] [] Tryz.f82 ((lNil).wr ()) [] kK = .leaf (cFn.wr (mul (neg (sm 121665)) (inv (sm 121666)))) [] := by kernel_rfl
theorem nedge_tab_ : ∀ p_ ∈ ([(79, e2N mul9C), (105, e1N neg9C), (77, e1N inv9C), (86, eNS small9)] : List (FuncId × Ent)), p_.2.Ok Tryz.prog p_.1 := (tabC nmul_ok (tabC nneg_ok (tabC ninv_ok (tabC nsmall_ok tab0))))
theorem nedge_ok : nedgeE.Ok Tryz.prog 82 := by
  refine (Ent.ofOk Tryz.call82 fun x_ y_ Q H_ => ?_).sym
  have hq := H_.2
  refine (fnT_ok (tab := [(79, e2N mul9C), (105, e1N neg9C), (77, e1N inv9C), (86, eNS small9)]) mixed nedge_tab_ Tryz.func82 rfl (LT := []) (ks := kK) (LOk.nil _)).use (D := []) ?_ hq
  show (fnT _ _ _ _ ((lNil).wr ()) [] _).sat _
  rw [nedge_tree mul9C neg9C inv9C small9]
  exact leafN edge9_eq
theorem zero9_eq : zero9C = (zero9, small9 1, small9 1, zero9) := by unfold zero9C zeroPn; rfl
noncomputable abbrev nzeroE : Ent := e0P zero9C
theorem nzero_tree (sm : Int → Fn)  : fnT Tryz.prog [(86, eNS sm)] [] Tryz.f83 ((lNil).wr ()) [] kK = .leaf (cPn.wr (zero9, sm 1, sm 1, zero9)) [] := by kernel_rfl
theorem nzero_tab_ : ∀ p_ ∈ ([(86, eNS small9)] : List (FuncId × Ent)), p_.2.Ok Tryz.prog p_.1 := (tabC nsmall_ok tab0)
theorem nzero_ok : nzeroE.Ok Tryz.prog 83 := by
  refine (Ent.ofOk Tryz.call83 fun x_ y_ Q H_ => ?_).sym
  have hq := H_.2
  refine (fnT_ok (tab := [(86, eNS small9)]) mixed nzero_tab_ Tryz.func83 rfl (LT := []) (ks := kK) (LOk.nil _)).use (D := []) ?_ hq
  show (fnT _ _ _ _ ((lNil).wr ()) [] _).sat _
  rw [nzero_tree small9]
  exact leafP zero9_eq
theorem of9_eq (x y : Fn) : of9C x y = (x, y, small9 1, mul9C x y) := by unfold of9C ofPn; rfl
noncomputable abbrev nofE : Ent := eOfN of9C
theorem nof_tree (mul : Fn → Fn → Fn) (sm : Int → Fn) (x y : Fn) : fnT Tryz.prog [(79, e2N mul), (86, eNS sm)] [] Tryz.f88 ((fn2A).wr (x, y, ())) [] kK = .leaf (cPn.wr (x, y, sm 1, mul x y)) [] := by kernel_rfl
theorem nof_tab_ : ∀ p_ ∈ ([(79, e2N mul9C), (86, eNS small9)] : List (FuncId × Ent)), p_.2.Ok Tryz.prog p_.1 := (tabC nmul_ok (tabC nsmall_ok tab0))
theorem nof_ok : nofE.Ok Tryz.prog 88 := by
  refine (Ent.ofOk Tryz.call88 fun x_ y_ Q H_ => ?_).sym
  obtain ⟨x, y, _⟩ := x_
  have hq := H_.2
  refine (fnT_ok (tab := [(79, e2N mul9C), (86, eNS small9)]) mixed nof_tab_ Tryz.func88 rfl (LT := []) (ks := kK) (LOk.nil _)).use (D := []) ?_ hq
  show (fnT _ _ _ _ ((fn2A).wr (x, y, ())) [] _).sat _
  rw [nof_tree mul9C small9]
  exact leafP (of9_eq x y)
theorem xOf9_eq (y : Fn) : xOf9C y = ratio9C (sub9C (mul9C y y) (small9 1)) (add9C (mul9C edge9C (mul9C y y)) (small9 1)) := by unfold xOf9C xOfFn; rfl
noncomputable abbrev nxOfE : Ent := e1NP xOf9C
theorem nxOf_tree (mul add sub : Fn → Fn → Fn) (sm : Int → Fn) (ratio : Fn → Fn → Fn × Bool) (ed : Fn) (y : Fn) : fnT Tryz.prog [(79, e2N mul), (81, e2N add), (131, e2N sub), (86, eNS sm), (132, e2NP ratio), (82, e0N ed)] [] Tryz.f87 ((fnA).wr (y, ())) [] kK = .leaf (nPN (ratio (sub (mul y y) (sm 1)) (add (mul ed (mul y y)) (sm 1)))) [] := by kernel_rfl
theorem nxOf_tab_ : ∀ p_ ∈ ([(79, e2N mul9C), (81, e2N add9C), (131, e2N sub9C), (86, eNS small9), (132, e2NP ratio9C), (82, e0N edge9C)] : List (FuncId × Ent)), p_.2.Ok Tryz.prog p_.1 := (tabC nmul_ok (tabC nadd_ok (tabC nsub_ok (tabC nsmall_ok (tabC nratio_ok (tabC nedge_ok tab0))))))
theorem nxOf_ok : nxOfE.Ok Tryz.prog 87 := by
  refine (Ent.ofOk Tryz.call87 fun x_ y_ Q H_ => ?_).sym
  obtain ⟨y, _⟩ := x_
  have hq := H_.2
  refine (fnT_ok (tab := [(79, e2N mul9C), (81, e2N add9C), (131, e2N sub9C), (86, eNS small9), (132, e2NP ratio9C), (82, e0N edge9C)]) mixed nxOf_tab_ Tryz.func87 rfl (LT := []) (ks := kK) (LOk.nil _)).use (D := []) ?_ hq
  show (fnT _ _ _ _ ((fnA).wr (y, ())) [] _).sat _
  rw [nxOf_tree mul9C add9C sub9C small9 ratio9C edge9C]
  exact leafNP (xOf9_eq y)
theorem base9_eq : base9C = of9C (xOf9C (mul9C (small9 4) (inv9C (small9 5)))).1 (mul9C (small9 4) (inv9C (small9 5))) := by unfold base9C baseFn9; rfl
noncomputable abbrev nbaseE : Ent := e0P base9C
theorem nbase_tree (mul : Fn → Fn → Fn) (inv : Fn → Fn) (sm : Int → Fn) (xo : Fn → Fn × Bool) (of : Fn → Fn → Pn)  : fnT Tryz.prog [(79, e2N mul), (77, e1N inv), (86, eNS sm), (87, e1NP xo), (88, eOfN of)] [] Tryz.f40 ((lNil).wr ()) [] kK = .leaf (cPn.wr (of (xo (mul (sm 4) (inv (sm 5)))).1 (mul (sm 4) (inv (sm 5))))) [] := by kernel_rfl
theorem nbase_tab_ : ∀ p_ ∈ ([(79, e2N mul9C), (77, e1N inv9C), (86, eNS small9), (87, e1NP xOf9C), (88, eOfN of9C)] : List (FuncId × Ent)), p_.2.Ok Tryz.prog p_.1 := (tabC nmul_ok (tabC ninv_ok (tabC nsmall_ok (tabC nxOf_ok (tabC nof_ok tab0)))))
theorem nbase_ok : nbaseE.Ok Tryz.prog 40 := by
  refine (Ent.ofOk Tryz.call40 fun x_ y_ Q H_ => ?_).sym
  have hq := H_.2
  refine (fnT_ok (tab := [(79, e2N mul9C), (77, e1N inv9C), (86, eNS small9), (87, e1NP xOf9C), (88, eOfN of9C)]) mixed nbase_tab_ Tryz.func40 rfl (LT := []) (ks := kK) (LOk.nil _)).use (D := []) ?_ hq
  show (fnT _ _ _ _ ((lNil).wr ()) [] _).sat _
  rw [nbase_tree mul9C inv9C small9 xOf9C of9C]
  exact leafP base9_eq
theorem plus39_eq (p q : Pn) (d : Fn) : plus39C p q d = plusFn9 mul9C add9C sub9C p q d := by unfold plus39C; rfl
noncomputable abbrev nplus3E : Ent := e3Pn plus39C
theorem nplus3_tree (mul add sub : Fn → Fn → Fn) (p q : Pn) (d : Fn) : fnT Tryz.prog [(79, e2N mul), (81, e2N add), (131, e2N sub)] [] Tryz.f84 (((lCons cPn (lCons cPn (lCons cFn lNil)))).wr (p, q, d, ())) [] kK = .leaf (cPn.wr (plusFn9 mul add sub p q d)) [] := by kernel_rfl
theorem nplus3_tab_ : ∀ p_ ∈ ([(79, e2N mul9C), (81, e2N add9C), (131, e2N sub9C)] : List (FuncId × Ent)), p_.2.Ok Tryz.prog p_.1 := (tabC nmul_ok (tabC nadd_ok (tabC nsub_ok tab0)))
theorem nplus3_ok : nplus3E.Ok Tryz.prog 84 := by
  refine (Ent.ofOk Tryz.call84 fun x_ y_ Q H_ => ?_).sym
  obtain ⟨p, q, d, _⟩ := x_
  have hq := H_.2
  refine (fnT_ok (tab := [(79, e2N mul9C), (81, e2N add9C), (131, e2N sub9C)]) mixed nplus3_tab_ Tryz.func84 rfl (LT := []) (ks := kK) (LOk.nil _)).use (D := []) ?_ hq
  show (fnT _ _ _ _ (((lCons cPn (lCons cPn (lCons cFn lNil)))).wr (p, q, d, ())) [] _).sat _
  rw [nplus3_tree mul9C add9C sub9C]
  exact leafP (plus39_eq p q d)
theorem plus9_eq (p q : Pn) : plus9C p q = plus39C p q (add9C edge9C edge9C) := by unfold plus9C; rfl
noncomputable abbrev nplusE : Ent := e2Pn plus9C
theorem nplus_tree (p3 : Pn → Pn → Fn → Pn) (add : Fn → Fn → Fn) (ed : Fn) (p q : Pn) : fnT Tryz.prog [(84, e3Pn p3), (81, e2N add), (82, e0N ed)] [] Tryz.f48 ((pn2A).wr (p, q, ())) [] kK = .leaf (cPn.wr (p3 p q (add ed ed))) [] := by kernel_rfl
theorem nplus_tab_ : ∀ p_ ∈ ([(84, e3Pn plus39C), (81, e2N add9C), (82, e0N edge9C)] : List (FuncId × Ent)), p_.2.Ok Tryz.prog p_.1 := (tabC nplus3_ok (tabC nadd_ok (tabC nedge_ok tab0)))
theorem nplus_ok : nplusE.Ok Tryz.prog 48 := by
  refine (Ent.ofOk Tryz.call48 fun x_ y_ Q H_ => ?_).sym
  obtain ⟨p, q, _⟩ := x_
  have hq := H_.2
  refine (fnT_ok (tab := [(84, e3Pn plus39C), (81, e2N add9C), (82, e0N edge9C)]) mixed nplus_tab_ Tryz.func48 rfl (LT := []) (ks := kK) (LOk.nil _)).use (D := []) ?_ hq
  show (fnT _ _ _ _ ((pn2A).wr (p, q, ())) [] _).sat _
  rw [nplus_tree plus39C add9C edge9C]
  exact leafP (plus9_eq p q)
theorem turn9_eq (p : Pn) : turn9C p = (neg9C p.1, p.2.1, p.2.2.1, neg9C p.2.2.2) := by unfold turn9C; rfl
noncomputable abbrev nturnE : Ent := e1Pn turn9C
theorem nturn_tree (neg : Fn → Fn) (p : Pn) : fnT Tryz.prog [(105, e1N neg)] [] Tryz.f49 ((pnA).wr (p, ())) [] kK = .leaf (cPn.wr (neg p.1, p.2.1, p.2.2.1, neg p.2.2.2)) [] := by kernel_rfl
theorem nturn_tab_ : ∀ p_ ∈ ([(105, e1N neg9C)] : List (FuncId × Ent)), p_.2.Ok Tryz.prog p_.1 := (tabC nneg_ok tab0)
theorem nturn_ok : nturnE.Ok Tryz.prog 49 := by
  refine (Ent.ofOk Tryz.call49 fun x_ y_ Q H_ => ?_).sym
  obtain ⟨p, _⟩ := x_
  have hq := H_.2
  refine (fnT_ok (tab := [(105, e1N neg9C)]) mixed nturn_tab_ Tryz.func49 rfl (LT := []) (ks := kK) (LOk.nil _)).use (D := []) ?_ hq
  show (fnT _ _ _ _ ((pnA).wr (p, ())) [] _).sat _
  rw [nturn_tree neg9C]
  exact leafP (turn9_eq p)
noncomputable def encode9L (p : Pn) : List Int := (encode9C p).toList
theorem encode9_eq (p : Pn) : encode9L p = bif odd9 (mul9C p.1 (inv9C p.2.2.1)) then (bytes9L (mul9C p.2.1 (inv9C p.2.2.1))).set 31 (IntKind.u8.wrap ((bytes9L (mul9C p.2.1 (inv9C p.2.2.1))).getD 31 0 + 128)) else bytes9L (mul9C p.2.1 (inv9C p.2.2.1)) := by
  unfold encode9L encode9C encodeFn9 bytes9L
  simp only [selN_eq]
  generalize bytes9 (mul9C p.2.1 (inv9C p.2.2.1)) = v
  cases odd9 (mul9C p.1 (inv9C p.2.2.1))
  · rfl
  · exact upd_set v
noncomputable abbrev nencodeE : Ent := eNE encode9L
theorem nencode_tree (mul : Fn → Fn → Fn) (inv : Fn → Fn) (byt : Fn → List Int) (odd : Fn → Bool) (p : Pn) : fnT Tryz.prog [(79, e2N mul), (77, e1N inv), (78, eNY byt), (80, e1NB odd)] [] Tryz.f38 ((pnA).wr (p, ())) [] kK = .ite (odd (mul p.1 (inv p.2.2.1))) (.leaf (nRow .u8 32 ((byt (mul p.2.1 (inv p.2.2.1))).set 31 (IntKind.u8.wrap ((byt (mul p.2.1 (inv p.2.2.1))).getD 31 0 + 128)))) []) (.leaf (nRow .u8 32 (byt (mul p.2.1 (inv p.2.2.1)))) []) := by kernel_rfl
theorem nencode_tab_ : ∀ p_ ∈ ([(79, e2N mul9C), (77, e1N inv9C), (78, eNY bytes9L), (80, e1NB odd9)] : List (FuncId × Ent)), p_.2.Ok Tryz.prog p_.1 := (tabC nmul_ok (tabC ninv_ok (tabC nbytes_ok (tabC nodd_ok tab0))))
theorem nencode_ok : nencodeE.Ok Tryz.prog 38 := by
  refine (Ent.ofOk Tryz.call38 fun x_ y_ Q H_ => ?_).sym
  obtain ⟨p, _⟩ := x_
  have hq := H_.2
  refine (fnT_ok (tab := [(79, e2N mul9C), (77, e1N inv9C), (78, eNY bytes9L), (80, e1NB odd9)]) mixed nencode_tab_ Tryz.func38 rfl (LT := []) (ks := kK) (LOk.nil _)).use (D := []) ?_ hq
  show (fnT _ _ _ _ ((pnA).wr (p, ())) [] _).sat _
  rw [nencode_tree mul9C inv9C bytes9L odd9]
  exact two_sat (fun h => by rw [encode9_eq, h]; rfl) (fun h => by rw [encode9_eq, h]; rfl)
noncomputable def decode9L (b : List Int) : Pn × Bool := decode9C (v32 b)
theorem decFn9_eq (neg : Fn → Fn) (frm : B32 → Fn) (canon : B32 → Bool) (z : Pn) (of : Fn → Fn → Pn) (xo : Fn → Fn × Bool) (b : B32) :
    decodeFn9 neg frm canon z of xo b = bif canon b then (bif (xo (frm b)).2 then (bif decide (127 < b.get 31) then (bif eqV (xo (frm b)).1 zero9 then (z, false) else (of (neg (xo (frm b)).1) (frm b), true)) else (of (xo (frm b)).1 (frm b), true)) else (z, false)) else (z, false) := by
  unfold decodeFn9
  simp only [selN_eq, selPn_eq, gt_iff_lt]
  generalize xo (frm b) = r
  generalize frm b = y
  generalize decide (127 < b.get 31) = t
  obtain ⟨x, ok⟩ := r
  simp only
  cases canon b <;> cases ok <;> cases t <;> cases eqV x zero9 <;> rfl
theorem decode9_eq (b : List Int) : decode9L b = bif canonical9L b then (bif (xOf9C (from9L b)).2 then (bif decide (127 < b.getD 31 0) then (bif eqV (xOf9C (from9L b)).1 zero9 then (zero9C, false) else (of9C (neg9C (xOf9C (from9L b)).1) (from9L b), true)) else (of9C (xOf9C (from9L b)).1 (from9L b), true)) else (zero9C, false)) else (zero9C, false) := by
  unfold decode9L decode9C
  rw [decFn9_eq, v32_get b (show 31 < 32 by decide)]
  rfl
theorem dec9_sat {p : Prop} {canon ok odd isz : Bool} {Z P Q : Pn} (hp : p) {r : Pn × Bool} (hr : r = bif canon then (bif ok then (bif odd then (bif isz then (Z, false) else (P, true)) else (Q, true)) else (Z, false)) else (Z, false)) :
    (Ev.End.need p (.ite (!canon) (.leaf (nPB (Z, false)) []) (.ite ((!ok) == false) (.ite (isz == true) (.ite odd (.leaf (nPB (Z, false)) []) (.ite odd (.leaf (nPB (P, true)) []) (.leaf (nPB (Q, true)) []))) (.ite odd (.leaf (nPB (P, true)) []) (.leaf (nPB (Q, true)) []))) (.leaf (nPB (Z, false)) [])))).sat fun v hp' => v = nPB r ∧ hp' = [] := by
  subst hr
  refine ⟨hp, ?_⟩
  cases canon
  · exact ⟨fun _ => ⟨rfl, rfl⟩, fun h => (by cases h)⟩
  · refine ⟨fun h => (by cases h), fun _ => ?_⟩
    cases ok
    · exact ⟨fun h => (by cases h), fun _ => ⟨rfl, rfl⟩⟩
    · refine ⟨fun _ => ?_, fun h => (by cases h)⟩
      cases isz
      · refine ⟨fun h => (by cases h), fun _ => ?_⟩
        cases odd
        · exact ⟨fun h => (by cases h), fun _ => ⟨rfl, rfl⟩⟩
        · exact ⟨fun _ => ⟨rfl, rfl⟩, fun h => (by cases h)⟩
      · refine ⟨fun _ => ?_, fun h => (by cases h)⟩
        cases odd
        · exact ⟨fun h => (by cases h), fun _ => ⟨fun h => (by cases h), fun _ => ⟨rfl, rfl⟩⟩⟩
        · exact ⟨fun _ => ⟨rfl, rfl⟩, fun h => (by cases h)⟩
noncomputable abbrev ndecodeE : Ent := eND decode9L
theorem ndecode_tree (canon : List Int → Bool) (z : Pn) (frm : List Int → Fn) (xo : Fn → Fn × Bool) (neg : Fn → Fn) (of : Fn → Fn → Pn) (b : List Int) : fnT Tryz.prog [(103, eNC canon), (83, e0P z), (104, eNF frm), (87, e1NP xo), (105, e1N neg), (88, eOfN of)] [] Tryz.f46 ((bA32).wr (b, ())) [] kK = .need (b.length = 32) (.ite (!(canon b)) (.leaf (nPB (z, false)) []) (.ite ((!(xo (frm b)).2) == false) (.ite (eqV (xo (frm b)).1 zero9 == true) (.ite (decide (127 < b.getD 31 0)) (.leaf (nPB (z, false)) []) (.ite (decide (127 < b.getD 31 0)) (.leaf (nPB (of (neg (xo (frm b)).1) (frm b), true)) []) (.leaf (nPB (of (xo (frm b)).1 (frm b), true)) []))) (.ite (decide (127 < b.getD 31 0)) (.leaf (nPB (of (neg (xo (frm b)).1) (frm b), true)) []) (.leaf (nPB (of (xo (frm b)).1 (frm b), true)) []))) (.leaf (nPB (z, false)) []))) := by kernel_rfl
theorem ndecode_tab_ : ∀ p_ ∈ ([(103, eNC canonical9L), (83, e0P zero9C), (104, eNF from9L), (87, e1NP xOf9C), (105, e1N neg9C), (88, eOfN of9C)] : List (FuncId × Ent)), p_.2.Ok Tryz.prog p_.1 := (tabC ncanon_ok (tabC nzero_ok (tabC nfrom_ok (tabC nxOf_ok (tabC nneg_ok (tabC nof_ok tab0))))))
theorem ndecode_ok : ndecodeE.Ok Tryz.prog 46 := by
  refine (Ent.ofOk Tryz.call46 fun x_ y_ Q H_ => ?_).sym
  obtain ⟨b, _⟩ := x_
  obtain ⟨hn, hq⟩ := H_
  have hn : b.length = 32 := hn
  refine (fnT_ok (tab := [(103, eNC canonical9L), (83, e0P zero9C), (104, eNF from9L), (87, e1NP xOf9C), (105, e1N neg9C), (88, eOfN of9C)]) mixed ndecode_tab_ Tryz.func46 rfl (LT := []) (ks := kK) (LOk.nil _)).use (D := []) ?_ hq
  show (fnT _ _ _ _ ((bA32).wr (b, ())) [] _).sat _
  rw [ndecode_tree canonical9L zero9C from9L xOf9C neg9C of9C]
  exact dec9_sat hn (decode9_eq b)
noncomputable abbrev m9Fn : Func := Tryz.f39
abbrev m9C : Cod (List LV) (Int × Unit) := (jk 2 (lSkip (vOne (sPtr 0 0)) (lSkip (vOne (sPtr 1 0)) (lSkip (vOne (sPtr 2 0)) (lSkip (vOne (sPtr 3 0)) (lSkip (vOne (sPtr 4 0)) (lCons (vOne (sInt .i64)) (jk 21 lNil))))))))
abbrev m9Cf : Wk := .fr (fmS 29 [(2, .keep), (3, .keep), (4, .keep), (5, .keep), (6, .keep), (7, .sym)])
abbrev m9X : Cod (List LV) (Unit) := (jk 4 (lSkip (vOne (sPtr 0 0)) (jk 1 (lSkip (vOne (sPtr 1 0)) (jk 22 lNil)))))
abbrev iPn : Cod (Option Ev.Item) Pn := iBlk 74 rPn
abbrev m9H : Cod Hp (List Int × Pn × Pn × Fn × Pn × Unit) := lCons (iRow 22 .u8 32) (lCons iPn (lCons iPn (lCons iFn (lCons iPn lNil))))
abbrev m9HX : Cod Hp (Pn × Pn × Unit) := lCons iPn (lCons iPn lNil)
abbrev symPn (i : Nat) : Wk := .blk i (List.replicate 64 .sym)
def m9W : Exit → List Wk
  | .normal => [m9Cf, symPn 2, symN 3, symPn 4, .auto]
  | .exit 0 => [.fr (fmS 29 [(4, .keep), (6, .keep)]), .auto]
  | _ => []
theorem m9_rnd (bit : List Int → Int → Int) (p3 : Pn → Pn → Fn → Pn) (n : List Int) (p z q : Pn) (d : Fn) (i : Int) : rndT Tryz.prog [(85, eBi bit), (84, e3Pn p3)] [] m9Fn 0 [] m9W ((stC m9C m9H).wr ((i, ()), (n, p, z, d, q, ()))) =
  Res.ite (decide ((0 : Int) ≤ i)) (Res.need (n.length = (32 : Nat) ∧ (0 : Int) ≤ i ∧ i < (256 : Int)) (Res.ite (bit n i == (1 : Int)) (Res.leaf Exit.normal ((stC m9C m9H).wr ((IntKind.i64.wrap (i - (1 : Int)), PUnit.unit), n, p, z, d, p3 (p3 q q d) p d, PUnit.unit)))
    (Res.leaf Exit.normal ((stC m9C m9H).wr ((IntKind.i64.wrap (i - (1 : Int)), PUnit.unit), n, p, z, d, p3 q q d, PUnit.unit))))) (Res.leaf (Exit.exit (0 : Nat)) ((stC m9X m9HX).wr (PUnit.unit, z, q, PUnit.unit))) := by kernel_rfl
def mulG9 (bit : List Int → Int → Int) (p3 : Pn → Pn → Fn → Pn) (n : List Int) (p : Pn) (d : Fn) (k : Nat) (q : Pn) : Pn := bif bit n (255 - (k : Int)) == 1 then p3 (p3 q q d) p d else p3 q q d
theorem m9Tab_ok : ∀ p ∈ ([(85, eBi bit9L), (84, e3Pn plus39C)] : List (FuncId × Ent)), p.2.Ok Tryz.prog p.1 := tabC nbit'_ok (tabC nplus3_ok tab0)
abbrev m9T : Type := (Int × Unit) × List Int × Pn × Pn × Fn × Pn × Unit
def m9LF (w : List Int → Pn → Fn → Pn → Pn) (x : m9T) : Res := .need (x.1.1 = 255 ∧ x.2.1.length = 32) (.leaf (.exit 0) ((stC m9X m9HX).wr ((), (x.2.2.2.1, w x.2.1 x.2.2.1 x.2.2.2.2.1 x.2.2.2.2.2.1, ()))))
theorem mult9W_ex : ∃ f : List Int → Pn → Fn → Pn → Pn, ∀ (n : List Int) (p : Pn) (d : Fn) (z : Pn) , f n p d z = (rnds (mulG9 bit9L plus39C n p d) 256 z) := ⟨fun n p d z => rnds (mulG9 bit9L plus39C n p d) 256 z, fun _ _ _ _ => rfl⟩
noncomputable def mult9W : List Int → Pn → Fn → Pn → Pn := Classical.choose mult9W_ex
theorem mult9W_eq (n : List Int) (p : Pn) (d : Fn) (z : Pn)  : mult9W n p d z = (rnds (mulG9 bit9L plus39C n p d) 256 z) := Classical.choose_spec mult9W_ex n p d z
theorem m9_loop (x : m9T) : Ex Tryz.prog [] (.loop (loopAt m9Fn 0)) ((stC m9C m9H).wr x) (m9LF mult9W x) := by
  obtain ⟨⟨i, _⟩, n, p, z, d, q, _⟩ := x
  refine Ex.need fun ⟨h1, h2⟩ => ?_
  simp only at h1 h2
  subst h1
  have key := loopUp (fn := m9Fn) (id := 0) (j := 0) (ws := m9W) (hp := []) mixed m9Tab_ok (LOk.nil _) 256 (fun k o => (stC m9C m9H).wr ((255 - (k : Int), ()), (n, p, z, d, o, ()))) (fun o => (stC m9X m9HX).wr ((), (z, o, ()))) (mulG9 bit9L plus39C n p d) (fun _ _ => True)
    (fun k o R hk _ hn hx => ?_) (fun _ _ _ _ => trivial) 0 q (by omega) trivial
  · rw [Nat.sub_zero, rnds_upto, ← mult9W_eq] at key; exact key
  rw [m9_rnd bit9L plus39C]
  refine ⟨fun hb => ?_, fun hb => ?_⟩
  · have hk' : k < 256 := by have := of_decide_eq_true hb; omega
    have hn' := hn hk'
    have e3 : IntKind.i64.wrap ((255 - (k : Int)) - 1) = 255 - ((k + 1 : Nat) : Int) := by rw [wrap_ok (by omega) (by omega)]; omega
    rw [e3]
    refine ⟨⟨h2, by omega, by omega⟩, fun hc => ?_, fun hc => ?_⟩
    · have : mulG9 bit9L plus39C n p d k o = plus39C (plus39C o o d) p d := by unfold mulG9; rw [hc]; rfl
      rw [this] at hn'; exact hn'
    · have : mulG9 bit9L plus39C n p d k o = plus39C o o d := by unfold mulG9; rw [hc]; rfl
      rw [this] at hn'; exact hn'
  · have : k = 256 := by have := of_decide_eq_false hb; omega
    exact hx this
abbrev mp9A : Cod (List LV) (List Int × Pn × Unit) := lCons cB (lCons cPn lNil)
def eNM (g : List Int → Pn → Pn) : Ent := Ent.ofS [] mp9A lNil fun x _ => .leaf (some (x.1.length = 32)) (cPn.wr (g x.1 x.2.1)) []
abbrev m9LT (w : List Int → Pn → Fn → Pn → Pn) : LTab := [(0, loopF (stC m9C m9H) 0 [m9Cf, .auto, symPn 2, symN 3, symPn 4] (m9LF w))]
abbrev m9Tab (bit : List Int → Int → Int) (p3 : Pn → Pn → Fn → Pn) (ed : Fn) (add : Fn → Fn → Fn) (z : Pn) : List (FuncId × Ent) := [(85, eBi bit), (84, e3Pn p3), (82, e0N ed), (81, e2N add), (83, e0P z)]
theorem nmult_tree (w : List Int → Pn → Fn → Pn → Pn) (bit : List Int → Int → Int) (p3 : Pn → Pn → Fn → Pn) (ed : Fn) (add : Fn → Fn → Fn) (z : Pn) (n : List Int) (p : Pn) : fnT Tryz.prog (m9Tab bit p3 ed add z) (m9LT w) m9Fn (mp9A.wr (n, p, ())) [] kK =
    .need ((255 : Int) = 255 ∧ n.length = 32) (.leaf (cPn.wr (w n p (add ed ed) z)) []) := by kernel_rfl
theorem mult9L_ex : ∃ f : List Int → Pn → Pn, ∀ (n : List Int) (p : Pn) , f n p = (mult9C (v32 n) p) := ⟨fun n p => mult9C (v32 n) p, fun _ _ => rfl⟩
noncomputable def mult9L : List Int → Pn → Pn := Classical.choose mult9L_ex
theorem mult9L_eq (n : List Int) (p : Pn)  : mult9L n p = (mult9C (v32 n) p) := Classical.choose_spec mult9L_ex n p
noncomputable abbrev nmultE : Ent := eNM mult9L
theorem mult9_same (n : List Int) (p : Pn) : mult9W n p (add9C edge9C edge9C) zero9C = mult9L n p := by
  rw [mult9W_eq, mult9L_eq]
  unfold mult9C multFn9
  refine rnds_congr (fun k hk r => ?_) _ 256 (Nat.le_refl _)
  unfold mulG9 multStep9 bit9L
  rw [selPn_eq]
theorem m9L_ok : LOk Tryz.prog [] (m9LT mult9W) (bodyOf m9Fn) := LOk.ofTab (LTC rfl (loopF_ok (hp := []) m9_loop) LT0)
theorem nmult_ok : nmultE.Ok Tryz.prog 39 := by
  refine (Ent.ofOk Tryz.call39 fun x_ y_ Q H_ => ?_).sym
  obtain ⟨n, p, _⟩ := x_
  obtain ⟨hn, hq⟩ := H_
  have hn : n.length = 32 := hn
  have hc : CallsT Tryz.prog 39 (mp9A.wr (n, p, ())) [] (fnT Tryz.prog (m9Tab bit9L plus39C edge9C add9C zero9C) (m9LT mult9W) m9Fn (mp9A.wr (n, p, ())) [] kK) := fnT_ok mixed (tabC nbit'_ok (tabC nplus3_ok (tabC nedge_ok (tabC nadd_ok (tabC nzero_ok tab0))))) Tryz.func39 rfl m9L_ok
  rw [nmult_tree mult9W bit9L plus39C edge9C add9C zero9C] at hc
  exact hc.use (D := []) (show (Ev.End.need _ _).sat _ from ⟨⟨rfl, hn⟩, by rw [mult9_same], rfl⟩) hq
end Go.Proofs.YthdfifcgobfgdaaGreat
end

section
set_option linter.unusedVariables false
set_option linter.unusedSimpArgs false
namespace Go.Proofs.YthdfifcgobfgdaaGreat
open Go Go.Ev BJ
set_option maxRecDepth 1000000
def hh : Int := 65536
theorem hh_pos : 0 < hh := by decide
theorem hh_256 : hh = 256 ^ 2 := by decide
noncomputable def dig9 (b : List Int) : List Int := dg hh 34 (vd 256 b)
theorem lt_hh34 {b : List Int} (hb : AllBy b) (hl : b.length ≤ 64) : 0 ≤ vd 256 b ∧ vd 256 b < 256 ^ 64 := by
  have h0 := vd_nonneg (by decide) (show InB 256 b from hb)
  have h1 := vd_lt (by decide) (show InB 256 b from hb)
  exact ⟨h0, Int.lt_of_lt_of_le h1 (ipow_le (by decide) hl)⟩
theorem p64_hh : (256 : Int) ^ 64 ≤ hh ^ 34 := by decide +kernel
theorem dig_step {b : List Int} (hb : AllBy b) (hl : b.length ≤ 64) {k : Nat} (hk : k < b.length) :
    (dig9 (b.take k)).set (k / 2) (IntKind.i64.wrap ((dig9 (b.take k)).getD (k / 2) 0 + shl .i64 (IntKind.i64.wrap (b.getD k 0)) ((k % 2 * 8 : Nat) : Int))) = dig9 (b.take (k + 1)) := by
  have hb' : InB 256 b := hb
  have hc := InB.getD (by decide) hb' k
  have hV0 := vd_nonneg (by decide) (hb'.take k)
  have hV1 := vd_lt (by decide) (hb'.take k)
  rw [List.length_take, Nat.min_eq_left (by omega)] at hV1
  unfold dig9
  rw [vd_take_succ hk]
  generalize vd 256 (b.take k) = V at *
  generalize b.getD k 0 = c at *
  have hi : k / 2 < 34 := by omega
  have hs : k % 2 < 2 := by omega
  have hk' : k = 2 * (k / 2) + k % 2 := (Nat.div_add_mod k 2).symm
  have hp : (256 : Int) ^ k = hh ^ (k / 2) * 256 ^ (k % 2) := by rw [hh_256, ← Int.pow_mul, ← Int.pow_add, ← hk']
  have hQ : 0 < hh ^ (k / 2) := Int.pow_pos hh_pos
  have hle : (256 : Int) ^ (k % 2) * 256 ≤ hh := by
    rw [← Int.pow_succ, hh_256]; exact ipow_le (by decide) (by omega)
  have hP : (0 : Int) < 256 ^ (k % 2) := Int.pow_pos (by decide)
  have hdl : V / hh ^ (k / 2) < 256 ^ (k % 2) := Int.ediv_lt_of_lt_mul hQ (by rw [Int.mul_comm, ← hp]; exact hV1)
  have hd0 : 0 ≤ V / hh ^ (k / 2) := Int.ediv_nonneg hV0 (Int.le_of_lt hQ)
  have eg : (dg hh 34 V).getD (k / 2) 0 = V / hh ^ (k / 2) := by
    rw [dg_getD hh_pos hi, Int.emod_eq_of_lt hd0 (by omega)]
  rw [eg]
  have ehh : hh = 65536 := rfl
  have ew : IntKind.i64.wrap c = c := wrap_ok (by omega) (by omega)
  have hcP : c * 256 ^ (k % 2) ≤ 255 * 256 ^ (k % 2) := Int.mul_le_mul_of_nonneg_right (by omega) (by omega)
  have hcP0 : 0 ≤ c * 256 ^ (k % 2) := Int.mul_nonneg hc.1 (by omega)
  have es : shl .i64 c ((k % 2 * 8 : Nat) : Int) = c * 256 ^ (k % 2) := by
    rw [shl_mul .i64 c _ (by simp [IntKind.bits]; omega), two_pow8, wrap_ok (by omega) (by omega)]
  rw [ew, es, wrap_ok (by omega) (by omega)]
  refine eq_dg hh_pos ((dg_in hh_pos 34 V).set ⟨by omega, by omega⟩) (by rw [List.length_set, dg_length]) ?_
  rw [vd_set (by rw [dg_length]; exact hi), eg, vd_dg hh_pos]
  have hV2 : V < hh ^ 34 := Int.lt_of_lt_of_le hV1 (Int.le_trans (ipow_le (by decide) (by omega)) p64_hh)
  rw [Int.emod_eq_of_lt hV0 hV2]
  have e3 : (V / hh ^ (k / 2) + c * 256 ^ (k % 2) - V / hh ^ (k / 2)) * hh ^ (k / 2) = c * 256 ^ k := by
    rw [hp, Int.mul_comm (hh ^ (k / 2)), ← Int.mul_assoc]; congr 1; omega
  rw [e3]
  have hlt : V + c * 256 ^ k < hh ^ 34 := by
    have h1 : c * 256 ^ k ≤ 255 * 256 ^ k := Int.mul_le_mul_of_nonneg_right (by omega) (Int.le_of_lt (Int.pow_pos (by decide)))
    have h2 : (256 : Int) ^ (k + 1) ≤ 256 ^ 64 := ipow_le (by decide) (by omega)
    have h3 := p64_hh
    rw [Int.pow_succ] at h2
    omega
  exact (Int.emod_eq_of_lt (Int.add_nonneg hV0 (Int.mul_nonneg hc.1 (Int.le_of_lt (Int.pow_pos (by decide))))) hlt).symm
def dblV : {n : Nat} → Int → Vec Int n → Vec Int n
  | 0, _, _ => ()
  | _ + 1, c, v => (lowBits (w (c + w (2 * v.1))) 65535, dblV (down (w (c + w (2 * v.1))) 16) v.2)
def subV : {n : Nat} → Nat → Vec Int n → List Int → Vec Int n
  | 0, _, _, _ => ()
  | _ + 1, k, v, l => (w (v.1 - l.getD k 0), subV (k + 1) v.2 l)
def dgV : (n : Nat) → Int → Vec Int n
  | 0, _ => ()
  | n + 1, x => (x % 65536, dgV n (x / 65536))
def dgT : (n : Nat) → Int → Vec Int (n + 1)
  | 0, x => (x, ())
  | n + 1, x => (x % 65536, dgT n (x / 65536))
def vdV : {n : Nat} → Vec Int n → Int
  | 0, _ => 0
  | _ + 1, v => v.1 + 65536 * vdV v.2
def Small9 : {n : Nat} → Vec Int n → Prop
  | 0, _ => True
  | _ + 1, v => (-65536 < v.1 ∧ v.1 < 65536) ∧ Small9 v.2
theorem dbl_dg : ∀ (n : Nat) (x c : Int), 0 ≤ x → 0 ≤ c → c ≤ 1 → dblV c (dgV n x) = dgV n (2 * x + c)
  | 0, _, _, _, _, _ => rfl
  | n + 1, x, c, hx, h0, h1 => by
    show (lowBits (w (c + w (2 * (x % 65536)))) 65535, dblV (down (w (c + w (2 * (x % 65536)))) 16) (dgV n (x / 65536))) = ((2 * x + c) % 65536, dgV n ((2 * x + c) / 65536))
    have e1 : w (2 * (x % 65536)) = 2 * (x % 65536) := wrap_ok (by omega) (by omega)
    have e2 : w (c + 2 * (x % 65536)) = c + 2 * (x % 65536) := wrap_ok (by omega) (by omega)
    rw [e1, e2, low_16, down_16, dbl_dg n (x / 65536) _ (by omega) (by omega) (by omega)]
    congr 1
    · omega
    · congr 1; omega
theorem subV_val : ∀ (n k : Nat) (x Y : Int) (l : List Int), (∀ j, j < n → l.getD (k + j) 0 = Y / 65536 ^ j % 65536) → vdV (subV k (dgV n x) l) = x % 65536 ^ n - Y % 65536 ^ n ∧ Small9 (subV k (dgV n x) l)
  | 0, _, x, Y, _, _ => by simp [subV, vdV, Small9, Int.emod_one]
  | n + 1, k, x, Y, l, h => by
    have h0 := h 0 (by omega)
    simp only [Nat.add_zero, Int.pow_zero, Int.ediv_one] at h0
    obtain ⟨i1, i2⟩ := subV_val n (k + 1) (x / 65536) (Y / 65536) l fun j hj => by
      have := h (j + 1) (by omega)
      rw [show k + (j + 1) = k + 1 + j from by omega] at this
      rw [this, Int.pow_succ, Int.mul_comm, ← Int.ediv_ediv_of_nonneg (by decide)]
    have e1 : w (x % 65536 - l.getD k 0) = x % 65536 - Y % 65536 := by rw [h0]; exact wrap_ok (by omega) (by omega)
    show w (x % 65536 - l.getD k 0) + 65536 * vdV (subV (k + 1) (dgV n (x / 65536)) l) = _ ∧ ((-65536 < w (x % 65536 - l.getD k 0) ∧ w (x % 65536 - l.getD k 0) < 65536) ∧ Small9 (subV (k + 1) (dgV n (x / 65536)) l))
    rw [e1, i1]
    refine ⟨?_, ⟨by omega, by omega⟩, i2⟩
    have s1 := emod_split (B := 65536) (by decide) (P := 65536 ^ n) (Int.pow_pos (by decide)) x
    have s2 := emod_split (B := 65536) (by decide) (P := 65536 ^ n) (Int.pow_pos (by decide)) Y
    rw [Int.pow_succ, Int.mul_comm ((65536 : Int) ^ n), ← s1, ← s2]
    omega
theorem carried_dg : ∀ (n : Nat) (x : Int) (v : Vec Int n), -4294967296 < x → x < 4294967296 → Small9 v → carried9 x v = dgT n (x + 65536 * vdV v)
  | 0, x, v, _, _, _ => by show (x, ()) = (x + 65536 * 0, ()); rw [Int.mul_zero, Int.add_zero]
  | n + 1, x, v, h1, h2, h3 => by
    obtain ⟨h4, h5⟩ := h3
    show (lowBits x 65535, carried9 (w (v.1 + down x 16)) v.2) = ((x + 65536 * (v.1 + 65536 * vdV v.2)) % 65536, dgT n ((x + 65536 * (v.1 + 65536 * vdV v.2)) / 65536))
    have e1 : w (v.1 + x / 65536) = v.1 + x / 65536 := wrap_ok (by omega) (by omega)
    rw [low_16, down_16, e1, carried_dg n _ v.2 (by omega) (by omega) h5]
    generalize vdV v.2 = Z
    congr 1
    · omega
    · congr 1; omega
theorem dgT_top : ∀ (n : Nat) (x : Int), (dgT n x).get n = x / 65536 ^ n
  | 0, x => by rw [Int.pow_zero, Int.ediv_one]; rfl
  | n + 1, x => by
    show (dgT n (x / 65536)).get n = _
    rw [dgT_top n, Int.pow_succ, Int.mul_comm, Int.ediv_ediv_of_nonneg (by decide)]
theorem dgT_succ (n : Nat) (x : Int) : dgT (n + 1) x = (x % 65536, dgT n (x / 65536)) := rfl
theorem dgV_succ (n : Nat) (x : Int) : dgV (n + 1) x = (x % 65536, dgV n (x / 65536)) := rfl
theorem dgT_dgV (n : Nat) : ∀ (x : Int), 0 ≤ x → x < 65536 ^ (n + 1) → dgT n x = dgV (n + 1) x := by
  induction n with
  | zero =>
    intro x h0 h1
    rw [dgV_succ, Int.emod_eq_of_lt h0 (by rwa [Int.pow_succ, Int.pow_zero, Int.one_mul] at h1)]
    rfl
  | succ n ih =>
    intro x h0 h1
    rw [Int.pow_succ] at h1
    have h2 : x / 65536 < 65536 ^ (n + 1) := Int.ediv_lt_of_lt_mul (by decide) h1
    rw [dgT_succ, dgV_succ, ih (x / 65536) (by omega) h2]
noncomputable def ordL9 : List Int := dg 256 32 ll
def carV (v : Vec Int 17) : Vec Int 17 := carried9 v.1 v.2
theorem ordL9_val : vd 256 ordL9 = ll := by
  unfold ordL9
  rw [vd_dg (by decide)]
  exact Int.emod_eq_of_lt (by have := ll_pos; omega) (by decide +kernel)
theorem llDig (j : Nat) (hj : j < 17) : (dig9 ordL9).getD (0 + j) 0 = ll / 65536 ^ j % 65536 := by
  unfold dig9
  rw [Nat.zero_add, dg_getD hh_pos (by omega), ordL9_val]
  rfl
theorem p17 : ll + ll < 65536 ^ 17 := by decide +kernel
theorem mod_dg {R c : Int} (hR : 0 ≤ R ∧ R < ll) (hc : 0 ≤ c ∧ c < 2) :
    (if 0 ≤ (carV (subV 0 (dblV c (dgV 17 R)) (dig9 ordL9))).get 16 then carV (subV 0 (dblV c (dgV 17 R)) (dig9 ordL9)) else dblV c (dgV 17 R)) = dgV 17 ((2 * R + c) % ll) := by
  have hp := p17
  rw [dbl_dg 17 R c hR.1 hc.1 (by omega)]
  obtain ⟨v1, v2⟩ := subV_val 17 0 (2 * R + c) ll (dig9 ordL9) llDig
  rw [Int.emod_eq_of_lt (by omega) (by omega), Int.emod_eq_of_lt (by have := ll_pos; omega) (by have := ll_pos; omega)] at v1
  have ec : carV (subV 0 (dgV 17 (2 * R + c)) (dig9 ordL9)) = dgT 16 (2 * R + c - ll) := by
    unfold carV
    rw [carried_dg 16 _ _ (by have := v2.1.1; omega) (by have := v2.1.2; omega) v2.2, ← v1]
    rfl
  rw [ec, dgT_top, mod_step ll_pos hR hc]
  have hq : (0 : Int) < 65536 ^ 16 := Int.pow_pos (by decide)
  by_cases h : 2 * R + c < ll
  · rw [if_pos h, if_neg]
    intro h'
    have := (Int.ediv_nonneg_iff_of_pos hq).1 h'
    omega
  · rw [if_neg h, if_pos ((Int.ediv_nonneg_iff_of_pos hq).2 (by omega)), dgT_dgV 16 _ (by omega) (by show _ < (65536 : Int) ^ 17; omega)]
end Go.Proofs.YthdfifcgobfgdaaGreat
end

section
set_option linter.unusedVariables false
set_option linter.unusedSimpArgs false
namespace Go.Proofs.YthdfifcgobfgdaaGreat
open Go Go.Ev BJ
set_option maxRecDepth 1000000
noncomputable abbrev rorderE : Ent := e0B ordB
theorem rorder_tree   : fnT Tryz.prog [] [] Tryz.f124 ((lNil).wr ()) [] [.rowF 0 0 32 .u8, .auto] = .leaf (nRow .u8 32 ordB) [] := by kernel_rfl
theorem rorder_tab_ : ∀ p_ ∈ ([] : List (FuncId × Ent)), p_.2.Ok Tryz.prog p_.1 := tab0
theorem rorder_ok : rorderE.Ok Tryz.prog 124 := by
  refine (Ent.ofOk Tryz.call124 fun x_ y_ Q H_ => ?_).sym
  have hq := H_.2
  refine (fnT_ok (tab := []) mixed rorder_tab_ Tryz.func124 rfl (LT := []) (ks := [.rowF 0 0 32 .u8, .auto]) (LOk.nil _)).use (D := []) ?_ hq
  show (fnT _ _ _ _ ((lNil).wr ()) [] _).sat _
  rw [rorder_tree ]
  exact ⟨rfl, rfl⟩
noncomputable abbrev dgFn : Func := Tryz.f72
abbrev dgC : Cod (List LV) (List Int × Int × Unit) := (lCons (vOne (sRd false false u8)) (jk 2 (lSkip (vOne (sSl 0 0)) (lCons (vOne (sInt .i64)) (jk 28 lNil)))))
abbrev dgCf : Wk := .fr (fmS 33 [(0, .keep), (3, .keep), (4, .sym)])
abbrev dgX : Cod (List LV) (Unit) := (jk 3 (lSkip (vOne (sSl 0 0)) (jk 29 lNil)))
abbrev dgXf : Wk := .fr (fmS 33 [(3, .keep)])
abbrev own64 : Cod Hp (List Int × Unit) := lCons (iOwn 0 (.int .i64)) lNil
def dgW : Exit → List Wk
  | .normal => [dgCf, .auto]
  | .exit 0 => [dgXf, .auto]
  | _ => []
theorem dg_rnd (b o : List Int) (i : Int) : rndT Tryz.prog [] [] dgFn 0 [] dgW ((stC dgC own64).wr ((b, i, ()), (o, ()))) =
  Res.ite (decide (i < (↑b.length : Int))) (Res.need ((0 : Int) ≤ IntKind.i64.wrap (i.tdiv (2 : Int)) ∧ IntKind.i64.wrap (i.tdiv (2 : Int)) < (↑o.length
  : Int)) (Res.need ((0 : Int) ≤ i ∧ i < (↑b.length : Int)) (Res.need ((0 : Int) ≤ IntKind.u64.wrap (IntKind.i64.wrap ((8 : Int) * i.tmod (2 : Int))))
  (Res.need ((0 : Int) ≤ IntKind.i64.wrap (i.tdiv (2 : Int)) ∧ IntKind.i64.wrap (i.tdiv (2 : Int)) < (↑o.length : Int)) (Res.leaf Exit.normal ((stC dgC
  own64).wr ((b, IntKind.i64.wrap (i + (1 : Int)), PUnit.unit), o.set (IntKind.i64.wrap (i.tdiv (2 : Int))).toNat (IntKind.i64.wrap (o.getD
  (IntKind.i64.wrap (i.tdiv (2 : Int))).toNat (0 : Int) + shl IntKind.i64 (IntKind.i64.wrap (b.getD i.toNat (0 : Int))) (IntKind.u64.wrap
  (IntKind.i64.wrap ((8 : Int) * i.tmod (2 : Int)))))), PUnit.unit))))))) (Res.leaf (Exit.exit (0 : Nat)) ((stC dgX own64).wr (PUnit.unit, o,
  PUnit.unit))) := by kernel_rfl
noncomputable abbrev mdFn : Func := Tryz.f71
abbrev mdC : Cod (List LV) (List Int × Int × Unit) := (lCons (vOne (sRd false false (.int .i64))) (jk 1 (lSkip (vOne (sPtr 0 0)) (jk 1 (lSkip (vOne (sSl 1 0)) (lSkip (vOne (sPtr 2 0)) (lCons (vOne (sInt .i64)) (jk 105 lNil))))))))
abbrev mdCf : Wk := .fr (fmS 112 [(0, .keep), (2, .keep), (4, .keep), (5, .keep), (6, .sym)])
abbrev mdX : Cod (List LV) (Unit) := (jk 2 (lSkip (vOne (sPtr 0 0)) (jk 2 (lSkip (vOne (sPtr 1 0)) (jk 106 lNil)))))
abbrev mdXf : Wk := .fr (fmS 112 [(2, .keep), (5, .keep)])
abbrev V17 := Vec Int 17
abbrev iV17 : Cod (Option Ev.Item) V17 := iBlk 150 (vecL .i64 17)
abbrev mdH : Cod Hp (List Int × List Int × V17 × Unit) := lCons (iRow 22 .u8 32) (lCons (iOwn 0 (.int .i64)) (lCons iV17 lNil))
abbrev mdHX : Cod Hp (List Int × V17 × Unit) := lCons (iRow 22 .u8 32) (lCons iV17 lNil)
def mdW : Exit → List Wk
  | .normal => [mdCf, .rowB 0 0 32 .u8, .blk 2 (List.replicate 17 .sym), .auto]
  | .exit 0 => [mdXf, .rowB 0 0 32 .u8, .blk 2 (List.replicate 17 .sym), .auto]
  | _ => []
def dgLF (g : List Int → List Int) (x : (List Int × Int × Unit) × List Int × Unit) : Res := .need (x.1.2.1 = 0 ∧ AllBy x.1.1 ∧ x.1.1.length ≤ 64 ∧ x.2.1 = List.replicate 34 0) (.leaf (.exit 0) ((stC dgX own64).wr ((), (g x.1.1, ()))))
theorem dig9_nil : dig9 [] = List.replicate 34 0 := dg_zero hh_pos 34
theorem dg_loop (x) : Ex Tryz.prog [] (.loop (loopAt dgFn 0)) ((stC dgC own64).wr x) (dgLF dig9 x) := by
  obtain ⟨⟨b, i, _⟩, o, _⟩ := x
  refine Ex.need fun ⟨h1, h2, h3, h4⟩ => ?_
  simp only at h1 h2 h3 h4
  subst h1 h4
  have key := loopUp (fn := dgFn) (id := 0) (j := 0) (ws := dgW) (hp := []) mixed tab0 (LOk.nil _) b.length (fun k (_ : Unit) => (stC dgC own64).wr ((b, (k : Int), ()), (dig9 (b.take k), ()))) (fun _ => (stC dgX own64).wr ((), (dig9 b, ()))) (fun _ u => u) (fun _ _ => True)
    (fun k o R hk _ hn hx => ?_) (fun _ _ _ _ => trivial) 0 () (by omega) trivial
  · rw [List.take_zero, dig9_nil] at key; exact key
  rw [dg_rnd]
  have e1 : IntKind.i64.wrap ((k : Int).tdiv 2) = ((k / 2 : Nat) : Int) := tdiv_nat k 2 (by omega)
  have e2 : IntKind.u64.wrap (IntKind.i64.wrap (8 * (k : Int).tmod 2)) = ((k % 2 * 8 : Nat) : Int) := by
    rw [show (k : Int).tmod 2 = ((k % 2 : Nat) : Int) from tmodN k 2, wrap_ok (by omega) (by omega), wrap_u64 (by omega) (by omega)]; omega
  have hl : (dig9 (b.take k)).length = 34 := dg_length _ _
  refine ⟨fun hb => ?_, fun hb => ?_⟩
  · have hk' : k < b.length := by have := of_decide_eq_true hb; omega
    rw [e1, e2, Int.toNat_natCast, Int.toNat_natCast, dig_step h2 h3 hk', wrap_succ k (by omega)]
    exact ⟨by omega, by omega, by omega, by omega, hn hk'⟩
  · have : k = b.length := by have := of_decide_eq_false hb; omega
    subst this
    have := hx rfl
    rw [List.take_length]; exact this
noncomputable abbrev dgLT (g : List Int → List Int) : LTab := [(0, loopF (stC dgC own64) 0 [dgCf, .auto] (dgLF g))]
def eDg (g : List Int → List Int) : Ent := Ent.ofS [some u8] bA lNil fun x _ => .leaf (some (AllBy x.1 ∧ x.1.length ≤ 64)) (.one (.sc (.sl 0 0))) [(0, .own 0 (.int .i64) (g x.1))]
theorem rdig_tree (g : List Int → List Int) (b : List Int) : fnT Tryz.prog [] (dgLT g) dgFn (bA.wr (b, ())) [] [.ownF 0 (.int .i64), .auto, .vers] =
  End.need ((34 : Int) = (34 : Int) ∧ (0 : Int) ≤ (34 : Int) ∧ (272 : Int) ≤ (70368744177664 : Int) ∧ (34 : Int) ≤ (70368744177664 : Int)) (End.need ((0
  : Int) = (0 : Int) ∧ AllBy b ∧ b.length ≤ (64 : Nat) ∧ List.replicate (34 : Nat) (0 : Int) = List.replicate (34 : Nat) (0 : Int)) (End.leaf (LV.one
  (VV.sc (SV.sl (0 : Nat) (0 : Nat)))) [some (Item.own (0 : Nat) (Ty.int IntKind.i64) (g b))])) := by kernel_rfl
noncomputable abbrev rdigE : Ent := eDg dig9
theorem rdig_ok : rdigE.Ok Tryz.prog 72 := by
  refine (Ent.ofOk Tryz.call72 fun x_ y_ Q H_ => ?_).sym
  obtain ⟨b, _⟩ := x_
  obtain ⟨hn, hq⟩ := H_
  refine (fnT_ok mixed tab0 Tryz.func72 rfl (LT := dgLT dig9) (ks := [.ownF 0 (.int .i64), .auto, .vers]) (LOk.ofTab (LTC rfl (loopF_ok (hp := []) dg_loop) LT0))).use (D := [(0, .own 0 (.int .i64) (dig9 b))]) ?_ hq
  show (fnT _ _ _ _ (bA.wr (b, ())) [] _).sat _
  rw [rdig_tree]
  exact ⟨by decide, ⟨rfl, hn.1, hn.2, rfl⟩, rfl, rfl⟩
def needsR (l : List Prop) (r : Res) : Res := l.foldr Res.need r
theorem needsR_sat {R : Exit → St → Prop} : ∀ {l : List Prop} {r : Res}, (∀ p ∈ l, p) → r.sat R → (needsR l r).sat R
  | [], _, _, h => h
  | p :: l, r, hl, h => ⟨hl p (by simp), needsR_sat (fun q hq => hl q (by simp [hq])) h⟩
def mdBit (d : List Int) (i : Int) : Int := bitAnd .i64 (shr .i64 (d.getD (IntKind.i64.wrap (i.tdiv 16)).toNat 0) (IntKind.u64.wrap (i.tmod 16))) 1
theorem md_rnd (d o l : List Int) (r : V17) (i : Int) : rndT Tryz.prog [] [] mdFn 0 [] mdW ((stC mdC mdH).wr ((d, i, ()), (o, l, r, ()))) =
  Res.ite (decide (0 ≤ i)) (needsR ([0 ≤ IntKind.i64.wrap (i.tdiv 16) ∧ IntKind.i64.wrap (i.tdiv 16) < (d.length : Int), 0 ≤ IntKind.u64.wrap (i.tmod 16)] ++ (List.range 17).map fun k : Nat => (0 ≤ (k : Int) ∧ (k : Int) < (l.length : Int)))
    (Res.ite (decide (0 ≤ (carV (subV 0 (dblV (mdBit d i) r) l)).get 16)) (Res.leaf .normal ((stC mdC mdH).wr ((d, IntKind.i64.wrap (i - 1), ()), (o, l, carV (subV 0 (dblV (mdBit d i) r) l), ()))))
      (Res.leaf .normal ((stC mdC mdH).wr ((d, IntKind.i64.wrap (i - 1), ()), (o, l, dblV (mdBit d i) r, ())))))) (Res.leaf (.exit 0) ((stC mdX mdHX).wr ((), (o, r, ())))) := by kernel_rfl
def okD (d : List Int) : Prop := d.length = 34 ∧ InB hh d
abbrev mdT : Type := (List Int × Int × Unit) × List Int × List Int × V17 × Unit
def mdLF (g : List Int → V17) (LL : List Int) (x : mdT) : Res := .need (x.1.2.1 = 543 ∧ okD x.1.1 ∧ x.2.2.1 = LL ∧ x.2.2.2.1 = dgV 17 0) (.leaf (.exit 0) ((stC mdX mdHX).wr ((), (x.2.1, g x.1.1, ()))))
noncomputable def modV (d : List Int) : V17 := dgV 17 (vd hh d % ll)
theorem md_bit {d : List Int} (h : okD d) {i : Nat} (hi : i < 544) : mdBit d (i : Int) = vd hh d / 2 ^ i % 2 := by
  have e1 : IntKind.i64.wrap ((i : Int).tdiv 16) = ((i / 16 : Nat) : Int) := tdiv_nat i 16 (by omega)
  have e2 : IntKind.u64.wrap ((i : Int).tmod 16) = ((i % 16 : Nat) : Int) := by
    rw [show (i : Int).tmod 16 = ((i % 16 : Nat) : Int) from tmodN i 16, wrap_u64 (by omega) (by omega)]
  unfold mdBit
  rw [e1, e2, Int.toNat_natCast, and_i64 (m := 1) (by decide) _ 1 (by decide), shr_div .i64 _ (i % 16) (by simp [IntKind.bits]; omega)]
  have := sub_digit (b := 2) (by decide) (m := 16) (by decide) (l := d) (show InB (2 ^ 16) d from h.2) (k := i) (by rw [h.1]; omega)
  have e3 : (((2 ^ (i % 16) : Nat)) : Int) = 2 ^ (i % 16) := by rw [Int.natCast_pow]; rfl
  rw [e3]
  exact this
theorem md_loop (x : mdT) : Ex Tryz.prog [] (.loop (loopAt mdFn 0)) ((stC mdC mdH).wr x) (mdLF modV (dig9 ordL9) x) := by
  obtain ⟨⟨d, i, _⟩, o, l, r, _⟩ := x
  refine Ex.need fun ⟨h1, h2, h3, h4⟩ => ?_
  simp only at h1 h2 h3 h4
  subst h1 h3 h4
  have hV0 := vd_nonneg hh_pos h2.2
  have hV1 := vd_lt hh_pos h2.2
  rw [h2.1, show hh ^ 34 = 2 ^ 544 from by decide +kernel] at hV1
  have key := loopUp (fn := mdFn) (id := 0) (j := 0) (ws := mdW) (hp := []) mixed tab0 (LOk.nil _) 544 (fun k (_ : Unit) => (stC mdC mdH).wr ((d, 543 - (k : Int), ()), (o, dig9 ordL9, dgV 17 (vd hh d / 2 ^ (544 - k) % ll), ()))) (fun _ => (stC mdX mdHX).wr ((), (o, modV d, ()))) (fun _ u => u) (fun _ _ => True)
    (fun k u R hk _ hn hx => ?_) (fun _ _ _ _ => trivial) 0 () (by omega) trivial
  · rw [show vd hh d / 2 ^ (544 - 0) = 0 from Int.ediv_eq_zero_of_lt hV0 hV1, Int.zero_emod] at key; exact key
  rw [md_rnd]
  refine ⟨fun hb => ?_, fun hb => ?_⟩
  · have hk' : k < 544 := by have := of_decide_eq_true hb; omega
    have e0 : (543 - (k : Int)) = ((544 - (k + 1) : Nat) : Int) := by omega
    have e3 : IntKind.i64.wrap (543 - (k : Int) - 1) = 543 - ((k + 1 : Nat) : Int) := by rw [wrap_ok (by omega) (by omega)]; omega
    have hn' := hn hk'
    have hbit := md_bit h2 (i := 544 - (k + 1)) (by omega)
    have e1 : IntKind.i64.wrap ((543 - (k : Int)).tdiv 16) = (((544 - (k + 1)) / 16 : Nat) : Int) := by rw [e0]; exact tdiv_nat _ 16 (by omega)
    have e2 : IntKind.u64.wrap ((543 - (k : Int)).tmod 16) = (((544 - (k + 1)) % 16 : Nat) : Int) := by
      rw [e0, show (((544 - (k + 1) : Nat) : Int)).tmod 16 = (((544 - (k + 1)) % 16 : Nat) : Int) from tmodN _ 16, wrap_u64 (by omega) (by omega)]
    rw [← e0] at hbit
    have hs := half_step (vd hh d) (544 - (k + 1))
    rw [show 544 - (k + 1) + 1 = 544 - k from by omega] at hs
    have em : (vd hh d / 2 ^ (544 - (k + 1))) % ll = (2 * (vd hh d / 2 ^ (544 - k) % ll) + vd hh d / 2 ^ (544 - (k + 1)) % 2) % ll := by
      conv => lhs; rw [hs]
      exact mod_two _ _ _
    have hb2 : 0 ≤ vd hh d / 2 ^ (544 - (k + 1)) % 2 ∧ vd hh d / 2 ^ (544 - (k + 1)) % 2 < 2 := by omega
    have hR : 0 ≤ vd hh d / 2 ^ (544 - k) % ll ∧ vd hh d / 2 ^ (544 - k) % ll < ll := ⟨Int.emod_nonneg _ (by have := ll_pos; omega), Int.emod_lt_of_pos _ ll_pos⟩
    have hm := mod_dg hR hb2
    rw [← em] at hm
    rw [← hm] at hn'
    rw [hbit, e3]
    refine needsR_sat (fun p hp => ?_) ⟨fun hc => ?_, fun hc => ?_⟩
    · rcases List.mem_append.1 hp with hp | hp
      · simp only [List.mem_cons, List.not_mem_nil, or_false] at hp
        rcases hp with rfl | rfl
        · rw [e1, h2.1]; omega
        · rw [e2]; omega
      · obtain ⟨j, hj, rfl⟩ := List.mem_map.1 hp
        have hj := List.mem_range.1 hj
        have : (dig9 ordL9).length = 34 := dg_length _ _
        rw [this]; omega
    · rw [if_pos (of_decide_eq_true hc)] at hn'; exact hn'
    · rw [if_neg (of_decide_eq_false hc)] at hn'; exact hn'
  · have : k = 544 := by have := of_decide_eq_false hb; omega
    subst this
    have := hx rfl
    simp only [Nat.sub_self, Int.pow_zero, Int.ediv_one]
    exact this
noncomputable abbrev mdLT (g : List Int → V17) (LL : List Int) : LTab := [(0, loopF (stC mdC mdH) 0 [mdCf, .auto, .rowB 0 0 32 .u8, .blk 2 (List.replicate 17 .sym)] (mdLF g LL))]
def outF (v : V17) : List Int := (List.range 32).map fun i => IntKind.u8.wrap (bitAnd .i64 (shr .i64 (v.get (i / 2)) ((8 * (i % 2) : Nat) : Int)) 255)
abbrev rd64A : Cod (List LV) (List Int × Unit) := lCons (vOne (sRd false false (.int .i64))) lNil
def eMd (g : List Int → List Int) : Ent := Ent.ofS [some (.int .i64)] rd64A lNil fun x _ => .leaf (some (okD x.1)) (nRow .u8 32 (g x.1)) []
theorem rmod_tree (g : List Int → V17) (LL o : List Int) (dig : List Int → List Int) (d : List Int) : fnT Tryz.prog [(124, e0B o), (72, eDg dig)] (mdLT g LL) mdFn (rd64A.wr (d, ())) [] [.fr [.sym], .rowF 0 0 32 .u8, .auto] =
    .need ((0 : Int) ≤ 0 ∧ (0 : Int) ≤ 32 ∧ (32 : Int) ≤ 32) (.need (AllBy (List.take 32 (List.drop 0 o)) ∧ (List.take 32 (List.drop 0 o)).length ≤ 64) (.need (IntKind.i64.wrap (IntKind.i64.wrap (16 * (d.length : Int)) - 1) = 543 ∧ okD d ∧ dig (List.take 32 (List.drop 0 o)) = LL ∧ (dgV 17 0) = dgV 17 0) (.leaf (nRow .u8 32 (outF (g d))) []))) := by kernel_rfl
theorem dgV_get : ∀ (n : Nat) (x : Int) (k : Nat), k < n → (dgV n x).get k = x / 65536 ^ k % 65536
  | 0, _, _, h => by omega
  | n + 1, x, 0, _ => by rw [Int.pow_zero, Int.ediv_one]; rfl
  | n + 1, x, k + 1, h => by
    have := dgV_get n (x / 65536) k (by omega)
    rw [Int.pow_succ, Int.mul_comm, ← Int.ediv_ediv_of_nonneg (by decide), ← this]; rfl
theorem out_eq {R : Int} (hR : 0 ≤ R ∧ R < ll) : outF (dgV 17 R) = dg 256 32 R := by
  rw [← dg_map (by decide) 32 R]
  unfold outF
  refine List.map_congr_left fun i hi => ?_
  have hi := List.mem_range.1 hi
  have hp := p17
  have hl := ll_pos
  rw [dgV_get 17 R (i / 2) (by omega), and_i64 (m := 8) (by decide) _ 255 (by decide), shr_div .i64 _ (8 * (i % 2)) (by simp [IntKind.bits]; omega)]
  have key := sub_digit (b := 256) (by decide) (m := 2) (by decide) (l := dg hh 17 R) (show InB (256 ^ 2) _ from dg_in hh_pos 17 R) (k := i) (by rw [dg_length]; omega)
  rw [dg_getD hh_pos (by omega), show vd (256 ^ 2) (dg hh 17 R) = R from by
    rw [← hh_256, vd_dg hh_pos]; exact Int.emod_eq_of_lt hR.1 (by show R < (65536 : Int) ^ 17; omega)] at key
  have e1 : (((2 ^ (8 * (i % 2)) : Nat)) : Int) = 256 ^ (i % 2) := by rw [Nat.pow_mul, Int.natCast_pow]; rfl
  have e2 : (((2 ^ 8 : Nat)) : Int) = 256 := by decide
  rw [e1, e2, wrap_u8, ← key, Int.emod_emod_of_dvd _ (by decide)]
  rfl
noncomputable def redD (d : List Int) : List Int := dg 256 32 (vd hh d % ll)
noncomputable abbrev rmodE : Ent := eMd redD
theorem ord_same : List.take 32 (List.drop 0 ordB) = ordL9 := take_all (dg_length _ _)
theorem rmod_ok : rmodE.Ok Tryz.prog 71 := by
  refine (Ent.ofOk Tryz.call71 fun x_ y_ Q H_ => ?_).sym
  obtain ⟨d, _⟩ := x_
  obtain ⟨hn, hq⟩ := H_
  have hn : okD d := hn
  refine (fnT_ok mixed (tabC rorder_ok (tabC rdig_ok tab0)) Tryz.func71 rfl (LT := mdLT modV (dig9 ordL9)) (ks := [.fr [.sym], .rowF 0 0 32 .u8, .auto]) (LOk.ofTab (LTC rfl (loopF_ok (hp := []) md_loop) LT0))).use (D := []) ?_ hq
  show (fnT _ _ _ _ (rd64A.wr (d, ())) [] _).sat _
  rw [rmod_tree, ord_same]
  have ho : AllBy ordL9 ∧ ordL9.length ≤ 64 := ⟨dg_in (by decide) _ _, by rw [show ordL9.length = 32 from dg_length _ _]; decide⟩
  refine ⟨by decide, ho, ⟨by rw [hn.1]; decide, hn, rfl, rfl⟩, ?_, rfl⟩
  unfold modV redD
  rw [out_eq ⟨Int.emod_nonneg _ (by have := ll_pos; omega), Int.emod_lt_of_pos _ ll_pos⟩]
theorem okD_dig (b : List Int) : okD (dig9 b) := ⟨dg_length _ _, dg_in hh_pos _ _⟩
theorem dig_val {b : List Int} (hb : AllBy b) (hl : b.length ≤ 64) : vd hh (dig9 b) = vd 256 b := by
  obtain ⟨h0, h1⟩ := lt_hh34 hb hl
  have := p64_hh
  unfold dig9
  rw [vd_dg hh_pos, Int.emod_eq_of_lt h0 (by omega)]
noncomputable abbrev rreduceE : Ent := e64B redB
theorem rreduce_tree (dig md : List Int → List Int) (b : List Int) : fnT Tryz.prog [(72, eDg dig), (71, eMd md)] [] Tryz.f35 ((b64A).wr (b, ())) [] kR =
  End.need ((0 : Int) ≤ (0 : Int) ∧ (0 : Int) ≤ (64 : Int) ∧ (64 : Int) ≤ (64 : Int)) (End.need (AllBy (List.take (64 : Nat) (List.drop (0 : Nat) b)) ∧
  (List.take (64 : Nat) (List.drop (0 : Nat) b)).length ≤ (64 : Nat)) (End.need (okD (dig (List.take (64 : Nat) (List.drop (0 : Nat) b)))) (End.leaf
  (LV.one (VV.agg [SV.arr (Ty.int IntKind.u8) (32 : Nat) (md (dig (List.take (64 : Nat) (List.drop (0 : Nat) b))))])) []))) := by kernel_rfl
theorem rreduce_tab_ : ∀ p_ ∈ ([(72, eDg dig9), (71, eMd redD)] : List (FuncId × Ent)), p_.2.Ok Tryz.prog p_.1 := (tabC rdig_ok (tabC rmod_ok tab0))
theorem rreduce_ok : rreduceE.Ok Tryz.prog 35 := by
  refine (Ent.ofOk Tryz.call35 fun x_ y_ Q H_ => ?_).sym
  obtain ⟨b, _⟩ := x_
  obtain ⟨hn, hq⟩ := H_
  have hn : b.length = 64 ∧ AllBy b := hn
  refine (fnT_ok (tab := [(72, eDg dig9), (71, eMd redD)]) mixed rreduce_tab_ Tryz.func35 rfl (LT := []) (ks := kR) (LOk.nil _)).use (D := []) ?_ hq
  show (fnT _ _ _ _ ((b64A).wr (b, ())) [] _).sat _
  rw [rreduce_tree dig9 redD]
  rw [take_all hn.1]
  have e : redD (dig9 b) = redB b := by unfold redD redB; rw [dig_val hn.2 (by omega)]
  rw [e]
  exact ⟨by decide, ⟨hn.2, by rw [hn.1]; decide⟩, okD_dig b, rfl, rfl⟩
noncomputable abbrev risSE : Ent := eBB canB
theorem risS_tree (dig md : List Int → List Int) (b : List Int) : fnT Tryz.prog [(72, eDg dig), (71, eMd md)] [] Tryz.f47 ((bA32).wr (b, ())) [] kK =
  End.need ((0 : Int) ≤ (0 : Int) ∧ (0 : Int) ≤ (32 : Int) ∧ (32 : Int) ≤ (32 : Int)) (End.need (AllBy (List.take (32 : Nat) (List.drop (0 : Nat) b)) ∧
  (List.take (32 : Nat) (List.drop (0 : Nat) b)).length ≤ (64 : Nat)) (End.need (okD (dig (List.take (32 : Nat) (List.drop (0 : Nat) b)))) (End.leaf
  (LV.one (VV.sc (SV.bool (SB.sym (decide (md (dig (List.take (32 : Nat) (List.drop (0 : Nat) b))) = b)))))) []))) := by kernel_rfl
theorem risS_tab_ : ∀ p_ ∈ ([(72, eDg dig9), (71, eMd redD)] : List (FuncId × Ent)), p_.2.Ok Tryz.prog p_.1 := (tabC rdig_ok (tabC rmod_ok tab0))
theorem risS_ok : risSE.Ok Tryz.prog 47 := by
  refine (Ent.ofOk Tryz.call47 fun x_ y_ Q H_ => ?_).sym
  obtain ⟨b, _⟩ := x_
  obtain ⟨hn, hq⟩ := H_
  have hn : okB b := hn
  refine (fnT_ok (tab := [(72, eDg dig9), (71, eMd redD)]) mixed risS_tab_ Tryz.func47 rfl (LT := []) (ks := kK) (LOk.nil _)).use (D := []) ?_ hq
  show (fnT _ _ _ _ ((bA32).wr (b, ())) [] _).sat _
  rw [risS_tree dig9 redD]
  rw [take_all hn.1]
  refine ⟨by decide, ⟨hn.2, by rw [hn.1]; decide⟩, okD_dig b, nB_eq ?_, rfl⟩
  unfold redD canB
  rw [dig_val hn.2 (by rw [hn.1]; decide)]
  have h0 := hn.range
  have hm : 0 ≤ vd 256 b % ll ∧ vd 256 b % ll < ll := ⟨Int.emod_nonneg _ (by have := ll_pos; omega), Int.emod_lt_of_pos _ ll_pos⟩
  have hp : ll < 256 ^ 32 := by decide +kernel
  refine decide_eq_decide.2 ⟨fun h => ?_, fun h => ?_⟩
  · have := congrArg (vd 256) h
    rw [vd_dg (by decide), Int.emod_eq_of_lt hm.1 (by omega)] at this
    show vd 256 b < ll
    omega
  · rw [Int.emod_eq_of_lt h0.1 h, ← hn.1]; exact dg_vd (by decide) hn.2
end Go.Proofs.YthdfifcgobfgdaaGreat
end

section
set_option linter.unusedVariables false
set_option linter.unusedSimpArgs false
namespace Go.Proofs.YthdfifcgobfgdaaGreat
open Go Go.Ev BJ
set_option maxRecDepth 1000000
end Go.Proofs.YthdfifcgobfgdaaGreat
end

section
set_option linter.unusedVariables false
set_option linter.unusedSimpArgs false
namespace Go.Proofs.YthdfifcgobfgdaaGreat
open Go Go.Ev BJ
set_option maxRecDepth 1000000
end Go.Proofs.YthdfifcgobfgdaaGreat
end

section
set_option linter.unusedVariables false
set_option linter.unusedSimpArgs false
namespace Go.Proofs.YthdfifcgobfgdaaGreat
open Go Go.Ev BJ
set_option maxRecDepth 1000000
def eRo (g : List Int → List Int) : Ent := Ent.ofS [some u8] bA lNil fun x _ => .leaf (some (x.1.length ≤ 17592186044416)) (nRow .u8 64 (g x.1)) []
theorem rof_as : rofE = eRo rshaF := by kernel_rfl
theorem rof'_ok : (eRo rshaF).Ok Tryz.prog 36 := rof_as ▸ rof_ok
noncomputable abbrev rpreE : Ent := ePre preL
theorem rpre_tree (c : List Int) : fnT Tryz.prog [] [] Tryz.f11 (bA.wr (c, ())) [] [.ownF 0 u8, .auto, .vers] =
  End.ite (decide ((255 : Int) < (↑c.length : Int))) (End.leaf (LV.one (VV.sc (SV.sl (0 : Nat) (0 : Nat)))) [some (Item.own (0 : Nat) (Ty.int IntKind.u8)
  [])]) (End.need ((34 : Nat) ≤ (70368744177664 : Nat) ∧ (34 : Nat) ≤ (70368744177664 : Nat)) (End.need (((34 : Nat) + c.length) * (1 : Nat) ≤
  (70368744177664 : Nat) ∧ (34 : Nat) + c.length ≤ (70368744177664 : Nat)) (End.leaf (LV.one (VV.sc (SV.sl (0 : Nat) (0 : Nat)))) [some (Item.own (0 :
  Nat) (Ty.int IntKind.u8) ([(83 : Int), (105 : Int), (103 : Int), (69 : Int), (100 : Int), (50 : Int), (53 : Int), (53 : Int), (49 : Int), (57 : Int),
  (32 : Int), (110 : Int), (111 : Int), (32 : Int), (69 : Int), (100 : Int), (50 : Int), (53 : Int), (53 : Int), (49 : Int), (57 : Int), (32 : Int), (99
  : Int), (111 : Int), (108 : Int), (108 : Int), (105 : Int), (115 : Int), (105 : Int), (111 : Int), (110 : Int), (115 : Int)] ++ [(1 : Int),
  IntKind.u8.wrap (↑c.length : Int)] ++ c))]))) := by kernel_rfl
theorem rpre_ok : rpreE.Ok Tryz.prog 11 := by
  refine (Ent.ofOk Tryz.call11 fun x_ y_ Q H_ => ?_).sym
  obtain ⟨c, _⟩ := x_
  refine (fnT_ok mixed tab0 Tryz.func11 rfl (LT := []) (ks := [.ownF 0 u8, .auto, .vers]) (LOk.nil _)).use (D := [(0, .own 0 u8 (preL c))]) ?_ H_.2
  show (fnT _ _ _ _ (bA.wr (c, ())) [] _).sat _
  rw [rpre_tree]
  refine ⟨fun h => ?_, fun h => ?_⟩
  · have h := of_decide_eq_true h
    have e : preL c = [] := if_neg (by omega)
    rw [e]; exact ⟨rfl, rfl⟩
  · have h := of_decide_eq_false h
    have e : preL c = domL ++ ([1, (c.length : Int)] ++ c) := if_pos (by omega)
    have ew : IntKind.u8.wrap (c.length : Int) = c.length := by rw [wrap_u8]; omega
    rw [e, ew]
    exact ⟨by decide, ⟨by omega, by omega⟩, rfl, rfl⟩
abbrev b4A : Cod (List LV) (List Int × List Int × List Int × List Int × Unit) := lCons (vOne (sRd false false u8)) (lCons (vOne (sRd false false u8)) (lCons (vOne (sRd false false u8)) (lCons (vOne (sRd false false u8)) lNil)))
def joinL (a b c d : List Int) : List Int := a ++ b ++ c ++ d
def small4 (a b c d : List Int) : Prop := a.length + b.length + c.length + d.length < 1000000
def eJo (g : List Int → List Int → List Int → List Int → List Int) : Ent := Ent.ofS [some u8, some u8, some u8, some u8] b4A lNil fun x _ => .leaf (some (small4 x.1 x.2.1 x.2.2.1 x.2.2.2.1)) (.one (.sc (.sl 0 0))) [(0, .own 0 u8 (g x.1 x.2.1 x.2.2.1 x.2.2.2.1))]
theorem rjoin_tree (a b c d : List Int) : fnT Tryz.prog [] [] Tryz.f37 (b4A.wr (a, b, c, d, ())) [] [.ownF 0 u8, .auto, .vers] =
  End.need (a.length * (1 : Nat) ≤ (70368744177664 : Nat) ∧ a.length ≤ (70368744177664 : Nat)) (End.need ((a.length + b.length) * (1 : Nat) ≤
  (70368744177664 : Nat) ∧ a.length + b.length ≤ (70368744177664 : Nat)) (End.need (((a ++ b).length + c.length) * (1 : Nat) ≤ (70368744177664 : Nat) ∧
  (a ++ b).length + c.length ≤ (70368744177664 : Nat)) (End.need (((a ++ b ++ c).length + d.length) * (1 : Nat) ≤ (70368744177664 : Nat) ∧ (a ++ b ++
  c).length + d.length ≤ (70368744177664 : Nat)) (End.leaf (LV.one (VV.sc (SV.sl (0 : Nat) (0 : Nat)))) [some (Item.own (0 : Nat) (Ty.int IntKind.u8) (a
  ++ b ++ c ++ d))])))) := by kernel_rfl
noncomputable abbrev rjoinE : Ent := eJo joinL
theorem rjoin_ok : rjoinE.Ok Tryz.prog 37 := by
  refine (Ent.ofOk Tryz.call37 fun x_ y_ Q H_ => ?_).sym
  obtain ⟨a, b, c, d, _⟩ := x_
  obtain ⟨hn, hq⟩ := H_
  have hn : a.length + b.length + c.length + d.length < 1000000 := hn
  refine (fnT_ok mixed tab0 Tryz.func37 rfl (LT := []) (ks := [.ownF 0 u8, .auto, .vers]) (LOk.nil _)).use (D := [(0, .own 0 u8 (joinL a b c d))]) ?_ hq
  show (fnT _ _ _ _ (b4A.wr (a, b, c, d, ())) [] _).sat _
  rw [rjoin_tree]
  refine ⟨⟨by omega, by omega⟩, ⟨by omega, by omega⟩, ⟨?_, ?_⟩, ⟨?_, ?_⟩, rfl, rfl⟩ <;> simp only [List.length_append] <;> omega
abbrev r32' : Cod (Option Ev.Item) (List Int) := iRow 22 .u8 32
abbrev r64' : Cod (Option Ev.Item) (List Int) := iRow 24 .u8 64
noncomputable abbrev v9Fn : Func := Tryz.f16
abbrev v9C : Cod (List LV) (List Int × Bool × Int × Unit) := (jk 1 (lCons (vOne (sRd false false u8)) (jk 2 (lSkip (vOne (sPtr 0 0)) (jk 1 (lSkip (vOne (sPtr 1 0)) (lSkip (vOne (sPtr 2 0)) (jk 1 (lSkip (vOne (sPtr 3 0)) (lCons (vOne sBool) (lSkip (vOne (sPtr 4 0)) (lSkip (vOne (sPtr 5 0)) (lCons (vOne (sInt .i64)) (jk 54 lNil))))))))))))))
abbrev v9Cf : Wk := .fr (fmS 68 [(1, .keep), (4, .keep), (6, .keep), (7, .keep), (9, .keep), (10, .sym), (11, .keep), (12, .keep), (13, .sym)])
abbrev v9X : Cod (List LV) (List Int × Bool × Unit) := (jk 1 (lCons (vOne (sRd false false u8)) (jk 2 (lSkip (vOne (sPtr 0 0)) (jk 1 (lSkip (vOne (sPtr 1 0)) (jk 2 (lSkip (vOne (sPtr 2 0)) (lCons (vOne sBool) (lSkip (vOne (sPtr 3 0)) (lSkip (vOne (sPtr 4 0)) (jk 55 lNil))))))))))))
abbrev v9Xf : Wk := .fr (fmS 68 [(1, .keep), (4, .keep), (6, .keep), (9, .keep), (10, .sym), (11, .keep), (12, .keep)])
abbrev v9H : Cod Hp (List Int × List Int × List Int × Pn × List Int × List Int × Unit) := lCons r32' (lCons r64' (lCons r64' (lCons iPn (lCons r32' (lCons r32' lNil)))))
abbrev v9HX : Cod Hp (List Int × List Int × Pn × List Int × List Int × Unit) := lCons r32' (lCons r64' (lCons iPn (lCons r32' (lCons r32' lNil))))
def v9W : Exit → List Wk
  | .normal => [v9Cf, .auto]
  | .exit 0 => [v9Xf, .auto]
  | _ => []
theorem v9_rnd (c p m g : List Int) (a : Pn) (ok : Bool) (r s : List Int) (i : Int) : rndT Tryz.prog [] [] v9Fn 0 [] v9W ((stC v9C v9H).wr ((c, ok, i, ()), (p, m, g, a, r, s, ()))) =
  .ite (decide (i < 32)) (.need (0 ≤ i ∧ i < 64) (.need (0 ≤ i ∧ i < 32) (.need (0 ≤ IntKind.i64.wrap (32 + i) ∧ IntKind.i64.wrap (32 + i) < 64) (.need (0 ≤ i ∧ i < 32) (.leaf .normal ((stC v9C v9H).wr ((c, ok, IntKind.i64.wrap (i + 1), ()), (p, m, g, a, r.set (0 + i.toNat) ((List.take 64 (List.drop 0 g)).getD i.toNat 0), s.set (0 + i.toNat) ((List.take 64 (List.drop 0 g)).getD (IntKind.i64.wrap (32 + i)).toNat 0), ()))))))))
    (.leaf (.exit 0) ((stC v9X v9HX).wr ((c, ok, ()), (p, m, a, r, s, ())))) := by kernel_rfl
abbrev v9T : Type := (List Int × Bool × Int × Unit) × List Int × List Int × List Int × Pn × List Int × List Int × Unit
def v9LF (x : v9T) : Res := .need (x.1.2.2.1 = 0 ∧ x.2.2.2.1.length = 64 ∧ x.2.2.2.2.2.1.length = 32 ∧ x.2.2.2.2.2.2.1.length = 32) (.leaf (.exit 0) ((stC v9X v9HX).wr ((x.1.1, x.1.2.1, ()), (x.2.1, x.2.2.1, x.2.2.2.2.1, x.2.2.2.1.take 32, x.2.2.2.1.drop 32, ()))))
theorem v9_loop (x : v9T) : Ex Tryz.prog [] (.loop (loopAt v9Fn 0)) ((stC v9C v9H).wr x) (v9LF x) := by
  obtain ⟨⟨c, ok, i, _⟩, p, m, g, a, r, s, _⟩ := x
  refine Ex.need fun ⟨h1, h2, h3, h4⟩ => ?_
  simp only at h1 h2 h3 h4
  subst h1
  have key := loopUp (fn := v9Fn) (id := 0) (j := 0) (ws := v9W) (hp := []) mixed tab0 (LOk.nil _) 32 (fun k (o : List Int × List Int) => (stC v9C v9H).wr ((c, ok, (k : Int), ()), (p, m, g, a, o.1, o.2, ()))) (fun o => (stC v9X v9HX).wr ((c, ok, ()), (p, m, a, o.1, o.2, ())))
    (fun k (o : List Int × List Int) => (o.1.set k (g.getD (0 + k) 0), o.2.set k (g.getD (32 + k) 0))) (fun _ o => o.1.length = 32 ∧ o.2.length = 32)
    (fun k o R hk ho hn hx => ?_) (fun k o hk hh => by simpa using hh) 0 (r, s) (by omega) ⟨h3, h4⟩
  · rw [Nat.sub_zero, upto_pair (fun k (o : List Int) => o.set k (g.getD (0 + k) 0)) (fun k (o : List Int) => o.set k (g.getD (32 + k) 0)), upto_fill (fun k => g.getD (0 + k) 0) h3, upto_fill (fun k => g.getD (32 + k) 0) h4, map_getD_drop (by omega), map_getD_drop (by omega)] at key
    rw [List.drop_zero, List.take_of_length_le (l := g.drop 32) (by rw [List.length_drop]; omega)] at key
    exact key
  rw [v9_rnd]
  refine ⟨fun hb => ?_, fun hb => ?_⟩
  · have hk' : k < 32 := by have := of_decide_eq_true hb; omega
    have e1 : IntKind.i64.wrap (32 + (k : Int)) = ((32 + k : Nat) : Int) := by rw [wrap_ok (by omega) (by omega)]; omega
    have hn' := hn hk'
    rw [Nat.zero_add] at hn'
    rw [e1, take_all h2, Int.toNat_natCast, Int.toNat_natCast, Nat.zero_add, wrap_succ k (by omega)]
    exact ⟨by omega, by omega, by omega, by omega, hn'⟩
  · have : k = 32 := by have := of_decide_eq_false hb; omega
    exact hx this
noncomputable abbrev v9LT : LTab := [(0, loopF (stC v9C v9H) 0 [v9Cf, .auto, .rowB 4 0 32 .u8, .rowB 5 0 32 .u8] v9LF)]
noncomputable abbrev v9Tab (de : List Int → Pn × Bool) (can : List Int → Bool) (pre sha red : List Int → List Int) (jo : List Int → List Int → List Int → List Int → List Int) (en : Pn → List Int) (mu : List Int → Pn → Pn) (b0 : Pn) (pl : Pn → Pn → Pn) (tu : Pn → Pn) : List (FuncId × Ent) :=
  [(46, eND de), (47, eBB can), (11, ePre pre), (37, eJo jo), (36, eRo sha), (35, e64B red), (38, eNE en), (39, eNM mu), (40, e0P b0), (48, e2Pn pl), (49, e1Pn tu)]
abbrev jk9 (pre : List Int → List Int) (jo : List Int → List Int → List Int → List Int → List Int) (p c m g : List Int) : List Int := jo (pre c) (List.take 32 (List.drop 0 (List.take 32 g))) (List.take 32 (List.drop 0 p)) (List.take 64 (List.drop 0 m))
theorem rver_tree (de : List Int → Pn × Bool) (can : List Int → Bool) (pre sha red : List Int → List Int) (jo : List Int → List Int → List Int → List Int → List Int) (en : Pn → List Int) (mu : List Int → Pn → Pn) (b0 : Pn) (pl : Pn → Pn → Pn) (tu : Pn → Pn) (p c m g : List Int) : fnT Tryz.prog (v9Tab de can pre sha red jo en mu b0 pl tu) v9LT v9Fn (veA.wr (p, c, m, g, ())) [] kK =
  .need (p.length = 32) (.need ((0 : Int) = 0 ∧ g.length = 64 ∧ (List.replicate 32 (0 : Int)).length = 32 ∧ (List.replicate 32 (0 : Int)).length = 32) (.ite (decide (255 < (c.length : Int)) == false) (.ite ((!(de p).2) == false) (.need (okB (g.drop 32)) (.ite (!(can (g.drop 32))) (.leaf (nB false) [])
    (.need ((0 : Int) ≤ 0 ∧ (0 : Int) ≤ 32 ∧ (32 : Int) ≤ 32) (.need ((0 : Int) ≤ 0 ∧ (0 : Int) ≤ 32 ∧ (32 : Int) ≤ 32) (.need ((0 : Int) ≤ 0 ∧ (0 : Int) ≤ 64 ∧ (64 : Int) ≤ 64) (.need (small4 (pre c) (List.take 32 (List.drop 0 (List.take 32 g))) (List.take 32 (List.drop 0 p)) (List.take 64 (List.drop 0 m))) (.need ((jk9 pre jo p c m g).length ≤ 17592186044416)
      (.need ((sha (jk9 pre jo p c m g)).length = 64 ∧ AllBy (sha (jk9 pre jo p c m g))) (.need ((g.drop 32).length = 32) (.need ((red (sha (jk9 pre jo p c m g))).length = 32) (.leaf (nB (decide (en (pl (mu (g.drop 32) b0) (tu (mu (red (sha (jk9 pre jo p c m g))) (de p).1))) = g.take 32))) []))))))))))) (.leaf (nB false) [])) (.leaf (nB false) []))) := by kernel_rfl
end Go.Proofs.YthdfifcgobfgdaaGreat
end

section
set_option linter.unusedVariables false
set_option linter.unusedSimpArgs false
namespace Go.Proofs.YthdfifcgobfgdaaGreat
open Go Go.Ev BJ
set_option maxRecDepth 1000000
def Rep9 (q : Pn) (P : BJ.Pt) : Prop := ∃ p : E4, q = pn p ∧ IsP p P
theorem rep9_enc {q : Pn} {P : BJ.Pt} (h : Rep9 q P) : encode9L q = encQ P := by
  obtain ⟨p, rfl, hp⟩ := h
  unfold encode9L encQ
  rw [encode9_pn]
  unfold encE encP
  rw [isP_x hp, isP_y hp]
theorem rep9_base : Rep9 base9C baseP := ⟨baseE, base9_pn, base_isP⟩
theorem rep9_mult {n : List Int} (hn : okB n) {q : Pn} {P : BJ.Pt} (h : Rep9 q P) : Rep9 (mult9L n q) (nsm (sc n) P) := by
  obtain ⟨p, rfl, hp⟩ := h
  obtain ⟨h1, h2⟩ := okB_v32 hn
  refine ⟨multE (valB (v32 n)).toNat p, by rw [mult9L_eq, mult9_pn h1], ?_⟩
  have := mult_isP (val_lt h1) hp
  unfold sc
  rw [← h2]; exact this
theorem rep9_plus {q r : Pn} {P Q : BJ.Pt} (h : Rep9 q P) (h' : Rep9 r Q) : Rep9 (plus9C q r) (P.add Q) := by
  obtain ⟨p, rfl, hp⟩ := h
  obtain ⟨p', rfl, hp'⟩ := h'
  exact ⟨addE p p', plus9_pn p p', isP_add hp hp'⟩
theorem rep9_turn {q : Pn} {P : BJ.Pt} (h : Rep9 q P) : Rep9 (turn9C q) P.neg := by
  obtain ⟨p, rfl, hp⟩ := h
  exact ⟨negE p, turn9_pn p, isP_neg hp⟩
theorem dec9_of {b : List Int} (hb : okB b) : (decode9L b).2 = (decodeL b).2 ∧ ∃ P, Rep9 (decode9L b).1 P ∧ Rep (decodeL b).1 P := by
  obtain ⟨h1, _⟩ := okB_v32 hb
  obtain ⟨d1, d2, d3⟩ := decode_pt h1
  have e := decode9_pn h1
  obtain ⟨P, hP⟩ := dec_is (v32 b)
  unfold decode9L
  rw [e]
  exact ⟨d3.symm, P, ⟨_, rfl, hP⟩, ⟨d1, by rw [show (decodeL b).1 = (decodeC (v32 b)).1 from rfl, d2]; exact hP⟩⟩
theorem rsha_len (b : List Int) : (rshaF b).length = 64 := numbers_length _
theorem rsha_by (b : List Int) : AllBy (rshaF b) := by
  have key : ∀ (l : List Nat) (s a : List Int), AllBy a → AllBy (l.foldl (fun a i => a ++ eightF (s.getD i 0)) a) := by
    intro l s
    induction l with
    | nil => exact fun a h => h
    | cons i l ih => exact fun a h => ih _ (h.append (eight_by _))
  exact key _ _ [] (fun z hz => by cases hz)
theorem join_len (a b c d : List Int) : (joinL a b c d).length = a.length + b.length + c.length + d.length := by unfold joinL; simp only [List.length_append]
abbrev cha9 (pre sha red : List Int → List Int) (jo : List Int → List Int → List Int → List Int → List Int) (r p c m : List Int) : List Int := red (sha (jo (pre c) r p m))
theorem sha_j {b : List Int} (h : b.length ≤ 17592186044416) : rshaF b = shaF b := (sha_eq h).symm
theorem cha9_eq {r p c m : List Int} (hr : r.length = 32) (hp' : p.length = 32) (hm : m.length = 64) : cha9 preL rshaF redB joinL r p c m = chalL c r p m := by
  have hp := pre_len c
  have e : joinL (preL c) r p m = preL c ++ (r ++ (p ++ m)) := by unfold joinL; rw [List.append_assoc, List.append_assoc]
  show redB (rshaF (joinL (preL c) r p m)) = chalL c r p m
  rw [sha_j (by rw [join_len, hr, hp', hm]; omega), e]
  unfold chalL; rfl
theorem rver_sat (de : List Int → Pn × Bool) (can : List Int → Bool) (pre sha red : List Int → List Int) (jo : List Int → List Int → List Int → List Int → List Int) (en : Pn → List Int) (mu : List Int → Pn → Pn) (b0 : Pn) (pl : Pn → Pn → Pn) (tu : Pn → Pn) {p c m g : List Int} (hp : p.length = 32) (hm : m.length = 64) (hg : g.length = 64) (hb : AllBy g) (h1 : ∀ b, (sha b).length = 64) (h2 : ∀ b, AllBy (sha b)) (h3 : ∀ b, okB (red b)) (h9 : (pre c).length ≤ 289) (hj : ∀ a b c d, (jo a b c d).length = a.length + b.length + c.length + d.length) :
    ∃ t_ : Ev.End, fnT Tryz.prog (v9Tab de can pre sha red jo en mu b0 pl tu) v9LT v9Fn (veA.wr (p, c, m, g, ())) [] kK = t_ ∧ t_.sat fun v hp' => v = nB ((de p).2 && (decide (c.length ≤ 255) && (can (g.drop 32) && decide (en (pl (mu (g.drop 32) b0) (tu (mu (cha9 pre sha red jo (g.take 32) p c m) (de p).1))) = g.take 32)))) ∧ hp' = [] := by
  refine ⟨_, rver_tree .., ?_⟩
  have l1 : (g.take 32).length = 32 := by rw [List.length_take, hg]; decide
  have l2 : (g.drop 32).length = 32 := by rw [List.length_drop, hg]
  have ej : jk9 pre jo p c m g = jo (pre c) (g.take 32) p m := by show jo _ _ _ _ = _; rw [take_all l1, take_all hp, take_all hm]
  rw [ej, take_all l1, take_all hp, take_all hm]
  have hbd : AllBy (g.drop 32) := hb.drop 32
  have j1 := hj (pre c) (g.take 32) p m
  have l3 := h3 (sha (jo (pre c) (g.take 32) p m))
  generalize de p = d at *
  generalize g.take 32 = r at *
  generalize g.drop 32 = s at *
  obtain ⟨a, ok⟩ := d
  refine ⟨hp, ⟨rfl, hg, rfl, rfl⟩, fun h => ?_, fun h => ?_⟩
  · have h : c.length ≤ 255 := by simp at h; omega
    rw [decide_eq_true h]
    cases ok
    · exact ⟨fun h => (by cases h), fun _ => ⟨rfl, rfl⟩⟩
    · refine ⟨fun _ => ⟨⟨l2, hbd⟩, fun h' => ?_, fun h' => ⟨by decide, by decide, by decide, ?_, by rw [j1]; omega, ⟨h1 _, h2 _⟩, l2, l3.1, ?_, rfl⟩⟩, fun h => (by cases h)⟩
      · have h' : can s = false := by simpa using h'
        rw [h']; exact ⟨rfl, rfl⟩
      · show (pre c).length + r.length + p.length + m.length < 1000000; omega
      · have h' : can s = true := by simpa using h'
        rw [h']; rfl
  · have h : ¬ c.length ≤ 255 := by simp at h; omega
    rw [decide_eq_false h]
    cases ok <;> exact ⟨rfl, rfl⟩
theorem ver9_eq {p c m g : List Int} (hp : okB p) (hm : m.length = 64) (hg : g.length = 64) (hb : AllBy g) :
    ((decode9L p).2 && (decide (c.length ≤ 255) && (canB (g.drop 32) && decide (encode9L (plus9C (mult9L (g.drop 32) base9C) (turn9C (mult9L (cha9 preL rshaF redB joinL (g.take 32) p c m) (decode9L p).1))) = g.take 32)))) = verL p c m g := by
  obtain ⟨e1, P, r9, r⟩ := dec9_of hp
  have l1 : (g.take 32).length = 32 := by rw [List.length_take, hg]; decide
  have os : okB (g.drop 32) := ⟨by rw [List.length_drop, hg], hb.drop 32⟩
  have ok := chalL_ok c (g.take 32) p m
  rw [verL_eq, e1, cha9_eq l1 hp.1 hm, rep9_enc (rep9_plus (rep9_mult os rep9_base) (rep9_turn (rep9_mult ok r9))), enc_of (rep_twoL ok os (rep_neg r)), nsm_neg, BJ.Pt.add_comm]
def eVe9 (g : List Int → List Int → List Int → List Int → Bool) : Ent := Ent.ofS [none, some u8, none, none] veA lNil fun x _ => .leaf (some (okB x.1 ∧ x.2.2.1.length = 64 ∧ x.2.2.2.1.length = 64 ∧ AllBy x.2.2.2.1)) (nB (g x.1 x.2.1 x.2.2.1 x.2.2.2.1)) []
theorem v9Tab_ok : ∀ p ∈ v9Tab decode9L canB preL rshaF redB joinL encode9L mult9L base9C plus9C turn9C, p.2.Ok Tryz.prog p.1 := tabC ndecode_ok (tabC risS_ok (tabC rpre_ok (tabC rjoin_ok (tabC rof'_ok (tabC rreduce_ok (tabC nencode_ok (tabC nmult_ok (tabC nbase_ok (tabC nplus_ok (tabC nturn_ok tab0))))))))))
noncomputable abbrev rverE : Ent := eVe9 verL
theorem rver_ok : rverE.Ok Tryz.prog 16 := by
  refine (Ent.ofOk Tryz.call16 fun x_ y_ Q H_ => ?_).sym
  obtain ⟨p, c, m, g, _⟩ := x_
  obtain ⟨hn, hq⟩ := H_
  have hn : okB p ∧ m.length = 64 ∧ g.length = 64 ∧ AllBy g := hn
  have hc : CallsT Tryz.prog 16 (veA.wr (p, c, m, g, ())) [] (fnT Tryz.prog (v9Tab decode9L canB preL rshaF redB joinL encode9L mult9L base9C plus9C turn9C) v9LT v9Fn (veA.wr (p, c, m, g, ())) [] kK) := fnT_ok mixed v9Tab_ok Tryz.func16 rfl (LOk.ofTab (LTC rfl (loopF_ok (hp := []) v9_loop) LT0))
  obtain ⟨t_, ht, hs⟩ := rver_sat decode9L canB preL rshaF redB joinL encode9L mult9L base9C plus9C turn9C (c := c) hn.1.1 hn.2.1 hn.2.2.1 hn.2.2.2 rsha_len rsha_by redB_ok (pre_len c) join_len
  rw [ver9_eq hn.1 hn.2.1 hn.2.2.1 hn.2.2.2] at hs
  rw [ht] at hc
  exact hc.use (D := []) hs hq
end Go.Proofs.YthdfifcgobfgdaaGreat
end

section
set_option linter.unusedVariables false
set_option linter.unusedSimpArgs false
namespace Go.Proofs.YthdfifcgobfgdaaGreat
open Go Go.Ev BJ
set_option maxRecDepth 1000000
abbrev iLab : Cod (Option Ev.Item) Lab := iBlk 43 cLab
end Go.Proofs.YthdfifcgobfgdaaGreat
end
