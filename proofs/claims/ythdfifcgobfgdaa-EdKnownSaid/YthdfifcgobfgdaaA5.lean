/- What the laws lean on, part 5: a reader of code, plain facts, and what each function gives; no conditions. -/
import Derived.WalkKit
import Derived.Lib.Walk
import Derived.Lib.SliceRun
import Derived.Lib.AppendZerosOnto
import Derived.Test.YthdfifcgobfgdaaA4
section
set_option linter.unusedVariables false
set_option linter.unusedSimpArgs false
namespace Go.Proofs.Ythdfifcgobfgdaa
open Go Go.Ev BJ
set_option maxRecDepth 1000000
noncomputable abbrev tiFn : Func := Try.f59
abbrev tjC : Cod (List LV) (Int × Int × Int × Int × Unit) := (jk 2 (lSkip (vOne (sPtr 0 0)) (lSkip (vOne (sPtr 1 0)) (lSkip (vOne (sPtr 2 0)) (lSkip (vOne (sPtr 3 0)) (lCons (vOne (sInt .i64)) (lCons (vOne (sInt .u64)) (jk 4 (lCons (vOne (sInt .i64)) (jk 2 (lCons (vOne (sInt .i64)) (jk 45 lNil))))))))))))
abbrev tjCf : Wk := .fr (fmS 61 [(2, .keep), (3, .keep), (4, .keep), (5, .keep), (6, .sym), (7, .sym), (12, .sym), (15, .sym)])
abbrev tjX : Cod (List LV) (Int × Int × Int × Unit) := (jk 2 (lSkip (vOne (sPtr 0 0)) (lSkip (vOne (sPtr 1 0)) (lSkip (vOne (sPtr 2 0)) (lSkip (vOne (sPtr 3 0)) (lCons (vOne (sInt .i64)) (lCons (vOne (sInt .u64)) (jk 4 (lCons (vOne (sInt .i64)) (jk 48 lNil))))))))))
abbrev tjXf : Wk := .fr (fmS 61 [(2, .keep), (3, .keep), (4, .keep), (5, .keep), (6, .sym), (7, .sym), (12, .sym)])
abbrev tiC : Cod (List LV) (Int × Unit) := (jk 2 (lSkip (vOne (sPtr 0 0)) (lSkip (vOne (sPtr 1 0)) (lSkip (vOne (sPtr 2 0)) (lSkip (vOne (sPtr 3 0)) (jk 6 (lCons (vOne (sInt .i64)) (jk 48 lNil))))))))
abbrev tiCf : Wk := .fr (fmS 61 [(2, .keep), (3, .keep), (4, .keep), (5, .keep), (12, .sym)])
abbrev tiX : Cod (List LV) (Unit) := (jk 4 (lSkip (vOne (sPtr 2 0)) (lSkip (vOne (sPtr 3 0)) (jk 55 lNil))))
abbrev tiXf : Wk := .fr (fmS 61 [(4, .keep), (5, .keep)])
abbrev tiH : Cod Hp (List Int × List Int × List Int × List Int × Unit) := lCons iW (lCons iW (lCons iW (lCons iW lNil)))
def tjW : Exit → List Wk
  | .normal => [tjCf, rwB 0, rwB 1, rwB 2, rwB 3, .auto]
  | .exit 2 => [tjXf, rwB 0, rwB 1, rwB 2, rwB 3, .auto]
  | _ => []
def eMul (mu : Int → Int → Int × Int) : Ent := Ent.ofS [] (lCons (vOne (sInt .u64)) (lCons (vOne (sInt .u64)) lNil)) lNil fun x _ => .leaf none (.tup [.sc (.int .u64 (.sym (mu x.1 x.2.1).1)), .sc (.int .u64 (.sym (mu x.1 x.2.1).2))]) []
noncomputable abbrev tiTab (ad : Int → Int → Int → Int × Int) (mu : Int → Int → Int × Int) : List (FuncId × Ent) := [(80, (onceE ad).sym), (83, eMul mu)]
theorem tj_rnd (ad : Int → Int → Int → Int × Int) (mu : Int → Int → Int × Int) (u c i j : Int) (a b r o : List Int) : rndT Try.prog (tiTab ad mu) [] tiFn 2 [] tjW ((stC tjC tiH).wr ((u, c, i, j, ()), (a, b, r, o, ()))) =
    Res.ite (decide (j < (4 : Int)))
      (Res.need ((0 : Int) ≤ u ∧ u < (8 : Int))
        (Res.need ((0 : Int) ≤ j ∧ j < (8 : Int))
          (Res.need ((0 : Int) ≤ (0 : Int) ∧ (0 : Int) ≤ (1 : Int))
            (Res.need ((0 : Int) ≤ IntKind.i64.wrap (u + j) ∧ IntKind.i64.wrap (u + j) < (8 : Int))
              (Res.need ((0 : Int) ≤ (0 : Int) ∧ (0 : Int) ≤ (1 : Int))
                (Res.need ((0 : Int) ≤ IntKind.i64.wrap (u + j) ∧ IntKind.i64.wrap (u + j) < (8 : Int))
                  (Res.leaf Exit.normal
                    ((stC tjC tiH).wr
                      ((u,
                          IntKind.u64.wrap
                            (IntKind.u64.wrap
                                ((mu ((List.take (8 : Nat) (List.drop (0 : Nat) a)).getD u.toNat (0 : Int))
                                      ((List.take (8 : Nat) (List.drop (0 : Nat) b)).getD j.toNat (0 : Int))).fst +
                                  (ad
                                      (mu ((List.take (8 : Nat) (List.drop (0 : Nat) a)).getD u.toNat (0 : Int))
                                          ((List.take (8 : Nat) (List.drop (0 : Nat) b)).getD j.toNat (0 : Int))).snd
                                      c (0 : Int)).snd) +
                              (ad
                                  ((List.take (8 : Nat) (List.drop (0 : Nat) o)).getD (IntKind.i64.wrap (u + j)).toNat
                                    (0 : Int))
                                  (ad
                                      (mu ((List.take (8 : Nat) (List.drop (0 : Nat) a)).getD u.toNat (0 : Int))
                                          ((List.take (8 : Nat) (List.drop (0 : Nat) b)).getD j.toNat (0 : Int))).snd
                                      c (0 : Int)).fst
                                  (0 : Int)).snd),
                          i, IntKind.i64.wrap (j + (1 : Int)), PUnit.unit),
                        a, b, r,
                        o.set ((0 : Nat) + (IntKind.i64.wrap (u + j)).toNat)
                          (ad
                              ((List.take (8 : Nat) (List.drop (0 : Nat) o)).getD (IntKind.i64.wrap (u + j)).toNat
                                (0 : Int))
                              (ad
                                  (mu ((List.take (8 : Nat) (List.drop (0 : Nat) a)).getD u.toNat (0 : Int))
                                      ((List.take (8 : Nat) (List.drop (0 : Nat) b)).getD j.toNat (0 : Int))).snd
                                  c (0 : Int)).fst
                              (0 : Int)).fst,
                        PUnit.unit)))))))))
      (Res.leaf (Exit.exit (2 : Nat)) ((stC tjX tiH).wr ((u, c, i, PUnit.unit), a, b, r, o, PUnit.unit))) := by kernel_rfl
theorem mul64_as : mul64E = eMul mulFn := by kernel_rfl
theorem mul64'_ok : (eMul mulFn).Ok Try.prog 83 := mul64_as ▸ mul64_ok
theorem tiTab_ok : ∀ p ∈ tiTab add64 mulFn, p.2.Ok Try.prog p.1 := tabC add64_ok (tabC mul64'_ok tab0)
abbrev tjT : Type := (Int × Int × Int × Int × Unit) × List Int × List Int × List Int × List Int × Unit
def tjLF (g : List Int → List Int → Int → List Int → Int × List Int) (x : tjT) : Res := .need (x.1.2.2.2.1 = 0 ∧ x.1.2.1 = 0 ∧ 0 ≤ x.1.1 ∧ x.1.1 < 4 ∧ okW x.2.1 ∧ okW x.2.2.1 ∧ okW x.2.2.2.2.1) (.leaf (.exit 2) ((stC tjX tiH).wr ((x.1.1, (g x.2.1 x.2.2.1 x.1.1 x.2.2.2.2.1).1, x.1.2.2.1, ()), (x.2.1, x.2.2.1, x.2.2.2.1, (g x.2.1 x.2.2.1 x.1.1 x.2.2.2.2.1).2, ()))))
noncomputable def tjG (a b : List Int) (u : Int) (o : List Int) : Int × List Int := upto (timJ mulFn add64 a b u.toNat) 0 4 (0, o)
theorem tj_loop (x : tjT) : Ex Try.prog [] (.loop (loopAt tiFn 2)) ((stC tjC tiH).wr x) (tjLF tjG x) := by
  obtain ⟨⟨u, c, i, j, _⟩, a, b, r, o, _⟩ := x
  refine Ex.need fun ⟨h1, h2, h3, h4, h5, h6, h7⟩ => ?_
  simp only at h1 h2 h3 h4 h5 h6 h7
  subst h1 h2
  obtain ⟨u, rfl⟩ := Int.eq_ofNat_of_zero_le h3
  have hu : u < 4 := by omega
  have key := loopUp (fn := tiFn) (id := 2) (j := 2) (ws := tjW) (hp := []) mixed tiTab_ok (LOk.nil _) 4 (fun k (s : Int × List Int) => (stC tjC tiH).wr (((u : Int), s.1, i, (k : Int), ()), (a, b, r, s.2, ()))) (fun (s : Int × List Int) => (stC tjX tiH).wr (((u : Int), s.1, i, ()), (a, b, r, s.2, ()))) (timJ mulFn add64 a b u) (TimI a b o u)
    (fun k s R hk hi hn hx => ?_) (fun k s hk hi => timJ_step h5.2 h6.2 h6.1 hu hk hi) 0 (0, o) (by omega) ⟨h7.1, h7.2, by unfold U64; omega, fun _ _ => rfl, by simp [vd]⟩
  · exact key
  rw [tj_rnd add64 mulFn]
  refine ⟨fun hb => ?_, fun hb => ?_⟩
  · have hk' : k < 4 := by have := of_decide_eq_true hb; omega
    have e : IntKind.i64.wrap ((u : Int) + (k : Int)) = ((u + k : Nat) : Int) := by rw [wrap_ok (by omega) (by omega)]; omega
    rw [e, take_all hi.len, take8 h5, take8 h6, Int.toNat_natCast, Int.toNat_natCast, Int.toNat_natCast, Nat.zero_add, wrap_succ k (by omega)]
    exact ⟨by omega, by omega, by decide, by omega, by decide, by omega, hn hk'⟩
  · have : k = 4 := by have := of_decide_eq_false hb; omega
    exact hx this
noncomputable abbrev tjLT (g : List Int → List Int → Int → List Int → Int × List Int) : LTab := [(2, loopF (stC tjC tiH) 0 [tjCf, rwB 0, rwB 1, rwB 2, rwB 3, .auto] (tjLF g))]
def tiW : Exit → List Wk
  | .normal => [tiCf, rwB 0, rwB 1, rwB 2, rwB 3, .auto]
  | .exit 0 => [tiXf, rwB 0, rwB 1, rwB 2, rwB 3]
  | _ => []
theorem ti_rnd (g : List Int → List Int → Int → List Int → Int × List Int) (ad : Int → Int → Int → Int × Int) (mu : Int → Int → Int × Int) (i : Int) (a b r o : List Int) : rndT Try.prog (tiTab ad mu) (tjLT g) tiFn 0 [] tiW ((stC tiC tiH).wr ((i, ()), (a, b, r, o, ()))) =
    Res.ite (decide (i < (4 : Int)))
      (Res.need ((0 : Int) = (0 : Int) ∧ (0 : Int) = (0 : Int) ∧ (0 : Int) ≤ i ∧ i < (4 : Int) ∧ okW a ∧ okW b ∧ okW o)
        (Res.need ((0 : Int) ≤ IntKind.i64.wrap (i + (4 : Int)) ∧ IntKind.i64.wrap (i + (4 : Int)) < (8 : Int))
          (Res.leaf Exit.normal
            ((stC tiC tiH).wr
              ((IntKind.i64.wrap (i + (1 : Int)), PUnit.unit), a, b, r,
                (g a b i o).snd.set ((0 : Nat) + (IntKind.i64.wrap (i + (4 : Int))).toNat) (g a b i o).fst, PUnit.unit)))))
      (Res.leaf (Exit.exit (0 : Nat)) ((stC tiX tiH).wr (PUnit.unit, a, b, r, o, PUnit.unit))) := by kernel_rfl
abbrev tiT : Type := (Int × Unit) × List Int × List Int × List Int × List Int × Unit
def tiLF (g : List Int → List Int → List Int) (x : tiT) : Res := .need (x.1.1 = 0 ∧ okW x.2.1 ∧ okW x.2.2.1 ∧ x.2.2.2.2.1 = List.replicate 8 0) (.leaf (.exit 0) ((stC tiX tiH).wr ((), (x.2.1, x.2.2.1, x.2.2.2.1, g x.2.1 x.2.2.1, ()))))
theorem tjL_mem : ∀ p ∈ tjLT tjG, isLoop (blkAt (bodyOf tiFn) p.1) = true ∧ ∀ st, Ex Try.prog [] (.loop (loopAt tiFn p.1)) st (p.2 st) := LTC rfl (loopF_ok (hp := []) tj_loop) LT0
theorem ti_loop (x : tiT) : Ex Try.prog [] (.loop (loopAt tiFn 0)) ((stC tiC tiH).wr x) (tiLF timesW x) := by
  obtain ⟨⟨i, _⟩, a, b, r, o, _⟩ := x
  refine Ex.need fun ⟨h1, h2, h3, h4⟩ => ?_
  simp only at h1 h2 h3 h4
  subst h1 h4
  have key := loopUp (fn := tiFn) (id := 0) (j := 0) (ws := tiW) (hp := []) mixed tiTab_ok (LOk.inner rfl tjL_mem) 4 (fun k (o : List Int) => (stC tiC tiH).wr (((k : Int), ()), (a, b, r, o, ()))) (fun (o : List Int) => (stC tiX tiH).wr ((), (a, b, r, o, ()))) (timU mulFn add64 a b) (TimO a b)
    (fun k o R hk hi hn hx => ?_) (fun k o hk hi => timU_step h2.2 h3.2 h2.1 h3.1 hk hi) 0 (List.replicate 8 0) (by omega) ⟨by simp, InB.zeros qq_pos 8, fun i _ => by
    rw [List.getD_eq_getElem?_getD, List.getElem?_replicate]; split <;> rfl, by rw [vd_zeros]; simp [vd]⟩
  · rw [Nat.sub_zero, times_all h2.2 h3.2 h2.1 h3.1] at key; exact key
  rw [ti_rnd]
  refine ⟨fun hb => ?_, fun hb => ?_⟩
  · have hk' : k < 4 := by have := of_decide_eq_true hb; omega
    have e : IntKind.i64.wrap ((k : Int) + 4) = ((k + 4 : Nat) : Int) := by rw [wrap_ok (by omega) (by omega)]; omega
    have hs := timU_step h2.2 h3.2 h2.1 h3.1 hk' hi
    have hn' := hn hk'
    rw [e, wrap_succ k (by omega), Int.toNat_natCast, Nat.zero_add]
    exact ⟨⟨rfl, rfl, by omega, by omega, h2, h3, hi.len, hi.inb⟩, by omega, hn'⟩
  · have : k = 4 := by have := of_decide_eq_false hb; omega
    exact hx this
noncomputable abbrev tiLT (g : List Int → List Int → List Int) : LTab := [(0, loopF (stC tiC tiH) 0 [tiCf, rwB 0, rwB 1, rwB 2, rwB 3, .auto] (tiLF g))]
noncomputable abbrev stimesE : Ent := eWW timesW
theorem stimes_tree (g : List Int → List Int → List Int) (ad : Int → Int → Int → Int × Int) (mu : Int → Int → Int × Int) (w x : List Int) : fnT Try.prog (tiTab ad mu) (tiLT g) tiFn (w2A.wr (w, x, ())) [] [.fr [.sym], .rowF 0 0 8 .u64, .auto] =
    End.need
      ((0 : Int) = (0 : Int) ∧
        okW w ∧
          okW x ∧
            [(0 : Int), (0 : Int), (0 : Int), (0 : Int), (0 : Int), (0 : Int), (0 : Int), (0 : Int)] =
              List.replicate (8 : Nat) (0 : Int))
      (End.leaf (LV.one (VV.agg [SV.arr (Ty.int IntKind.u64) (8 : Nat) (g w x)])) []) := by kernel_rfl
theorem stimes_ok : stimesE.Ok Try.prog 59 := by
  refine (Ent.ofOk Try.call59 fun x_ y_ Q H_ => ?_).sym
  obtain ⟨w, x, _⟩ := x_
  obtain ⟨hn, hq⟩ := H_
  have hn : okW w ∧ okW x := hn
  refine (fnT_ok mixed tiTab_ok Try.func59 rfl (LT := tiLT timesW) (ks := [.fr [.sym], .rowF 0 0 8 .u64, .auto]) (LOk.ofTab (LTC rfl (loopF_ok (hp := []) ti_loop) LT0))).use (D := []) ?_ hq
  show (fnT _ _ _ _ (w2A.wr (w, x, ())) [] _).sat _
  rw [stimes_tree]
  exact ⟨⟨rfl, hn.1, hn.2, rfl⟩, rfl, rfl⟩
abbrev b3A : Cod (List LV) (List Int × List Int × List Int × Unit) := lCons cB (lCons cB (lCons cB lNil))
abbrev b64A : Cod (List LV) (List Int × Unit) := lCons (vRow .u8 64) lNil
noncomputable def canB (b : List Int) : Bool := decide (vd 256 b < ll)
noncomputable def redB (b : List Int) : List Int := dg 256 32 (vd 256 b % ll)
noncomputable def mulB (a b c : List Int) : List Int := dg 256 32 ((vd 256 a * vd 256 b + vd 256 c) % ll)
def eBB (g : List Int → Bool) : Ent := Ent.ofS [] bA32 lNil fun x _ => .leaf (some (okB x.1)) (nB (g x.1)) []
def e64B (g : List Int → List Int) : Ent := Ent.ofS [] b64A lNil fun x _ => .leaf (some (x.1.length = 64 ∧ AllBy x.1)) (nRow .u8 32 (g x.1)) []
def eB3 (g : List Int → List Int → List Int → List Int) : Ent := Ent.ofS [] b3A lNil fun x _ => .leaf (some (okB x.1 ∧ okB x.2.1 ∧ okB x.2.2.1)) (nRow .u8 32 (g x.1 x.2.1 x.2.2.1)) []
theorem ofL_ok (b : List Int) : okW (ofL b) := ofL_in b
theorem sumW_ok (w x : List Int) : okW (sumW w x) := ⟨dg_length _ _, dg_in qq_pos _ _⟩
theorem timesW_ok (w x : List Int) : okW (timesW w x) := ⟨dg_length _ _, dg_in qq_pos _ _⟩
theorem okB.val {b : List Int} (h : okB b) : vd qq (ofL b) = vd 256 b := ofL_val h.2 (by rw [h.1]; decide)
theorem okB.range {b : List Int} (h : okB b) : 0 ≤ vd 256 b ∧ vd 256 b < 2 ^ 256 := by
  have h1 := vd_nonneg (by decide) (show InB 256 b from h.2)
  have h2 := vd_lt (by decide) (show InB 256 b from h.2)
  have e : (256 : Int) ^ 32 = 2 ^ 256 := by decide +kernel
  rw [h.1, e] at h2
  exact ⟨h1, h2⟩
noncomputable abbrev sCanonE : Ent := eBB canB
theorem sCanon_tree (o : List Int) (of : List Int → List Int) (less : List Int → List Int → List Int × Int) (b : List Int) : fnT Try.prog [(52, e0W o), (49, eOf of), (82, eLess less)] [] Try.f64 ((bA32).wr (b, ())) [] kK =
    End.need ((0 : Int) ≤ (0 : Int) ∧ (0 : Int) ≤ (32 : Int) ∧ (32 : Int) ≤ (32 : Int))
      (End.need
        (AllBy (List.take (32 : Nat) (List.drop (0 : Nat) b)) ∧
          (List.take (32 : Nat) (List.drop (0 : Nat) b)).length ≤ (64 : Nat))
        (End.need (okW (of (List.take (32 : Nat) (List.drop (0 : Nat) b))) ∧ okW o)
          (End.leaf
            (LV.one
              (VV.sc (SV.bool (SB.sym ((less (of (List.take (32 : Nat) (List.drop (0 : Nat) b))) o).snd == (1 : Int))))))
            []))) := by kernel_rfl
theorem sCanon_tab_ : ∀ p_ ∈ ([(52, e0W orderL), (49, eOf ofL), (82, eLess lessW)] : List (FuncId × Ent)), p_.2.Ok Try.prog p_.1 := (tabC sorder_ok (tabC sof_ok (tabC sless_ok tab0)))
theorem sCanon_ok : sCanonE.Ok Try.prog 64 := by
  refine (Ent.ofOk Try.call64 fun x_ y_ Q H_ => ?_).sym
  obtain ⟨b, _⟩ := x_
  obtain ⟨hn, hq⟩ := H_
  have hn : okB b := hn
  refine (fnT_ok (tab := [(52, e0W orderL), (49, eOf ofL), (82, eLess lessW)]) mixed sCanon_tab_ Try.func64 rfl (LT := []) (ks := kK) (LOk.nil _)).use (D := []) ?_ hq
  show (fnT _ _ _ _ ((bA32).wr (b, ())) [] _).sat _
  rw [sCanon_tree orderL ofL lessW]
  rw [take_all hn.1]
  refine ⟨by decide, ⟨hn.2, by rw [hn.1]; decide⟩, ⟨ofL_ok b, order_in⟩, ?_, rfl⟩
  have : ((lessW (ofL b) orderL).2 == 1) = canB b := by
    unfold lessW canB
    rw [hn.val, order_val]
    by_cases h : vd 256 b < ll
    · rw [if_pos h, decide_eq_true h]; rfl
    · rw [if_neg h, decide_eq_false h]; rfl
  rw [this]
noncomputable abbrev sReduceE : Ent := e64B redB
theorem sReduce_tree (of : List Int → List Int) (red : List Int → List Int) (b : List Int) : fnT Try.prog [(49, eOf of), (51, eWB red)] [] Try.f61 ((b64A).wr (b, ())) [] kR =
    End.need ((0 : Int) ≤ (0 : Int) ∧ (0 : Int) ≤ (64 : Int) ∧ (64 : Int) ≤ (64 : Int))
      (End.need
        (AllBy (List.take (64 : Nat) (List.drop (0 : Nat) b)) ∧
          (List.take (64 : Nat) (List.drop (0 : Nat) b)).length ≤ (64 : Nat))
        (End.need (okW (of (List.take (64 : Nat) (List.drop (0 : Nat) b))))
          (End.leaf
            (LV.one
              (VV.agg [SV.arr (Ty.int IntKind.u8) (32 : Nat) (red (of (List.take (64 : Nat) (List.drop (0 : Nat) b))))]))
            []))) := by kernel_rfl
theorem sReduce_tab_ : ∀ p_ ∈ ([(49, eOf ofL), (51, eWB redW)] : List (FuncId × Ent)), p_.2.Ok Try.prog p_.1 := (tabC sof_ok (tabC sred_ok tab0))
theorem sReduce_ok : sReduceE.Ok Try.prog 61 := by
  refine (Ent.ofOk Try.call61 fun x_ y_ Q H_ => ?_).sym
  obtain ⟨b, _⟩ := x_
  obtain ⟨hn, hq⟩ := H_
  have hn : b.length = 64 ∧ AllBy b := hn
  refine (fnT_ok (tab := [(49, eOf ofL), (51, eWB redW)]) mixed sReduce_tab_ Try.func61 rfl (LT := []) (ks := kR) (LOk.nil _)).use (D := []) ?_ hq
  show (fnT _ _ _ _ ((b64A).wr (b, ())) [] _).sat _
  rw [sReduce_tree ofL redW]
  rw [take_all hn.1]
  refine ⟨by decide, ⟨hn.2, by rw [hn.1]; decide⟩, ofL_ok b, ?_, rfl⟩
  have : redW (ofL b) = redB b := by unfold redW redB; rw [ofL_val hn.2 (by rw [hn.1]; decide)]
  rw [this]
theorem lt_qq8 {x : Int} (h : x < 2 ^ 512) : x < qq ^ 8 := by
  have e : qq ^ 8 = 2 ^ 512 := by decide +kernel
  rw [e]; exact h
noncomputable abbrev sMulAddE : Ent := eB3 mulB
theorem sMulAdd_tree (of : List Int → List Int) (and times : List Int → List Int → List Int) (red : List Int → List Int) (a b c : List Int) : fnT Try.prog [(49, eOf of), (50, eWW and), (59, eWW times), (51, eWB red)] [] Try.f22 ((b3A).wr (a, b, c, ())) [] kR =
    End.need ((0 : Int) ≤ (0 : Int) ∧ (0 : Int) ≤ (32 : Int) ∧ (32 : Int) ≤ (32 : Int))
      (End.need
        (AllBy (List.take (32 : Nat) (List.drop (0 : Nat) a)) ∧
          (List.take (32 : Nat) (List.drop (0 : Nat) a)).length ≤ (64 : Nat))
        (End.need ((0 : Int) ≤ (0 : Int) ∧ (0 : Int) ≤ (32 : Int) ∧ (32 : Int) ≤ (32 : Int))
          (End.need
            (AllBy (List.take (32 : Nat) (List.drop (0 : Nat) b)) ∧
              (List.take (32 : Nat) (List.drop (0 : Nat) b)).length ≤ (64 : Nat))
            (End.need
              (okW (of (List.take (32 : Nat) (List.drop (0 : Nat) a))) ∧
                okW (of (List.take (32 : Nat) (List.drop (0 : Nat) b))))
              (End.need ((0 : Int) ≤ (0 : Int) ∧ (0 : Int) ≤ (32 : Int) ∧ (32 : Int) ≤ (32 : Int))
                (End.need
                  (AllBy (List.take (32 : Nat) (List.drop (0 : Nat) c)) ∧
                    (List.take (32 : Nat) (List.drop (0 : Nat) c)).length ≤ (64 : Nat))
                  (End.need
                    (okW
                        (times (of (List.take (32 : Nat) (List.drop (0 : Nat) a)))
                          (of (List.take (32 : Nat) (List.drop (0 : Nat) b)))) ∧
                      okW (of (List.take (32 : Nat) (List.drop (0 : Nat) c))))
                    (End.need
                      (okW
                        (and
                          (times (of (List.take (32 : Nat) (List.drop (0 : Nat) a)))
                            (of (List.take (32 : Nat) (List.drop (0 : Nat) b))))
                          (of (List.take (32 : Nat) (List.drop (0 : Nat) c)))))
                      (End.leaf
                        (LV.one
                          (VV.agg
                            [SV.arr (Ty.int IntKind.u8) (32 : Nat)
                                (red
                                  (and
                                    (times (of (List.take (32 : Nat) (List.drop (0 : Nat) a)))
                                      (of (List.take (32 : Nat) (List.drop (0 : Nat) b))))
                                    (of (List.take (32 : Nat) (List.drop (0 : Nat) c)))))]))
                        []))))))))) := by kernel_rfl
theorem sMulAdd_tab_ : ∀ p_ ∈ ([(49, eOf ofL), (50, eWW sumW), (59, eWW timesW), (51, eWB redW)] : List (FuncId × Ent)), p_.2.Ok Try.prog p_.1 := (tabC sof_ok (tabC sand_ok (tabC stimes_ok (tabC sred_ok tab0))))
theorem sMulAdd_ok : sMulAddE.Ok Try.prog 22 := by
  refine (Ent.ofOk Try.call22 fun x_ y_ Q H_ => ?_).sym
  obtain ⟨a, b, c, _⟩ := x_
  obtain ⟨hn, hq⟩ := H_
  have hn : okB a ∧ okB b ∧ okB c := hn
  refine (fnT_ok (tab := [(49, eOf ofL), (50, eWW sumW), (59, eWW timesW), (51, eWB redW)]) mixed sMulAdd_tab_ Try.func22 rfl (LT := []) (ks := kR) (LOk.nil _)).use (D := []) ?_ hq
  show (fnT _ _ _ _ ((b3A).wr (a, b, c, ())) [] _).sat _
  rw [sMulAdd_tree ofL sumW timesW redW]
  obtain ⟨ha, hb, hc⟩ := hn
  rw [take_all ha.1, take_all hb.1, take_all hc.1]
  refine ⟨by decide, ⟨ha.2, by rw [ha.1]; decide⟩, by decide, ⟨hb.2, by rw [hb.1]; decide⟩, ⟨ofL_ok a, ofL_ok b⟩, by decide, ⟨hc.2, by rw [hc.1]; decide⟩, ⟨timesW_ok _ _, ofL_ok c⟩, sumW_ok _ _, ?_, rfl⟩
  have : redW (sumW (timesW (ofL a) (ofL b)) (ofL c)) = mulB a b c := by
    unfold redW mulB sumW timesW
    have h1 := ha.range
    have h2 := hb.range
    have h3 := hc.range
    have h4 : ((2 : Int) ^ 256 - 1) * (2 ^ 256 - 1) + 2 ^ 256 < 2 ^ 512 := by decide +kernel
    have h5 : vd 256 a * vd 256 b ≤ (2 ^ 256 - 1) * (2 ^ 256 - 1) := Int.mul_le_mul (by omega) (by omega) h2.1 (by decide +kernel)
    have h6 : 0 ≤ vd 256 a * vd 256 b := Int.mul_nonneg h1.1 h2.1
    rw [ofL_take ha.2 ha.1, ofL_take hb.2 hb.1, vd_dg qq_pos, vd_dg qq_pos, hc.val, Int.emod_eq_of_lt (a := vd 256 a * vd 256 b) h6 (lt_qq8 (Int.lt_trans (by omega) h4)), Int.emod_eq_of_lt (by omega) (lt_qq8 (Int.lt_trans (by omega) h4))]
  rw [this]
end Go.Proofs.Ythdfifcgobfgdaa
end

section
set_option linter.unusedVariables false
set_option linter.unusedSimpArgs false
namespace Go.Proofs.Ythdfifcgobfgdaa
open Go Go.Ev Go.Lib Go.RowKit
set_option maxHeartbeats 4000000
theorem grow_none (w : World) : Calls Try.prog 84 #[.slice none 0 0, .int .i64 0] w fun e w' => e = .returned (.slice none 0 0) ∧ w' = w := by
  go_enter Try.func84, Try.ntmps84
  go_wp2
  go_ret
  exact ⟨rfl, rfl⟩
theorem grow_some (n : Nat) (w : World) (h0 : 0 < n) (h1 : n ≤ 140737488355328) : Calls Try.prog 84 #[.slice none 0 0, .int .i64 n] w fun e w' =>
    e = .returned (.slice (some ⟨w.heap.size, 0, none⟩) 0 (grownCap w n 0 5)) ∧
      w' = w.drew.alloc (.cells (#[] ++ Builtin.zeroCells (Value.int .u8 0).cells n ++ Builtin.zeroCells (Value.int .u8 0).cells (grownCap w n 0 5 - n)) 5) := by
  have h2 : ¬ ((n : Int) < 0) := by omega
  have h3 : wrap64 ((0 : Int) - (0 : Int)) = 0 := by unfold wrap64; omega
  have h4 : wrap64 ((n : Int) - 0) = (n : Int) := by unfold wrap64; omega
  have h5 : (n : Int) > 0 := by omega
  have hG63 : grownCap w n 0 5 ≤ 9223372036854775807 := by
    have := grownCap_le_maxLen w n 0 5 (by unfold maxLen; omega)
    unfold maxLen at this
    omega
  have hrz : ∀ ty, (Builtin.append_ #[45, 3] ty #[.slice none 0 0, .int .i64 n]).run Try.prog w =
      .ok (.slice (some ⟨w.heap.size, 0, none⟩) n (grownCap w n 0 5)) (w.drew.alloc (.cells (#[] ++ Builtin.zeroCells (Value.int .u8 0).cells n ++ Builtin.zeroCells (Value.int .u8 0).cells (grownCap w n 0 5 - n)) 5)) := fun ty => by
    have hi0 : (Try.prog.info? 5).map (fun i => (i.zero, i.size, i.bytes)) = some (some (.int .u8 0), 1, 1) := by kernel_rfl
    obtain ⟨i, hi, he⟩ := map_some hi0
    have e1 : i.zero = some (.int .u8 0) := congrArg Prod.fst he
    have e2 : i.size = 1 := congrArg (fun x => x.2.1) he
    have e3 : i.bytes = 1 := congrArg (fun x => x.2.2) he
    have hb : n * i.bytes ≤ 140737488355328 := by rw [e3]; omega
    have h := Lib.run_append_grow_zeros (P := Try.prog) w 45 3 ty 5 i (.int .u8 0) .i64 .i64 (by kernel_rfl) (by kernel_rfl) hi e1 none 0 0 [] (run_firstCells_none w.drew i.size 0 0 0) n h0 (by omega) (by omega) (by omega) (by omega)
      (growslice_fits (need := 0 + n) (old := 0) (by omega) (by rw [Nat.zero_add]; exact hb))
    rw [Nat.zero_add] at h
    exact h
  have hGn : n ≤ grownCap w n 0 5 := grownCap_ge w _ _ _
  generalize grownCap w n 0 5 = G at *
  go_enter Try.func84, Try.ntmps84
  go_wp2_with (at_builtin; refine Lib.wpList_append_run _ rfl _ _ _ _ rfl _ _ rfl rfl _ _ (hrz _) ?_)
  all_goals (go_ret; exact ⟨rfl, rfl⟩)
def growE : Ent := ⟨[], fun args hp => match args, hp with
  | [.one (.sc (.con (.slice none 0 0))), .one (.sc (.int .i64 n))], [] => .leaf (some (0 ≤ n.val ∧ n.val ≤ 140737488355328)) (.one (.sc (.sl 0 0))) [(0, .own 0 (.int .u8) [])]
  | _, _ => .fail⟩
theorem grow_ok : growE.Ok Try.prog 84 := by
  refine ⟨fun args hp Q h => CallsEv.done Try.call84 ?_⟩
  simp only [growE] at h
  split at h
  · rename_i args hp n
    obtain ⟨⟨h0, h1⟩, hq⟩ := h
    intro β w vals hh hargs
    cases hargs with
    | cons a1 t1 =>
      cases t1 with
      | cons a2 t2 =>
        cases t2
        rename_i v1 v2
        obtain rfl : v1 = .slice none 0 0 := a1.2
        have e : v2 = .int .i64 n.val := a2
        subst e
        rcases Int.lt_or_le 0 n.val with hn | hn
        · obtain ⟨k, hk⟩ : ∃ k : Nat, n.val = k := ⟨n.val.toNat, by omega⟩
          rw [hk] at h0 h1 hn ⊢
          refine (grow_some k w (by omega) (by omega)).mono ?_
          rintro e w' ⟨rfl, rfl⟩
          have hGn : k ≤ grownCap w k 0 5 := grownCap_ge w _ _ _
          generalize grownCap w k 0 5 = G at *
          generalize hcs : (#[] ++ Builtin.zeroCells (Value.int .u8 0).cells k ++ Builtin.zeroCells (Value.int .u8 0).cells (G - k)) = cs
          have hlen : cs.toList.length = G := by
            rw [← hcs]; simp [Builtin.zeroCells, Value.cells]; omega
          have hdr : HRel w [] β β [] w.drew := hh.drew _ _
          obtain ⟨β', k1, k2, k3⟩ := hdr.newOwn (id := 0) rfl (v := .slice (some ⟨w.heap.size, 0, none⟩) 0 G) (ver := 0) (t := .int .u8) (l := []) (w' := w.drew.alloc (.cells cs 5)) (by simp) rfl rfl (fun b hb => heap_alloc_old w.drew _ hb)
            ⟨_, _, _, rfl, rfl, Nat.zero_le _, fun e => (by cases e), fun _ => ⟨_, [], [], cs.toList, 5, (0, 0), rfl, rfl, by simpa using heap_alloc_new w.drew (.cells cs 5), rfl, .nil, by simp [Ty.w, hlen], .inl rfl⟩⟩
            (fun a n c e _ => by cases e; exact Nat.le_refl _)
          exact ⟨_, β', _, _, rfl, ⟨_, hq, rfl⟩, ⟨rfl, 0, by rw [show applyD _ [] = setAt [] 0 _ from rfl, kd_setAt, if_pos rfl]; rfl, Nat.le_refl _, fun _ => k3.symm⟩, k1⟩
        · have hn0 : n.val = 0 := by omega
          rw [hn0]
          refine (grow_none w).mono ?_
          rintro e w' ⟨rfl, rfl⟩
          obtain ⟨β', k1, k2, k3⟩ := hh.ownNil (.int .u8)
          exact ⟨_, β', _, _, rfl, ⟨_, hq, rfl⟩, k3, k1⟩
  · exact h.elim
end Go.Proofs.Ythdfifcgobfgdaa
end

section
set_option linter.unusedVariables false
set_option linter.unusedSimpArgs false
namespace Go.Proofs.Ythdfifcgobfgdaa
open Go Go.Ev
set_option maxRecDepth 100000
section
noncomputable abbrev catFn : Func := Try.f63
abbrev catC0 : Cod (List LV) (List (List Int) × Int × List (List Int) × Int × Int × Unit) := lCons (vOne (sRd false false (.sl u8))) (jk 2 (lCons (vOne (sInt .i64)) (jk 5 (lCons (vOne (sRd false false (.sl u8))) (lCons (vOne (sInt .i64)) (lCons (vOne (sInt .i64)) (jk 24 lNil)))))))
abbrev catK0 : List Wk := [.fr (fmS 36 [(0, .keep), (3, .sym), (9, .keep), (10, .sym), (11, .sym)])]
abbrev catE0 : Cod (List LV) (List (List Int) × Int × Unit) := lCons (vOne (sRd false false (.sl u8))) (jk 2 (lCons (vOne (sInt .i64)) (jk 32 lNil)))
abbrev catX0 : List Wk := [.fr (fmS 36 [(0, .keep), (3, .sym)])]
theorem cat_rnd0 (l0 ls : List (List Int)) (s n i : Int) : rndT Try.prog [] [] catFn 0 [] (wsE catK0 0 catX0) ((stC catC0 lNil).wr ((l0, s, ls, n, i, ()), ())) =
    .ite (decide (i < n)) (.need (0 ≤ i ∧ i < ls.length) (.ite (decide (IntKind.i64.wrap (s + (ls.getD i.toNat []).length) < 0)) .fail
      (.leaf .normal ((stC catC0 lNil).wr ((l0, IntKind.i64.wrap (s + (ls.getD i.toNat []).length), ls, n, IntKind.i64.wrap (i + 1), ()), ())))))
      (.leaf (.exit 0) ((stC catE0 lNil).wr ((l0, s, ()), ()))) := by kernel_rfl
theorem flat_take (ls : List (List Int)) (i : Nat) (h : i < ls.length) : (ls.take (i + 1)).flatten = (ls.take i).flatten ++ ls.getD i [] := by
  rw [List.take_add_one, List.flatten_append, List.getD_eq_getElem?_getD, List.getElem?_eq_getElem h]
  simp
theorem flat_le (ls : List (List Int)) (i : Nat) : (ls.take i).flatten.length ≤ ls.flatten.length := by
  have : ls.flatten = (ls.take i).flatten ++ (ls.drop i).flatten := by rw [← List.flatten_append, List.take_append_drop]
  rw [this, List.length_append]; omega
noncomputable def catF0 (x : (List (List Int) × Int × List (List Int) × Int × Int × Unit) × Unit) : Res :=
  .need (x.1.2.1 = 0 ∧ x.1.2.2.2.1 = x.1.2.2.1.length ∧ x.1.2.2.2.2.1 = 0 ∧ x.1.2.2.1.flatten.length ≤ 140737488355328 ∧ x.1.2.2.1.length ≤ 140737488355328) (.leaf (.exit 0) ((stC catE0 lNil).wr ((x.1.1, (x.1.2.2.1.flatten.length : Int), ()), ())))
theorem cat_loop0 (x) : Ex Try.prog [] (.loop (loopAt catFn 0)) ((stC catC0 lNil).wr x) (catF0 x) := by
  obtain ⟨⟨l0, s, ls, n, i, _⟩, _⟩ := x
  refine Ex.need fun ⟨h1, h2, h3, h4, h5⟩ => ?_
  simp only at h1 h2 h3 h4 h5
  subst h1 h2 h3
  refine loopR mixed tab0 (LOk.nil _) (fun k => ls.length - k) (fun k : Nat => (stC catC0 lNil).wr ((l0, ((ls.take k).flatten.length : Int), ls, (ls.length : Int), (k : Int), ()), ())) (fun k => k ≤ ls.length)
    (fun k => .leaf (.exit 0) ((stC catE0 lNil).wr ((l0, (ls.flatten.length : Int), ()), ()))) (fun k _ => cat_rnd0 l0 ls _ _ _) (fun k R hk hs => ?_) 0 (Nat.zero_le _)
  · have hle := flat_le ls k
    refine ⟨fun hb => ?_, fun hb => ?_⟩
    · have hlt : k < ls.length := by simpa using hb
      have hft := flat_take ls k hlt
      have hle1 := flat_le ls (k + 1)
      have hlen : ((ls.take (k + 1)).flatten.length : Int) = (ls.take k).flatten.length + (ls.getD k []).length := by rw [hft, List.length_append]; omega
      refine ⟨⟨by omega, by omega⟩, fun hb2 => ?_, fun _ => .inl ⟨rfl, k + 1, ?_, hlt, by omega, hs⟩⟩
      · rw [wrap_ok (by omega) (by simp only [Int.toNat_natCast]; omega)] at hb2
        simp at hb2; omega
      · rw [wrap_ok (by omega) (by simp only [Int.toNat_natCast]; omega), wrap_ok (by omega) (by omega)]
        simp only [Int.toNat_natCast]
        rw [← hlen]
        rfl
    · have hge : k = ls.length := by simp at hb; omega
      subst hge
      rw [List.take_length]
      exact .inr ⟨by simp, hs⟩
abbrev catC2 : Cod (List LV) (List (List Int) × Int × Int × Unit) := jk 6 (lSkip (vOne (sSl 0 0)) (jk 18 (lCons (vOne (sRd false false (.sl u8))) (lCons (vOne (sInt .i64)) (lCons (vOne (sInt .i64)) (jk 8 lNil))))))
abbrev catK2 : List Wk := [.fr (fmS 36 [(6, .keep), (25, .keep), (26, .sym), (27, .sym)]), .auto, .vers]
abbrev catE2 : Cod (List LV) Unit := jk 6 (lSkip (vOne (sSl 0 0)) (jk 29 lNil))
abbrev catX2 : List Wk := [.fr (fmS 36 [(6, .keep)]), .auto, .vers]
abbrev own1 : Cod Hp (List Int × Unit) := lCons (iOwn 0 u8) lNil
theorem cat_rnd2 (ls : List (List Int)) (acc : List Int) (n i : Int) : rndT Try.prog [] [] catFn 2 [] (wsE catK2 2 catX2) ((stC catC2 own1).wr ((ls, n, i, ()), (acc, ()))) =
    .ite (decide (i < n)) (.need (0 ≤ i ∧ i < ls.length) (.need ((acc.length + (ls.getD i.toNat []).length) * 1 ≤ 70368744177664 ∧ acc.length + (ls.getD i.toNat []).length ≤ 70368744177664)
      (.leaf .normal ((stC catC2 own1).wr ((ls, n, IntKind.i64.wrap (i + 1), ()), (acc ++ ls.getD i.toNat [], ()))))))
      (.leaf (.exit 2) ((stC catE2 own1).wr ((), (acc, ())))) := by kernel_rfl
noncomputable def catF2 (x : (List (List Int) × Int × Int × Unit) × List Int × Unit) : Res :=
  .need (x.1.2.1 = x.1.1.length ∧ x.1.2.2.1 = 0 ∧ x.2.1 = [] ∧ x.1.1.flatten.length ≤ 70368744177664 ∧ x.1.1.length ≤ 140737488355328) (.leaf (.exit 2) ((stC catE2 own1).wr ((), (x.1.1.flatten, ()))))
theorem cat_loop2 (x) : Ex Try.prog [] (.loop (loopAt catFn 2)) ((stC catC2 own1).wr x) (catF2 x) := by
  obtain ⟨⟨ls, n, i, _⟩, acc, _⟩ := x
  refine Ex.need fun ⟨h2, h3, h1, h4, h5⟩ => ?_
  simp only at h1 h2 h3 h4 h5
  subst h1 h2 h3
  refine loopR mixed tab0 (LOk.nil _) (fun k => ls.length - k) (fun k : Nat => (stC catC2 own1).wr ((ls, (ls.length : Int), (k : Int), ()), ((ls.take k).flatten, ()))) (fun k => k ≤ ls.length)
    (fun k => .leaf (.exit 2) ((stC catE2 own1).wr ((), (ls.flatten, ())))) (fun k _ => cat_rnd2 ls _ _ _) (fun k R hk hs => ?_) 0 (Nat.zero_le _)
  refine ⟨fun hb => ?_, fun hb => ?_⟩
  · have hlt : k < ls.length := by simpa using hb
    have hft := flat_take ls k hlt
    have hle1 := flat_le ls (k + 1)
    have hlen : (ls.take (k + 1)).flatten.length = (ls.take k).flatten.length + (ls.getD k []).length := by rw [hft, List.length_append]
    refine ⟨⟨by omega, by omega⟩, ⟨by simp only [Int.toNat_natCast]; omega, by simp only [Int.toNat_natCast]; omega⟩, .inl ⟨rfl, k + 1, ?_, hlt, by omega, hs⟩⟩
    rw [wrap_ok (by omega) (by omega)]
    simp only [Int.toNat_natCast]
    rw [← hft]
    rfl
  · have hge : k = ls.length := by simp at hb; omega
    subst hge
    rw [List.take_length]
    exact .inr ⟨by simp, hs⟩
abbrev catA : Cod (List LV) (List (List Int) × Unit) := lCons (vOne (sRd false false (.sl u8))) lNil
/-- all, one behind the other -/
noncomputable def catE : Ent := Ent.ofS [some (.sl u8)] catA lNil fun x _ => .leaf (some (x.1.flatten.length ≤ 70368744177664 ∧ x.1.length ≤ 140737488355328)) (.one (.sc (.sl 0 0))) [(0, .own 0 u8 x.1.flatten)]
noncomputable abbrev catLT : LTab := [(0, loopF (stC catC0 lNil) 0 catK0 catF0), (2, loopF (stC catC2 own1) 0 catK2 catF2)]
theorem cat_tree (ls : List (List Int)) : fnT Try.prog [(84, growE)] catLT catFn (catA.wr (ls, ())) [] [.auto, .vers] =
    .need ((0 : Int) = 0 ∧ (ls.length : Int) = ls.length ∧ (0 : Int) = 0 ∧ ls.flatten.length ≤ 140737488355328 ∧ ls.length ≤ 140737488355328) (.need (0 ≤ (ls.flatten.length : Int) ∧ (ls.flatten.length : Int) ≤ 140737488355328)
      (.need ((ls.length : Int) = ls.length ∧ (0 : Int) = 0 ∧ ([] : List Int) = [] ∧ ls.flatten.length ≤ 70368744177664 ∧ ls.length ≤ 140737488355328) (.leaf (.one (.sc (.sl 0 0))) [some (.own 0 u8 ls.flatten)]))) := by kernel_rfl
theorem cat_ok : catE.Ok Try.prog 63 := by
  refine (Ent.ofOk Try.call63 fun x y Q h => ?_).sym
  obtain ⟨ls, _⟩ := x
  obtain ⟨⟨h1, h2⟩, hq⟩ := h
  refine (fnT_ok mixed (tabC grow_ok tab0) Try.func63 rfl (LT := catLT) (ks := [.auto, .vers]) (LOk.ofTab (LTC rfl (loopF_ok (hp := []) cat_loop0) (LTC rfl (loopF_ok (hp := []) cat_loop2) LT0)))).use (D := [(0, .own 0 u8 ls.flatten)]) ?_ hq
  show (fnT _ _ _ _ (catA.wr (ls, ())) [] _).sat _
  rw [cat_tree]
  simp only at h1 h2
  exact ⟨⟨rfl, rfl, rfl, by omega, by omega⟩, ⟨by omega, by omega⟩, ⟨rfl, rfl, rfl, h1, h2⟩, rfl, rfl⟩
end
end Go.Proofs.Ythdfifcgobfgdaa
end

section
set_option linter.unusedVariables false
set_option linter.unusedSimpArgs false
namespace Go.Proofs.Ythdfifcgobfgdaa
open Go Go.Ev
set_option maxRecDepth 100000
abbrev uiC : Cod (List LV) (Int × Int × Unit) := lCons (vOne (sInt .u64)) (lCons (vOne (sInt .i64)) lNil)
abbrev u3C : Cod (List LV) (Int × Int × Int × Unit) := lCons (vOne (sInt .u64)) (lCons (vOne (sInt .u64)) (lCons (vOne (sInt .u64)) lNil))
abbrev ui3C : Cod (List LV) (Int × Int × Int × Int × Unit) := lCons (vOne (sInt .u64)) (lCons (vOne (sInt .i64)) (lCons (vOne (sInt .i64)) (lCons (vOne (sInt .i64)) lNil)))
def rotlF (x k : Int) : Int := bitOr .u64 (shl .u64 x (bitAnd .u64 (IntKind.u64.wrap k) 63)) (shr .u64 x (IntKind.u64.wrap (64 - bitAnd .u64 (IntKind.u64.wrap k) 63)))
theorem and63 (k : Int) : bitAnd .u64 (IntKind.u64.wrap k) 63 = k % 64 := by
  rw [and_u64 (m := 6) (by decide) _ _ (by decide), wrap_u64']
  exact Int.emod_emod_of_dvd _ (by decide)
/-- bits turned down -/
def rotr (x n : Int) : Int := bitOr .u64 (shl .u64 x (64 - n)) (shr .u64 x n)
theorem rotlF_eq {x n : Int} (h0 : 0 < n) (h1 : n < 64) : rotlF x (IntKind.i64.wrap (0 - n)) = rotr x n := by
  unfold rotlF rotr
  have e : bitAnd .u64 (IntKind.u64.wrap (IntKind.i64.wrap (0 - n))) 63 = 64 - n := by
    rw [and63, wrap_i64 (by omega) (by omega)]; omega
  rw [e, wrap_u64 (by omega) (by omega), show (64 : Int) - (64 - n) = n from by omega]
noncomputable def rotlE : Ent := Ent.ofS [] (uiC) (lNil) fun x_ y_ => (fun (x k : Int) => .leaf none (nU (rotlF x k)) []) x_.1 x_.2.1
theorem rotl_tree (x k : Int) : fnT Try.prog [] [] Try.f107 ((uiC).wr (x, k, ())) ((lNil).wr ()) [.fr [.sym], .auto] =
    End.need ((0 : Int) ≤ bitAnd IntKind.u64 (IntKind.u64.wrap k) (63 : Int))
      (End.need ((0 : Int) ≤ IntKind.u64.wrap ((64 : Int) - bitAnd IntKind.u64 (IntKind.u64.wrap k) (63 : Int)))
        (End.leaf
          (LV.one
            (VV.sc
              (SV.int IntKind.u64
                (SI.sym
                  (bitOr IntKind.u64 (shl IntKind.u64 x (bitAnd IntKind.u64 (IntKind.u64.wrap k) (63 : Int)))
                    (shr IntKind.u64 x
                      (IntKind.u64.wrap ((64 : Int) - bitAnd IntKind.u64 (IntKind.u64.wrap k) (63 : Int)))))))))
          [])) := by kernel_rfl
theorem rotl_ok : rotlE.Ok Try.prog 107 := by
  refine (Ent.ofOk Try.call107 fun x_ y_ Q H_ => ?_).sym
  obtain ⟨x, k, _⟩ := x_
  have hq := H_.2
  refine (fnT_ok mixed tab0 Try.func107 rfl (LT := []) (ks := [.fr [.sym], .auto]) (LOk.nil _)).use (D := []) ?_ hq
  show (fnT _ _ _ _ ((uiC).wr (x, k, ())) ((lNil).wr ()) _).sat _
  rw [rotl_tree]
  have e := and63 k
  refine ⟨by omega, by rw [e, wrap_u64 (by omega) (by omega)]; omega, rfl, rfl⟩
noncomputable def rotrE : Ent := Ent.ofS [] (uiC) (lNil) fun x_ y_ => (fun (x k : Int) => .leaf (some (0 < k ∧ k < 64)) (nU (rotr x k)) []) x_.1 x_.2.1
theorem rotr_tree (x k : Int) : fnT Try.prog [(107, rotlE)] [] Try.f106 ((uiC).wr (x, k, ())) ((lNil).wr ()) [.fr [.sym], .auto] =
    End.leaf (LV.one (VV.sc (SV.int IntKind.u64 (SI.sym (rotlF x (IntKind.i64.wrap ((0 : Int) - k.tmod (64 : Int)))))))) [] := by kernel_rfl
theorem rotr_ok : rotrE.Ok Try.prog 106 := by
  refine (Ent.ofOk Try.call106 fun x_ y_ Q H_ => ?_).sym
  obtain ⟨x, k, _⟩ := x_
  obtain ⟨hn, hq⟩ := H_
  have hn : 0 < k ∧ k < 64 := hn
  refine (fnT_ok mixed ((tabC rotl_ok tab0)) Try.func106 rfl (LT := []) (ks := [.fr [.sym], .auto]) (LOk.nil _)).use (D := []) ?_ hq
  show (fnT _ _ _ _ ((uiC).wr (x, k, ())) ((lNil).wr ()) _).sat _
  rw [rotr_tree]
  have e : k.tmod 64 = k := by rw [Int.tmod_eq_emod_of_nonneg (by omega)]; omega
  rw [e, rotlF_eq hn.1 hn.2]
  exact ⟨rfl, rfl⟩
def chF (x y z : Int) : Int := bitXor .u64 (bitAnd .u64 x y) (bitAnd .u64 (bitXor .u64 18446744073709551615 x) z)
def majF (x y z : Int) : Int := bitXor .u64 (bitXor .u64 (bitAnd .u64 x y) (bitAnd .u64 x z)) (bitAnd .u64 y z)
noncomputable def chE : Ent := Ent.ofS [] (u3C) (lNil) fun x_ y_ => (fun (x y z : Int) => .leaf none (nU (chF x y z)) []) x_.1 x_.2.1 x_.2.2.1
theorem ch_tree (x y z : Int) : fnT Try.prog [] [] Try.f103 ((u3C).wr (x, y, z, ())) ((lNil).wr ()) [.fr [.sym], .auto] =
    End.leaf
      (LV.one
        (VV.sc
          (SV.int IntKind.u64
            (SI.sym
              (bitXor IntKind.u64 (bitAnd IntKind.u64 x y)
                (bitAnd IntKind.u64 (bitXor IntKind.u64 (18446744073709551615 : Int) x) z))))))
      [] := by kernel_rfl
theorem ch_ok : chE.Ok Try.prog 103 := by
  refine (Ent.ofOk Try.call103 fun x_ y_ Q H_ => ?_).sym
  obtain ⟨x, y, z, _⟩ := x_
  have hq := H_.2
  refine (fnT_ok mixed tab0 Try.func103 rfl (LT := []) (ks := [.fr [.sym], .auto]) (LOk.nil _)).use (D := []) ?_ hq
  show (fnT _ _ _ _ ((u3C).wr (x, y, z, ())) ((lNil).wr ()) _).sat _
  rw [ch_tree]
  exact ⟨rfl, rfl⟩
noncomputable def majE : Ent := Ent.ofS [] (u3C) (lNil) fun x_ y_ => (fun (x y z : Int) => .leaf none (nU (majF x y z)) []) x_.1 x_.2.1 x_.2.2.1
theorem maj_tree (x y z : Int) : fnT Try.prog [] [] Try.f104 ((u3C).wr (x, y, z, ())) ((lNil).wr ()) [.fr [.sym], .auto] =
    End.leaf
      (LV.one
        (VV.sc
          (SV.int IntKind.u64
            (SI.sym
              (bitXor IntKind.u64 (bitXor IntKind.u64 (bitAnd IntKind.u64 x y) (bitAnd IntKind.u64 x z))
                (bitAnd IntKind.u64 y z))))))
      [] := by kernel_rfl
theorem maj_ok : majE.Ok Try.prog 104 := by
  refine (Ent.ofOk Try.call104 fun x_ y_ Q H_ => ?_).sym
  obtain ⟨x, y, z, _⟩ := x_
  have hq := H_.2
  refine (fnT_ok mixed tab0 Try.func104 rfl (LT := []) (ks := [.fr [.sym], .auto]) (LOk.nil _)).use (D := []) ?_ hq
  show (fnT _ _ _ _ ((u3C).wr (x, y, z, ())) ((lNil).wr ()) _).sat _
  rw [maj_tree]
  exact ⟨rfl, rfl⟩
def smallF (x a b d : Int) : Int := bitXor .u64 (bitXor .u64 (rotr x a) (rotr x b)) (shr .u64 x d)
def greatF (x a b d : Int) : Int := bitXor .u64 (bitXor .u64 (rotr x a) (rotr x b)) (rotr x d)
noncomputable def smallE : Ent := Ent.ofS [] (ui3C) (lNil) fun x_ y_ => (fun (x a b d : Int) => .leaf (some (0 < a ∧ a < 64 ∧ 0 < b ∧ b < 64 ∧ 0 ≤ d)) (nU (smallF x a b d)) []) x_.1 x_.2.1 x_.2.2.1 x_.2.2.2.1
theorem small_tree (x a b d : Int) : fnT Try.prog [(106, rotrE)] [] Try.f105 ((ui3C).wr (x, a, b, d, ())) ((lNil).wr ()) [.fr [.sym], .auto] =
    End.need ((0 : Int) < a ∧ a < (64 : Int))
      (End.need ((0 : Int) < b ∧ b < (64 : Int))
        (End.need ((0 : Int) ≤ d)
          (End.leaf
            (LV.one
              (VV.sc
                (SV.int IntKind.u64
                  (SI.sym (bitXor IntKind.u64 (bitXor IntKind.u64 (rotr x a) (rotr x b)) (shr IntKind.u64 x d))))))
            []))) := by kernel_rfl
theorem small_ok : smallE.Ok Try.prog 105 := by
  refine (Ent.ofOk Try.call105 fun x_ y_ Q H_ => ?_).sym
  obtain ⟨x, a, b, d, _⟩ := x_
  obtain ⟨hn, hq⟩ := H_
  have hn : 0 < a ∧ a < 64 ∧ 0 < b ∧ b < 64 ∧ 0 ≤ d := hn
  refine (fnT_ok mixed ((tabC rotr_ok tab0)) Try.func105 rfl (LT := []) (ks := [.fr [.sym], .auto]) (LOk.nil _)).use (D := []) ?_ hq
  show (fnT _ _ _ _ ((ui3C).wr (x, a, b, d, ())) ((lNil).wr ()) _).sat _
  rw [small_tree]
  exact ⟨⟨hn.1, hn.2.1⟩, ⟨hn.2.2.1, hn.2.2.2.1⟩, hn.2.2.2.2, rfl, rfl⟩
noncomputable def greatE : Ent := Ent.ofS [] (ui3C) (lNil) fun x_ y_ => (fun (x a b d : Int) => .leaf (some (0 < a ∧ a < 64 ∧ 0 < b ∧ b < 64 ∧ 0 < d ∧ d < 64)) (nU (greatF x a b d)) []) x_.1 x_.2.1 x_.2.2.1 x_.2.2.2.1
theorem great_tree (x a b d : Int) : fnT Try.prog [(106, rotrE)] [] Try.f102 ((ui3C).wr (x, a, b, d, ())) ((lNil).wr ()) [.fr [.sym], .auto] =
    End.need ((0 : Int) < a ∧ a < (64 : Int))
      (End.need ((0 : Int) < b ∧ b < (64 : Int))
        (End.need ((0 : Int) < d ∧ d < (64 : Int))
          (End.leaf
            (LV.one
              (VV.sc
                (SV.int IntKind.u64 (SI.sym (bitXor IntKind.u64 (bitXor IntKind.u64 (rotr x a) (rotr x b)) (rotr x d))))))
            []))) := by kernel_rfl
theorem great_ok : greatE.Ok Try.prog 102 := by
  refine (Ent.ofOk Try.call102 fun x_ y_ Q H_ => ?_).sym
  obtain ⟨x, a, b, d, _⟩ := x_
  obtain ⟨hn, hq⟩ := H_
  have hn : 0 < a ∧ a < 64 ∧ 0 < b ∧ b < 64 ∧ 0 < d ∧ d < 64 := hn
  refine (fnT_ok mixed ((tabC rotr_ok tab0)) Try.func102 rfl (LT := []) (ks := [.fr [.sym], .auto]) (LOk.nil _)).use (D := []) ?_ hq
  show (fnT _ _ _ _ ((ui3C).wr (x, a, b, d, ())) ((lNil).wr ()) _).sat _
  rw [great_tree]
  exact ⟨⟨hn.1, hn.2.1⟩, ⟨hn.2.2.1, hn.2.2.2.1⟩, hn.2.2.2.2, rfl, rfl⟩
end Go.Proofs.Ythdfifcgobfgdaa
end

section
set_option linter.unusedVariables false
set_option linter.unusedSimpArgs false
namespace Go.Proofs.Ythdfifcgobfgdaa
open Go Go.Ev
set_option maxRecDepth 100000
def roundsK : List Int := [4794697086780616226, 8158064640168781261, 13096744586834688815, 16840607885511220156, 4131703408338449720, 6480981068601479193, 10538285296894168987, 12329834152419229976, 15566598209576043074, 1334009975649890238, 2608012711638119052, 6128411473006802146, 8268148722764581231, 9286055187155687089, 11230858885718282805, 13951009754708518548, 16472876342353939154, 17275323862435702243, 1135362057144423861, 2597628984639134821, 3308224258029322869, 5365058923640841347, 6679025012923562964, 8573033837759648693, 10970295158949994411, 12119686244451234320, 12683024718118986047, 13788192230050041572, 14330467153632333762, 15395433587784984357, 489312712824947311, 1452737877330783856, 2861767655752347644, 3322285676063803686, 5560940570517711597, 5996557281743188959, 7280758554555802590, 8532644243296465576, 9350256976987008742, 10552545826968843579, 11727347734174303076, 12113106623233404929, 14000437183269869457, 14369950271660146224, 15101387698204529176, 15463397548674623760, 17586052441742319658, 1182934255886127544, 1847814050463011016, 2177327727835720531, 2830643537854262169, 3796741975233480872, 4115178125766777443, 5681478168544905931, 6601373596472566643, 7507060721942968483, 8399075790359081724, 8693463985226723168, 9568029438360202098, 10144078919501101548, 10430055236837252648, 11840083180663258601, 13761210420658862357, 14299343276471374635, 14566680578165727644, 15097957966210449927, 16922976911328602910, 17689382322260857208, 500013540394364858, 748580250866718886, 1242879168328830382, 1977374033974150939, 2944078676154940804, 3659926193048069267, 4368137639120453308, 4836135668995329356, 5532061633213252278, 6448918945643986474, 6902733635092675308, 7801388544844847127]
def beginK : List Int := [7640891576956012808, 13503953896175478587, 4354685564936845355, 11912009170470909681, 5840696475078001361, 11170449401992604703, 2270897969802886507, 6620516959819538809]
noncomputable def beginE : Ent := Ent.ofS [] lNil lNil fun _ _ => .leaf none (nRow .u64 8 beginK) []
noncomputable def roundsE : Ent := Ent.ofS [] lNil lNil fun _ _ => .leaf none (nRow .u64 80 roundsK) []
theorem begin_tree : fnT Try.prog [] [] Try.f85 (lNil.wr ()) (lNil.wr ()) [.fr [.sym], .rowF 0 0 8 .u64, .auto] = .leaf (nRow .u64 8 beginK) [] := by kernel_rfl
theorem rounds_tree : fnT Try.prog [] [] Try.f100 (lNil.wr ()) (lNil.wr ()) [.fr [.sym], .auto] = .leaf (nRow .u64 80 roundsK) [] := by kernel_rfl
theorem begin_ok : beginE.Ok Try.prog 85 := by
  refine (Ent.ofOk Try.call85 fun x_ y_ Q h => ?_).sym
  refine (fnT_ok mixed tab0 Try.func85 rfl (LT := []) (ks := [.fr [.sym], .rowF 0 0 8 .u64, .auto]) (LOk.nil _)).use (D := []) ?_ h.2
  show (fnT _ _ _ _ (lNil.wr ()) (lNil.wr ()) _).sat _
  rw [begin_tree]
  exact ⟨rfl, rfl⟩
theorem rounds_ok : roundsE.Ok Try.prog 100 := by
  refine (Ent.ofOk Try.call100 fun x_ y_ Q h => ?_).sym
  refine (fnT_ok mixed tab0 Try.func100 rfl (LT := []) (ks := [.fr [.sym], .auto]) (LOk.nil _)).use (D := []) ?_ h.2
  show (fnT _ _ _ _ (lNil.wr ()) (lNil.wr ()) _).sat _
  rw [rounds_tree]
  exact ⟨rfl, rfl⟩
def wordF (b : List Int) (k : Nat) (m : List Int) : List Int := m.set (k / 8) (bitOr .u64 (shl .u64 (m.getD (k / 8) 0) 8) (IntKind.u64.wrap (b.getD k 0)))
def wordsF (b : List Int) : List Int := upto (wordF b) 0 128 (List.replicate 16 0)
theorem wordF_length (b : List Int) (k : Nat) (m : List Int) : (wordF b k m).length = m.length := by simp [wordF]
noncomputable abbrev woFn : Func := Try.f98
abbrev woC : Cod (List LV) (List Int × Int × Int × Unit) := (jk 2 (lSkip (vOne (sPtr 0 0)) (jk 1 (lSkip (vOne (sPtr 1 0)) (jk 6 (lCons (vOne (sRd false false u8)) (lCons (vOne (sInt .i64)) (lCons (vOne (sInt .i64)) (jk 17 lNil)))))))))
abbrev woCf : Wk := .fr (fmS 31 [(2, .keep), (4, .keep), (11, .keep), (12, .sym), (13, .sym)])
abbrev woX : Cod (List LV) (Unit) := (jk 2 (lSkip (vOne (sPtr 0 0)) (jk 1 (lSkip (vOne (sPtr 1 0)) (jk 26 lNil)))))
abbrev woXf : Wk := .fr (fmS 31 [(2, .keep), (4, .keep)])
abbrev woH : Cod Hp (List Int × List Int × Unit) := lCons (iRow 136 .u64 16) (lCons (iRow 136 .u64 16) lNil)
def woW : Exit → List Wk
  | .normal => [woCf, .rowB 0 0 16 .u64, .rowB 1 0 16 .u64, .auto]
  | .exit 0 => [woXf, .auto]
  | _ => []
theorem wo_rnd (b : List Int) (n i : Int) (r m : List Int) : rndT Try.prog [] [] woFn 0 [] woW ((stC woC woH).wr ((b, n, i, ()), (r, m, ()))) =
    Res.ite (decide (i < n))
      (Res.need ((0 : Int) ≤ i ∧ i < (↑b.length : Int))
        (Res.need ((0 : Int) ≤ IntKind.i64.wrap (i.tdiv (8 : Int)) ∧ IntKind.i64.wrap (i.tdiv (8 : Int)) < (16 : Int))
          (Res.need ((0 : Int) ≤ IntKind.i64.wrap (i.tdiv (8 : Int)) ∧ IntKind.i64.wrap (i.tdiv (8 : Int)) < (16 : Int))
            (Res.leaf Exit.normal
              ((stC woC woH).wr
                ((b, n, IntKind.i64.wrap (i + (1 : Int)), PUnit.unit), r,
                  m.set ((0 : Nat) + (IntKind.i64.wrap (i.tdiv (8 : Int))).toNat)
                    (bitOr IntKind.u64
                      (shl IntKind.u64
                        ((List.take (16 : Nat) (List.drop (0 : Nat) m)).getD (IntKind.i64.wrap (i.tdiv (8 : Int))).toNat
                          (0 : Int))
                        (8 : Int))
                      (IntKind.u64.wrap (b.getD i.toNat (0 : Int)))),
                  PUnit.unit))))))
      (Res.leaf (Exit.exit (0 : Nat)) ((stC woX woH).wr (PUnit.unit, r, m, PUnit.unit))) := by kernel_rfl
noncomputable def woF (x : (List Int × Int × Int × Unit) × List Int × List Int × Unit) : Res :=
  .need (x.1.1.length = 128 ∧ x.1.2.1 = 128 ∧ x.1.2.2.1 = 0 ∧ x.2.2.1 = List.replicate 16 0) (.leaf (.exit 0) ((stC woX woH).wr ((), (x.2.1, wordsF x.1.1, ()))))
theorem wo_loop (x) : Ex Try.prog [] (.loop (loopAt woFn 0)) ((stC woC woH).wr x) (woF x) := by
  obtain ⟨⟨b, n, i, _⟩, r, m, _⟩ := x
  refine Ex.need fun ⟨h1, h2, h3, h4⟩ => ?_
  simp only at h1 h2 h3 h4
  subst h2 h3 h4
  refine loopUp (ws := woW) (hp := []) mixed tab0 (LOk.nil _) 128 (fun k m => (stC woC woH).wr ((b, 128, (k : Int), ()), (r, m, ()))) (fun m => (stC woX woH).wr ((), (r, m, ()))) (wordF b) (fun _ m => m.length = 16)
    (fun k m R hk hm hn hx => ?_) (fun k m _ hm => by rw [wordF_length]; exact hm) 0 (List.replicate 16 0) (by omega) (by simp)
  rw [wo_rnd]
  refine ⟨fun hb => ?_, fun hb => ?_⟩
  · have hlt : k < 128 := by have := of_decide_eq_true hb; omega
    have e : IntKind.i64.wrap ((k : Int).tdiv 8) = ((k / 8 : Nat) : Int) := tdiv_nat k 8 (by omega)
    rw [e, take_all hm, wrap_succ k (by omega)]
    simp only [Int.toNat_natCast, Nat.zero_add]
    exact ⟨by omega, by omega, by omega, hn hlt⟩
  · have : k = 128 := by have := of_decide_eq_false hb; omega
    exact hx this
noncomputable abbrev woLT : LTab := [(0, loopF (stC woC woH) 0 [woCf, .rowB 0 0 16 .u64, .rowB 1 0 16 .u64, .auto] woF)]
noncomputable def wordsE : Ent := Ent.ofS [some u8] (bA) (lNil) fun x_ y_ => (fun (b : List Int) => .leaf (some (b.length = 128)) (.tup [.agg [.arr (.int .u64) 16 (wordsF b)], .sc (.bool (.sym true))]) []) x_.1
theorem words_tree (b : List Int) : fnT Try.prog [] woLT Try.f98 ((bA).wr (b, ())) ((lNil).wr ()) [.fr [.sym], .rowF 0 0 16 .u64, .auto] =
    End.ite ((↑b.length : Int) != (128 : Int))
      (End.leaf
        (LV.tup
          [VV.agg
              [SV.arr (Ty.int IntKind.u64) (16 : Nat)
                  [(0 : Int), (0 : Int), (0 : Int), (0 : Int), (0 : Int), (0 : Int), (0 : Int), (0 : Int), (0 : Int),
                    (0 : Int), (0 : Int), (0 : Int), (0 : Int), (0 : Int), (0 : Int), (0 : Int)]],
            VV.sc (SV.bool (SB.sym false))])
        [])
      (End.need
        (b.length = (128 : Nat) ∧
          (↑b.length : Int) = (128 : Int) ∧
            (0 : Int) = (0 : Int) ∧
              [(0 : Int), (0 : Int), (0 : Int), (0 : Int), (0 : Int), (0 : Int), (0 : Int), (0 : Int), (0 : Int), (0 : Int),
                  (0 : Int), (0 : Int), (0 : Int), (0 : Int), (0 : Int), (0 : Int)] =
                List.replicate (16 : Nat) (0 : Int))
        (End.leaf (LV.tup [VV.agg [SV.arr (Ty.int IntKind.u64) (16 : Nat) (wordsF b)], VV.sc (SV.bool (SB.sym true))]) [])) := by kernel_rfl
theorem words_ok : wordsE.Ok Try.prog 98 := by
  refine (Ent.ofOk Try.call98 fun x_ y_ Q H_ => ?_).sym
  obtain ⟨b, _⟩ := x_
  obtain ⟨hn, hq⟩ := H_
  have hn : b.length = 128 := hn
  refine (fnT_ok mixed tab0 Try.func98 rfl (LT := woLT) (ks := [.fr [.sym], .rowF 0 0 16 .u64, .auto]) (LOk.ofTab (LTC rfl (loopF_ok (hp := []) wo_loop) LT0))).use (D := []) ?_ hq
  show (fnT _ _ _ _ ((bA).wr (b, ())) ((lNil).wr ()) _).sat _
  rw [words_tree]
  refine ⟨fun h => ?_, fun h => ⟨⟨hn, by omega, rfl, rfl⟩, rfl, rfl⟩⟩
  simp [hn] at h
def schF (t : Nat) (w : List Int) : List Int := w.set t (IntKind.u64.wrap (IntKind.u64.wrap (IntKind.u64.wrap (smallF (w.getD (t - 2) 0) 19 61 6 + w.getD (t - 7) 0) + smallF (w.getD (t - 15) 0) 1 8 7) + w.getD (t - 16) 0))
def schedF (m : List Int) : List Int := upto schF 16 64 (m ++ List.replicate 64 0)
noncomputable abbrev scFn : Func := Try.f101
abbrev scA : Cod (List LV) (List Int × Unit) := lCons (vRow .u64 16) lNil
abbrev scC : Cod (List LV) (Int × Unit) := (jk 2 (lSkip (vOne (sPtr 0 0)) (lSkip (vOne (sPtr 1 0)) (lCons (vOne (sInt .i64)) (jk 31 lNil)))))
abbrev scCf : Wk := .fr (fmS 36 [(2, .keep), (3, .keep), (4, .sym)])
abbrev scX : Cod (List LV) (Unit) := (jk 2 (lSkip (vOne (sPtr 0 0)) (lSkip (vOne (sPtr 1 0)) (jk 32 lNil))))
abbrev scXf : Wk := .fr (fmS 36 [(2, .keep), (3, .keep)])
abbrev scH : Cod Hp (List Int × List Int × Unit) := lCons (iRow 140 .u64 80) (lCons (iRow 140 .u64 80) lNil)
noncomputable abbrev scTab : List (FuncId × Ent) := [(105, smallE)]
theorem scTab_ok : ∀ p ∈ scTab, p.2.Ok Try.prog p.1 := tabC small_ok tab0
def scW : Exit → List Wk
  | .normal => [scCf, .auto]
  | .exit 0 => [scXf, .auto]
  | _ => []
theorem sc_rnd (t : Int) (r w : List Int) : rndT Try.prog scTab [] scFn 0 [] scW ((stC scC scH).wr ((t, ()), (r, w, ()))) =
    Res.ite (decide (t < (80 : Int)))
      (Res.need ((0 : Int) ≤ IntKind.i64.wrap (t - (2 : Int)) ∧ IntKind.i64.wrap (t - (2 : Int)) < (80 : Int))
        (Res.need
          ((0 : Int) < (19 : Int) ∧
            (19 : Int) < (64 : Int) ∧ (0 : Int) < (61 : Int) ∧ (61 : Int) < (64 : Int) ∧ (0 : Int) ≤ (6 : Int))
          (Res.need ((0 : Int) ≤ IntKind.i64.wrap (t - (7 : Int)) ∧ IntKind.i64.wrap (t - (7 : Int)) < (80 : Int))
            (Res.need ((0 : Int) ≤ IntKind.i64.wrap (t - (15 : Int)) ∧ IntKind.i64.wrap (t - (15 : Int)) < (80 : Int))
              (Res.need
                ((0 : Int) < (1 : Int) ∧
                  (1 : Int) < (64 : Int) ∧ (0 : Int) < (8 : Int) ∧ (8 : Int) < (64 : Int) ∧ (0 : Int) ≤ (7 : Int))
                (Res.need ((0 : Int) ≤ IntKind.i64.wrap (t - (16 : Int)) ∧ IntKind.i64.wrap (t - (16 : Int)) < (80 : Int))
                  (Res.need ((0 : Int) ≤ t ∧ t < (80 : Int))
                    (Res.leaf Exit.normal
                      ((stC scC scH).wr
                        ((IntKind.i64.wrap (t + (1 : Int)), PUnit.unit), r,
                          w.set ((0 : Nat) + t.toNat)
                            (IntKind.u64.wrap
                              (IntKind.u64.wrap
                                  (IntKind.u64.wrap
                                      (smallF
                                          ((List.take (80 : Nat) (List.drop (0 : Nat) w)).getD
                                            (IntKind.i64.wrap (t - (2 : Int))).toNat (0 : Int))
                                          (19 : Int) (61 : Int) (6 : Int) +
                                        (List.take (80 : Nat) (List.drop (0 : Nat) w)).getD
                                          (IntKind.i64.wrap (t - (7 : Int))).toNat (0 : Int)) +
                                    smallF
                                      ((List.take (80 : Nat) (List.drop (0 : Nat) w)).getD
                                        (IntKind.i64.wrap (t - (15 : Int))).toNat (0 : Int))
                                      (1 : Int) (8 : Int) (7 : Int)) +
                                (List.take (80 : Nat) (List.drop (0 : Nat) w)).getD
                                  (IntKind.i64.wrap (t - (16 : Int))).toNat (0 : Int))),
                          PUnit.unit))))))))))
      (Res.leaf (Exit.exit (0 : Nat)) ((stC scX scH).wr (PUnit.unit, r, w, PUnit.unit))) := by kernel_rfl
noncomputable def scF (x : (Int × Unit) × List Int × List Int × Unit) : Res :=
  .need (x.1.1 = 16 ∧ x.2.2.1.length = 80) (.leaf (.exit 0) ((stC scX scH).wr ((), (x.2.1, upto schF 16 64 x.2.2.1, ()))))
theorem schF_length (t : Nat) (w : List Int) : (schF t w).length = w.length := by simp [schF]
theorem sc_loop (x) : Ex Try.prog [] (.loop (loopAt scFn 0)) ((stC scC scH).wr x) (scF x) := by
  obtain ⟨⟨i, _⟩, r, w, _⟩ := x
  refine Ex.need fun ⟨h1, h2⟩ => ?_
  simp only at h1 h2
  subst h1
  refine loopUp (ws := scW) (hp := []) mixed scTab_ok (LOk.nil _) 80 (fun k w => (stC scC scH).wr (((k : Int), ()), (r, w, ()))) (fun w => (stC scX scH).wr ((), (r, w, ()))) schF (fun k w => 16 ≤ k ∧ w.length = 80)
    (fun k w R hk hm hn hx => ?_) (fun k m _ hm => ⟨by omega, by rw [schF_length]; exact hm.2⟩) 16 w (by omega) ⟨by omega, h2⟩
  obtain ⟨h16, hm⟩ := hm
  rw [sc_rnd]
  refine ⟨fun hb => ?_, fun hb => ?_⟩
  · have hlt : k < 80 := by have := of_decide_eq_true hb; omega
    have e2 : IntKind.i64.wrap ((k : Int) - 2) = ((k - 2 : Nat) : Int) := wrap_sub k 2 (by omega) (by omega)
    have e7 : IntKind.i64.wrap ((k : Int) - 7) = ((k - 7 : Nat) : Int) := wrap_sub k 7 (by omega) (by omega)
    have e15 : IntKind.i64.wrap ((k : Int) - 15) = ((k - 15 : Nat) : Int) := wrap_sub k 15 (by omega) (by omega)
    have e16 : IntKind.i64.wrap ((k : Int) - 16) = ((k - 16 : Nat) : Int) := wrap_sub k 16 (by omega) (by omega)
    rw [e2, e7, e15, e16, take_all hm, wrap_succ k (by omega)]
    simp only [Int.toNat_natCast, Nat.zero_add]
    exact ⟨by omega, by decide, by omega, by omega, by decide, by omega, by omega, hn hlt⟩
  · have : k = 80 := by have := of_decide_eq_false hb; omega
    exact hx this
noncomputable abbrev scLT : LTab := [(0, loopF (stC scC scH) 0 [scCf, .auto] scF)]
noncomputable def schedE : Ent := Ent.ofS [] (scA) (lNil) fun x_ y_ => (fun (m : List Int) => .leaf (some (m.length = 16)) (nRow .u64 80 (schedF m)) []) x_.1
theorem sched_tree (m : List Int) : fnT Try.prog scTab scLT Try.f101 ((scA).wr (m, ())) ((lNil).wr ()) [.fr [.sym], .auto] =
    End.need ((0 : Int) ≤ (0 : Int) ∧ (0 : Int) ≤ (80 : Int) ∧ (80 : Int) ≤ (80 : Int))
      (End.need ((0 : Int) ≤ (0 : Int) ∧ (0 : Int) ≤ (16 : Int) ∧ (16 : Int) ≤ (16 : Int))
        (End.need
          ((16 : Int) = (16 : Int) ∧
            (List.take (0 : Nat) (List.replicate (80 : Nat) (0 : Int)) ++
                  (List.take (80 : Nat) (List.take (16 : Nat) (List.drop (0 : Nat) m)) ++
                    List.drop
                      ((0 : Nat) +
                        if (80 : Nat) ≤ (List.take (16 : Nat) (List.drop (0 : Nat) m)).length then (80 : Nat)
                        else (List.take (16 : Nat) (List.drop (0 : Nat) m)).length)
                      (List.replicate (80 : Nat) (0 : Int)))).length =
              (80 : Nat))
          (End.leaf
            (LV.one
              (VV.agg
                [SV.arr (Ty.int IntKind.u64) (80 : Nat)
                    (upto schF (16 : Nat) (64 : Nat)
                      (List.take (0 : Nat) (List.replicate (80 : Nat) (0 : Int)) ++
                        (List.take (80 : Nat) (List.take (16 : Nat) (List.drop (0 : Nat) m)) ++
                          List.drop
                            ((0 : Nat) +
                              if (80 : Nat) ≤ (List.take (16 : Nat) (List.drop (0 : Nat) m)).length then (80 : Nat)
                              else (List.take (16 : Nat) (List.drop (0 : Nat) m)).length)
                            (List.replicate (80 : Nat) (0 : Int)))))]))
            []))) := by kernel_rfl
theorem sched_ok : schedE.Ok Try.prog 101 := by
  refine (Ent.ofOk Try.call101 fun x_ y_ Q H_ => ?_).sym
  obtain ⟨m, _⟩ := x_
  obtain ⟨hn, hq⟩ := H_
  have hn : m.length = 16 := hn
  refine (fnT_ok mixed scTab_ok Try.func101 rfl (LT := scLT) (ks := [.fr [.sym], .auto]) (LOk.ofTab (LTC rfl (loopF_ok (hp := []) sc_loop) LT0))).use (D := []) ?_ hq
  show (fnT _ _ _ _ ((scA).wr (m, ())) ((lNil).wr ()) _).sat _
  rw [sched_tree]
  have e : List.take 0 (List.replicate 80 (0 : Int)) ++ (List.take 80 (List.take 16 (List.drop 0 m)) ++ List.drop (0 + if 80 ≤ (List.take 16 (List.drop 0 m)).length then 80 else (List.take 16 (List.drop 0 m)).length) (List.replicate 80 0)) = m ++ List.replicate 64 0 := by
    rw [take_all hn, hn]
    simp [List.take_of_length_le (show m.length ≤ 80 by omega)]
  rw [e]
  refine ⟨by omega, by omega, ⟨rfl, by simp [hn]⟩, rfl, rfl⟩
def oneF (w : List Int) (t : Nat) (x : List Int) : Int :=
  IntKind.u64.wrap (IntKind.u64.wrap (IntKind.u64.wrap (IntKind.u64.wrap (x.getD 7 0 + greatF (x.getD 4 0) 14 18 41) + chF (x.getD 4 0) (x.getD 5 0) (x.getD 6 0)) + roundsK.getD t 0) + w.getD t 0)
def twoF (x : List Int) : Int := IntKind.u64.wrap (greatF (x.getD 0 0) 28 34 39 + majF (x.getD 0 0) (x.getD 1 0) (x.getD 2 0))
def rndF (w : List Int) (t : Nat) (x : List Int) : List Int :=
  [IntKind.u64.wrap (oneF w t x + twoF x), x.getD 0 0, x.getD 1 0, x.getD 2 0, IntKind.u64.wrap (x.getD 3 0 + oneF w t x), x.getD 4 0, x.getD 5 0, x.getD 6 0]
def addF (x s : List Int) : List Int := (List.range 8).map fun i => IntKind.u64.wrap (x.getD i 0 + s.getD i 0)
def allF (w x : List Int) : List Int := upto (rndF w) 0 80 x
def stepF (s m : List Int) : List Int := addF (allF (schedF m) s) s
theorem sched_length {m : List Int} (h : m.length = 16) : (schedF m).length = 80 := by
  unfold schedF
  exact upto_inv (f := schF) (n := 80) (fun (_ : Nat) (w : List Int) => w.length = 80) (fun t w _ h => by rw [schF_length]; exact h) 64 16 (m ++ List.replicate 64 0) (by omega) (by simp [h])
noncomputable abbrev stFn : Func := Try.f99
abbrev spC : Cod (List LV) (Int × Unit) := (jk 2 (lSkip (vOne (sPtr 0 0)) (jk 1 (lSkip (vOne (sPtr 1 0)) (lSkip (vOne (sPtr 2 0)) (lSkip (vOne (sPtr 3 0)) (lSkip (vOne (sPtr 4 0)) (jk 8 (lCons (vOne (sInt .i64)) (jk 69 lNil))))))))))
abbrev spCf : Wk := .fr (fmS 86 [(2, .keep), (4, .keep), (5, .keep), (6, .keep), (7, .keep), (16, .sym)])
abbrev spX : Cod (List LV) (Unit) := (jk 2 (lSkip (vOne (sPtr 0 0)) (jk 1 (lSkip (vOne (sPtr 1 0)) (jk 2 (lSkip (vOne (sPtr 2 0)) (jk 78 lNil)))))))
abbrev spXf : Wk := .fr (fmS 86 [(2, .keep), (4, .keep), (7, .keep)])
abbrev spHX : Cod Hp (List Int × List Int × List Int × Unit) := lCons (iRow 83 .u64 8) (lCons (iCells 83 .u64 8) (lCons (iCells 83 .u64 8) lNil))
abbrev spH : Cod Hp (List Int × List Int × List Int × List Int × List Int × Unit) := lCons (iRow 83 .u64 8) (lCons (iRow 83 .u64 8) (lCons (iRow 140 .u64 80) (lCons (iRow 140 .u64 80) (lCons (iRow 83 .u64 8) lNil))))
noncomputable abbrev spTab : List (FuncId × Ent) := [(100, roundsE), (101, schedE), (102, greatE), (103, chE), (104, majE)]
theorem spTab_ok : ∀ p ∈ spTab, p.2.Ok Try.prog p.1 := tabC rounds_ok (tabC sched_ok (tabC great_ok (tabC ch_ok (tabC maj_ok tab0))))
def spW : Exit → List Wk
  | .normal => [spCf, .rowB 4 0 8 .u64, .auto]
  | .exit 0 => [spXf, .auto, .cellB 1, .cellB 2]
  | _ => []
theorem sp_rnd (t : Int) (s r k w x : List Int) : rndT Try.prog spTab [] stFn 0 [] spW ((stC spC spH).wr ((t, ()), (s, r, k, w, x, ()))) =
    Res.ite (decide (t < (80 : Int)))
      (Res.need
        ((0 : Int) < (14 : Int) ∧
          (14 : Int) < (64 : Int) ∧
            (0 : Int) < (18 : Int) ∧ (18 : Int) < (64 : Int) ∧ (0 : Int) < (41 : Int) ∧ (41 : Int) < (64 : Int))
        (Res.need ((0 : Int) ≤ t ∧ t < (80 : Int))
          (Res.need ((0 : Int) ≤ t ∧ t < (80 : Int))
            (Res.need
              ((0 : Int) < (28 : Int) ∧
                (28 : Int) < (64 : Int) ∧
                  (0 : Int) < (34 : Int) ∧ (34 : Int) < (64 : Int) ∧ (0 : Int) < (39 : Int) ∧ (39 : Int) < (64 : Int))
              (Res.leaf Exit.normal
                ((stC spC spH).wr
                  ((IntKind.i64.wrap (t + (1 : Int)), PUnit.unit), s, r, k, w,
                    [IntKind.u64.wrap
                        (IntKind.u64.wrap
                            (IntKind.u64.wrap
                                (IntKind.u64.wrap
                                    (IntKind.u64.wrap
                                        (x.getD (7 : Nat) (0 : Int) +
                                          greatF (x.getD (4 : Nat) (0 : Int)) (14 : Int) (18 : Int) (41 : Int)) +
                                      chF (x.getD (4 : Nat) (0 : Int)) (x.getD (5 : Nat) (0 : Int))
                                        (x.getD (6 : Nat) (0 : Int))) +
                                  (List.take (80 : Nat) (List.drop (0 : Nat) k)).getD t.toNat (0 : Int)) +
                              (List.take (80 : Nat) (List.drop (0 : Nat) w)).getD t.toNat (0 : Int)) +
                          IntKind.u64.wrap
                            (greatF (x.getD (0 : Nat) (0 : Int)) (28 : Int) (34 : Int) (39 : Int) +
                              majF (x.getD (0 : Nat) (0 : Int)) (x.getD (1 : Nat) (0 : Int)) (x.getD (2 : Nat) (0 : Int)))),
                      x.getD (0 : Nat) (0 : Int), x.getD (1 : Nat) (0 : Int), x.getD (2 : Nat) (0 : Int),
                      IntKind.u64.wrap
                        (x.getD (3 : Nat) (0 : Int) +
                          IntKind.u64.wrap
                            (IntKind.u64.wrap
                                (IntKind.u64.wrap
                                    (IntKind.u64.wrap
                                        (x.getD (7 : Nat) (0 : Int) +
                                          greatF (x.getD (4 : Nat) (0 : Int)) (14 : Int) (18 : Int) (41 : Int)) +
                                      chF (x.getD (4 : Nat) (0 : Int)) (x.getD (5 : Nat) (0 : Int))
                                        (x.getD (6 : Nat) (0 : Int))) +
                                  (List.take (80 : Nat) (List.drop (0 : Nat) k)).getD t.toNat (0 : Int)) +
                              (List.take (80 : Nat) (List.drop (0 : Nat) w)).getD t.toNat (0 : Int))),
                      x.getD (4 : Nat) (0 : Int), x.getD (5 : Nat) (0 : Int), x.getD (6 : Nat) (0 : Int)],
                    PUnit.unit)))))))
      (Res.leaf (Exit.exit (0 : Nat))
        ((stC spX spHX).wr
          (PUnit.unit, s,
            [r.getD (nat_lit 0) (0 : Int), r.getD (nat_lit 1) (0 : Int), r.getD (nat_lit 2) (0 : Int),
              r.getD (nat_lit 3) (0 : Int), r.getD (nat_lit 4) (0 : Int), r.getD (nat_lit 5) (0 : Int),
              r.getD (nat_lit 6) (0 : Int), r.getD (nat_lit 7) (0 : Int)],
            [x.getD (nat_lit 0) (0 : Int), x.getD (nat_lit 1) (0 : Int), x.getD (nat_lit 2) (0 : Int),
              x.getD (nat_lit 3) (0 : Int), x.getD (nat_lit 4) (0 : Int), x.getD (nat_lit 5) (0 : Int),
              x.getD (nat_lit 6) (0 : Int), x.getD (nat_lit 7) (0 : Int)],
            PUnit.unit))) := by kernel_rfl
noncomputable def spF (x : (Int × Unit) × List Int × List Int × List Int × List Int × List Int × Unit) : Res :=
  .need (x.1.1 = 0 ∧ x.2.2.2.1 = roundsK ∧ x.2.2.2.2.1.length = 80 ∧ x.2.2.2.2.2.1.length = 8) (.leaf (.exit 0) ((stC spX spHX).wr ((), (x.2.1, x.2.2.1, allF x.2.2.2.2.1 x.2.2.2.2.2.1, ()))))
theorem sp_loop (x) : Ex Try.prog [] (.loop (loopAt stFn 0)) ((stC spC spH).wr x) (spF x) := by
  obtain ⟨⟨i, _⟩, s, r, k, w, x, _⟩ := x
  refine Ex.need fun ⟨h1, h2, h3, h4⟩ => ?_
  simp only at h1 h2 h3 h4
  subst h1 h2
  refine loopUp (ws := spW) (hp := []) mixed spTab_ok (LOk.nil _) 80 (fun j x => (stC spC spH).wr (((j : Int), ()), (s, r, roundsK, w, x, ()))) (fun x => (stC spX spHX).wr ((), (s, r, x, ()))) (rndF w) (fun _ x => x.length = 8)
    (fun j x R hk hm hn hx => ?_) (fun k m _ hm => rfl) 0 x (by omega) h4
  rw [sp_rnd]
  refine ⟨fun hb => ?_, fun hb => ?_⟩
  · have hlt : j < 80 := by have := of_decide_eq_true hb; omega
    rw [take_all h3, take_all (l := roundsK) (n := 80) rfl, wrap_succ j (by omega)]
    simp only [Int.toNat_natCast]
    exact ⟨by decide, by omega, by omega, by decide, hn hlt⟩
  · have : j = 80 := by have := of_decide_eq_false hb; omega
    exact hx this
noncomputable abbrev spLT : LTab := [(0, loopF (stC spC spH) 0 [spCf, .auto, .rowB 1 0 8 .u64, .rowB 4 0 8 .u64] spF)]
abbrev stA : Cod (List LV) (List Int × List Int × Unit) := lCons (vRow .u64 8) (lCons (vRow .u64 16) lNil)
noncomputable def stepE : Ent := Ent.ofS [] (stA) (lNil) fun x_ y_ => (fun (s m : List Int) => .leaf (some (s.length = 8 ∧ m.length = 16)) (nRow .u64 8 (stepF s m)) []) x_.1 x_.2.1
theorem step_tree (s m : List Int) : fnT Try.prog spTab spLT Try.f99 ((stA).wr (s, m, ())) ((lNil).wr ()) [.fr [.sym], .rowF 0 0 8 .u64, .auto] =
    End.need (m.length = (16 : Nat))
      (End.need ((0 : Int) = (0 : Int) ∧ roundsK = roundsK ∧ (schedF m).length = (80 : Nat) ∧ s.length = (8 : Nat))
        (End.leaf
          (LV.one
            (VV.agg
              [SV.arr (Ty.int IntKind.u64) (8 : Nat)
                  [IntKind.u64.wrap ((allF (schedF m) s).getD (nat_lit 0) (0 : Int) + s.getD (0 : Nat) (0 : Int)),
                    IntKind.u64.wrap ((allF (schedF m) s).getD (nat_lit 1) (0 : Int) + s.getD (1 : Nat) (0 : Int)),
                    IntKind.u64.wrap ((allF (schedF m) s).getD (nat_lit 2) (0 : Int) + s.getD (2 : Nat) (0 : Int)),
                    IntKind.u64.wrap ((allF (schedF m) s).getD (nat_lit 3) (0 : Int) + s.getD (3 : Nat) (0 : Int)),
                    IntKind.u64.wrap ((allF (schedF m) s).getD (nat_lit 4) (0 : Int) + s.getD (4 : Nat) (0 : Int)),
                    IntKind.u64.wrap ((allF (schedF m) s).getD (nat_lit 5) (0 : Int) + s.getD (5 : Nat) (0 : Int)),
                    IntKind.u64.wrap ((allF (schedF m) s).getD (nat_lit 6) (0 : Int) + s.getD (6 : Nat) (0 : Int)),
                    IntKind.u64.wrap ((allF (schedF m) s).getD (nat_lit 7) (0 : Int) + s.getD (7 : Nat) (0 : Int))]]))
          [])) := by kernel_rfl
theorem step_ok : stepE.Ok Try.prog 99 := by
  refine (Ent.ofOk Try.call99 fun x_ y_ Q H_ => ?_).sym
  obtain ⟨s, m, _⟩ := x_
  obtain ⟨hn, hq⟩ := H_
  have hn : s.length = 8 ∧ m.length = 16 := hn
  refine (fnT_ok mixed spTab_ok Try.func99 rfl (LT := spLT) (ks := [.fr [.sym], .rowF 0 0 8 .u64, .auto]) (LOk.ofTab (LTC rfl (loopF_ok (hp := []) sp_loop) LT0))).use (D := []) ?_ hq
  show (fnT _ _ _ _ ((stA).wr (s, m, ())) ((lNil).wr ()) _).sat _
  rw [step_tree]
  exact ⟨hn.2, ⟨rfl, rfl, sched_length hn.2, hn.1⟩, rfl, rfl⟩
theorem step_length (s m : List Int) : (stepF s m).length = 8 := rfl
end Go.Proofs.Ythdfifcgobfgdaa
end

section
set_option linter.unusedVariables false
set_option linter.unusedSimpArgs false
namespace Go.Proofs.Ythdfifcgobfgdaa
open Go Go.Ev
set_option maxRecDepth 100000
end Go.Proofs.Ythdfifcgobfgdaa
end

section
set_option linter.unusedVariables false
set_option linter.unusedSimpArgs false
namespace Go.Proofs.Ythdfifcgobfgdaa
open Go Go.Ev
set_option maxRecDepth 100000
structure HH where
  begun : Bool
  s : List Int
  n : Int
  wait : List Int
abbrev cHH : Cod (List SV) HH := (lCons sBool (lCons (sArr (.int .u64) 8) (lCons (sInt .i64) (lCons (sArr u8 128) lNil)))).iso (fun x => ⟨x.1, x.2.1, x.2.2.1, x.2.2.2.1⟩) (fun h => (h.begun, h.s, h.n, h.wait, ())) (fun _ => rfl)
abbrev hI (h : HH) : Ev.Item := .blk (cHH.wr h) 127
abbrev hpS : Cod Hp (HH × Unit) := lCons (iBlk 127 cHH) lNil
abbrev hV (h : HH) : LV := .one (.agg (cHH.wr h))
abbrev symH : Wk := .blk 0 [.sym, .keep, .sym, .keep]
def newH : HH := ⟨true, beginK, 0, List.replicate 128 0⟩
noncomputable def new8E : Ent := Ent.ofS [] (lNil) (lNil) fun x_ y_ => .leaf none (.one (.sc (.ptr 0 0))) [(0, hI newH)]
theorem new8_tree  : fnT Try.prog [(85, beginE)] [] Try.f67 ((lNil).wr ()) ((lNil).wr ()) [.rowB 0 1 8 .u64, symH, .auto] =
    End.leaf (LV.one (VV.sc (SV.ptr (0 : Nat) (0 : Nat))))
      [some
          (Item.blk
            [SV.bool (SB.sym true), SV.arr (Ty.int IntKind.u64) (8 : Nat) beginK, SV.int IntKind.i64 (SI.sym (0 : Int)),
              SV.arr (Ty.int IntKind.u8) (128 : Nat) (List.replicate (128 : Nat) (0 : Int))]
            (127 : Nat))] := by kernel_rfl
theorem new8_ok : new8E.Ok Try.prog 67 := by
  refine (Ent.ofOk Try.call67 fun x_ y_ Q H_ => ?_).sym
  have hq := H_.2
  refine (fnT_ok mixed ((tabC begin_ok tab0)) Try.func67 rfl (LT := []) (ks := [.rowB 0 1 8 .u64, symH, .auto]) (LOk.nil _)).use (D := [(0, hI newH)]) ?_ hq
  show (fnT _ _ _ _ ((lNil).wr ()) ((lNil).wr ()) _).sat _
  rw [new8_tree]
  exact ⟨rfl, rfl⟩
noncomputable def ownE : Ent := Ent.ofS [] ((lSkip p0 lNil)) (hpS) fun x_ y_ => (fun (h : HH) => .leaf (some (h.begun = true)) (hV h) [])  y_.1
theorem own_tree (h : HH) : fnT Try.prog [] [] Try.f86 (((lSkip p0 lNil)).wr ()) ((hpS).wr (h, ())) [.auto] =
    End.ite (!h.begun) End.fail
      (End.leaf
        (LV.one
          (VV.agg
            [SV.bool (SB.sym h.begun), SV.arr (Ty.int IntKind.u64) (8 : Nat) h.s, SV.int IntKind.i64 (SI.sym h.n),
              SV.arr (Ty.int IntKind.u8) (128 : Nat) h.wait]))
        [some
            (Item.blk
              [SV.bool (SB.sym h.begun), SV.arr (Ty.int IntKind.u64) (8 : Nat) h.s, SV.int IntKind.i64 (SI.sym h.n),
                SV.arr (Ty.int IntKind.u8) (128 : Nat) h.wait]
              (127 : Nat))]) := by kernel_rfl
theorem own_ok : ownE.Ok Try.prog 86 := by
  refine (Ent.ofOk Try.call86 fun x_ y_ Q H_ => ?_).sym
  obtain ⟨h, _⟩ := y_
  obtain ⟨hn, hq⟩ := H_
  have hn : h.begun = true := hn
  refine (fnT_ok mixed tab0 Try.func86 rfl (LT := []) (ks := [.auto]) (LOk.nil _)).use (D := []) ?_ hq
  show (fnT _ _ _ _ (((lSkip p0 lNil)).wr ()) ((hpS).wr (h, ())) _).sat _
  rw [own_tree]
  exact ⟨fun e => (by rw [hn] at e; cases e), fun _ => ⟨rfl, rfl⟩⟩
/-- a byte more -/
def hByte (h : HH) (c : Int) : HH := if (h.n + 1) % 128 = 0 then ⟨h.begun, stepF h.s (wordsF (h.wait.set (h.n % 128).toNat c)), h.n + 1, h.wait.set (h.n % 128).toNat c⟩ else ⟨h.begun, h.s, h.n + 1, h.wait.set (h.n % 128).toNat c⟩
def hPut (h : HH) (b : List Int) : HH := b.foldl hByte h
structure HOk (h : HH) : Prop where
  begun : h.begun = true
  n : 0 ≤ h.n
  s : h.s.length = 8
  wait : h.wait.length = 128
theorem hByte_n (h : HH) (c : Int) : (hByte h c).n = h.n + 1 := by unfold hByte; split <;> rfl
theorem hByte_ok {h : HH} (hh : HOk h) (c : Int) : HOk (hByte h c) := by
  obtain ⟨h1, h2, h3, h4⟩ := hh
  unfold hByte
  split
  · exact ⟨h1, by simp only; omega, step_length _ _, by simp [h4]⟩
  · exact ⟨h1, by simp only; omega, h3, by simp [h4]⟩
theorem hPut_n : ∀ (b : List Int) (h : HH), (hPut h b).n = h.n + b.length
  | [], h => by simp [hPut]
  | c :: b, h => by
    show (hPut (hByte h c) b).n = _
    rw [hPut_n b, hByte_n, List.length_cons]; omega
theorem hPut_ok : ∀ (b : List Int) {h : HH}, HOk h → HOk (hPut h b)
  | [], _, hh => hh
  | c :: b, _, hh => hPut_ok b (hByte_ok hh c)
theorem hPut_append (h : HH) (a b : List Int) : hPut h (a ++ b) = hPut (hPut h a) b := by simp [hPut]
theorem upto_foldl {σ : Type} (g : σ → Int → σ) (b : List Int) : ∀ (m k : Nat) (s : σ), k + m = b.length → upto (fun k s => g s (b.getD k 0)) k m s = (b.drop k).foldl g s
  | 0, k, s, h => by rw [List.drop_eq_nil_of_le (by omega)]; rfl
  | m + 1, k, s, h => by
    rw [drop_getD (show k < b.length by omega)]
    exact upto_foldl g b m (k + 1) _ (by omega)
noncomputable abbrev puFn : Func := Try.f87
abbrev puC : Cod (List LV) (List Int × Int × Int × Unit) := (lSkip (vOne (sPtr 0 0)) (jk 7 (lCons (vOne (sRd false false u8)) (lCons (vOne (sInt .i64)) (lCons (vOne (sInt .i64)) (jk 44 lNil))))))
abbrev puCf : Wk := .fr (fmS 55 [(0, .keep), (8, .keep), (9, .sym), (10, .sym)])
abbrev puX : Cod (List LV) (Unit) := (jk 55 lNil)
abbrev puXf : Wk := .fr (fmS 55 [])
noncomputable abbrev puTab : List (FuncId × Ent) := [(98, wordsE), (99, stepE)]
def puW : Exit → List Wk
  | .normal => [puCf, symH, .auto]
  | .exit 0 => [puXf, symH, .auto]
  | _ => []
theorem pu_rnd (h0 h : HH) (b : List Int) (n i : Int) : rndT Try.prog puTab [] puFn 0 (hpS.wr (h0, ())) puW ((stC puC hpS).wr ((b, n, i, ()), (h, ()))) =
    Res.ite (decide (i < n))
      (Res.need ((0 : Int) ≤ i ∧ i < (↑b.length : Int))
        (Res.need ((0 : Int) ≤ h.n.tmod (128 : Int) ∧ h.n.tmod (128 : Int) < (128 : Int))
          (Res.ite ((IntKind.i64.wrap (h.n + (1 : Int))).tmod (128 : Int) == (0 : Int))
            (Res.need ((0 : Int) ≤ (0 : Int) ∧ (0 : Int) ≤ (128 : Int) ∧ (128 : Int) ≤ (128 : Int))
              (Res.need
                ((List.take (128 : Nat)
                      (List.drop (0 : Nat)
                        (h.wait.set ((0 : Nat) + (h.n.tmod (128 : Int)).toNat) (b.getD i.toNat (0 : Int))))).length =
                  (128 : Nat))
                (Res.need (h.s.length = (8 : Nat) ∧ (16 : Nat) = (16 : Nat))
                  (Res.leaf Exit.normal
                    ((stC puC hpS).wr
                      ((b, n, IntKind.i64.wrap (i + (1 : Int)), PUnit.unit),
                        { begun := h.begun,
                          s :=
                            stepF h.s
                              (wordsF
                                (List.take (128 : Nat)
                                  (List.drop (0 : Nat)
                                    (h.wait.set ((0 : Nat) + (h.n.tmod (128 : Int)).toNat) (b.getD i.toNat (0 : Int)))))),
                          n := IntKind.i64.wrap (h.n + (1 : Int)),
                          wait := h.wait.set ((0 : Nat) + (h.n.tmod (128 : Int)).toNat) (b.getD i.toNat (0 : Int)) },
                        PUnit.unit))))))
            (Res.leaf Exit.normal
              ((stC puC hpS).wr
                ((b, n, IntKind.i64.wrap (i + (1 : Int)), PUnit.unit),
                  { begun := h.begun, s := h.s, n := IntKind.i64.wrap (h.n + (1 : Int)),
                    wait := h.wait.set ((0 : Nat) + (h.n.tmod (128 : Int)).toNat) (b.getD i.toNat (0 : Int)) },
                  PUnit.unit))))))
      (Res.leaf (Exit.exit (0 : Nat)) ((stC puX hpS).wr (PUnit.unit, h, PUnit.unit))) := by kernel_rfl
theorem puTab_ok : ∀ p ∈ puTab, p.2.Ok Try.prog p.1 := tabC words_ok (tabC step_ok tab0)
noncomputable def puF (x : (List Int × Int × Int × Unit) × HH × Unit) : Res :=
  .need (HOk x.2.1 ∧ x.1.2.1 = x.1.1.length ∧ x.1.2.2.1 = 0 ∧ x.2.1.n + x.1.1.length < 2305843009213693952) (.leaf (.exit 0) ((stC puX hpS).wr ((), (hPut x.2.1 x.1.1, ()))))
theorem pu_loop (h0 : HH) (x) : Ex Try.prog (hpS.wr (h0, ())) (.loop (loopAt puFn 0)) ((stC puC hpS).wr x) (puF x) := by
  obtain ⟨⟨b, n, i, _⟩, h, _⟩ := x
  refine Ex.need fun ⟨h1, h2, h3, h4⟩ => ?_
  simp only at h1 h2 h3 h4
  subst h2 h3
  have hb62 : (b.length : Int) < 2305843009213693952 := by have := h1.n; omega
  have key := loopUp (fn := puFn) (id := 0) (j := 0) (ws := puW) (hp := hpS.wr (h0, ())) mixed puTab_ok (LOk.nil _) b.length (fun k h => (stC puC hpS).wr ((b, (b.length : Int), (k : Int), ()), (h, ()))) (fun h => (stC puX hpS).wr ((), (h, ()))) (fun k h => hByte h (b.getD k 0)) (fun k h => HOk h ∧ h.n + (b.length - k : Nat) < 2305843009213693952)
    (fun k h R hk hm hn hx => ?_) (fun k h _ hh => ⟨hByte_ok hh.1 _, by rw [hByte_n]; have := hh.2; omega⟩) 0 h (by omega) ⟨h1, by simpa using h4⟩
  · rw [Nat.sub_zero, upto_foldl hByte b _ _ _ (by omega)] at key; exact key
  obtain ⟨hh, hlt⟩ := hm
  obtain ⟨g1, g2, g3, g4⟩ := hh
  rw [pu_rnd]
  refine ⟨fun hb => ?_, fun hb => ?_⟩
  · have hk' : k < b.length := by have := of_decide_eq_true hb; omega
    have e1 : IntKind.i64.wrap (h.n + 1) = h.n + 1 := wrap_ok (by omega) (by omega)
    have e2 : h.n.tmod 128 = h.n % 128 := Int.tmod_eq_emod_of_nonneg g2
    have e3 : (h.n + 1).tmod 128 = (h.n + 1) % 128 := Int.tmod_eq_emod_of_nonneg (by omega)
    have e4 : ∀ c, List.take 128 (List.drop 0 (h.wait.set (h.n % 128).toNat c)) = h.wait.set (h.n % 128).toNat c := fun c => take_all (by simp [g4])
    rw [e1, e2, e3, wrap_succ k (by omega)]
    simp only [Int.toNat_natCast, Nat.zero_add]
    rw [e4]
    have hn' := hn hk'
    refine ⟨⟨by omega, by omega⟩, by omega, fun hz => ?_, fun hz => ?_⟩
    · have hz' : (h.n + 1) % 128 = 0 := by simpa using hz
      rw [hByte, if_pos hz'] at hn'
      exact ⟨by omega, by simp [g4], ⟨g3, trivial⟩, hn'⟩
    · have hz' : ¬ (h.n + 1) % 128 = 0 := by simpa using hz
      rw [hByte, if_neg hz'] at hn'
      exact hn'
  · have : k = b.length := by have := of_decide_eq_false hb; omega
    exact hx this
noncomputable abbrev puLT : LTab := [(0, loopF (stC puC hpS) 1 [puCf, symH, .auto] puF)]
abbrev hbA : Cod (List LV) (List Int × Unit) := lSkip p0 (lCons (vOne (sRd false false u8)) lNil)
noncomputable def hputE : Ent := Ent.ofS [none, some u8] (hbA) (hpS) fun x_ y_ => (fun (b : List Int) (h : HH) => .leaf (some (HOk h ∧ h.n + b.length < 2305843009213693952)) (.tup []) [(0, hI (hPut h b))]) x_.1 y_.1
theorem hput_tree (b : List Int) (h : HH) : fnT Try.prog puTab puLT Try.f87 ((hbA).wr (b, ())) ((hpS).wr (h, ())) [symH, .auto] =
    End.need
      (HOk h ∧
        (↑b.length : Int) = (↑b.length : Int) ∧
          (0 : Int) = (0 : Int) ∧ h.n + (↑b.length : Int) < (2305843009213693952 : Int))
      (End.leaf (LV.tup [])
        [some
            (Item.blk
              [SV.bool (SB.sym (hPut h b).begun), SV.arr (Ty.int IntKind.u64) (8 : Nat) (hPut h b).s,
                SV.int IntKind.i64 (SI.sym (hPut h b).n), SV.arr (Ty.int IntKind.u8) (128 : Nat) (hPut h b).wait]
              (127 : Nat))]) := by kernel_rfl
theorem hput_ok : hputE.Ok Try.prog 87 := by
  refine (Ent.ofOk Try.call87 fun x_ y_ Q H_ => ?_).sym
  obtain ⟨b, _⟩ := x_
  obtain ⟨h, _⟩ := y_
  obtain ⟨hn, hq⟩ := H_
  have hn : HOk h ∧ h.n + b.length < 2305843009213693952 := hn
  refine (fnT_ok mixed puTab_ok Try.func87 rfl (LT := puLT) (ks := [symH, .auto]) (LOk.ofTab (LTC rfl (loopF_ok (hp := hpS.wr (h, ())) (pu_loop h)) LT0))).use (D := [(0, hI (hPut h b))]) ?_ hq
  show (fnT _ _ _ _ ((hbA).wr (b, ())) ((hpS).wr (h, ())) _).sat _
  rw [hput_tree]
  exact ⟨⟨hn.1, rfl, rfl, hn.2⟩, rfl, rfl⟩
noncomputable def writeE : Ent := Ent.ofS [none, some u8] (hbA) (hpS) fun x_ y_ => (fun (b : List Int) (h : HH) => .leaf (some (HOk h ∧ h.n + b.length < 2305843009213693952)) (.tup []) [(0, hI (hPut h b))]) x_.1 y_.1
theorem write_tree (b : List Int) (h : HH) : fnT Try.prog [(86, ownE), (87, hputE)] [] Try.f68 ((hbA).wr (b, ())) ((hpS).wr (h, ())) [symH, .auto] =
    End.need (h.begun = true)
      (End.need (HOk h ∧ h.n + (↑b.length : Int) < (2305843009213693952 : Int))
        (End.leaf (LV.tup [])
          [some
              (Item.blk
                [SV.bool (SB.sym (hPut h b).begun), SV.arr (Ty.int IntKind.u64) (8 : Nat) (hPut h b).s,
                  SV.int IntKind.i64 (SI.sym (hPut h b).n), SV.arr (Ty.int IntKind.u8) (128 : Nat) (hPut h b).wait]
                (127 : Nat))])) := by kernel_rfl
theorem write_ok : writeE.Ok Try.prog 68 := by
  refine (Ent.ofOk Try.call68 fun x_ y_ Q H_ => ?_).sym
  obtain ⟨b, _⟩ := x_
  obtain ⟨h, _⟩ := y_
  obtain ⟨hn, hq⟩ := H_
  have hn : HOk h ∧ h.n + b.length < 2305843009213693952 := hn
  refine (fnT_ok mixed ((tabC own_ok (tabC hput_ok tab0))) Try.func68 rfl (LT := []) (ks := [symH, .auto]) (LOk.nil _)).use (D := [(0, hI (hPut h b))]) ?_ hq
  show (fnT _ _ _ _ ((hbA).wr (b, ())) ((hpS).wr (h, ())) _).sat _
  rw [write_tree]
  exact ⟨hn.1.begun, hn, rfl, rfl⟩
def eightF (x : Int) : List Int := (List.range 8).map fun i => IntKind.u8.wrap (shr .u64 x ((56 - 8 * i : Nat) : Int))
noncomputable def eightE : Ent := Ent.ofS [] ((lCons (vOne (sInt .u64)) lNil)) (lNil) fun x_ y_ => (fun (x : Int) => .leaf none (.one (.sc (.sl 0 0))) [(0, .own 0 u8 (eightF x))]) x_.1
theorem eight_tree (x : Int) : fnT Try.prog [] [] Try.f88 (((lCons (vOne (sInt .u64)) lNil)).wr (x, ())) ((lNil).wr ()) [.auto, .vers] =
    End.need ((1 : Nat) ≤ (70368744177664 : Nat) ∧ (1 : Nat) ≤ (70368744177664 : Nat))
      (End.need ((2 : Nat) ≤ (70368744177664 : Nat) ∧ (2 : Nat) ≤ (70368744177664 : Nat))
        (End.need ((3 : Nat) ≤ (70368744177664 : Nat) ∧ (3 : Nat) ≤ (70368744177664 : Nat))
          (End.need ((4 : Nat) ≤ (70368744177664 : Nat) ∧ (4 : Nat) ≤ (70368744177664 : Nat))
            (End.need ((5 : Nat) ≤ (70368744177664 : Nat) ∧ (5 : Nat) ≤ (70368744177664 : Nat))
              (End.need ((6 : Nat) ≤ (70368744177664 : Nat) ∧ (6 : Nat) ≤ (70368744177664 : Nat))
                (End.need ((7 : Nat) ≤ (70368744177664 : Nat) ∧ (7 : Nat) ≤ (70368744177664 : Nat))
                  (End.need ((8 : Nat) ≤ (70368744177664 : Nat) ∧ (8 : Nat) ≤ (70368744177664 : Nat))
                    (End.leaf (LV.one (VV.sc (SV.sl (0 : Nat) (0 : Nat))))
                      [some
                          (Item.own (0 : Nat) (Ty.int IntKind.u8)
                            ([IntKind.u8.wrap (shr IntKind.u64 x (56 : Int))] ++
                                          [IntKind.u8.wrap (shr IntKind.u64 x (48 : Int))] ++
                                        [IntKind.u8.wrap (shr IntKind.u64 x (40 : Int))] ++
                                      [IntKind.u8.wrap (shr IntKind.u64 x (32 : Int))] ++
                                    [IntKind.u8.wrap (shr IntKind.u64 x (24 : Int))] ++
                                  [IntKind.u8.wrap (shr IntKind.u64 x (16 : Int))] ++
                                [IntKind.u8.wrap (shr IntKind.u64 x (8 : Int))] ++
                              [IntKind.u8.wrap (shr IntKind.u64 x (0 : Int))]))])))))))) := by kernel_rfl
theorem eight_ok : eightE.Ok Try.prog 88 := by
  refine (Ent.ofOk Try.call88 fun x_ y_ Q H_ => ?_).sym
  obtain ⟨x, _⟩ := x_
  have hq := H_.2
  refine (fnT_ok mixed tab0 Try.func88 rfl (LT := []) (ks := [.auto, .vers]) (LOk.nil _)).use (D := [(0, .own 0 u8 (eightF x))]) ?_ hq
  show (fnT _ _ _ _ (((lCons (vOne (sInt .u64)) lNil)).wr (x, ())) ((lNil).wr ()) _).sat _
  rw [eight_tree]
  exact ⟨by omega, by omega, by omega, by omega, by omega, by omega, by omega, by omega, rfl, rfl⟩
def numbersF (s : List Int) : List Int := (List.range 8).foldl (fun a i => a ++ eightF (s.getD i 0)) []
noncomputable def numbersE : Ent := Ent.ofS [] ((lSkip p0 lNil)) (hpS) fun x_ y_ => (fun (h : HH) => .leaf none (.one (.sc (.sl 1 0))) [(1, .own 0 u8 (numbersF h.s))])  y_.1
theorem numbers_tree (h : HH) : fnT Try.prog [(88, eightE)] [] Try.f89 (((lSkip p0 lNil)).wr ()) ((hpS).wr (h, ())) [.auto, .vers] =
    End.need ((8 : Nat) ≤ (70368744177664 : Nat) ∧ (8 : Nat) ≤ (70368744177664 : Nat))
      (End.need ((16 : Nat) ≤ (70368744177664 : Nat) ∧ (16 : Nat) ≤ (70368744177664 : Nat))
        (End.need ((24 : Nat) ≤ (70368744177664 : Nat) ∧ (24 : Nat) ≤ (70368744177664 : Nat))
          (End.need ((32 : Nat) ≤ (70368744177664 : Nat) ∧ (32 : Nat) ≤ (70368744177664 : Nat))
            (End.need ((40 : Nat) ≤ (70368744177664 : Nat) ∧ (40 : Nat) ≤ (70368744177664 : Nat))
              (End.need ((48 : Nat) ≤ (70368744177664 : Nat) ∧ (48 : Nat) ≤ (70368744177664 : Nat))
                (End.need ((56 : Nat) ≤ (70368744177664 : Nat) ∧ (56 : Nat) ≤ (70368744177664 : Nat))
                  (End.need ((64 : Nat) ≤ (70368744177664 : Nat) ∧ (64 : Nat) ≤ (70368744177664 : Nat))
                    (End.leaf (LV.one (VV.sc (SV.sl (1 : Nat) (0 : Nat))))
                      [some
                          (Item.blk
                            [SV.bool (SB.sym h.begun), SV.arr (Ty.int IntKind.u64) (8 : Nat) h.s,
                              SV.int IntKind.i64 (SI.sym h.n), SV.arr (Ty.int IntKind.u8) (128 : Nat) h.wait]
                            (127 : Nat)),
                        some
                          (Item.own (0 : Nat) (Ty.int IntKind.u8)
                            (eightF (h.s.getD (0 : Nat) (0 : Int)) ++ eightF (h.s.getD (1 : Nat) (0 : Int)) ++
                                        eightF (h.s.getD (2 : Nat) (0 : Int)) ++
                                      eightF (h.s.getD (3 : Nat) (0 : Int)) ++
                                    eightF (h.s.getD (4 : Nat) (0 : Int)) ++
                                  eightF (h.s.getD (5 : Nat) (0 : Int)) ++
                                eightF (h.s.getD (6 : Nat) (0 : Int)) ++
                              eightF (h.s.getD (7 : Nat) (0 : Int))))])))))))) := by kernel_rfl
theorem numbers_ok : numbersE.Ok Try.prog 89 := by
  refine (Ent.ofOk Try.call89 fun x_ y_ Q H_ => ?_).sym
  obtain ⟨h, _⟩ := y_
  have hq := H_.2
  refine (fnT_ok mixed ((tabC eight_ok tab0)) Try.func89 rfl (LT := []) (ks := [.auto, .vers]) (LOk.nil _)).use (D := [(1, .own 0 u8 (numbersF h.s))]) ?_ hq
  show (fnT _ _ _ _ (((lSkip p0 lNil)).wr ()) ((hpS).wr (h, ())) _).sat _
  rw [numbers_tree]
  exact ⟨by omega, by omega, by omega, by omega, by omega, by omega, by omega, by omega, rfl, rfl⟩
end Go.Proofs.Ythdfifcgobfgdaa
end

section
set_option linter.unusedVariables false
set_option linter.unusedSimpArgs false
namespace Go.Proofs.Ythdfifcgobfgdaa
open Go Go.Ev
set_option maxRecDepth 100000
noncomputable abbrev suFn : Func := Try.f69
noncomputable abbrev suTab : List (FuncId × Ent) := [(86, ownE), (87, hputE), (88, eightE), (89, numbersE)]
theorem suTab_ok : ∀ p ∈ suTab, p.2.Ok Try.prog p.1 := tabC own_ok (tabC hput_ok (tabC eight_ok (tabC numbers_ok tab0)))
abbrev hpS3 : Cod Hp (HH × List Int × HH × Unit) := lCons (iBlk 127 cHH) (lCons (iRow 46 .u8 64) (lCons (iBlk 127 cHH) lNil))
abbrev symH2 : Wk := .blk 2 [.sym, .keep, .sym, .keep]
abbrev suC : Cod (List LV) (Int × Unit) := (jk 2 (lSkip (vOne (sPtr 1 0)) (lSkip (vOne (sPtr 2 0)) (lCons (vOne (sInt .u64)) (jk 24 lNil)))))
abbrev suCf : Wk := .fr (fmS 29 [(2, .keep), (3, .keep), (4, .sym)])
def suW : Exit → List Wk
  | .normal => [suCf, symH2, .auto]
  | .exit 0 => [suCf, symH2, .auto]
  | _ => []
theorem su_rnd (h0 : HH) (g : HH) (r : List Int) (h : HH) (n : Int) : rndT Try.prog suTab [] suFn 0 (hpS.wr (h0, ())) suW ((stC suC hpS3).wr ((n, ()), (g, r, h, ()))) =
    Res.ite (h.n.tmod (128 : Int) != (112 : Int))
      (Res.need (HOk h ∧ h.n + (1 : Int) < (2305843009213693952 : Int))
        (Res.leaf Exit.normal ((stC suC hpS3).wr ((n, PUnit.unit), g, r, hPut h [(0 : Int)], PUnit.unit))))
      (Res.leaf (Exit.exit (0 : Nat)) ((stC suC hpS3).wr ((n, PUnit.unit), g, r, h, PUnit.unit))) := by kernel_rfl
/-- noughts, as many as are lacking -/
def padH (h : HH) : HH := hPut h (List.replicate ((112 - h.n) % 128).toNat 0)
theorem padH_step {h : HH} (hz : ¬ h.n % 128 = 112) : padH (hPut h [0]) = padH h ∧ ((112 - (hPut h [0]).n) % 128).toNat < ((112 - h.n) % 128).toNat := by
  have e1 : (hPut h [0]).n = h.n + 1 := by rw [hPut_n]; rfl
  have e2 : ((112 - h.n) % 128).toNat = ((112 - (hPut h [0]).n) % 128).toNat + 1 := by rw [e1]; omega
  refine ⟨?_, by omega⟩
  unfold padH
  rw [e2, List.replicate_succ]
  rfl
theorem padH_end {h : HH} (hz : h.n % 128 = 112) : padH h = h := by
  have e : ((112 - h.n) % 128).toNat = 0 := by omega
  unfold padH; rw [e]; rfl
noncomputable def suF (x : (Int × Unit) × HH × List Int × HH × Unit) : Res :=
  .need (HOk x.2.2.2.1 ∧ x.2.2.2.1.n + 128 < 2305843009213693952) (.leaf (.exit 0) ((stC suC hpS3).wr (x.1, (x.2.1, x.2.2.1, padH x.2.2.2.1, ()))))
theorem su_loop (h0 : HH) (x) : Ex Try.prog (hpS.wr (h0, ())) (.loop (loopAt suFn 0)) ((stC suC hpS3).wr x) (suF x) := by
  obtain ⟨⟨n, _⟩, g, r, h, _⟩ := x
  refine Ex.need fun ⟨h1, h2⟩ => ?_
  simp only at h1 h2
  refine loopR mixed suTab_ok (LT := []) (ws := suW) (hp := hpS.wr (h0, ())) (LOk.nil _) (fun h : HH => ((112 - h.n) % 128).toNat) (fun h : HH => (stC suC hpS3).wr ((n, ()), (g, r, h, ()))) (fun h => HOk h ∧ h.n + (112 - h.n) % 128 < 2305843009213693952)
    (fun h => .leaf (.exit 0) ((stC suC hpS3).wr ((n, ()), (g, r, padH h, ())))) (fun h _ => su_rnd h0 g r h n) (fun h R hh hs => ?_) h ⟨h1, by omega⟩
  obtain ⟨hh, hlt⟩ := hh
  have e : h.n.tmod 128 = h.n % 128 := Int.tmod_eq_emod_of_nonneg hh.n
  rw [e]
  refine ⟨fun hb => ?_, fun hb => ?_⟩
  · have hb' : ¬ h.n % 128 = 112 := by simpa using hb
    obtain ⟨k1, k2⟩ := padH_step hb'
    have e1 : (hPut h [0]).n = h.n + 1 := by rw [hPut_n]; rfl
    refine ⟨⟨hh, by omega⟩, .inl ⟨rfl, hPut h [0], rfl, ⟨hPut_ok _ hh, by rw [e1]; omega⟩, k2, ?_⟩⟩
    show (Res.leaf (.exit 0) ((stC suC hpS3).wr ((n, ()), (g, r, padH (hPut h [0]), ())))).sat R
    rw [k1]; exact hs
  · have hb' : h.n % 128 = 112 := by simpa using hb
    rw [padH_end hb'] at hs
    exact .inr ⟨by simp, hs⟩
noncomputable abbrev suLT : LTab := [(0, loopF (stC suC hpS3) 1 [suCf, symH2, .auto] suF)]
def lastF (h : HH) (n : Int) : HH := hPut (hPut (padH (hPut h [128])) (eightF (shr .u64 n 61))) (eightF (shl .u64 n 3))
def sumF (h : HH) : List Int := numbersF (lastF h (IntKind.u64.wrap h.n)).s
theorem eight_length (x : Int) : (eightF x).length = 8 := rfl
theorem numbers_length (s : List Int) : (numbersF s).length = 64 := rfl
noncomputable def sumE : Ent := Ent.ofS [] ((lSkip p0 lNil)) (hpS) fun x_ y_ => (fun (h : HH) => .leaf (some (HOk h ∧ h.n < 1152921504606846976)) (nRow .u8 64 (sumF h)) [])  y_.1
theorem sum_tree (h : HH) : fnT Try.prog suTab suLT Try.f69 (((lSkip p0 lNil)).wr ()) ((hpS).wr (h, ())) [.fr [.sym], symH, .auto] =
    End.need (h.begun = true)
      (End.need (HOk h ∧ h.n + (1 : Int) < (2305843009213693952 : Int))
        (End.need (HOk (hPut h [(128 : Int)]) ∧ (hPut h [(128 : Int)]).n + (128 : Int) < (2305843009213693952 : Int))
          (End.need
            (HOk (padH (hPut h [(128 : Int)])) ∧ (padH (hPut h [(128 : Int)])).n + (8 : Int) < (2305843009213693952 : Int))
            (End.need
              (HOk (hPut (padH (hPut h [(128 : Int)])) (eightF (shr IntKind.u64 (IntKind.u64.wrap h.n) (61 : Int)))) ∧
                (hPut (padH (hPut h [(128 : Int)])) (eightF (shr IntKind.u64 (IntKind.u64.wrap h.n) (61 : Int)))).n +
                    (8 : Int) <
                  (2305843009213693952 : Int))
              (End.need ((64 : Nat) ≤ (64 : Nat))
                (End.need ((64 : Nat) ≤ (64 : Nat))
                  (End.leaf
                    (LV.one
                      (VV.agg
                        [SV.arr (Ty.int IntKind.u8) (64 : Nat)
                            (List.take (64 : Nat)
                              (List.drop (0 : Nat)
                                (numbersF
                                  (hPut
                                      (hPut (padH (hPut h [(128 : Int)]))
                                        (eightF (shr IntKind.u64 (IntKind.u64.wrap h.n) (61 : Int))))
                                      (eightF (shl IntKind.u64 (IntKind.u64.wrap h.n) (3 : Int)))).s)))]))
                    [some
                        (Item.blk
                          [SV.bool (SB.sym h.begun), SV.arr (Ty.int IntKind.u64) (8 : Nat) h.s,
                            SV.int IntKind.i64 (SI.sym h.n), SV.arr (Ty.int IntKind.u8) (128 : Nat) h.wait]
                          (127 : Nat))]))))))) := by kernel_rfl
theorem sum_ok : sumE.Ok Try.prog 69 := by
  refine (Ent.ofOk Try.call69 fun x_ y_ Q H_ => ?_).sym
  obtain ⟨h, _⟩ := y_
  obtain ⟨hn, hq⟩ := H_
  have hn : HOk h ∧ h.n < 1152921504606846976 := hn
  refine (fnT_ok mixed suTab_ok Try.func69 rfl (LT := suLT) (ks := [.fr [.sym], symH, .auto]) (LOk.ofTab (LTC rfl (loopF_ok (hp := hpS.wr (h, ())) (su_loop h)) LT0))).use (D := []) ?_ hq
  show (fnT _ _ _ _ (((lSkip p0 lNil)).wr ()) ((hpS).wr (h, ())) _).sat _
  rw [sum_tree]
  obtain ⟨g1, g2⟩ := hn
  have g3 := g1.n
  have e1 : (hPut h [128]).n = h.n + 1 := by rw [hPut_n]; rfl
  have k1 : HOk (hPut h [128]) := hPut_ok _ g1
  have k2 : HOk (padH (hPut h [128])) := hPut_ok _ k1
  have e2 : (padH (hPut h [128])).n ≤ h.n + 128 := by unfold padH; rw [hPut_n, e1, List.length_replicate]; omega
  have k3 : HOk (hPut (padH (hPut h [128])) (eightF (shr .u64 (IntKind.u64.wrap h.n) 61))) := hPut_ok _ k2
  have e3 : (hPut (padH (hPut h [128])) (eightF (shr .u64 (IntKind.u64.wrap h.n) 61))).n ≤ h.n + 136 := by rw [hPut_n, eight_length]; omega
  have e4 : ∀ s, List.take 64 (List.drop 0 (numbersF s)) = numbersF s := fun s => take_all (numbers_length s)
  rw [e4]
  exact ⟨g1.begun, ⟨g1, by omega⟩, ⟨k1, by omega⟩, ⟨k2, by omega⟩, ⟨k3, by omega⟩, by omega, by omega, rfl, rfl⟩
noncomputable abbrev ofFn : Func := Try.f30
noncomputable abbrev ofTab : List (FuncId × Ent) := [(67, new8E), (68, writeE), (69, sumE)]
abbrev rrA : Cod (List LV) (List (List Int) × Unit) := lCons (vOne (sRd false false (.sl u8))) lNil
abbrev ofC : Cod (List LV) (List (List Int) × Int × Int × Unit) := (jk 2 (lSkip (vOne (sPtr 0 0)) (lSkip (vOne (sPtr 1 0)) (jk 3 (lCons (vOne (sRd false false (.sl u8))) (lCons (vOne (sInt .i64)) (lCons (vOne (sInt .i64)) (jk 9 lNil))))))))
abbrev ofCf : Wk := .fr (fmS 19 [(2, .keep), (3, .keep), (7, .keep), (8, .sym), (9, .sym)])
abbrev ofX : Cod (List LV) (Unit) := (jk 2 (lSkip (vOne (sPtr 0 0)) (lSkip (vOne (sPtr 1 0)) (jk 15 lNil))))
abbrev ofXf : Wk := .fr (fmS 19 [(2, .keep), (3, .keep)])
abbrev hpOf : Cod Hp (List Int × HH × Unit) := lCons (iRow 46 .u8 64) (lCons (iBlk 127 cHH) lNil)
abbrev symH1 : Wk := .blk 1 [.sym, .keep, .sym, .keep]
def ofW : Exit → List Wk
  | .normal => [ofCf, symH1, .auto]
  | .exit 0 => [ofXf, symH1, .auto]
  | _ => []
theorem of_rnd (l : List (List Int)) (n i : Int) (r : List Int) (h : HH) : rndT Try.prog ofTab [] ofFn 0 [] ofW ((stC ofC hpOf).wr ((l, n, i, ()), (r, h, ()))) =
    Res.ite (decide (i < n))
      (Res.need ((0 : Int) ≤ i ∧ i < (↑l.length : Int))
        (Res.need (HOk h ∧ h.n + (↑(List.length (l.getD i.toNat [])) : Int) < (2305843009213693952 : Int))
          (Res.leaf Exit.normal
            ((stC ofC hpOf).wr
              ((l, n, IntKind.i64.wrap (i + (1 : Int)), PUnit.unit), r, hPut h (l.getD i.toNat []), PUnit.unit)))))
      (Res.leaf (Exit.exit (0 : Nat)) ((stC ofX hpOf).wr (PUnit.unit, r, h, PUnit.unit))) := by kernel_rfl
theorem ofTab_ok : ∀ p ∈ ofTab, p.2.Ok Try.prog p.1 := tabC new8_ok (tabC write_ok (tabC sum_ok tab0))
theorem upto_rows {σ : Type} (g : σ → List Int → σ) (b : List (List Int)) : ∀ (m k : Nat) (s : σ), k + m = b.length → upto (fun k s => g s (b.getD k [])) k m s = (b.drop k).foldl g s
  | 0, k, s, h => by rw [List.drop_eq_nil_of_le (by omega)]; rfl
  | m + 1, k, s, h => by
    have e : b.drop k = b.getD k [] :: b.drop (k + 1) := by
      rw [List.drop_eq_getElem_cons (by omega : k < b.length), List.getD_eq_getElem?_getD, List.getElem?_eq_getElem (by omega : k < b.length)]; rfl
    rw [e]
    exact upto_rows g b m (k + 1) _ (by omega)
theorem hPut_rows : ∀ (l : List (List Int)) (h : HH), l.foldl hPut h = hPut h l.flatten
  | [], h => rfl
  | b :: l, h => by rw [List.foldl_cons, hPut_rows l, List.flatten_cons, hPut_append]
noncomputable def ofLF (x : (List (List Int) × Int × Int × Unit) × List Int × HH × Unit) : Res :=
  .need (HOk x.2.2.1 ∧ x.1.2.1 = x.1.1.length ∧ x.1.2.2.1 = 0 ∧ x.1.1.length < 2305843009213693952 ∧ x.2.2.1.n + x.1.1.flatten.length < 2305843009213693952) (.leaf (.exit 0) ((stC ofX hpOf).wr ((), (x.2.1, hPut x.2.2.1 x.1.1.flatten, ()))))
theorem of_loop (x) : Ex Try.prog [] (.loop (loopAt ofFn 0)) ((stC ofC hpOf).wr x) (ofLF x) := by
  obtain ⟨⟨l, n, i, _⟩, r, h, _⟩ := x
  refine Ex.need fun ⟨h1, h2, h3, h4, h5⟩ => ?_
  simp only at h1 h2 h3 h4 h5
  subst h2 h3
  have key := loopUp (fn := ofFn) (id := 0) (j := 0) (ws := ofW) (hp := []) mixed ofTab_ok (LOk.nil _) l.length (fun k h => (stC ofC hpOf).wr ((l, (l.length : Int), (k : Int), ()), (r, h, ()))) (fun h => (stC ofX hpOf).wr ((), (r, h, ()))) (fun k h => hPut h (l.getD k [])) (fun k h => HOk h ∧ h.n + (l.drop k).flatten.length < 2305843009213693952)
    (fun k h R hk hm hn hx => ?_) (fun k h hk hh => ⟨hPut_ok _ hh.1, ?_⟩) 0 h (by omega) ⟨h1, h5⟩
  · rw [Nat.sub_zero, upto_rows hPut l _ _ _ (by omega), hPut_rows] at key; exact key
  · obtain ⟨hh, hlt⟩ := hm
    rw [of_rnd]
    refine ⟨fun hb => ?_, fun hb => ?_⟩
    · have hk' : k < l.length := by have := of_decide_eq_true hb; omega
      have e : l.drop k = l.getD k [] :: l.drop (k + 1) := by
        rw [List.drop_eq_getElem_cons hk', List.getD_eq_getElem?_getD, List.getElem?_eq_getElem hk']; rfl
      rw [e, List.flatten_cons, List.length_append] at hlt
      rw [wrap_succ k (by omega)]
      simp only [Int.toNat_natCast]
      exact ⟨by omega, ⟨hh, by omega⟩, hn hk'⟩
    · have : k = l.length := by have := of_decide_eq_false hb; omega
      exact hx this
  · have e : l.drop k = l.getD k [] :: l.drop (k + 1) := by
      rw [List.drop_eq_getElem_cons hk, List.getD_eq_getElem?_getD, List.getElem?_eq_getElem hk]; rfl
    have h2 := hh.2
    rw [e, List.flatten_cons, List.length_append] at h2
    rw [hPut_n]
    omega
noncomputable abbrev ofLT : LTab := [(0, loopF (stC ofC hpOf) 0 [ofCf, symH1, .auto] ofLF)]
theorem newH_ok : HOk newH := ⟨rfl, by decide, rfl, rfl⟩
/-- the sum of bytes -/
def shaF (b : List Int) : List Int := sumF (hPut newH b)
theorem sha_length (b : List Int) : (shaF b).length = 64 := rfl
noncomputable def ofE : Ent := Ent.ofS [some (.sl u8)] (rrA) (lNil) fun x_ y_ => (fun (l : List (List Int)) => .leaf (some (l.length < 2305843009213693952 ∧ l.flatten.length < 1152921504606846976)) (nRow .u8 64 (shaF l.flatten)) []) x_.1
theorem of_tree (l : List (List Int)) : fnT Try.prog ofTab ofLT Try.f30 ((rrA).wr (l, ())) ((lNil).wr ()) [.fr [.sym], .auto] =
    End.need
      (HOk
          { begun := true,
            s :=
              [(7640891576956012808 : Int), (13503953896175478587 : Int), (4354685564936845355 : Int),
                (11912009170470909681 : Int), (5840696475078001361 : Int), (11170449401992604703 : Int),
                (2270897969802886507 : Int), (6620516959819538809 : Int)],
            n := (0 : Int), wait := List.replicate (128 : Nat) (0 : Int) } ∧
        (↑l.length : Int) = (↑l.length : Int) ∧
          (0 : Int) = (0 : Int) ∧
            l.length < (2305843009213693952 : Nat) ∧ (0 : Int) + (↑l.flatten.length : Int) < (2305843009213693952 : Int))
      (End.need
        (HOk
            (hPut
              { begun := true,
                s :=
                  [(7640891576956012808 : Int), (13503953896175478587 : Int), (4354685564936845355 : Int),
                    (11912009170470909681 : Int), (5840696475078001361 : Int), (11170449401992604703 : Int),
                    (2270897969802886507 : Int), (6620516959819538809 : Int)],
                n := (0 : Int), wait := List.replicate (128 : Nat) (0 : Int) }
              l.flatten) ∧
          (hPut
                { begun := true,
                  s :=
                    [(7640891576956012808 : Int), (13503953896175478587 : Int), (4354685564936845355 : Int),
                      (11912009170470909681 : Int), (5840696475078001361 : Int), (11170449401992604703 : Int),
                      (2270897969802886507 : Int), (6620516959819538809 : Int)],
                  n := (0 : Int), wait := List.replicate (128 : Nat) (0 : Int) }
                l.flatten).n <
            (1152921504606846976 : Int))
        (End.leaf
          (LV.one
            (VV.agg
              [SV.arr (Ty.int IntKind.u8) (64 : Nat)
                  (sumF
                    (hPut
                      { begun := true,
                        s :=
                          [(7640891576956012808 : Int), (13503953896175478587 : Int), (4354685564936845355 : Int),
                            (11912009170470909681 : Int), (5840696475078001361 : Int), (11170449401992604703 : Int),
                            (2270897969802886507 : Int), (6620516959819538809 : Int)],
                        n := (0 : Int), wait := List.replicate (128 : Nat) (0 : Int) }
                      l.flatten))]))
          [])) := by kernel_rfl
theorem of_ok : ofE.Ok Try.prog 30 := by
  refine (Ent.ofOk Try.call30 fun x_ y_ Q H_ => ?_).sym
  obtain ⟨l, _⟩ := x_
  obtain ⟨hn, hq⟩ := H_
  have hn : l.length < 2305843009213693952 ∧ l.flatten.length < 1152921504606846976 := hn
  refine (fnT_ok mixed ofTab_ok Try.func30 rfl (LT := ofLT) (ks := [.fr [.sym], .auto]) (LOk.ofTab (LTC rfl (loopF_ok (hp := []) of_loop) LT0))).use (D := []) ?_ hq
  show (fnT _ _ _ _ ((rrA).wr (l, ())) ((lNil).wr ()) _).sat _
  rw [of_tree]
  have e : (hPut newH l.flatten).n = l.flatten.length := by rw [hPut_n]; show (0 : Int) + _ = _; omega
  exact ⟨⟨newH_ok, rfl, rfl, hn.1, by omega⟩, ⟨hPut_ok _ newH_ok, by show (hPut newH l.flatten).n < _; rw [e]; omega⟩, rfl, rfl⟩
end Go.Proofs.Ythdfifcgobfgdaa
end

section
set_option linter.unusedVariables false
set_option linter.unusedSimpArgs false
namespace Go.Proofs.Ythdfifcgobfgdaa
open Go Go.Ev
set_option maxRecDepth 100000
end Go.Proofs.Ythdfifcgobfgdaa
end

section
set_option linter.unusedVariables false
set_option linter.unusedSimpArgs false
namespace Go.Proofs.Ythdfifcgobfgdaa
open Go Go.Ev
set_option maxRecDepth 100000
theorem nB_eq {b c : Bool} (h : b = c) : nB b = nB c := by rw [h]
end Go.Proofs.Ythdfifcgobfgdaa
end

section
set_option linter.unusedVariables false
set_option linter.unusedSimpArgs false
namespace Go.Proofs.Ythdfifcgobfgdaa
open Go Go.Ev
set_option maxRecDepth 100000
end Go.Proofs.Ythdfifcgobfgdaa
end

section
set_option linter.unusedVariables false
set_option linter.unusedSimpArgs false
namespace Go.Proofs.Ythdfifcgobfgdaa
open Go Go.Ev
set_option maxRecDepth 100000
end Go.Proofs.Ythdfifcgobfgdaa
end

section
set_option linter.unusedVariables false
set_option linter.unusedSimpArgs false
namespace Go.Proofs.Ythdfifcgobfgdaa
open Go Go.Ev BJ
set_option maxRecDepth 1000000
def eSha (g : List Int → List Int) : Ent := Ent.ofS [some (.sl u8)] rrA lNil fun x _ => .leaf (some (x.1.length < 2305843009213693952 ∧ x.1.flatten.length < 1152921504606846976)) (nRow .u8 64 (g x.1.flatten)) []
theorem of_as : ofE = eSha shaF := by kernel_rfl
theorem of'_ok : (eSha shaF).Ok Try.prog 30 := of_as ▸ of_ok
noncomputable abbrev eCat : Ent := catE
theorem cat'_ok : eCat.Ok Try.prog 63 := cat_ok
def domL : List Int := [83, 105, 103, 69, 100, 50, 53, 53, 49, 57, 32, 110, 111, 32, 69, 100, 50, 53, 53, 49, 57, 32, 99, 111, 108, 108, 105, 115, 105, 111, 110, 115]
def preL (c : List Int) : List Int := if c.length ≤ 255 then domL ++ ([1, (c.length : Int)] ++ c) else []
def ePre (g : List Int → List Int) : Ent := Ent.ofS [some u8] bA lNil fun x _ => .leaf none (.one (.sc (.sl 0 0))) [(0, .own 0 u8 (g x.1))]
noncomputable abbrev preE : Ent := ePre preL
theorem prefix_tree (c : List Int) : fnT Try.prog [(63, catE)] [] Try.f28 (bA.wr (c, ())) [] [.ownF 0 u8, .auto, .vers] =
    End.ite (decide ((255 : Int) < (↑c.length : Int)))
      (End.leaf (LV.one (VV.sc (SV.sl (0 : Nat) (0 : Nat)))) [some (Item.own (0 : Nat) (Ty.int IntKind.u8) [])])
      (End.need
        ([[(83 : Int), (105 : Int), (103 : Int), (69 : Int), (100 : Int), (50 : Int), (53 : Int), (53 : Int), (49 : Int),
                    (57 : Int), (32 : Int), (110 : Int), (111 : Int), (32 : Int), (69 : Int), (100 : Int), (50 : Int),
                    (53 : Int), (53 : Int), (49 : Int), (57 : Int), (32 : Int), (99 : Int), (111 : Int), (108 : Int),
                    (108 : Int), (105 : Int), (115 : Int), (105 : Int), (111 : Int), (110 : Int), (115 : Int)],
                  [(1 : Int), IntKind.u8.wrap (↑c.length : Int)], c].flatten.length ≤
            (70368744177664 : Nat) ∧
          (3 : Nat) ≤ (140737488355328 : Nat))
        (End.leaf (LV.one (VV.sc (SV.sl (0 : Nat) (0 : Nat))))
          [some
              (Item.own (0 : Nat) (Ty.int IntKind.u8)
                [[(83 : Int), (105 : Int), (103 : Int), (69 : Int), (100 : Int), (50 : Int), (53 : Int), (53 : Int),
                      (49 : Int), (57 : Int), (32 : Int), (110 : Int), (111 : Int), (32 : Int), (69 : Int), (100 : Int),
                      (50 : Int), (53 : Int), (53 : Int), (49 : Int), (57 : Int), (32 : Int), (99 : Int), (111 : Int),
                      (108 : Int), (108 : Int), (105 : Int), (115 : Int), (105 : Int), (111 : Int), (110 : Int),
                      (115 : Int)],
                    [(1 : Int), IntKind.u8.wrap (↑c.length : Int)], c].flatten)])) := by kernel_rfl
theorem pre_ok : preE.Ok Try.prog 28 := by
  refine (Ent.ofOk Try.call28 fun x_ y_ Q H_ => ?_).sym
  obtain ⟨c, _⟩ := x_
  refine (fnT_ok mixed (tabC cat_ok tab0) Try.func28 rfl (LT := []) (ks := [.ownF 0 u8, .auto, .vers]) (LOk.nil _)).use (D := [(0, .own 0 u8 (preL c))]) ?_ H_.2
  show (fnT _ _ _ _ (bA.wr (c, ())) [] _).sat _
  rw [prefix_tree]
  refine ⟨fun h => ?_, fun h => ?_⟩
  · have h := of_decide_eq_true h
    have e : preL c = [] := if_neg (by omega)
    rw [e]; exact ⟨rfl, rfl⟩
  · have h := of_decide_eq_false h
    have e : preL c = domL ++ ([1, (c.length : Int)] ++ c) := if_pos (by omega)
    have ew : IntKind.u8.wrap (c.length : Int) = c.length := by rw [wrap_u8]; omega
    rw [e, ew]
    refine ⟨⟨by simp; omega, by decide⟩, rfl, ?_⟩
    have e2 : applyD [(0, Ev.Item.own 0 u8 (domL ++ ([1, (c.length : Int)] ++ c)))] (lNil.wr y_) = [some (Ev.Item.own 0 u8 (domL ++ ([1, (c.length : Int)] ++ c)))] := rfl
    rw [e2]
    simp [domL]
def secF (h : List Int) : List Int := ((h.take 32).set 0 (bitAndNot .u8 ((h.take 32).getD 0 0) 7)).set 31 (bitOr .u8 (bitAndNot .u8 (((h.take 32).set 0 (bitAndNot .u8 ((h.take 32).getD 0 0) 7)).getD 31 0) 128) 64)
def ePa (sec sha : List Int → List Int) : Ent := Ent.ofS [] bA32 lNil fun x _ => .leaf (some (x.1.length = 32)) (.tup [.agg [.arr (.int .u8) 32 (sec x.1)], .sc (.vb 0 0 (.int .u8) 64 32 32)]) [(0, .blk [.arr (.int .u8) 64 (sha x.1)] 46)]
noncomputable def secL (s : List Int) : List Int := secF (shaF s)
noncomputable abbrev spartsE : Ent := ePa secL shaF
theorem parts_tree (sha : List Int → List Int) (s : List Int) : fnT Try.prog [(30, eSha sha)] [] Try.f60 (bA32.wr (s, ())) [] [.auto] =
    End.need ((0 : Int) ≤ (0 : Int) ∧ (0 : Int) ≤ (32 : Int) ∧ (32 : Int) ≤ (32 : Int))
      (End.need
        ((1 : Nat) < (2305843009213693952 : Nat) ∧
          [List.take (32 : Nat) (List.drop (0 : Nat) s)].flatten.length < (1152921504606846976 : Nat))
        (End.need ((0 : Int) ≤ (0 : Int) ∧ (0 : Int) ≤ (32 : Int) ∧ (32 : Int) ≤ (64 : Int))
          (End.need
            ((32 : Nat) ≤
              (List.take (32 : Nat)
                  (List.drop (0 : Nat) (sha [List.take (32 : Nat) (List.drop (0 : Nat) s)].flatten))).length)
            (End.need
              ((32 : Nat) ≤
                (List.take (32 : Nat)
                    (List.drop (0 : Nat) (sha [List.take (32 : Nat) (List.drop (0 : Nat) s)].flatten))).length)
              (End.need ((0 : Int) ≤ (32 : Int) ∧ (32 : Int) ≤ (64 : Int) ∧ (64 : Int) ≤ (64 : Int))
                (End.leaf
                  (LV.tup
                    [VV.agg
                        [SV.arr (Ty.int IntKind.u8) (32 : Nat)
                            (((List.take (32 : Nat)
                                      (List.drop (0 : Nat)
                                        (List.take (32 : Nat)
                                          (List.drop (0 : Nat)
                                            (sha [List.take (32 : Nat) (List.drop (0 : Nat) s)].flatten))))).set
                                  (0 : Nat)
                                  (bitAndNot IntKind.u8
                                    ((List.take (32 : Nat)
                                          (List.drop (0 : Nat)
                                            (List.take (32 : Nat)
                                              (List.drop (0 : Nat)
                                                (sha [List.take (32 : Nat) (List.drop (0 : Nat) s)].flatten))))).getD
                                      (0 : Nat) (0 : Int))
                                    (7 : Int))).set
                              (31 : Nat)
                              (bitOr IntKind.u8
                                (bitAndNot IntKind.u8
                                  (((List.take (32 : Nat)
                                            (List.drop (0 : Nat)
                                              (List.take (32 : Nat)
                                                (List.drop (0 : Nat)
                                                  (sha [List.take (32 : Nat) (List.drop (0 : Nat) s)].flatten))))).set
                                        (0 : Nat)
                                        (bitAndNot IntKind.u8
                                          ((List.take (32 : Nat)
                                                (List.drop (0 : Nat)
                                                  (List.take (32 : Nat)
                                                    (List.drop (0 : Nat)
                                                      (sha [List.take (32 : Nat) (List.drop (0 : Nat) s)].flatten))))).getD
                                            (0 : Nat) (0 : Int))
                                          (7 : Int))).getD
                                    (31 : Nat) (0 : Int))
                                  (128 : Int))
                                (64 : Int)))],
                      VV.sc (SV.vb (0 : Nat) (0 : Nat) (Ty.int IntKind.u8) (64 : Nat) (32 : Int) (32 : Int))])
                  [some
                      (Item.blk
                        [SV.arr (Ty.int IntKind.u8) (64 : Nat) (sha [List.take (32 : Nat) (List.drop (0 : Nat) s)].flatten)]
                        (46 : Nat))])))))) := by kernel_rfl
theorem sparts_ok : spartsE.Ok Try.prog 60 := by
  refine (Ent.ofOk Try.call60 fun x_ y_ Q H_ => ?_).sym
  obtain ⟨s, _⟩ := x_
  obtain ⟨hn, hq⟩ := H_
  have hn : s.length = 32 := hn
  refine (fnT_ok mixed (tabC of'_ok tab0) Try.func60 rfl (LT := []) (ks := [.auto]) (LOk.nil _)).use (D := [(0, .blk [.arr (.int .u8) 64 (shaF s)] 46)]) ?_ hq
  show (fnT _ _ _ _ (bA32.wr (s, ())) [] _).sat _
  rw [parts_tree, take_all hn, List.flatten_singleton]
  have hs := sha_length s
  have e1 : List.take 32 (List.drop 0 (List.take 32 (List.drop 0 (shaF s)))) = (shaF s).take 32 := by rw [List.drop_zero, List.drop_zero, List.take_take, Nat.min_self]
  have hl : (List.take 32 (List.drop 0 (shaF s))).length = 32 := by simp [hs]
  rw [e1]
  exact ⟨by decide, ⟨by decide, by omega⟩, by decide, by omega, by omega, by decide, rfl, rfl⟩
def ePub (g : List Int → List Int) : Ent := Ent.ofS [] bA32 lNil fun x _ => .leaf (some (x.1.length = 32)) (nRow .u8 32 (g x.1)) []
theorem secF_len {h : List Int} (hl : h.length = 64) : (secF h).length = 32 := by simp [secF, hl]
theorem secL_len (s : List Int) : (secL s).length = 32 := secF_len (sha_length s)
noncomputable def pubL (s : List Int) : List Int := encodeL (mbaseL (secL s))
noncomputable abbrev pubE : Ent := ePub pubL
theorem pub_tree (sec sha : List Int → List Int) (mb : List Int → Pt) (en : Pt → List Int) (s : List Int) : fnT Try.prog [(60, ePa sec sha), (18, eMb mb), (38, eEn en)] [] Try.f27 ((bA32).wr (s, ())) [] kK =
    End.need (s.length = (32 : Nat))
      (End.need ((sec s).length = (32 : Nat))
        (End.leaf (LV.one (VV.agg [SV.arr (Ty.int IntKind.u8) (32 : Nat) (en (mb (sec s)))])) [])) := by kernel_rfl
theorem pub_tab_ : ∀ p_ ∈ ([(60, ePa secL shaF), (18, eMb mbaseL), (38, eEn encodeL)] : List (FuncId × Ent)), p_.2.Ok Try.prog p_.1 := (tabC sparts_ok (tabC mbase_ok (tabC qencode_ok tab0)))
theorem pub_ok : pubE.Ok Try.prog 27 := by
  refine (Ent.ofOk Try.call27 fun x_ y_ Q H_ => ?_).sym
  obtain ⟨s, _⟩ := x_
  obtain ⟨hn, hq⟩ := H_
  have hn : s.length = 32 := hn
  refine (fnT_ok (tab := [(60, ePa secL shaF), (18, eMb mbaseL), (38, eEn encodeL)]) mixed pub_tab_ Try.func27 rfl (LT := []) (ks := kK) (LOk.nil _)).use (D := []) ?_ hq
  show (fnT _ _ _ _ ((bA32).wr (s, ())) [] _).sat _
  rw [pub_tree secL shaF mbaseL encodeL]
  exact ⟨hn, secL_len s, rfl, rfl⟩
abbrev row64 : Cod LV (List Int) := vRow .u8 64
abbrev chA : Cod (List LV) (List Int × List Int × List Int × List Int × Unit) := lCons (vOne (sRd false false u8)) (lCons cB (lCons cB (lCons row64 lNil)))
def eCh (g : List Int → List Int → List Int → List Int → List Int) : Ent := Ent.ofS [some u8, none, none, none] chA lNil fun x _ => .leaf (some (x.2.1.length = 32 ∧ x.2.2.1.length = 32 ∧ x.2.2.2.1.length = 64)) (nRow .u8 32 (g x.1 x.2.1 x.2.2.1 x.2.2.2.1)) []
noncomputable def chalL (c r p m : List Int) : List Int := redB (shaF (preL c ++ (r ++ (p ++ m))))
theorem eight_by (x : Int) : AllBy (eightF x) := fun z hz => by
  obtain ⟨i, _, rfl⟩ := List.mem_map.1 hz
  rw [wrap_u8]; unfold By; omega
theorem sha_by (b : List Int) : AllBy (shaF b) := by
  have key : ∀ (l : List Nat) (s a : List Int), AllBy a → AllBy (l.foldl (fun a i => a ++ eightF (s.getD i 0)) a) := by
    intro l s
    induction l with
    | nil => exact fun a h => h
    | cons i l ih => exact fun a h => ih _ (h.append (eight_by _))
  exact key _ _ [] (fun z hz => by cases hz)
theorem bitAndNot_by (x y : Int) : By (bitAndNot .u8 x y) := by
  unfold bitAndNot By; rw [wrap_u8]; omega
theorem bitOr_by (x y : Int) : By (bitOr .u8 x y) := by
  unfold bitOr By
  show 0 ≤ IntKind.u8.wrap _ ∧ IntKind.u8.wrap _ < 256
  rw [wrap_u8]; omega
theorem allBy_set {l : List Int} (h : AllBy l) {i : Nat} {x : Int} (hx : By x) : AllBy (l.set i x) := fun z hz => by
  rcases List.mem_or_eq_of_mem_set hz with k | k
  · exact h z k
  · subst k; exact hx
theorem secL_by (s : List Int) : AllBy (secL s) := allBy_set (allBy_set ((sha_by s).take 32) (bitAndNot_by _ _)) (bitOr_by _ _)
theorem secL_ok (s : List Int) : okB (secL s) := ⟨secL_len s, secL_by s⟩
theorem redB_ok (b : List Int) : okB (redB b) := ⟨dg_length _ _, dg_in (by decide) _ _⟩
theorem pre_len (c : List Int) : (preL c).length ≤ 289 := by unfold preL domL; split <;> simp; omega
noncomputable abbrev chalE : Ent := eCh chalL
theorem chal_tree (sha pre red : List Int → List Int) (c r p m : List Int) : fnT Try.prog [(30, eSha sha), (28, ePre pre), (61, e64B red)] [] Try.f62 ((chA).wr (c, r, p, m, ())) [] kK =
    End.need ((0 : Int) ≤ (0 : Int) ∧ (0 : Int) ≤ (32 : Int) ∧ (32 : Int) ≤ (32 : Int))
      (End.need ((0 : Int) ≤ (0 : Int) ∧ (0 : Int) ≤ (32 : Int) ∧ (32 : Int) ≤ (32 : Int))
        (End.need ((0 : Int) ≤ (0 : Int) ∧ (0 : Int) ≤ (64 : Int) ∧ (64 : Int) ≤ (64 : Int))
          (End.need
            ((4 : Nat) < (2305843009213693952 : Nat) ∧
              [pre c, List.take (32 : Nat) (List.drop (0 : Nat) r), List.take (32 : Nat) (List.drop (0 : Nat) p),
                      List.take (64 : Nat) (List.drop (0 : Nat) m)].flatten.length <
                (1152921504606846976 : Nat))
            (End.need
              ((sha
                      [pre c, List.take (32 : Nat) (List.drop (0 : Nat) r), List.take (32 : Nat) (List.drop (0 : Nat) p),
                          List.take (64 : Nat) (List.drop (0 : Nat) m)].flatten).length =
                  (64 : Nat) ∧
                AllBy
                  (sha
                    [pre c, List.take (32 : Nat) (List.drop (0 : Nat) r), List.take (32 : Nat) (List.drop (0 : Nat) p),
                        List.take (64 : Nat) (List.drop (0 : Nat) m)].flatten))
              (End.leaf
                (LV.one
                  (VV.agg
                    [SV.arr (Ty.int IntKind.u8) (32 : Nat)
                        (red
                          (sha
                            [pre c, List.take (32 : Nat) (List.drop (0 : Nat) r),
                                List.take (32 : Nat) (List.drop (0 : Nat) p),
                                List.take (64 : Nat) (List.drop (0 : Nat) m)].flatten))]))
                []))))) := by kernel_rfl
theorem chal_tab_ : ∀ p_ ∈ ([(30, eSha shaF), (28, ePre preL), (61, e64B redB)] : List (FuncId × Ent)), p_.2.Ok Try.prog p_.1 := (tabC of'_ok (tabC pre_ok (tabC sReduce_ok tab0)))
theorem chal_ok : chalE.Ok Try.prog 62 := by
  refine (Ent.ofOk Try.call62 fun x_ y_ Q H_ => ?_).sym
  obtain ⟨c, r, p, m, _⟩ := x_
  obtain ⟨hn, hq⟩ := H_
  have hn : r.length = 32 ∧ p.length = 32 ∧ m.length = 64 := hn
  refine (fnT_ok (tab := [(30, eSha shaF), (28, ePre preL), (61, e64B redB)]) mixed chal_tab_ Try.func62 rfl (LT := []) (ks := kK) (LOk.nil _)).use (D := []) ?_ hq
  show (fnT _ _ _ _ ((chA).wr (c, r, p, m, ())) [] _).sat _
  rw [chal_tree shaF preL redB]
  rw [take_all hn.1, take_all hn.2.1, take_all hn.2.2]
  have h1 := pre_len c
  have e : [preL c, r, p, m].flatten = preL c ++ (r ++ (p ++ m)) := by simp
  rw [e]
  refine ⟨by decide, by decide, by decide, ⟨by decide, by simp; omega⟩, ⟨sha_length _, sha_by _⟩, rfl, rfl⟩
abbrev siA : Cod (List LV) (List Int × List Int × List Int × Unit) := lCons cB (lCons (vOne (sRd false false u8)) (lCons row64 lNil))
abbrev nSi (r : List Int × Int) : LV := .tup [.agg [.arr (.int .u8) 64 r.1], .sc (.int .i64 (.sym r.2))]
def eSi (g : List Int → List Int → List Int → List Int × Int) : Ent := Ent.ofS [none, some u8, none] siA lNil fun x _ => .leaf (some (x.1.length = 32 ∧ x.2.2.1.length = 64)) (nSi (g x.1 x.2.1 x.2.2.1)) []
noncomputable def nonL (s c m : List Int) : List Int := redB (shaF (preL c ++ ((shaF s).drop 32 ++ m)))
noncomputable def sigL (s c m : List Int) : List Int := encodeL (mbaseL (nonL s c m)) ++ mulB (chalL c (encodeL (mbaseL (nonL s c m))) (pubL s) m) (secL s) (nonL s c m)
theorem signL_ex : ∃ f : List Int → List Int → List Int → List Int × Int, ∀ (s c m : List Int) , f s c m = (if c.length ≤ 255 then (sigL s c m, 0) else (List.replicate 64 0, 1)) := ⟨fun s c m => if c.length ≤ 255 then (sigL s c m, 0) else (List.replicate 64 0, 1), fun _ _ _ => rfl⟩
noncomputable def signL : List Int → List Int → List Int → List Int × Int := Classical.choose signL_ex
theorem signL_eq (s c m : List Int)  : signL s c m = (if c.length ≤ 255 then (sigL s c m, 0) else (List.replicate 64 0, 1)) := Classical.choose_spec signL_ex s c m
theorem encodeL_len (p : Pt) : (encodeL p).length = 32 := Vec.toList_length _
theorem pubL_len (s : List Int) : (pubL s).length = 32 := by unfold pubL; exact encodeL_len _
theorem chalL_ok (c r p m : List Int) : okB (chalL c r p m) := by unfold chalL; exact redB_ok _
theorem mulB_len (a b c : List Int) : (mulB a b c).length = 32 := dg_length _ _
theorem sign_tree0 (sec sha pre red : List Int → List Int) (mb : List Int → Pt) (en : Pt → List Int) (pub : List Int → List Int) (ch : List Int → List Int → List Int → List Int → List Int) (mul : List Int → List Int → List Int → List Int) (s c m : List Int) : fnT Try.prog [(60, ePa sec sha), (30, eSha sha), (28, ePre pre), (61, e64B red), (18, eMb mb), (38, eEn en), (27, ePub pub), (62, eCh ch), (22, eB3 mul), (63, eCat)] [] Try.f24 (siA.wr (s, c, m, ())) [] [.fr [.sym], .auto] =
    End.ite (decide ((255 : Int) < (↑c.length : Int)))
      (End.leaf
        (LV.tup
          [VV.agg [SV.arr (Ty.int IntKind.u8) (64 : Nat) (List.replicate (64 : Nat) (0 : Int))],
            VV.sc (SV.int IntKind.i64 (SI.sym (1 : Int)))])
        [])
      (End.need (s.length = (32 : Nat))
        (End.need ((0 : Int) ≤ (0 : Int) ∧ (0 : Int) ≤ (64 : Int) ∧ (64 : Int) ≤ (64 : Int))
          (End.need
            ((3 : Nat) < (2305843009213693952 : Nat) ∧
              [pre c, List.take (32 : Nat) (List.drop (32 : Nat) (sha s)),
                      List.take (64 : Nat) (List.drop (0 : Nat) m)].flatten.length <
                (1152921504606846976 : Nat))
            (End.need
              ((sha
                      [pre c, List.take (32 : Nat) (List.drop (32 : Nat) (sha s)),
                          List.take (64 : Nat) (List.drop (0 : Nat) m)].flatten).length =
                  (64 : Nat) ∧
                AllBy
                  (sha
                    [pre c, List.take (32 : Nat) (List.drop (32 : Nat) (sha s)),
                        List.take (64 : Nat) (List.drop (0 : Nat) m)].flatten))
              (End.need
                ((red
                      (sha
                        [pre c, List.take (32 : Nat) (List.drop (32 : Nat) (sha s)),
                            List.take (64 : Nat) (List.drop (0 : Nat) m)].flatten)).length =
                  (32 : Nat))
                (End.need (s.length = (32 : Nat))
                  (End.need
                    ((en
                            (mb
                              (red
                                (sha
                                  [pre c, List.take (32 : Nat) (List.drop (32 : Nat) (sha s)),
                                      List.take (64 : Nat) (List.drop (0 : Nat) m)].flatten)))).length =
                        (32 : Nat) ∧
                      (pub s).length = (32 : Nat) ∧ m.length = (64 : Nat))
                    (End.need
                      (okB
                          (ch c
                            (en
                              (mb
                                (red
                                  (sha
                                    [pre c, List.take (32 : Nat) (List.drop (32 : Nat) (sha s)),
                                        List.take (64 : Nat) (List.drop (0 : Nat) m)].flatten))))
                            (pub s) m) ∧
                        okB (sec s) ∧
                          okB
                            (red
                              (sha
                                [pre c, List.take (32 : Nat) (List.drop (32 : Nat) (sha s)),
                                    List.take (64 : Nat) (List.drop (0 : Nat) m)].flatten)))
                      (End.need ((0 : Int) ≤ (0 : Int) ∧ (0 : Int) ≤ (32 : Int) ∧ (32 : Int) ≤ (32 : Int))
                        (End.need ((0 : Int) ≤ (0 : Int) ∧ (0 : Int) ≤ (32 : Int) ∧ (32 : Int) ≤ (32 : Int))
                          (End.need
                            ([List.take (32 : Nat)
                                        (List.drop (0 : Nat)
                                          (en
                                            (mb
                                              (red
                                                (sha
                                                  [pre c, List.take (32 : Nat) (List.drop (32 : Nat) (sha s)),
                                                      List.take (64 : Nat) (List.drop (0 : Nat) m)].flatten))))),
                                      List.take (32 : Nat)
                                        (List.drop (0 : Nat)
                                          (mul
                                            (ch c
                                              (en
                                                (mb
                                                  (red
                                                    (sha
                                                      [pre c, List.take (32 : Nat) (List.drop (32 : Nat) (sha s)),
                                                          List.take (64 : Nat) (List.drop (0 : Nat) m)].flatten))))
                                              (pub s) m)
                                            (sec s)
                                            (red
                                              (sha
                                                [pre c, List.take (32 : Nat) (List.drop (32 : Nat) (sha s)),
                                                    List.take (64 : Nat)
                                                      (List.drop (0 : Nat) m)].flatten))))].flatten.length ≤
                                (70368744177664 : Nat) ∧
                              (2 : Nat) ≤ (140737488355328 : Nat))
                            (End.need
                              ((64 : Nat) ≤
                                [List.take (32 : Nat)
                                        (List.drop (0 : Nat)
                                          (en
                                            (mb
                                              (red
                                                (sha
                                                  [pre c, List.take (32 : Nat) (List.drop (32 : Nat) (sha s)),
                                                      List.take (64 : Nat) (List.drop (0 : Nat) m)].flatten))))),
                                      List.take (32 : Nat)
                                        (List.drop (0 : Nat)
                                          (mul
                                            (ch c
                                              (en
                                                (mb
                                                  (red
                                                    (sha
                                                      [pre c, List.take (32 : Nat) (List.drop (32 : Nat) (sha s)),
                                                          List.take (64 : Nat) (List.drop (0 : Nat) m)].flatten))))
                                              (pub s) m)
                                            (sec s)
                                            (red
                                              (sha
                                                [pre c, List.take (32 : Nat) (List.drop (32 : Nat) (sha s)),
                                                    List.take (64 : Nat)
                                                      (List.drop (0 : Nat) m)].flatten))))].flatten.length)
                              (End.need
                                ((64 : Nat) ≤
                                  [List.take (32 : Nat)
                                          (List.drop (0 : Nat)
                                            (en
                                              (mb
                                                (red
                                                  (sha
                                                    [pre c, List.take (32 : Nat) (List.drop (32 : Nat) (sha s)),
                                                        List.take (64 : Nat) (List.drop (0 : Nat) m)].flatten))))),
                                        List.take (32 : Nat)
                                          (List.drop (0 : Nat)
                                            (mul
                                              (ch c
                                                (en
                                                  (mb
                                                    (red
                                                      (sha
                                                        [pre c, List.take (32 : Nat) (List.drop (32 : Nat) (sha s)),
                                                            List.take (64 : Nat) (List.drop (0 : Nat) m)].flatten))))
                                                (pub s) m)
                                              (sec s)
                                              (red
                                                (sha
                                                  [pre c, List.take (32 : Nat) (List.drop (32 : Nat) (sha s)),
                                                      List.take (64 : Nat)
                                                        (List.drop (0 : Nat) m)].flatten))))].flatten.length)
                                (End.leaf
                                  (LV.tup
                                    [VV.agg
                                        [SV.arr (Ty.int IntKind.u8) (64 : Nat)
                                            (List.take (64 : Nat)
                                              (List.drop (0 : Nat)
                                                [List.take (32 : Nat)
                                                      (List.drop (0 : Nat)
                                                        (en
                                                          (mb
                                                            (red
                                                              (sha
                                                                [pre c, List.take (32 : Nat) (List.drop (32 : Nat) (sha s)),
                                                                    List.take (64 : Nat)
                                                                      (List.drop (0 : Nat) m)].flatten))))),
                                                    List.take (32 : Nat)
                                                      (List.drop (0 : Nat)
                                                        (mul
                                                          (ch c
                                                            (en
                                                              (mb
                                                                (red
                                                                  (sha
                                                                    [pre c,
                                                                        List.take (32 : Nat) (List.drop (32 : Nat) (sha s)),
                                                                        List.take (64 : Nat)
                                                                          (List.drop (0 : Nat) m)].flatten))))
                                                            (pub s) m)
                                                          (sec s)
                                                          (red
                                                            (sha
                                                              [pre c, List.take (32 : Nat) (List.drop (32 : Nat) (sha s)),
                                                                  List.take (64 : Nat)
                                                                    (List.drop (0 : Nat) m)].flatten))))].flatten))],
                                      VV.sc (SV.int IntKind.i64 (SI.sym (0 : Int)))])
                                  [])))))))))))))) := by kernel_rfl
theorem sign_sat (sec sha pre red : List Int → List Int) (mb : List Int → Pt) (en : Pt → List Int) (pub : List Int → List Int) (ch : List Int → List Int → List Int → List Int → List Int) (mul : List Int → List Int → List Int → List Int) {s c m : List Int} (hs : s.length = 32) (hm : m.length = 64) (h1 : ∀ b, (sha b).length = 64) (h2 : ∀ b, AllBy (sha b)) (h3 : ∀ b, okB (red b)) (h4 : ∀ q, (en q).length = 32) (h5 : (pub s).length = 32) (h6 : ∀ a b c d, okB (ch a b c d)) (h7 : okB (sec s)) (h8 : ∀ a b c, (mul a b c).length = 32) (h9 : (pre c).length ≤ 289) :
    ∃ t_ : Ev.End, fnT Try.prog [(60, ePa sec sha), (30, eSha sha), (28, ePre pre), (61, e64B red), (18, eMb mb), (38, eEn en), (27, ePub pub), (62, eCh ch), (22, eB3 mul), (63, eCat)] [] Try.f24 (siA.wr (s, c, m, ())) [] [.fr [.sym], .auto] = t_ ∧ t_.sat fun v hp' => v = nSi (if c.length ≤ 255 then (en (mb (red (sha (pre c ++ ((sha s).drop 32 ++ m))))) ++ mul (ch c (en (mb (red (sha (pre c ++ ((sha s).drop 32 ++ m)))))) (pub s) m) (sec s) (red (sha (pre c ++ ((sha s).drop 32 ++ m)))), 0) else (List.replicate 64 0, 1)) ∧ hp' = [] := by
  refine ⟨_, sign_tree0 .., ?_⟩
  have e1 : List.take 32 (List.drop 32 (sha s)) = (sha s).drop 32 := List.take_of_length_le (by rw [List.length_drop, h1]; decide)
  have e2 : List.take 64 (List.drop 0 m) = m := take_all hm
  have e3 : [pre c, (sha s).drop 32, m].flatten = pre c ++ ((sha s).drop 32 ++ m) := by simp
  rw [e1, e2, e3]
  have l1 : (pre c ++ ((sha s).drop 32 ++ m)).length < 1152921504606846976 := by simp [h1, hm]; omega
  have l2 := h3 (sha (pre c ++ ((sha s).drop 32 ++ m)))
  generalize red (sha (pre c ++ ((sha s).drop 32 ++ m))) = n at *
  have l3 : ∀ {l : List Int}, l.length = 32 → List.take 32 (List.drop 0 l) = l := fun h => take_all h
  rw [l3 (h4 _), l3 (h8 _ _ _)]
  have l4 : ∀ a b : List Int, [a, b].flatten = a ++ b := fun a b => by simp
  have l5 : (en (mb n) ++ mul (ch c (en (mb n)) (pub s) m) (sec s) n).length = 64 := by rw [List.length_append, h4, h8]
  rw [l4, take_all l5]
  refine ⟨fun h => ?_, fun h => ?_⟩
  · have h := of_decide_eq_true h
    rw [if_neg (by omega)]; exact ⟨rfl, rfl⟩
  · have h := of_decide_eq_false h
    rw [if_pos (by omega)]
    exact ⟨hs, by decide, ⟨by decide, l1⟩, ⟨h1 _, h2 _⟩, l2.1, hs, ⟨h4 _, h5, hm⟩, ⟨h6 _ _ _ _, h7, l2⟩, by decide, by decide, ⟨by omega, by decide⟩, by omega, by omega, rfl, rfl⟩
theorem signRes_eq (s c m : List Int) : signL s c m = (if c.length ≤ 255 then (encodeL (mbaseL (redB (shaF (preL c ++ ((shaF s).drop 32 ++ m))))) ++ mulB (chalL c (encodeL (mbaseL (redB (shaF (preL c ++ ((shaF s).drop 32 ++ m)))))) (pubL s) m) (secL s) (redB (shaF (preL c ++ ((shaF s).drop 32 ++ m)))), 0) else (List.replicate 64 0, 1)) := by rw [signL_eq, sigL, nonL]
noncomputable abbrev signE : Ent := eSi signL
theorem sign_tab_ : ∀ p_ ∈ ([(60, ePa secL shaF), (30, eSha shaF), (28, ePre preL), (61, e64B redB), (18, eMb mbaseL), (38, eEn encodeL), (27, ePub pubL), (62, eCh chalL), (22, eB3 mulB), (63, eCat)] : List (FuncId × Ent)), p_.2.Ok Try.prog p_.1 := (tabC sparts_ok (tabC of'_ok (tabC pre_ok (tabC sReduce_ok (tabC mbase_ok (tabC qencode_ok (tabC pub_ok (tabC chal_ok (tabC sMulAdd_ok (tabC cat'_ok tab0))))))))))
theorem sign_ok : signE.Ok Try.prog 24 := by
  refine (Ent.ofOk Try.call24 fun x_ y_ Q H_ => ?_).sym
  obtain ⟨s, c, m, _⟩ := x_
  obtain ⟨hn, hq⟩ := H_
  have hn : s.length = 32 ∧ m.length = 64 := hn
  have hc_ : CallsT Try.prog 24 ((siA).wr (s, c, m, ())) [] (fnT Try.prog [(60, ePa secL shaF), (30, eSha shaF), (28, ePre preL), (61, e64B redB), (18, eMb mbaseL), (38, eEn encodeL), (27, ePub pubL), (62, eCh chalL), (22, eB3 mulB), (63, eCat)] [] Try.f24 ((siA).wr (s, c, m, ())) [] [.fr [.sym], .auto]) := fnT_ok mixed sign_tab_ Try.func24 rfl (LOk.nil _)
  obtain ⟨t_, ht_, hs_⟩ := sign_sat secL shaF preL redB mbaseL encodeL pubL chalL mulB hn.1 hn.2 sha_length sha_by redB_ok encodeL_len (pubL_len s) chalL_ok (secL_ok s) mulB_len (pre_len c)
  rw [← signRes_eq s c m] at hs_
  rw [ht_] at hc_
  exact hc_.use (D := []) hs_ hq
abbrev veA : Cod (List LV) (List Int × List Int × List Int × List Int × Unit) := lCons cB (lCons (vOne (sRd false false u8)) (lCons row64 (lCons row64 lNil)))
def eVe (g : List Int → List Int → List Int → List Int → Bool) : Ent := Ent.ofS [none, some u8, none, none] veA lNil fun x _ => .leaf (some (x.1.length = 32 ∧ x.2.2.1.length = 64 ∧ x.2.2.2.1.length = 64 ∧ AllBy x.2.2.2.1)) (nB (g x.1 x.2.1 x.2.2.1 x.2.2.2.1)) []
theorem verL_ex : ∃ f : List Int → List Int → List Int → List Int → Bool, ∀ (p c m g : List Int) , f p c m g = ((decodeL p).2 && (decide (c.length ≤ 255) && (canB (g.drop 32) && decide (encodeL (twoL (chalL c (g.take 32) p m) (negPC (decodeL p).1) (g.drop 32)) = g.take 32)))) := ⟨fun p c m g => (decodeL p).2 && (decide (c.length ≤ 255) && (canB (g.drop 32) && decide (encodeL (twoL (chalL c (g.take 32) p m) (negPC (decodeL p).1) (g.drop 32)) = g.take 32))), fun _ _ _ _ => rfl⟩
noncomputable def verL : List Int → List Int → List Int → List Int → Bool := Classical.choose verL_ex
theorem verL_eq (p c m g : List Int)  : verL p c m g = ((decodeL p).2 && (decide (c.length ≤ 255) && (canB (g.drop 32) && decide (encodeL (twoL (chalL c (g.take 32) p m) (negPC (decodeL p).1) (g.drop 32)) = g.take 32)))) := Classical.choose_spec verL_ex p c m g
theorem take32 {l : List Int} (h : l.length = 32) : List.take 32 (List.drop 0 l) = l := take_all h
theorem verify_tree0 (de : List Int → Pt × Bool) (can : List Int → Bool) (two : List Int → Pt → List Int → Pt) (ch : List Int → List Int → List Int → List Int → List Int) (neg : Pt → Pt) (en : Pt → List Int) (p c m g : List Int) : fnT Try.prog [(11, eDe de), (64, eBB can), (65, eTw two), (62, eCh ch), (15, e1Q neg), (38, eEn en)] [] Try.f26 (veA.wr (p, c, m, g, ())) [] kK =
    End.need ((0 : Int) ≤ (0 : Int) ∧ (0 : Int) ≤ (32 : Int) ∧ (32 : Int) ≤ (64 : Int))
      (End.need ((32 : Nat) ≤ (List.take (32 : Nat) (List.drop (0 : Nat) g)).length)
        (End.need ((32 : Nat) ≤ (List.take (32 : Nat) (List.drop (0 : Nat) g)).length)
          (End.need ((0 : Int) ≤ (32 : Int) ∧ (32 : Int) ≤ (64 : Int) ∧ (64 : Int) ≤ (64 : Int))
            (End.need ((32 : Nat) ≤ (List.take (32 : Nat) (List.drop (32 : Nat) g)).length)
              (End.need ((32 : Nat) ≤ (List.take (32 : Nat) (List.drop (32 : Nat) g)).length)
                (End.need (p.length = (32 : Nat))
                  (End.ite ((!(de p).snd) == false)
                    (End.ite (decide ((255 : Int) < (↑c.length : Int)) == false)
                      (End.need
                        (okB (List.take (32 : Nat) (List.drop (0 : Nat) (List.take (32 : Nat) (List.drop (32 : Nat) g)))))
                        (End.ite
                          (!can
                              (List.take (32 : Nat) (List.drop (0 : Nat) (List.take (32 : Nat) (List.drop (32 : Nat) g)))))
                          (End.leaf (LV.one (VV.sc (SV.bool (SB.sym false)))) [])
                          (End.need
                            ((List.take (32 : Nat)
                                    (List.drop (0 : Nat) (List.take (32 : Nat) (List.drop (0 : Nat) g)))).length =
                                (32 : Nat) ∧
                              p.length = (32 : Nat) ∧ m.length = (64 : Nat))
                            (End.need
                              ((ch c
                                      (List.take (32 : Nat)
                                        (List.drop (0 : Nat) (List.take (32 : Nat) (List.drop (0 : Nat) g))))
                                      p m).length =
                                  (32 : Nat) ∧
                                (List.take (32 : Nat)
                                      (List.drop (0 : Nat) (List.take (32 : Nat) (List.drop (32 : Nat) g)))).length =
                                  (32 : Nat))
                              (End.leaf
                                (LV.one
                                  (VV.sc
                                    (SV.bool
                                      (SB.sym
                                        (decide
                                          (en
                                              (two
                                                (ch c
                                                  (List.take (32 : Nat)
                                                    (List.drop (0 : Nat) (List.take (32 : Nat) (List.drop (0 : Nat) g))))
                                                  p m)
                                                (neg (de p).fst)
                                                (List.take (32 : Nat)
                                                  (List.drop (0 : Nat) (List.take (32 : Nat) (List.drop (32 : Nat) g))))) =
                                            List.take (32 : Nat)
                                              (List.drop (0 : Nat) (List.take (32 : Nat) (List.drop (0 : Nat) g)))))))))
                                [])))))
                      (End.leaf (LV.one (VV.sc (SV.bool (SB.sym false)))) []))
                    (End.leaf (LV.one (VV.sc (SV.bool (SB.sym false)))) [])))))))) := by kernel_rfl
theorem verify_sat (de : List Int → Pt × Bool) (can : List Int → Bool) (two : List Int → Pt → List Int → Pt) (ch : List Int → List Int → List Int → List Int → List Int) (neg : Pt → Pt) (en : Pt → List Int) {p c m g : List Int} (h1 : p.length = 32) (h2 : m.length = 64) (h3 : g.length = 64) (h4 : AllBy g) (h5 : ∀ a b c d, (ch a b c d).length = 32) :
    ∃ t_ : Ev.End, fnT Try.prog [(11, eDe de), (64, eBB can), (65, eTw two), (62, eCh ch), (15, e1Q neg), (38, eEn en)] [] Try.f26 (veA.wr (p, c, m, g, ())) [] kK = t_ ∧ t_.sat fun v hp' => v = nB ((de p).2 && (decide (c.length ≤ 255) && (can (g.drop 32) && decide (en (two (ch c (g.take 32) p m) (neg (de p).1) (g.drop 32)) = g.take 32)))) ∧ hp' = [] := by
  refine ⟨_, verify_tree0 .., ?_⟩
  have l1 : (g.take 32).length = 32 := by rw [List.length_take, h3]; decide
  have l2 : (g.drop 32).length = 32 := by rw [List.length_drop, h3]
  have e1 : List.take 32 (List.drop 32 g) = g.drop 32 := List.take_of_length_le (by omega)
  have e2 : List.take 32 (List.drop 0 g) = g.take 32 := by rw [List.drop_zero]
  rw [e1, e2, take32 l1, take32 l2]
  have hb : AllBy (g.drop 32) := h4.drop 32
  generalize de p = d at *
  generalize g.take 32 = r at *
  generalize g.drop 32 = s at *
  obtain ⟨a, ok⟩ := d
  refine ⟨by decide, by omega, by omega, by decide, by omega, by omega, h1, ?_⟩
  cases ok
  · exact ⟨fun h => (by cases h), fun _ => ⟨rfl, rfl⟩⟩
  · refine ⟨fun _ => ⟨fun h => ⟨⟨l2, hb⟩, fun h' => ?_, fun h' => ⟨⟨l1, h1, h2⟩, ⟨h5 _ _ _ _, l2⟩, ?_, rfl⟩⟩, fun h => ?_⟩, fun h => (by cases h)⟩
    · have h' : can s = false := by simpa using h'
      rw [h']; simp; exact ⟨rfl, rfl⟩
    · have h' : can s = true := by simpa using h'
      have h : c.length ≤ 255 := by simp at h; omega
      rw [h', decide_eq_true h]; simp
    · have h : ¬ c.length ≤ 255 := by simp at h; omega
      rw [decide_eq_false h]; simp; exact ⟨rfl, rfl⟩
noncomputable abbrev verifyE : Ent := eVe verL
theorem verify_tab_ : ∀ p_ ∈ ([(11, eDe decodeL), (64, eBB canB), (65, eTw twoL), (62, eCh chalL), (15, e1Q negPC), (38, eEn encodeL)] : List (FuncId × Ent)), p_.2.Ok Try.prog p_.1 := (tabC qdecode_ok (tabC sCanon_ok (tabC mtwo_ok (tabC chal_ok (tabC qneg_ok (tabC qencode_ok tab0))))))
theorem verify_ok : verifyE.Ok Try.prog 26 := by
  refine (Ent.ofOk Try.call26 fun x_ y_ Q H_ => ?_).sym
  obtain ⟨p, c, m, g, _⟩ := x_
  obtain ⟨hn, hq⟩ := H_
  have hn : p.length = 32 ∧ m.length = 64 ∧ g.length = 64 ∧ AllBy g := hn
  have hc_ : CallsT Try.prog 26 ((veA).wr (p, c, m, g, ())) [] (fnT Try.prog [(11, eDe decodeL), (64, eBB canB), (65, eTw twoL), (62, eCh chalL), (15, e1Q negPC), (38, eEn encodeL)] [] Try.f26 ((veA).wr (p, c, m, g, ())) [] kK) := fnT_ok mixed verify_tab_ Try.func26 rfl (LOk.nil _)
  obtain ⟨t_, ht_, hs_⟩ := verify_sat decodeL canB twoL chalL negPC encodeL hn.1 hn.2.1 hn.2.2.1 hn.2.2.2 (fun a b c d => (chalL_ok a b c d).1)
  rw [← verL_eq p c m g] at hs_
  rw [ht_] at hc_
  exact hc_.use (D := []) hs_ hq
end Go.Proofs.Ythdfifcgobfgdaa
end

section
set_option linter.unusedVariables false
set_option linter.unusedSimpArgs false
namespace BJ
abbrev N4 := Nat × Nat × Nat × Nat
def mulN (a b : Nat) : Nat := a * b % pp
def addN (a b : Nat) : Nat := (a + b) % pp
def subN (a b : Nat) : Nat := (pp - b + a) % pp
def ddN : Nat := 37095705934669439343138083508754565189542113879843219016388785533085940283555
def plusN (p q : N4) : N4 :=
  let a := mulN (subN p.2.1 p.1) (subN q.2.1 q.1)
  let b := mulN (addN p.2.1 p.1) (addN q.2.1 q.1)
  let c := addN (mulN (mulN p.2.2.2 q.2.2.2) ddN) (mulN (mulN p.2.2.2 q.2.2.2) ddN)
  let d := addN (mulN p.2.2.1 q.2.2.1) (mulN p.2.2.1 q.2.2.1)
  (mulN (subN b a) (subN d c), mulN (addN d c) (addN b a), mulN (subN d c) (addN d c), mulN (subN b a) (addN b a))
def vals (p : E4) : N4 := (p.1.val, p.2.1.val, p.2.2.1.val, p.2.2.2.val)
theorem plusN_vals (p q : E4) : plusN (vals p) (vals q) = vals (addE p q) := by
  have hd : dd.val = ddN := rfl
  simp only [plusN, vals, addE, mulN, addN, subN, Fin.val_mul, Fin.val_add, Fin.sub_def, hd]
def stepN (V : Nat) (p : N4) (k : Nat) (r : N4) : N4 := bif Nat.beq (V / 2 ^ (255 - k) % 2) 1 then plusN (plusN r r) p else plusN r r
end BJ
namespace Go.Proofs.Ythdfifcgobfgdaa
open Go Go.Ev BJ
theorem stepN_vals (V : Nat) (p : E4) (k : Nat) (r : E4) : stepN V (vals p) k (vals r) = vals (stepE4 V p k r) := by
  unfold stepN stepE4 bitE
  rw [plusN_vals, plusN_vals]
  by_cases h : V / 2 ^ (255 - k) % 2 = 1
  · rw [decide_eq_true h, h]; rfl
  · have e : Nat.beq (V / 2 ^ (255 - k) % 2) 1 = false := by
      cases e : Nat.beq (V / 2 ^ (255 - k) % 2) 1 with
      | false => rfl
      | true => exact absurd (Nat.eq_of_beq_eq_true e) h
    rw [decide_eq_false h, e]; rfl
def zeroN : N4 := (0, 1, 1, 0)
def baseN : N4 := (15112221349535400772501151409588531511454012693041857206046113283949847762202, 46316835694926478169428394003475163141307993866256225615783033603165251855960, 1, 46827403850823179245072216630277197565144205554125654976674165829533817101731)
theorem zeroN_eq : zeroN = vals zeroE := rfl
theorem baseN_eq : baseN = vals (affE baseX baseY) := by decide +kernel
def multN (V : Nat) : N4 := rnds (stepN V baseN) 256 zeroN
theorem multN_vals (V : Nat) : multN V = vals (multE V (affE baseX baseY)) := by
  have key : ∀ k, rnds (stepN V baseN) k zeroN = vals (rnds (stepE4 V (affE baseX baseY)) k zeroE) := by
    intro k
    induction k with
    | zero => exact zeroN_eq
    | succ k ih =>
      simp only [rnds]
      rw [ih, baseN_eq, stepN_vals]
  exact key 256
/-- a multiple of the base, reckoned: its two numbers, by what lies below -/
def isN (V x y : Nat) : Bool := (fun r : N4 => Nat.beq r.1 (mulN x r.2.2.1) && Nat.beq r.2.1 (mulN y r.2.2.1)) (multN V)
theorem isN_pt {V x y : Nat} (hV : V < 2 ^ 256) (hx : x < pp) (hy : y < pp) (h : isN V x y = true) : (nsm V baseP).x.val = x ∧ (nsm V baseP).y.val = y := by
  have hi : IsP (multE V (affE baseX baseY)) (nsm V baseP) := mult_isP hV (isP_aff baseP)
  unfold isN at h
  rw [multN_vals] at h
  generalize multE V (affE baseX baseY) = p at *
  generalize nsm V baseP = P at *
  obtain ⟨h0, h1, h2, _⟩ := hi
  simp only [Bool.and_eq_true] at h
  have e1 : p.1.val = x * p.2.2.1.val % pp := Nat.eq_of_beq_eq_true h.1
  have e2 : p.2.1.val = y * p.2.2.1.val % pp := Nat.eq_of_beq_eq_true h.2
  have f1 : p.1 = (⟨x, hx⟩ : F) * p.2.2.1 := Fin.ext (by rw [e1, Fin.val_mul])
  have f2 : p.2.1 = (⟨y, hy⟩ : F) * p.2.2.1 := Fin.ext (by rw [e2, Fin.val_mul])
  rw [h1] at f1
  rw [h2] at f2
  have c : ∀ {a b : F}, a * p.2.2.1 = b * p.2.2.1 → a = b := fun {a b} e => by
    have h3 : p.2.2.1 * F.inv p.2.2.1 = 1 := F.inv_mul h0
    have e' := congrArg (fun z => z * F.inv p.2.2.1) e
    grobner
  exact ⟨by rw [c f1], by rw [c f2]⟩
def llN : Nat := 7237005577332262213973186563042994240857116359379907606001950938285454250989
theorem order_raw : isN llN 0 1 = true := by decide +kernel
theorem order_zero : nsm llN baseP = BJ.Pt.zero := by
  obtain ⟨h1, h2⟩ := isN_pt (V := llN) (by decide) (by decide) (by decide) order_raw
  exact BJ.Pt.ext' (Fin.ext h1) (Fin.ext h2)
theorem base_ne : baseP ≠ BJ.Pt.zero := fun h => by
  have := congrArg (fun P : BJ.Pt => P.x.val) h
  revert this
  decide
theorem nsm_mul_zero {m : Nat} (h : nsm m baseP = BJ.Pt.zero) (k : Nat) : nsm (k * m) baseP = BJ.Pt.zero := by
  rw [nsm_mul, h, nsm_zero]
theorem order_abs {n a : Nat} (hr : Root n a) (hz : nsm n baseP = BJ.Pt.zero) {m : Nat} (hm : nsm m baseP = BJ.Pt.zero) : m % n = 0 := by
  refine Classical.byContradiction fun h => base_ne ?_
  have hf := hr.fermat h
  have hn := hr.1
  have e : m ^ (n - 1) = m ^ (n - 2) * m := by rw [← Nat.pow_succ]; congr 1; omega
  have h1 : nsm (m ^ (n - 1)) baseP = BJ.Pt.zero := by rw [e]; exact nsm_mul_zero hm _
  have h2 : m ^ (n - 1) = m ^ (n - 1) / n * n + 1 := by
    have := Nat.div_add_mod (m ^ (n - 1)) n
    rw [hf, Nat.mul_comm] at this; exact this.symm
  rw [h2, nsm_add, nsm_mul_zero hz, nsm_one, BJ.Pt.zero_add] at h1
  exact h1
theorem order_dvd {m : Nat} (hm : nsm m baseP = BJ.Pt.zero) : m % llN = 0 := order_abs r7237005577332262213973186563042994240857116359379907606001950938285454250989 order_zero hm
theorem nsm_mod_abs {n : Nat} (hz : nsm n baseP = BJ.Pt.zero) (m : Nat) : nsm (m % n) baseP = nsm m baseP := by
  have h2 : m = m / n * n + m % n := by
    have := Nat.div_add_mod m n
    rw [Nat.mul_comm] at this; exact this.symm
  conv => rhs; rw [h2, nsm_add, nsm_mul_zero hz, BJ.Pt.zero_add]
theorem nsm_mod (m : Nat) : nsm (m % llN) baseP = nsm m baseP := nsm_mod_abs order_zero m
theorem nsm_inj_abs {n a : Nat} (hr : Root n a) (hz : nsm n baseP = BJ.Pt.zero) {k m : Nat} (h1 : k < n) (h2 : m < n) (h : nsm k baseP = nsm m baseP) : k = m := by
  have key : ∀ {k m : Nat}, k < n → m < n → k ≤ m → nsm k baseP = nsm m baseP → k = m := fun {k m} h1 h2 hle h => by
    have e : nsm (m - k) baseP = BJ.Pt.zero := by
      have e1 : m = k + (m - k) := by omega
      rw [e1, nsm_add] at h
      have e2 : (nsm k baseP).add BJ.Pt.zero = (nsm k baseP).add (nsm (m - k) baseP) := by rw [BJ.Pt.add_zero]; exact h
      exact (add_left e2).symm
    have := order_abs hr hz e
    rw [Nat.mod_eq_of_lt (by omega)] at this
    omega
  rcases Nat.le_total k m with h3 | h3
  · exact key h1 h2 h3 h
  · exact (key h2 h1 h3 h.symm).symm
theorem nsm_inj {k m : Nat} (h1 : k < llN) (h2 : m < llN) (h : nsm k baseP = nsm m baseP) : k = m := nsm_inj_abs r7237005577332262213973186563042994240857116359379907606001950938285454250989 order_zero h1 h2 h
end Go.Proofs.Ythdfifcgobfgdaa
end

section
set_option linter.unusedVariables false
set_option linter.unusedSimpArgs false
namespace Go.Proofs.Ythdfifcgobfgdaa
open Go Go.Ev BJ
theorem okV {n : Nat} : ∀ {v : Vec Int n}, OkB v → AllBy v.toList ∧ vd 256 v.toList = valB v := by
  induction n with
  | zero => exact fun {v} _ => ⟨(fun z hz => by cases hz), rfl⟩
  | succ n ih =>
    intro v h
    obtain ⟨h1, h2⟩ := ih h.2
    refine ⟨fun z hz => ?_, ?_⟩
    · rcases List.mem_cons.1 hz with rfl | hz
      · exact h.1
      · exact h1 z hz
    · show v.1 + 256 * vd 256 v.2.toList = v.1 + 256 * valB v.2
      rw [h2]
theorem okB_v32 {l : List Int} (h : okB l) : OkB (v32 l) ∧ valB (v32 l) = vd 256 l := by
  have h1 : OkB (v32 l) := OkB_ofFn fun i _ => InB.getD (by decide) h.2 i
  have := (okV h1).2
  rw [v32_toList h.1] at this
  exact ⟨h1, this.symm⟩
noncomputable def sc (n : List Int) : Nat := (vd 256 n).toNat
theorem rep_multL {n : List Int} (hn : okB n) {p : Pt} {P : BJ.Pt} (hp : Rep p P) : Rep (multL n p) (nsm (sc n) P) := by
  obtain ⟨h1, h2⟩ := okB_v32 hn
  rw [multL_eq, sc, ← h2]; exact rep_mult h1 hp
theorem rep_mbaseL {n : List Int} (hn : okB n) : Rep (mbaseL n) (nsm (sc n) baseP) := rep_multL hn rep_base
theorem rep_twoL {n m : List Int} (hn : okB n) (hm : okB m) {p : Pt} {P : BJ.Pt} (hp : Rep p P) : Rep (twoL n p m) ((nsm (sc n) P).add (nsm (sc m) baseP)) := by
  obtain ⟨h1, h2⟩ := okB_v32 hn
  obtain ⟨h3, h4⟩ := okB_v32 hm
  rw [twoL_eq, sc, sc, ← h2, ← h4]; exact two_rep h1 h3 hp
noncomputable def encQ (P : BJ.Pt) : List Int := (encP P).toList
theorem encQ_ok (P : BJ.Pt) : okB (encQ P) := ⟨Vec.toList_length _, (okV (dec_encP P).1).1⟩
theorem encQ_inj {P Q : BJ.Pt} (h : encQ P = encQ Q) : P = Q := encP_inj (Vec.toList_inj h)
theorem enc_of {p : Pt} {P : BJ.Pt} (h : Rep p P) : encodeL p = encQ P := by unfold encodeL encQ; rw [rep_enc h]
theorem dec_of (P : BJ.Pt) : (decodeL (encQ P)).2 = true ∧ Rep (decodeL (encQ P)).1 P := by
  obtain ⟨h1, h2⟩ := dec_encP P
  obtain ⟨d1, d2, d3⟩ := decode_pt h1
  unfold decodeL encQ
  rw [v32_of]
  refine ⟨by rw [d3, h2], d1, ?_⟩
  rw [d2, h2]; exact isP_aff P
theorem sc_dg {x : Int} (h : 0 ≤ x ∧ x < ll) : sc (dg 256 32 x) = x.toNat := by
  have e : ll < 256 ^ 32 := by decide +kernel
  unfold sc
  rw [vd_dg (by decide), Int.emod_eq_of_lt h.1 (by omega)]
theorem llN_eq : ((llN : Nat) : Int) = ll := rfl
theorem sc_mulB {a b c : List Int} (ha : okB a) (hb : okB b) (hc : okB c) : sc (mulB a b c) = (sc a * sc b + sc c) % llN := by
  unfold mulB
  rw [sc_dg ⟨Int.emod_nonneg _ (by have := ll_pos; omega), Int.emod_lt_of_pos _ ll_pos⟩]
  have h1 := ha.range.1
  have h2 := hb.range.1
  have h3 := hc.range.1
  unfold sc
  obtain ⟨x, hx⟩ := Int.eq_ofNat_of_zero_le h1
  obtain ⟨y, hy⟩ := Int.eq_ofNat_of_zero_le h2
  obtain ⟨z, hz⟩ := Int.eq_ofNat_of_zero_le h3
  rw [hx, hy, hz, ← llN_eq]
  simp only [Int.toNat_natCast]
  rw [← Int.natCast_mul, ← Int.natCast_add, ← Int.natCast_emod, Int.toNat_natCast]
theorem mulB_lt (a b c : List Int) : okB (mulB a b c) ∧ sc (mulB a b c) < llN := by
  refine ⟨⟨dg_length _ _, dg_in (by decide) _ _⟩, ?_⟩
  unfold mulB
  have h1 := Int.emod_nonneg (vd 256 a * vd 256 b + vd 256 c) (show ll ≠ 0 by have := ll_pos; omega)
  have h2 := Int.emod_lt_of_pos (vd 256 a * vd 256 b + vd 256 c) ll_pos
  rw [sc_dg ⟨h1, h2⟩]
  have := llN_eq
  omega
theorem canB_iff {s : List Int} (h : okB s) : canB s = true ↔ sc s < llN := by
  unfold canB sc
  have h1 := h.range.1
  have := llN_eq
  rw [decide_eq_true_iff]
  omega
theorem okB_ext {a b : List Int} (ha : okB a) (hb : okB b) (h : sc a = sc b) : a = b := by
  refine vd_inj (B := 256) (by decide) ha.2 hb.2 (by rw [ha.1, hb.1]) ?_
  unfold sc at h
  have h1 := ha.range.1
  have h2 := hb.range.1
  omega
theorem add_neg_self (P : BJ.Pt) : P.neg.add P = BJ.Pt.zero := by rw [BJ.Pt.add_comm]; exact BJ.Pt.add_neg P
/-- of a signature's first half: a second half is verified just if it is the one that was signed -/
theorem ver_iff {s c m t : List Int} (hc : c.length ≤ 255) (ht : okB t) (hs : s.length = 32) :
    verL (pubL s) c m (encodeL (mbaseL (nonL s c m)) ++ t) = decide (t = mulB (chalL c (encodeL (mbaseL (nonL s c m))) (pubL s) m) (secL s) (nonL s c m)) := by
  have hn : okB (nonL s c m) := redB_ok _
  have hr := rep_mbaseL hn
  have er := enc_of hr
  have ha := rep_mbaseL (secL_ok s)
  have ep : pubL s = encQ (nsm (sc (secL s)) baseP) := enc_of ha
  obtain ⟨d1, d2⟩ := dec_of (nsm (sc (secL s)) baseP)
  rw [← ep] at d1 d2
  have hk : okB (chalL c (encodeL (mbaseL (nonL s c m))) (pubL s) m) := chalL_ok _ _ _ _
  have hrl : (encodeL (mbaseL (nonL s c m))).length = 32 := encodeL_len _
  have t1 : (encodeL (mbaseL (nonL s c m)) ++ t).take 32 = encodeL (mbaseL (nonL s c m)) := by rw [List.take_left' hrl]
  have t2 : (encodeL (mbaseL (nonL s c m)) ++ t).drop 32 = t := by rw [List.drop_left' hrl]
  rw [verL_eq, t1, t2, d1, decide_eq_true hc, Bool.true_and, Bool.true_and]
  have h2 := rep_twoL hk ht (rep_neg d2)
  have e2 := enc_of h2
  rw [e2]
  have hmul := sc_mulB hk (secL_ok s) hn
  obtain ⟨hm1, hm2⟩ := mulB_lt (chalL c (encodeL (mbaseL (nonL s c m))) (pubL s) m) (secL s) (nonL s c m)
  generalize mulB (chalL c (encodeL (mbaseL (nonL s c m))) (pubL s) m) (secL s) (nonL s c m) = z at *
  generalize chalL c (encodeL (mbaseL (nonL s c m))) (pubL s) m = k at *
  rw [er]
  generalize nonL s c m = n at *
  generalize secL s = a at *
  have key : (nsm (sc k) (nsm (sc a) baseP).neg).add (nsm (sc t) baseP) = nsm (sc n) baseP ↔ nsm (sc t) baseP = nsm (sc z) baseP := by
    have e3 : nsm (sc z) baseP = (nsm (sc k) (nsm (sc a) baseP)).add (nsm (sc n) baseP) := by
      rw [hmul, nsm_mod, nsm_add, nsm_mul]
    rw [e3, nsm_neg]
    generalize nsm (sc k) (nsm (sc a) baseP) = X
    constructor
    · intro h
      rw [← h, ← BJ.Pt.add_assoc, BJ.Pt.add_neg, BJ.Pt.zero_add]
    · intro h
      rw [h, ← BJ.Pt.add_assoc, add_neg_self, BJ.Pt.zero_add]
  by_cases h : t = z
  · subst h
    rw [decide_eq_true rfl, (canB_iff ht).2 hm2, key.2 rfl]
    simp
  · rw [decide_eq_false h]
    cases hcan : canB t with
    | false => rfl
    | true =>
      rw [Bool.true_and]
      refine decide_eq_false fun h' => h ?_
      exact okB_ext ht hm1 (nsm_inj ((canB_iff ht).1 hcan) hm2 (key.1 (encQ_inj h')))
theorem sig_half (s c m : List Int) : okB ((sigL s c m).drop 32) ∧ (sigL s c m).length = 64 ∧ AllBy (sigL s c m) := by
  unfold sigL
  have e := rep_mbaseL (show okB (nonL s c m) from redB_ok _)
  have h1 := encQ_ok (nsm (sc (nonL s c m)) baseP)
  rw [← enc_of e] at h1
  have h2 := (mulB_lt (chalL c (encodeL (mbaseL (nonL s c m))) (pubL s) m) (secL s) (nonL s c m)).1
  rw [List.drop_left' h1.1]
  exact ⟨h2, by rw [List.length_append, h1.1, h2.1], h1.2.append h2.2⟩
/-- of what was signed: another second half -/
theorem ver_half {s c m t : List Int} (hc : c.length ≤ 255) (ht : okB t) (hs : s.length = 32) : verL (pubL s) c m ((sigL s c m).take 32 ++ t) = decide (t = (sigL s c m).drop 32) := by
  unfold sigL
  have hrl : (encodeL (mbaseL (nonL s c m))).length = 32 := encodeL_len _
  rw [List.take_left' hrl, List.drop_left' hrl]
  exact ver_iff hc ht hs
theorem ver_sig {s c m : List Int} (hc : c.length ≤ 255) (hs : s.length = 32) : verL (pubL s) c m (sigL s c m) = true := by
  have := ver_half (m := m) hc (sig_half s c m).1 hs
  rw [List.take_append_drop] at this
  rw [this]; exact decide_eq_true rfl
theorem ver_long {p c m g : List Int} (hc : ¬ c.length ≤ 255) : verL p c m g = false := by
  rw [verL_eq, decide_eq_false hc, Bool.false_and, Bool.and_false]
end Go.Proofs.Ythdfifcgobfgdaa
end

section
set_option linter.unusedVariables false
set_option linter.unusedSimpArgs false
namespace Go.Proofs.Ythdfifcgobfgdaa
open Go Go.Ev BJ
set_option maxRecDepth 1000000
abbrev iA : Cod (List LV) (Int × Unit) := lCons (vOne (sInt .i64)) lNil
noncomputable def num14E : Ent := Ent.ofS [] (iA) (lNil) fun x_ y_ => (fun (x : Int) => .leaf none (nI x) []) x_.1
theorem num14_tree (x : Int) : fnT Try.prog [] [] Try.f25 ((iA).wr (x, ())) ((lNil).wr ()) [.fr [.sym], .auto] = .leaf (nI x) ([]) := by kernel_rfl
theorem num14_ok : num14E.Ok Try.prog 25 := by
  refine (Ent.ofOk Try.call25 fun x_ y_ Q H_ => ?_).sym
  obtain ⟨x, _⟩ := x_
  have hq := H_.2
  refine (fnT_ok mixed tab0 Try.func25 rfl (LT := []) (ks := [.fr [.sym], .auto]) (LOk.nil _)).use (D := []) ?_ hq
  show (fnT _ _ _ _ ((iA).wr (x, ())) ((lNil).wr ()) _).sat _
  rw [num14_tree]
  exact ⟨rfl, rfl⟩
abbrev trueE : Ent := Ent.of [] lNil lNil fun _ _ => .leaf none (.one (.sc (.bool (.lit true)))) []
noncomputable abbrev edTab (sign : List Int → List Int → List Int → List Int × Int) (ver : List Int → List Int → List Int → List Int → Bool) (pub pre : List Int → List Int) : List (FuncId × Ent) := [(24, eSi sign), (26, eVe ver), (27, ePub pub), (25, num14E), (28, ePre pre)]
noncomputable abbrev edTab' (sign : List Int → List Int → List Int → List Int × Int) (ver : List Int → List Int → List Int → List Int → Bool) (pub pre : List Int → List Int) : List (FuncId × Ent) := (23, trueE) :: edTab sign ver pub pre
theorem edTab_ok : ∀ p ∈ edTab signL verL pubL preL, p.2.Ok Try.prog p.1 := tabC sign_ok (tabC verify_ok (tabC pub_ok (tabC num14_ok (tabC pre_ok tab0))))
/-- what is known of signatures -/
structure EdH (sign : List Int → List Int → List Int → List Int × Int) (ver : List Int → List Int → List Int → List Int → Bool) (pub pre : List Int → List Int) : Prop where
  ok : ∀ s c m, c.length ≤ 255 → (sign s c m).2 = 0
  long : ∀ s c m, ¬ c.length ≤ 255 → sign s c m = (List.replicate 64 0, 1)
  len : ∀ s c m, (sign s c m).1.length = 64
  by_ : ∀ s c m, AllBy (sign s c m).1
  publ : ∀ s, (pub s).length = 32
  back : ∀ s c m, c.length ≤ 255 → s.length = 32 → ver (pub s) c m (sign s c m).1 = true
  no : ∀ p c m g, ¬ c.length ≤ 255 → ver p c m g = false
  prel : ∀ c, (pre c).length = if c.length ≤ 255 then 34 + c.length else 0
theorem edH : EdH signL verL pubL preL where
  ok s c m h := by rw [signL_eq, if_pos h]
  long s c m h := by rw [signL_eq, if_neg h]
  len s c m := by rw [signL_eq]; split; exact (sig_half s c m).2.1; simp
  by_ s c m := by rw [signL_eq]; split; exact (sig_half s c m).2.2; exact InB.zeros (by decide) 64
  publ s := pubL_len s
  back s c m h hs := by rw [signL_eq, if_pos h]; exact ver_sig h hs
  no p c m g h := ver_long h
  prel c := by unfold preL domL; split <;> simp; omega
theorem ealive_tree0 (sign : List Int → List Int → List Int → List Int × Int) (ver : List Int → List Int → List Int → List Int → Bool) (pub pre : List Int → List Int) : fnT Try.prog (edTab sign ver pub pre) [] Try.f23 [] [] [.auto] =
    End.need ((32 : Nat) = (32 : Nat) ∧ (64 : Nat) = (64 : Nat))
      (End.ite
        (((sign
                [(1 : Int), (0 : Int), (0 : Int), (0 : Int), (0 : Int), (0 : Int), (0 : Int), (0 : Int), (0 : Int),
                  (0 : Int), (0 : Int), (0 : Int), (0 : Int), (0 : Int), (0 : Int), (0 : Int), (0 : Int), (0 : Int),
                  (0 : Int), (0 : Int), (0 : Int), (0 : Int), (0 : Int), (0 : Int), (0 : Int), (0 : Int), (0 : Int),
                  (0 : Int), (0 : Int), (0 : Int), (0 : Int), (0 : Int)]
                [] ((List.replicate (64 : Nat) (0 : Int)).set (0 : Nat) (2 : Int))).snd ==
            (0 : Int)) ==
          true)
        (End.need ((32 : Nat) = (32 : Nat))
          (End.need
            ((pub
                    [(1 : Int), (0 : Int), (0 : Int), (0 : Int), (0 : Int), (0 : Int), (0 : Int), (0 : Int), (0 : Int),
                      (0 : Int), (0 : Int), (0 : Int), (0 : Int), (0 : Int), (0 : Int), (0 : Int), (0 : Int), (0 : Int),
                      (0 : Int), (0 : Int), (0 : Int), (0 : Int), (0 : Int), (0 : Int), (0 : Int), (0 : Int), (0 : Int),
                      (0 : Int), (0 : Int), (0 : Int), (0 : Int), (0 : Int)]).length =
                (32 : Nat) ∧
              (64 : Nat) = (64 : Nat) ∧
                (sign
                          [(1 : Int), (0 : Int), (0 : Int), (0 : Int), (0 : Int), (0 : Int), (0 : Int), (0 : Int),
                            (0 : Int), (0 : Int), (0 : Int), (0 : Int), (0 : Int), (0 : Int), (0 : Int), (0 : Int),
                            (0 : Int), (0 : Int), (0 : Int), (0 : Int), (0 : Int), (0 : Int), (0 : Int), (0 : Int),
                            (0 : Int), (0 : Int), (0 : Int), (0 : Int), (0 : Int), (0 : Int), (0 : Int), (0 : Int)]
                          [] ((List.replicate (64 : Nat) (0 : Int)).set (0 : Nat) (2 : Int))).fst.length =
                    (64 : Nat) ∧
                  AllBy
                    (sign
                        [(1 : Int), (0 : Int), (0 : Int), (0 : Int), (0 : Int), (0 : Int), (0 : Int), (0 : Int), (0 : Int),
                          (0 : Int), (0 : Int), (0 : Int), (0 : Int), (0 : Int), (0 : Int), (0 : Int), (0 : Int), (0 : Int),
                          (0 : Int), (0 : Int), (0 : Int), (0 : Int), (0 : Int), (0 : Int), (0 : Int), (0 : Int), (0 : Int),
                          (0 : Int), (0 : Int), (0 : Int), (0 : Int), (0 : Int)]
                        [] ((List.replicate (64 : Nat) (0 : Int)).set (0 : Nat) (2 : Int))).fst)
            (End.leaf
              (LV.one
                (VV.sc
                  (SV.bool
                    (SB.sym
                      (ver
                        (pub
                          [(1 : Int), (0 : Int), (0 : Int), (0 : Int), (0 : Int), (0 : Int), (0 : Int), (0 : Int),
                            (0 : Int), (0 : Int), (0 : Int), (0 : Int), (0 : Int), (0 : Int), (0 : Int), (0 : Int),
                            (0 : Int), (0 : Int), (0 : Int), (0 : Int), (0 : Int), (0 : Int), (0 : Int), (0 : Int),
                            (0 : Int), (0 : Int), (0 : Int), (0 : Int), (0 : Int), (0 : Int), (0 : Int), (0 : Int)])
                        [] ((List.replicate (64 : Nat) (0 : Int)).set (0 : Nat) (2 : Int))
                        (sign
                            [(1 : Int), (0 : Int), (0 : Int), (0 : Int), (0 : Int), (0 : Int), (0 : Int), (0 : Int),
                              (0 : Int), (0 : Int), (0 : Int), (0 : Int), (0 : Int), (0 : Int), (0 : Int), (0 : Int),
                              (0 : Int), (0 : Int), (0 : Int), (0 : Int), (0 : Int), (0 : Int), (0 : Int), (0 : Int),
                              (0 : Int), (0 : Int), (0 : Int), (0 : Int), (0 : Int), (0 : Int), (0 : Int), (0 : Int)]
                            [] ((List.replicate (64 : Nat) (0 : Int)).set (0 : Nat) (2 : Int))).fst)))))
              [])))
        (End.leaf (LV.one (VV.sc (SV.bool (SB.lit false)))) [])) := by kernel_rfl
theorem ealive_sat {sign : List Int → List Int → List Int → List Int × Int} {ver : List Int → List Int → List Int → List Int → Bool} {pub pre : List Int → List Int} (h : EdH sign ver pub pre) :
    ∃ t_ : Ev.End, fnT Try.prog (edTab sign ver pub pre) [] Try.f23 [] [] [.auto] = t_ ∧ t_.sat fun v hp' => (∀ β L val, v.den β L val → (LV.one (.sc (.bool (.lit true)))).den β L val) ∧ hp' = applyD [] [] := by
  refine ⟨_, ealive_tree0 .., ?_⟩
  rw [h.ok _ _ _ (by decide), h.back _ _ _ (by decide) rfl]
  exact ⟨⟨rfl, rfl⟩, fun _ => ⟨rfl, ⟨h.publ _, rfl, h.len _ _ _, h.by_ _ _ _⟩, fun β L val hv => hv, rfl⟩, fun h => absurd h (by decide)⟩
theorem ealive_ok : trueE.Ok Try.prog 23 := by
  refine Ent.ofOk Try.call23 fun x y Q h => ?_
  have hc : CallsT Try.prog 23 [] [] (fnT Try.prog (edTab signL verL pubL preL) [] Try.f23 [] [] [.auto]) := fnT_ok mixed edTab_ok Try.func23 rfl (LOk.nil _)
  obtain ⟨t, ht, hs⟩ := ealive_sat edH
  rw [ht] at hc
  exact hc.useD (D := []) hs h.2
theorem edTab'_ok : ∀ p ∈ edTab' signL verL pubL preL, p.2.Ok Try.prog p.1 := tabC ealive_ok edTab_ok
end Go.Proofs.Ythdfifcgobfgdaa
end
