/- SHA-512: the document's sums. -/
import Derived.Test.YtdpbkfmjknmmnaaS4
set_option linter.unusedVariables false
set_option linter.unusedSimpArgs false
namespace Go.Proofs.Ytdpbkfmjknmmnaa
open Go Go.Ev
set_option maxRecDepth 100000
noncomputable def rhighE : Ent := Ent.ofS [] ((lCons (vOne (sInt .u64)) lNil)) (lNil) fun x_ y_ => (fun (x : Int) => .leaf none (.one (.sc (.sl 0 0))) [(0, .own 0 u8 (eightF x))]) x_.1 
theorem rhigh_tree (x : Int) : fnT Try.prog [] [] Try.f63 (((lCons (vOne (sInt .u64)) lNil)).wr (x, ())) ((lNil).wr ()) [.auto, .vers] =
    End.need
      ((8 : Int) = (8 : Int) ∧
        (0 : Int) ≤ (8 : Int) ∧ (8 : Int) ≤ (70368744177664 : Int) ∧ (8 : Int) ≤ (70368744177664 : Int))
      (End.need ((0 : Int) ≤ (0 : Int) ∧ (0 : Int) < (8 : Int))
        (End.need ((0 : Int) ≤ (1 : Int) ∧ (1 : Int) < (8 : Int))
          (End.need ((0 : Int) ≤ (2 : Int) ∧ (2 : Int) < (8 : Int))
            (End.need ((0 : Int) ≤ (3 : Int) ∧ (3 : Int) < (8 : Int))
              (End.need ((0 : Int) ≤ (4 : Int) ∧ (4 : Int) < (8 : Int))
                (End.need ((0 : Int) ≤ (5 : Int) ∧ (5 : Int) < (8 : Int))
                  (End.need ((0 : Int) ≤ (6 : Int) ∧ (6 : Int) < (8 : Int))
                    (End.need ((0 : Int) ≤ (7 : Int) ∧ (7 : Int) < (8 : Int))
                      (End.leaf (LV.one (VV.sc (SV.sl (0 : Nat) (0 : Nat))))
                        [some
                            (Item.own (0 : Nat) (Ty.int IntKind.u8)
                              (((((((((List.replicate (8 : Nat) (0 : Int)).set (0 : Nat)
                                                            (IntKind.u8.wrap (shr IntKind.u64 x (56 : Int)))).set
                                                        (1 : Nat) (IntKind.u8.wrap (shr IntKind.u64 x (48 : Int)))).set
                                                    (2 : Nat) (IntKind.u8.wrap (shr IntKind.u64 x (40 : Int)))).set
                                                (3 : Nat) (IntKind.u8.wrap (shr IntKind.u64 x (32 : Int)))).set
                                            (4 : Nat) (IntKind.u8.wrap (shr IntKind.u64 x (24 : Int)))).set
                                        (5 : Nat) (IntKind.u8.wrap (shr IntKind.u64 x (16 : Int)))).set
                                    (6 : Nat) (IntKind.u8.wrap (shr IntKind.u64 x (8 : Int)))).set
                                (7 : Nat) (IntKind.u8.wrap (shr IntKind.u64 x (0 : Int)))))]))))))))) := by kernel_rfl
theorem rhigh_ok : rhighE.Ok Try.prog 63 := by
  refine (Ent.ofOk Try.call63 fun x_ y_ Q H_ => ?_).sym
  obtain ⟨x, _⟩ := x_
  have hq := H_.2
  refine (fnT_ok mixed tab0 Try.func63 rfl (LT := []) (ks := [.auto, .vers]) (LOk.nil _)).use (D := [(0, .own 0 u8 (eightF x))]) ?_ hq
  show (fnT _ _ _ _ (((lCons (vOne (sInt .u64)) lNil)).wr (x, ())) ((lNil).wr ()) _).sat _
  rw [rhigh_tree]
  exact ⟨by omega, by omega, by omega, by omega, by omega, by omega, by omega, by omega, by omega, rfl, rfl⟩
noncomputable abbrev rovFn : Func := Try.f65
noncomputable abbrev rovTab : List (FuncId × Ent) := [(70, rwordsE), (71, rstepE)]
theorem rovTab_ok : ∀ p ∈ rovTab, p.2.Ok Try.prog p.1 := tabC rwords_ok (tabC rstep_ok tab0)
abbrev rovA : Cod (List LV) (List Int × List Int × Unit) := lCons (vRow .u64 8) (lCons (vOne (sRd false false u8)) lNil)
abbrev ovC : Cod (List LV) (List Int × Unit) := (jk 1 (lCons (vOne (sRd false false u8)) (lSkip (vOne (sPtr 0 0)) (jk 1 (lSkip (vOne (sPtr 1 0)) (jk 17 lNil))))))
abbrev ovCf : Wk := .fr (fmS 22 [(1, .keep), (2, .keep), (4, .keep)])
abbrev ovX : Cod (List LV) (Unit) := (jk 2 (lSkip (vOne (sPtr 0 0)) (jk 1 (lSkip (vOne (sPtr 1 0)) (jk 17 lNil)))))
abbrev ovXf : Wk := .fr (fmS 22 [(2, .keep), (4, .keep)])
abbrev ovH : Cod Hp (List Int × List Int × Unit) := lCons (iRow 87 .u64 8) (lCons (iRow 87 .u64 8) lNil)
def ovW : Exit → List Wk
  | .normal => [ovCf, .auto]
  | .exit 0 => [ovXf, .auto]
  | _ => []
theorem ov_rnd (b s r : List Int) : rndT Try.prog rovTab [] rovFn 0 [] ovW ((stC ovC ovH).wr ((b, ()), (s, r, ()))) =
    Res.ite (decide ((128 : Int) ≤ (↑b.length : Int)))
      (Res.need ((0 : Int) ≤ (0 : Int) ∧ (0 : Int) ≤ (128 : Int) ∧ (128 : Int) ≤ (↑b.length : Int))
        (Res.need ((List.take (128 : Nat) (List.drop (0 : Nat) b)).length = (128 : Nat))
          (Res.need (s.length = (8 : Nat) ∧ (16 : Nat) = (16 : Nat))
            (Res.need ((0 : Int) ≤ (128 : Int) ∧ (128 : Int) ≤ (↑b.length : Int) ∧ (↑b.length : Int) ≤ (↑b.length : Int))
              (Res.leaf Exit.normal
                ((stC ovC ovH).wr
                  ((List.take ((↑b.length : Int) - (128 : Int)).toNat (List.drop (128 : Nat) b), PUnit.unit),
                    stepF s (wordsF (List.take (128 : Nat) (List.drop (0 : Nat) b))), r, PUnit.unit)))))))
      (Res.leaf (Exit.exit (0 : Nat)) ((stC ovX ovH).wr (PUnit.unit, s, r, PUnit.unit))) := by kernel_rfl
def overN : Nat → List Int → List Int → List Int
  | 0, s, _ => s
  | k + 1, s, b => overN k (stepF s (wordsF (b.take 128))) (b.drop 128)
/-- the steps of all whole rows of 128 -/
def overF (s b : List Int) : List Int := overN (b.length / 128) s b
theorem overF_step {s b : List Int} (h : 128 ≤ b.length) : overF s b = overF (stepF s (wordsF (b.take 128))) (b.drop 128) := by
  unfold overF
  have e : b.length / 128 = (b.drop 128).length / 128 + 1 := by rw [List.length_drop]; omega
  rw [e]; rfl
theorem overF_end {s b : List Int} (h : b.length < 128) : overF s b = s := by
  unfold overF
  rw [show b.length / 128 = 0 from by omega]; rfl
noncomputable def ovF (x : (List Int × Unit) × List Int × List Int × Unit) : Res :=
  .need (x.2.1.length = 8) (.leaf (.exit 0) ((stC ovX ovH).wr ((), (overF x.2.1 x.1.1, x.2.2.1, ()))))
theorem ov_loop (x) : Ex Try.prog [] (.loop (loopAt rovFn 0)) ((stC ovC ovH).wr x) (ovF x) := by
  obtain ⟨⟨b, _⟩, s, r, _⟩ := x
  refine Ex.need fun h1 => ?_
  simp only at h1
  refine loopR mixed rovTab_ok (LT := []) (ws := ovW) (hp := []) (LOk.nil _) (fun x : List Int × List Int => x.1.length) (fun x : List Int × List Int => (stC ovC ovH).wr ((x.1, ()), (x.2, r, ()))) (fun x => x.2.length = 8)
    (fun x => .leaf (.exit 0) ((stC ovX ovH).wr ((), (overF x.2 x.1, r, ())))) (fun x _ => ov_rnd x.1 x.2 r) (fun x R hh hs => ?_) (b, s) h1
  obtain ⟨b, s⟩ := x
  simp only at hh hs ⊢
  refine ⟨fun hb => ?_, fun hb => ?_⟩
  · have hb' : 128 ≤ b.length := by have := of_decide_eq_true hb; omega
    have e1 : List.take 128 (List.drop 0 b) = b.take 128 := by rw [List.drop_zero]
    have e2 : List.take ((b.length : Int) - 128).toNat (List.drop 128 b) = b.drop 128 := by rw [List.take_of_length_le (by simp; omega)]
    rw [e1, e2]
    rw [overF_step hb'] at hs
    exact ⟨by omega, by simp; omega, ⟨hh, trivial⟩, by omega, .inl ⟨rfl, (b.drop 128, stepF s (wordsF (b.take 128))), rfl, step_length _ _, by simp; omega, hs⟩⟩
  · have hb' : b.length < 128 := by have := of_decide_eq_false hb; omega
    rw [overF_end hb'] at hs
    exact .inr ⟨by simp, hs⟩
noncomputable abbrev ovLT : LTab := [(0, loopF (stC ovC ovH) 0 [ovCf, .rowB 1 0 8 .u64, .auto] ovF)]
noncomputable def roverE : Ent := Ent.ofS [none, some u8] (rovA) (lNil) fun x_ y_ => (fun (s b : List Int) => .leaf (some (s.length = 8)) (nRow .u64 8 (overF s b)) []) x_.1 x_.2.1 
theorem rover_tree (s b : List Int) : fnT Try.prog rovTab ovLT Try.f65 ((rovA).wr (s, b, ())) ((lNil).wr ()) [.fr [.sym], .auto] =
    End.need (s.length = (8 : Nat)) (End.leaf (LV.one (VV.agg [SV.arr (Ty.int IntKind.u64) (8 : Nat) (overF s b)])) []) := by kernel_rfl
theorem rover_ok : roverE.Ok Try.prog 65 := by
  refine (Ent.ofOk Try.call65 fun x_ y_ Q H_ => ?_).sym
  obtain ⟨s, b, _⟩ := x_
  obtain ⟨hn, hq⟩ := H_
  have hn : s.length = 8 := hn
  refine (fnT_ok mixed rovTab_ok Try.func65 rfl (LT := ovLT) (ks := [.fr [.sym], .auto]) (LOk.ofTab (LTC rfl (loopF_ok (hp := []) ov_loop) LT0))).use (D := []) ?_ hq
  show (fnT _ _ _ _ ((rovA).wr (s, b, ())) ((lNil).wr ()) _).sat _
  rw [rover_tree]
  exact ⟨hn, rfl, rfl⟩
noncomputable def rbytesE : Ent := Ent.ofS [] ((lCons (vRow .u64 8) lNil)) (lNil) fun x_ y_ => (fun (s : List Int) => .leaf none (.one (.sc (.sl 0 0))) [(0, .own 0 u8 (numbersF s))]) x_.1 
theorem rbytes_tree (s : List Int) : fnT Try.prog [(63, rhighE)] [] Try.f69 (((lCons (vRow .u64 8) lNil)).wr (s, ())) ((lNil).wr ()) [.auto, .vers] =
    End.need ((8 : Nat) ≤ (70368744177664 : Nat) ∧ (8 : Nat) ≤ (70368744177664 : Nat))
      (End.need ((16 : Nat) ≤ (70368744177664 : Nat) ∧ (16 : Nat) ≤ (70368744177664 : Nat))
        (End.need ((24 : Nat) ≤ (70368744177664 : Nat) ∧ (24 : Nat) ≤ (70368744177664 : Nat))
          (End.need ((32 : Nat) ≤ (70368744177664 : Nat) ∧ (32 : Nat) ≤ (70368744177664 : Nat))
            (End.need ((40 : Nat) ≤ (70368744177664 : Nat) ∧ (40 : Nat) ≤ (70368744177664 : Nat))
              (End.need ((48 : Nat) ≤ (70368744177664 : Nat) ∧ (48 : Nat) ≤ (70368744177664 : Nat))
                (End.need ((56 : Nat) ≤ (70368744177664 : Nat) ∧ (56 : Nat) ≤ (70368744177664 : Nat))
                  (End.need ((64 : Nat) ≤ (70368744177664 : Nat) ∧ (64 : Nat) ≤ (70368744177664 : Nat))
                    (End.leaf (LV.one (VV.sc (SV.sl (0 : Nat) (0 : Nat))))
                      [some
                          (Item.own (0 : Nat) (Ty.int IntKind.u8)
                            (eightF (s.getD (0 : Nat) (0 : Int)) ++ eightF (s.getD (1 : Nat) (0 : Int)) ++
                                        eightF (s.getD (2 : Nat) (0 : Int)) ++
                                      eightF (s.getD (3 : Nat) (0 : Int)) ++
                                    eightF (s.getD (4 : Nat) (0 : Int)) ++
                                  eightF (s.getD (5 : Nat) (0 : Int)) ++
                                eightF (s.getD (6 : Nat) (0 : Int)) ++
                              eightF (s.getD (7 : Nat) (0 : Int))))])))))))) := by kernel_rfl
theorem rbytes_ok : rbytesE.Ok Try.prog 69 := by
  refine (Ent.ofOk Try.call69 fun x_ y_ Q H_ => ?_).sym
  obtain ⟨s, _⟩ := x_
  have hq := H_.2
  refine (fnT_ok mixed ((tabC rhigh_ok tab0)) Try.func69 rfl (LT := []) (ks := [.auto, .vers]) (LOk.nil _)).use (D := [(0, .own 0 u8 (numbersF s))]) ?_ hq
  show (fnT _ _ _ _ (((lCons (vRow .u64 8) lNil)).wr (s, ())) ((lNil).wr ()) _).sat _
  rw [rbytes_tree]
  exact ⟨by omega, by omega, by omega, by omega, by omega, by omega, by omega, by omega, rfl, rfl⟩
noncomputable abbrev flFn : Func := Try.f64
abbrev flC : Cod (List LV) (Int × Unit) := (jk 2 (lSkip (vOne (sPtr 0 0)) (lSkip (vOne (sPtr 1 0)) (lSkip (vOne (sSl 2 0)) (lCons (vOne (sInt .i64)) (jk 14 lNil))))))
abbrev flCf : Wk := .fr (fmS 20 [(2, .keep), (3, .keep), (4, .keep), (5, .sym)])
abbrev flX : Cod (List LV) (Unit) := (jk 2 (lSkip (vOne (sPtr 0 0)) (lSkip (vOne (sPtr 1 0)) (jk 16 lNil))))
abbrev flXf : Wk := .fr (fmS 20 [(2, .keep), (3, .keep)])
abbrev flH : Cod Hp (List Int × List Int × List Int × Unit) := lCons (iRow 25 .u8 64) (lCons (iRow 25 .u8 64) (lCons (iOwn 0 u8) lNil))
abbrev flHX : Cod Hp (List Int × List Int × Unit) := lCons (iRow 25 .u8 64) (lCons (iRow 25 .u8 64) lNil)
def flW : Exit → List Wk
  | .normal => [flCf, .auto]
  | .exit 0 => [flXf, .auto]
  | _ => []
theorem fl_rnd (i : Int) (r o b : List Int) : rndT Try.prog [] [] flFn 0 [] flW ((stC flC flH).wr ((i, ()), (r, o, b, ()))) =
    Res.ite (decide (i < (64 : Int)))
      (Res.need ((0 : Int) ≤ i ∧ i < (↑b.length : Int))
        (Res.need ((0 : Int) ≤ i ∧ i < (64 : Int))
          (Res.leaf Exit.normal
            ((stC flC flH).wr
              ((IntKind.i64.wrap (i + (1 : Int)), PUnit.unit), r, o.set ((0 : Nat) + i.toNat) (b.getD i.toNat (0 : Int)), b,
                PUnit.unit)))))
      (Res.leaf (Exit.exit (0 : Nat)) ((stC flX flHX).wr (PUnit.unit, r, o, PUnit.unit))) := by kernel_rfl
noncomputable def flF (x : (Int × Unit) × List Int × List Int × List Int × Unit) : Res :=
  .need (x.1.1 = 0 ∧ x.2.2.1.length = 64 ∧ x.2.2.2.1.length = 64) (.leaf (.exit 0) ((stC flX flHX).wr ((), (x.2.1, x.2.2.2.1, ()))))
theorem fl_loop (x) : Ex Try.prog [] (.loop (loopAt flFn 0)) ((stC flC flH).wr x) (flF x) := by
  obtain ⟨⟨i, _⟩, r, o, b, _⟩ := x
  refine Ex.need fun ⟨h1, h2, h3⟩ => ?_
  simp only at h1 h2 h3
  subst h1
  have key := loopUp (fn := flFn) (id := 0) (j := 0) (ws := flW) (hp := []) mixed tab0 (LOk.nil _) 64 (fun k o => (stC flC flH).wr (((k : Int), ()), (r, o, b, ()))) (fun o => (stC flX flHX).wr ((), (r, o, ()))) (fun k o => o.set k (b.getD k 0)) (fun _ o => o.length = 64)
    (fun k o R hk hm hn hx => ?_) (fun k o hk hh => by simpa using hh) 0 o (by omega) h2
  · rw [Nat.sub_zero, upto_fill _ h2, map_getD h3] at key; exact key
  rw [fl_rnd]
  refine ⟨fun hb => ?_, fun hb => ?_⟩
  · have hk' : k < 64 := by have := of_decide_eq_true hb; omega
    rw [wrap_succ k (by omega)]
    simp only [Int.toNat_natCast, Nat.zero_add]
    exact ⟨by omega, by omega, hn hk'⟩
  · have : k = 64 := by have := of_decide_eq_false hb; omega
    exact hx this
noncomputable abbrev flLT : LTab := [(0, loopF (stC flC flH) 0 [flCf, .auto, .vers] flF)]
noncomputable abbrev flTab : List (FuncId × Ent) := [(69, rbytesE)]
theorem flTab_ok : ∀ p ∈ flTab, p.2.Ok Try.prog p.1 := tabC rbytes_ok tab0
noncomputable def rflatE : Ent := Ent.ofS [] ((lCons (vRow .u64 8) lNil)) (lNil) fun x_ y_ => (fun (s : List Int) => .leaf none (nRow .u8 64 (numbersF s)) []) x_.1 
theorem rflat_tree (s : List Int) : fnT Try.prog flTab flLT Try.f64 (((lCons (vRow .u64 8) lNil)).wr (s, ())) ((lNil).wr ()) [.fr [.sym], .auto] =
    End.need ((0 : Int) = (0 : Int) ∧ (64 : Nat) = (64 : Nat) ∧ (64 : Nat) = (64 : Nat))
      (End.leaf (LV.one (VV.agg [SV.arr (Ty.int IntKind.u8) (64 : Nat) (numbersF s)])) []) := by kernel_rfl
theorem rflat_ok : rflatE.Ok Try.prog 64 := by
  refine (Ent.ofOk Try.call64 fun x_ y_ Q H_ => ?_).sym
  obtain ⟨s, _⟩ := x_
  have hq := H_.2
  refine (fnT_ok mixed flTab_ok Try.func64 rfl (LT := flLT) (ks := [.fr [.sym], .auto]) (LOk.ofTab (LTC rfl (loopF_ok (hp := []) fl_loop) LT0))).use (D := []) ?_ hq
  show (fnT _ _ _ _ (((lCons (vRow .u64 8) lNil)).wr (s, ())) ((lNil).wr ()) _).sat _
  rw [rflat_tree]
  exact ⟨⟨rfl, rfl, rfl⟩, rfl, rfl⟩
noncomputable abbrev roFn : Func := Try.f53
noncomputable abbrev roTab : List (FuncId × Ent) := [(63, rhighE), (66, rbeginE), (65, roverE), (64, rflatE)]
abbrev roC : Cod (List LV) (List Int × Unit) := (lCons (vOne (sRd false false u8)) (jk 1 (lSkip (vOne (sPtr 0 0)) (lSkip (vOne (sSl 1 0)) (jk 23 lNil)))))
abbrev roCf : Wk := .fr (fmS 27 [(0, .keep), (2, .keep), (3, .keep)])
abbrev roH : Cod Hp (List Int × List Int × Unit) := lCons (iRow 25 .u8 64) (lCons (iOwn 0 u8) lNil)
def roW : Exit → List Wk
  | .normal => [roCf, .auto, .vers]
  | .exit 0 => [roCf, .auto, .vers]
  | _ => []
theorem ro_rnd (b r l : List Int) : rndT Try.prog roTab [] roFn 0 [] roW ((stC roC roH).wr ((b, ()), (r, l, ()))) =
    Res.ite ((↑l.length : Int).tmod (128 : Int) != (112 : Int))
      (Res.need
        ((l.length + (1 : Nat)) * (1 : Nat) ≤ (70368744177664 : Nat) ∧ l.length + (1 : Nat) ≤ (70368744177664 : Nat))
        (Res.leaf Exit.normal ((stC roC roH).wr ((b, PUnit.unit), r, l ++ [(0 : Int)], PUnit.unit))))
      (Res.leaf (Exit.exit (0 : Nat)) ((stC roC roH).wr ((b, PUnit.unit), r, l, PUnit.unit))) := by kernel_rfl
theorem roTab_ok : ∀ p ∈ roTab, p.2.Ok Try.prog p.1 := tabC rhigh_ok (tabC rbegin_ok (tabC rover_ok (tabC rflat_ok tab0)))
def padL (l : List Int) : List Int := l ++ List.replicate ((112 - (l.length : Int)) % 128).toNat 0
theorem padL_step {l : List Int} (hz : ¬ (l.length : Int) % 128 = 112) : padL (l ++ [0]) = padL l ∧ ((112 - ((l ++ [0]).length : Int)) % 128).toNat < ((112 - (l.length : Int)) % 128).toNat := by
  have e1 : ((l ++ [(0 : Int)]).length : Int) = l.length + 1 := by simp
  have e2 : ((112 - (l.length : Int)) % 128).toNat = ((112 - ((l ++ [(0 : Int)]).length : Int)) % 128).toNat + 1 := by rw [e1]; omega
  refine ⟨?_, by omega⟩
  unfold padL
  rw [e2, List.replicate_succ]
  simp
theorem padL_end {l : List Int} (hz : (l.length : Int) % 128 = 112) : padL l = l := by
  have e : ((112 - (l.length : Int)) % 128).toNat = 0 := by omega
  unfold padL; rw [e]; simp
noncomputable def roF (x : (List Int × Unit) × List Int × List Int × Unit) : Res :=
  .need (x.2.2.1.length ≤ 35184372088832) (.leaf (.exit 0) ((stC roC roH).wr (x.1, (x.2.1, padL x.2.2.1, ()))))
theorem ro_loop (x) : Ex Try.prog [] (.loop (loopAt roFn 0)) ((stC roC roH).wr x) (roF x) := by
  obtain ⟨⟨b, _⟩, r, l, _⟩ := x
  refine Ex.need fun h1 => ?_
  simp only at h1
  refine loopR mixed roTab_ok (LT := []) (ws := roW) (hp := []) (LOk.nil _) (fun l : List Int => ((112 - (l.length : Int)) % 128).toNat) (fun l : List Int => (stC roC roH).wr ((b, ()), (r, l, ()))) (fun l => (l.length : Int) + (112 - (l.length : Int)) % 128 < 70368744177664)
    (fun l => .leaf (.exit 0) ((stC roC roH).wr ((b, ()), (r, padL l, ())))) (fun l _ => ro_rnd b r l) (fun l R hh hs => ?_) l (by omega)
  have e : (l.length : Int).tmod 128 = (l.length : Int) % 128 := Int.tmod_eq_emod_of_nonneg (by omega)
  rw [e]
  refine ⟨fun hb => ?_, fun hb => ?_⟩
  · have hb' : ¬ (l.length : Int) % 128 = 112 := by simpa using hb
    obtain ⟨k1, k2⟩ := padL_step hb'
    have e1 : ((l ++ [(0 : Int)]).length : Int) = l.length + 1 := by simp
    refine ⟨by omega, .inl ⟨rfl, l ++ [0], rfl, by rw [e1]; omega, k2, ?_⟩⟩
    show (Res.leaf (.exit 0) ((stC roC roH).wr ((b, ()), (r, padL (l ++ [0]), ())))).sat R
    rw [k1]; exact hs
  · have hb' : (l.length : Int) % 128 = 112 := by simpa using hb
    rw [padL_end hb'] at hs
    exact .inr ⟨by simp, hs⟩
noncomputable abbrev roLT : LTab := [(0, loopF (stC roC roH) 0 [roCf, .auto, .vers] roF)]
/-- the document's sum -/
def rshaF (b : List Int) : List Int := numbersF (overF beginK (padL (b ++ [128]) ++ List.replicate 8 0 ++ eightF (IntKind.u64.wrap (8 * IntKind.u64.wrap b.length))))
noncomputable def rofE : Ent := Ent.ofS [some u8] (bA) (lNil) fun x_ y_ => (fun (b : List Int) => .leaf (some (b.length ≤ 17592186044416)) (nRow .u8 64 (rshaF b)) []) x_.1 
theorem rof_tree (b : List Int) : fnT Try.prog roTab roLT Try.f53 ((bA).wr (b, ())) ((lNil).wr ()) [.fr [.sym], .auto] =
    End.need (b.length * (1 : Nat) ≤ (70368744177664 : Nat) ∧ b.length ≤ (70368744177664 : Nat))
      (End.need
        ((b.length + (1 : Nat)) * (1 : Nat) ≤ (70368744177664 : Nat) ∧ b.length + (1 : Nat) ≤ (70368744177664 : Nat))
        (End.need ((b ++ [(128 : Int)]).length ≤ (35184372088832 : Nat))
          (End.need
            ((0 : Int) ≤ (8 : Int) ∧
              ((padL (b ++ [(128 : Int)])).length + (8 : Nat)) * (1 : Nat) ≤ (70368744177664 : Nat) ∧
                (padL (b ++ [(128 : Int)])).length + (8 : Nat) ≤ (70368744177664 : Nat))
            (End.need
              (((padL (b ++ [(128 : Int)]) ++ List.replicate (8 : Nat) (0 : Int)).length + (8 : Nat)) * (1 : Nat) ≤
                  (70368744177664 : Nat) ∧
                (padL (b ++ [(128 : Int)]) ++ List.replicate (8 : Nat) (0 : Int)).length + (8 : Nat) ≤
                  (70368744177664 : Nat))
              (End.need ((8 : Nat) = (8 : Nat))
                (End.leaf
                  (LV.one
                    (VV.agg
                      [SV.arr (Ty.int IntKind.u8) (64 : Nat)
                          (numbersF
                            (overF beginK
                              (padL (b ++ [(128 : Int)]) ++ List.replicate (8 : Nat) (0 : Int) ++
                                eightF (IntKind.u64.wrap ((8 : Int) * IntKind.u64.wrap (↑b.length : Int))))))]))
                  [])))))) := by kernel_rfl
theorem rof_ok : rofE.Ok Try.prog 53 := by
  refine (Ent.ofOk Try.call53 fun x_ y_ Q H_ => ?_).sym
  obtain ⟨b, _⟩ := x_
  obtain ⟨hn, hq⟩ := H_
  have hn : b.length ≤ 17592186044416 := hn
  refine (fnT_ok mixed roTab_ok Try.func53 rfl (LT := roLT) (ks := [.fr [.sym], .auto]) (LOk.ofTab (LTC rfl (loopF_ok (hp := []) ro_loop) LT0))).use (D := []) ?_ hq
  show (fnT _ _ _ _ ((bA).wr (b, ())) ((lNil).wr ()) _).sat _
  rw [rof_tree]
  have e : (padL (b ++ [128])).length ≤ b.length + 129 := by unfold padL; simp; omega
  exact ⟨by omega, by omega, by simp; omega, by omega, by simp; omega, rfl, rfl, rfl⟩
end Go.Proofs.Ytdpbkfmjknmmnaa
