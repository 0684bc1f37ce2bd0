/- What the laws lean on, part 4: a reader of code, plain facts, and what each function gives; no conditions. -/
import Derived.Laws.Externs
import Derived.Test.YthdfifcgobfgdaaGreatA3
section
set_option linter.unusedVariables false
set_option linter.unusedSimpArgs false
namespace Go.Proofs.YthdfifcgobfgdaaGreat
open Go Go.Ev
set_option maxRecDepth 100000
noncomputable def rhighE : Ent := Ent.ofS [] ((lCons (vOne (sInt .u64)) lNil)) (lNil) fun x_ y_ => (fun (x : Int) => .leaf none (.one (.sc (.sl 0 0))) [(0, .own 0 u8 (eightF x))]) x_.1
theorem rhigh_tree (x : Int) : fnT Tryz.prog [] [] Tryz.f73 (((lCons (vOne (sInt .u64)) lNil)).wr (x, ())) ((lNil).wr ()) [.auto, .vers] =
  End.need ((8 : Int) = (8 : Int) ∧ (0 : Int) ≤ (8 : Int) ∧ (8 : Int) ≤ (70368744177664 : Int) ∧ (8 : Int) ≤ (70368744177664 : Int)) (End.need ((0 : Int)
  ≤ (0 : Int) ∧ (0 : Int) < (8 : Int)) (End.need ((0 : Int) ≤ (1 : Int) ∧ (1 : Int) < (8 : Int)) (End.need ((0 : Int) ≤ (2 : Int) ∧ (2 : Int) < (8 :
  Int)) (End.need ((0 : Int) ≤ (3 : Int) ∧ (3 : Int) < (8 : Int)) (End.need ((0 : Int) ≤ (4 : Int) ∧ (4 : Int) < (8 : Int)) (End.need ((0 : Int) ≤ (5 :
  Int) ∧ (5 : Int) < (8 : Int)) (End.need ((0 : Int) ≤ (6 : Int) ∧ (6 : Int) < (8 : Int)) (End.need ((0 : Int) ≤ (7 : Int) ∧ (7 : Int) < (8 : Int))
  (End.leaf (LV.one (VV.sc (SV.sl (0 : Nat) (0 : Nat)))) [some (Item.own (0 : Nat) (Ty.int IntKind.u8) (((((((((List.replicate (8 : Nat) (0 : Int)).set
  (0 : Nat) (IntKind.u8.wrap (shr IntKind.u64 x (56 : Int)))).set (1 : Nat) (IntKind.u8.wrap (shr IntKind.u64 x (48 : Int)))).set (2 : Nat)
  (IntKind.u8.wrap (shr IntKind.u64 x (40 : Int)))).set (3 : Nat) (IntKind.u8.wrap (shr IntKind.u64 x (32 : Int)))).set (4 : Nat) (IntKind.u8.wrap (shr
  IntKind.u64 x (24 : Int)))).set (5 : Nat) (IntKind.u8.wrap (shr IntKind.u64 x (16 : Int)))).set (6 : Nat) (IntKind.u8.wrap (shr IntKind.u64 x (8 :
  Int)))).set (7 : Nat) (IntKind.u8.wrap (shr IntKind.u64 x (0 : Int)))))]))))))))) := by kernel_rfl
theorem rhigh_ok : rhighE.Ok Tryz.prog 73 := by
  refine (Ent.ofOk Tryz.call73 fun x_ y_ Q H_ => ?_).sym
  obtain ⟨x, _⟩ := x_
  have hq := H_.2
  refine (fnT_ok mixed tab0 Tryz.func73 rfl (LT := []) (ks := [.auto, .vers]) (LOk.nil _)).use (D := [(0, .own 0 u8 (eightF x))]) ?_ hq
  show (fnT _ _ _ _ (((lCons (vOne (sInt .u64)) lNil)).wr (x, ())) ((lNil).wr ()) _).sat _
  rw [rhigh_tree]
  exact ⟨by omega, by omega, by omega, by omega, by omega, by omega, by omega, by omega, by omega, rfl, rfl⟩
noncomputable abbrev rovFn : Func := Tryz.f75
noncomputable abbrev rovTab : List (FuncId × Ent) := [(126, rwordsE), (127, rstepE)]
theorem rovTab_ok : ∀ p ∈ rovTab, p.2.Ok Tryz.prog p.1 := tabC rwords_ok (tabC rstep_ok tab0)
abbrev rovA : Cod (List LV) (List Int × List Int × Unit) := lCons (vRow .u64 8) (lCons (vOne (sRd false false u8)) lNil)
abbrev ovC : Cod (List LV) (List Int × Unit) := (jk 1 (lCons (vOne (sRd false false u8)) (lSkip (vOne (sPtr 0 0)) (jk 1 (lSkip (vOne (sPtr 1 0)) (jk 17 lNil))))))
abbrev ovCf : Wk := .fr (fmS 22 [(1, .keep), (2, .keep), (4, .keep)])
abbrev ovX : Cod (List LV) (Unit) := (jk 2 (lSkip (vOne (sPtr 0 0)) (jk 1 (lSkip (vOne (sPtr 1 0)) (jk 17 lNil)))))
abbrev ovXf : Wk := .fr (fmS 22 [(2, .keep), (4, .keep)])
abbrev ovH : Cod Hp (List Int × List Int × Unit) := lCons (iRow 92 .u64 8) (lCons (iRow 92 .u64 8) lNil)
def ovW : Exit → List Wk
  | .normal => [ovCf, .auto]
  | .exit 0 => [ovXf, .auto]
  | _ => []
theorem ov_rnd (b s r : List Int) : rndT Tryz.prog rovTab [] rovFn 0 [] ovW ((stC ovC ovH).wr ((b, ()), (s, r, ()))) =
  Res.ite (decide ((128 : Int) ≤ (↑b.length : Int))) (Res.need ((0 : Int) ≤ (0 : Int) ∧ (0 : Int) ≤ (128 : Int) ∧ (128 : Int) ≤ (↑b.length : Int))
  (Res.need ((List.take (128 : Nat) (List.drop (0 : Nat) b)).length = (128 : Nat)) (Res.need (s.length = (8 : Nat) ∧ (16 : Nat) = (16 : Nat)) (Res.need
  ((0 : Int) ≤ (128 : Int) ∧ (128 : Int) ≤ (↑b.length : Int) ∧ (↑b.length : Int) ≤ (↑b.length : Int)) (Res.leaf Exit.normal ((stC ovC ovH).wr ((List.take
  ((↑b.length : Int) - (128 : Int)).toNat (List.drop (128 : Nat) b), PUnit.unit), stepF s (wordsF (List.take (128 : Nat) (List.drop (0 : Nat) b))), r,
  PUnit.unit))))))) (Res.leaf (Exit.exit (0 : Nat)) ((stC ovX ovH).wr (PUnit.unit, s, r, PUnit.unit))) := by kernel_rfl
def overN : Nat → List Int → List Int → List Int
  | 0, s, _ => s
  | k + 1, s, b => overN k (stepF s (wordsF (b.take 128))) (b.drop 128)
/-- the steps of all whole rows of 128 -/
def overF (s b : List Int) : List Int := overN (b.length / 128) s b
theorem overF_step {s b : List Int} (h : 128 ≤ b.length) : overF s b = overF (stepF s (wordsF (b.take 128))) (b.drop 128) := by
  unfold overF
  have e : b.length / 128 = (b.drop 128).length / 128 + 1 := by rw [List.length_drop]; omega
  rw [e]; rfl
theorem overF_end {s b : List Int} (h : b.length < 128) : overF s b = s := by
  unfold overF
  rw [show b.length / 128 = 0 from by omega]; rfl
noncomputable def ovF (x : (List Int × Unit) × List Int × List Int × Unit) : Res :=
  .need (x.2.1.length = 8) (.leaf (.exit 0) ((stC ovX ovH).wr ((), (overF x.2.1 x.1.1, x.2.2.1, ()))))
theorem ov_loop (x) : Ex Tryz.prog [] (.loop (loopAt rovFn 0)) ((stC ovC ovH).wr x) (ovF x) := by
  obtain ⟨⟨b, _⟩, s, r, _⟩ := x
  refine Ex.need fun h1 => ?_
  simp only at h1
  refine loopR mixed rovTab_ok (LT := []) (ws := ovW) (hp := []) (LOk.nil _) (fun x : List Int × List Int => x.1.length) (fun x : List Int × List Int => (stC ovC ovH).wr ((x.1, ()), (x.2, r, ()))) (fun x => x.2.length = 8)
    (fun x => .leaf (.exit 0) ((stC ovX ovH).wr ((), (overF x.2 x.1, r, ())))) (fun x _ => ov_rnd x.1 x.2 r) (fun x R hh hs => ?_) (b, s) h1
  obtain ⟨b, s⟩ := x
  simp only at hh hs ⊢
  refine ⟨fun hb => ?_, fun hb => ?_⟩
  · have hb' : 128 ≤ b.length := by have := of_decide_eq_true hb; omega
    have e1 : List.take 128 (List.drop 0 b) = b.take 128 := by rw [List.drop_zero]
    have e2 : List.take ((b.length : Int) - 128).toNat (List.drop 128 b) = b.drop 128 := by rw [List.take_of_length_le (by simp; omega)]
    rw [e1, e2]
    rw [overF_step hb'] at hs
    exact ⟨by omega, by simp; omega, ⟨hh, trivial⟩, by omega, .inl ⟨rfl, (b.drop 128, stepF s (wordsF (b.take 128))), rfl, step_length _ _, by simp; omega, hs⟩⟩
  · have hb' : b.length < 128 := by have := of_decide_eq_false hb; omega
    rw [overF_end hb'] at hs
    exact .inr ⟨by simp, hs⟩
noncomputable abbrev ovLT : LTab := [(0, loopF (stC ovC ovH) 0 [ovCf, .rowB 1 0 8 .u64, .auto] ovF)]
noncomputable def roverE : Ent := Ent.ofS [none, some u8] (rovA) (lNil) fun x_ y_ => (fun (s b : List Int) => .leaf (some (s.length = 8)) (nRow .u64 8 (overF s b)) []) x_.1 x_.2.1
theorem rover_tree (s b : List Int) : fnT Tryz.prog rovTab ovLT Tryz.f75 ((rovA).wr (s, b, ())) ((lNil).wr ()) [.fr [.sym], .auto] =
  End.need (s.length = (8 : Nat)) (End.leaf (LV.one (VV.agg [SV.arr (Ty.int IntKind.u64) (8 : Nat) (overF s b)])) []) := by kernel_rfl
theorem rover_ok : roverE.Ok Tryz.prog 75 := by
  refine (Ent.ofOk Tryz.call75 fun x_ y_ Q H_ => ?_).sym
  obtain ⟨s, b, _⟩ := x_
  obtain ⟨hn, hq⟩ := H_
  have hn : s.length = 8 := hn
  refine (fnT_ok mixed rovTab_ok Tryz.func75 rfl (LT := ovLT) (ks := [.fr [.sym], .auto]) (LOk.ofTab (LTC rfl (loopF_ok (hp := []) ov_loop) LT0))).use (D := []) ?_ hq
  show (fnT _ _ _ _ ((rovA).wr (s, b, ())) ((lNil).wr ()) _).sat _
  rw [rover_tree]
  exact ⟨hn, rfl, rfl⟩
noncomputable def rbytesE : Ent := Ent.ofS [] ((lCons (vRow .u64 8) lNil)) (lNil) fun x_ y_ => (fun (s : List Int) => .leaf none (.one (.sc (.sl 0 0))) [(0, .own 0 u8 (numbersF s))]) x_.1
theorem rbytes_tree (s : List Int) : fnT Tryz.prog [(73, rhighE)] [] Tryz.f125 (((lCons (vRow .u64 8) lNil)).wr (s, ())) ((lNil).wr ()) [.auto, .vers] =
  End.need ((8 : Nat) ≤ (70368744177664 : Nat) ∧ (8 : Nat) ≤ (70368744177664 : Nat)) (End.need ((16 : Nat) ≤ (70368744177664 : Nat) ∧ (16 : Nat) ≤
  (70368744177664 : Nat)) (End.need ((24 : Nat) ≤ (70368744177664 : Nat) ∧ (24 : Nat) ≤ (70368744177664 : Nat)) (End.need ((32 : Nat) ≤ (70368744177664 :
  Nat) ∧ (32 : Nat) ≤ (70368744177664 : Nat)) (End.need ((40 : Nat) ≤ (70368744177664 : Nat) ∧ (40 : Nat) ≤ (70368744177664 : Nat)) (End.need ((48 : Nat)
  ≤ (70368744177664 : Nat) ∧ (48 : Nat) ≤ (70368744177664 : Nat)) (End.need ((56 : Nat) ≤ (70368744177664 : Nat) ∧ (56 : Nat) ≤ (70368744177664 : Nat))
  (End.need ((64 : Nat) ≤ (70368744177664 : Nat) ∧ (64 : Nat) ≤ (70368744177664 : Nat)) (End.leaf (LV.one (VV.sc (SV.sl (0 : Nat) (0 : Nat)))) [some
  (Item.own (0 : Nat) (Ty.int IntKind.u8) (eightF (s.getD (0 : Nat) (0 : Int)) ++ eightF (s.getD (1 : Nat) (0 : Int)) ++ eightF (s.getD (2 : Nat) (0 :
  Int)) ++ eightF (s.getD (3 : Nat) (0 : Int)) ++ eightF (s.getD (4 : Nat) (0 : Int)) ++ eightF (s.getD (5 : Nat) (0 : Int)) ++ eightF (s.getD (6 : Nat)
  (0 : Int)) ++ eightF (s.getD (7 : Nat) (0 : Int))))])))))))) := by kernel_rfl
theorem rbytes_ok : rbytesE.Ok Tryz.prog 125 := by
  refine (Ent.ofOk Tryz.call125 fun x_ y_ Q H_ => ?_).sym
  obtain ⟨s, _⟩ := x_
  have hq := H_.2
  refine (fnT_ok mixed ((tabC rhigh_ok tab0)) Tryz.func125 rfl (LT := []) (ks := [.auto, .vers]) (LOk.nil _)).use (D := [(0, .own 0 u8 (numbersF s))]) ?_ hq
  show (fnT _ _ _ _ (((lCons (vRow .u64 8) lNil)).wr (s, ())) ((lNil).wr ()) _).sat _
  rw [rbytes_tree]
  exact ⟨by omega, by omega, by omega, by omega, by omega, by omega, by omega, by omega, rfl, rfl⟩
noncomputable abbrev flFn : Func := Tryz.f74
abbrev flC : Cod (List LV) (Int × Unit) := (jk 2 (lSkip (vOne (sPtr 0 0)) (lSkip (vOne (sPtr 1 0)) (lSkip (vOne (sSl 2 0)) (lCons (vOne (sInt .i64)) (jk 14 lNil))))))
abbrev flCf : Wk := .fr (fmS 20 [(2, .keep), (3, .keep), (4, .keep), (5, .sym)])
abbrev flX : Cod (List LV) (Unit) := (jk 2 (lSkip (vOne (sPtr 0 0)) (lSkip (vOne (sPtr 1 0)) (jk 16 lNil))))
abbrev flXf : Wk := .fr (fmS 20 [(2, .keep), (3, .keep)])
abbrev flH : Cod Hp (List Int × List Int × List Int × Unit) := lCons (iRow 24 .u8 64) (lCons (iRow 24 .u8 64) (lCons (iOwn 0 u8) lNil))
abbrev flHX : Cod Hp (List Int × List Int × Unit) := lCons (iRow 24 .u8 64) (lCons (iRow 24 .u8 64) lNil)
def flW : Exit → List Wk
  | .normal => [flCf, .auto]
  | .exit 0 => [flXf, .auto]
  | _ => []
theorem fl_rnd (i : Int) (r o b : List Int) : rndT Tryz.prog [] [] flFn 0 [] flW ((stC flC flH).wr ((i, ()), (r, o, b, ()))) =
  Res.ite (decide (i < (64 : Int))) (Res.need ((0 : Int) ≤ i ∧ i < (↑b.length : Int)) (Res.need ((0 : Int) ≤ i ∧ i < (64 : Int)) (Res.leaf Exit.normal
  ((stC flC flH).wr ((IntKind.i64.wrap (i + (1 : Int)), PUnit.unit), r, o.set ((0 : Nat) + i.toNat) (b.getD i.toNat (0 : Int)), b, PUnit.unit)))))
  (Res.leaf (Exit.exit (0 : Nat)) ((stC flX flHX).wr (PUnit.unit, r, o, PUnit.unit))) := by kernel_rfl
noncomputable def flF (x : (Int × Unit) × List Int × List Int × List Int × Unit) : Res :=
  .need (x.1.1 = 0 ∧ x.2.2.1.length = 64 ∧ x.2.2.2.1.length = 64) (.leaf (.exit 0) ((stC flX flHX).wr ((), (x.2.1, x.2.2.2.1, ()))))
theorem fl_loop (x) : Ex Tryz.prog [] (.loop (loopAt flFn 0)) ((stC flC flH).wr x) (flF x) := by
  obtain ⟨⟨i, _⟩, r, o, b, _⟩ := x
  refine Ex.need fun ⟨h1, h2, h3⟩ => ?_
  simp only at h1 h2 h3
  subst h1
  have key := loopUp (fn := flFn) (id := 0) (j := 0) (ws := flW) (hp := []) mixed tab0 (LOk.nil _) 64 (fun k o => (stC flC flH).wr (((k : Int), ()), (r, o, b, ()))) (fun o => (stC flX flHX).wr ((), (r, o, ()))) (fun k o => o.set k (b.getD k 0)) (fun _ o => o.length = 64)
    (fun k o R hk hm hn hx => ?_) (fun k o hk hh => by simpa using hh) 0 o (by omega) h2
  · rw [Nat.sub_zero, upto_fill _ h2, map_getD h3] at key; exact key
  rw [fl_rnd]
  refine ⟨fun hb => ?_, fun hb => ?_⟩
  · have hk' : k < 64 := by have := of_decide_eq_true hb; omega
    rw [wrap_succ k (by omega)]
    simp only [Int.toNat_natCast, Nat.zero_add]
    exact ⟨by omega, by omega, hn hk'⟩
  · have : k = 64 := by have := of_decide_eq_false hb; omega
    exact hx this
noncomputable abbrev flLT : LTab := [(0, loopF (stC flC flH) 0 [flCf, .auto, .vers] flF)]
noncomputable abbrev flTab : List (FuncId × Ent) := [(125, rbytesE)]
theorem flTab_ok : ∀ p ∈ flTab, p.2.Ok Tryz.prog p.1 := tabC rbytes_ok tab0
noncomputable def rflatE : Ent := Ent.ofS [] ((lCons (vRow .u64 8) lNil)) (lNil) fun x_ y_ => (fun (s : List Int) => .leaf none (nRow .u8 64 (numbersF s)) []) x_.1
theorem rflat_tree (s : List Int) : fnT Tryz.prog flTab flLT Tryz.f74 (((lCons (vRow .u64 8) lNil)).wr (s, ())) ((lNil).wr ()) [.fr [.sym], .auto] =
  End.need ((0 : Int) = (0 : Int) ∧ (64 : Nat) = (64 : Nat) ∧ (64 : Nat) = (64 : Nat)) (End.leaf (LV.one (VV.agg [SV.arr (Ty.int IntKind.u8) (64 : Nat)
  (numbersF s)])) []) := by kernel_rfl
theorem rflat_ok : rflatE.Ok Tryz.prog 74 := by
  refine (Ent.ofOk Tryz.call74 fun x_ y_ Q H_ => ?_).sym
  obtain ⟨s, _⟩ := x_
  have hq := H_.2
  refine (fnT_ok mixed flTab_ok Tryz.func74 rfl (LT := flLT) (ks := [.fr [.sym], .auto]) (LOk.ofTab (LTC rfl (loopF_ok (hp := []) fl_loop) LT0))).use (D := []) ?_ hq
  show (fnT _ _ _ _ (((lCons (vRow .u64 8) lNil)).wr (s, ())) ((lNil).wr ()) _).sat _
  rw [rflat_tree]
  exact ⟨⟨rfl, rfl, rfl⟩, rfl, rfl⟩
noncomputable abbrev roFn : Func := Tryz.f36
noncomputable abbrev roTab : List (FuncId × Ent) := [(73, rhighE), (76, rbeginE), (75, roverE), (74, rflatE)]
abbrev roC : Cod (List LV) (List Int × Unit) := (lCons (vOne (sRd false false u8)) (jk 1 (lSkip (vOne (sPtr 0 0)) (lSkip (vOne (sSl 1 0)) (jk 23 lNil)))))
abbrev roCf : Wk := .fr (fmS 27 [(0, .keep), (2, .keep), (3, .keep)])
abbrev roH : Cod Hp (List Int × List Int × Unit) := lCons (iRow 24 .u8 64) (lCons (iOwn 0 u8) lNil)
def roW : Exit → List Wk
  | .normal => [roCf, .auto, .vers]
  | .exit 0 => [roCf, .auto, .vers]
  | _ => []
theorem ro_rnd (b r l : List Int) : rndT Tryz.prog roTab [] roFn 0 [] roW ((stC roC roH).wr ((b, ()), (r, l, ()))) =
  Res.ite ((↑l.length : Int).tmod (128 : Int) != (112 : Int)) (Res.need ((l.length + (1 : Nat)) * (1 : Nat) ≤ (70368744177664 : Nat) ∧ l.length + (1 :
  Nat) ≤ (70368744177664 : Nat)) (Res.leaf Exit.normal ((stC roC roH).wr ((b, PUnit.unit), r, l ++ [(0 : Int)], PUnit.unit)))) (Res.leaf (Exit.exit (0 :
  Nat)) ((stC roC roH).wr ((b, PUnit.unit), r, l, PUnit.unit))) := by kernel_rfl
theorem roTab_ok : ∀ p ∈ roTab, p.2.Ok Tryz.prog p.1 := tabC rhigh_ok (tabC rbegin_ok (tabC rover_ok (tabC rflat_ok tab0)))
def padL (l : List Int) : List Int := l ++ List.replicate ((112 - (l.length : Int)) % 128).toNat 0
theorem padL_step {l : List Int} (hz : ¬ (l.length : Int) % 128 = 112) : padL (l ++ [0]) = padL l ∧ ((112 - ((l ++ [0]).length : Int)) % 128).toNat < ((112 - (l.length : Int)) % 128).toNat := by
  have e1 : ((l ++ [(0 : Int)]).length : Int) = l.length + 1 := by simp
  have e2 : ((112 - (l.length : Int)) % 128).toNat = ((112 - ((l ++ [(0 : Int)]).length : Int)) % 128).toNat + 1 := by rw [e1]; omega
  refine ⟨?_, by omega⟩
  unfold padL
  rw [e2, List.replicate_succ]
  simp
theorem padL_end {l : List Int} (hz : (l.length : Int) % 128 = 112) : padL l = l := by
  have e : ((112 - (l.length : Int)) % 128).toNat = 0 := by omega
  unfold padL; rw [e]; simp
noncomputable def roF (x : (List Int × Unit) × List Int × List Int × Unit) : Res :=
  .need (x.2.2.1.length ≤ 35184372088832) (.leaf (.exit 0) ((stC roC roH).wr (x.1, (x.2.1, padL x.2.2.1, ()))))
theorem ro_loop (x) : Ex Tryz.prog [] (.loop (loopAt roFn 0)) ((stC roC roH).wr x) (roF x) := by
  obtain ⟨⟨b, _⟩, r, l, _⟩ := x
  refine Ex.need fun h1 => ?_
  simp only at h1
  refine loopR mixed roTab_ok (LT := []) (ws := roW) (hp := []) (LOk.nil _) (fun l : List Int => ((112 - (l.length : Int)) % 128).toNat) (fun l : List Int => (stC roC roH).wr ((b, ()), (r, l, ()))) (fun l => (l.length : Int) + (112 - (l.length : Int)) % 128 < 70368744177664)
    (fun l => .leaf (.exit 0) ((stC roC roH).wr ((b, ()), (r, padL l, ())))) (fun l _ => ro_rnd b r l) (fun l R hh hs => ?_) l (by omega)
  have e : (l.length : Int).tmod 128 = (l.length : Int) % 128 := Int.tmod_eq_emod_of_nonneg (by omega)
  rw [e]
  refine ⟨fun hb => ?_, fun hb => ?_⟩
  · have hb' : ¬ (l.length : Int) % 128 = 112 := by simpa using hb
    obtain ⟨k1, k2⟩ := padL_step hb'
    have e1 : ((l ++ [(0 : Int)]).length : Int) = l.length + 1 := by simp
    refine ⟨by omega, .inl ⟨rfl, l ++ [0], rfl, by rw [e1]; omega, k2, ?_⟩⟩
    show (Res.leaf (.exit 0) ((stC roC roH).wr ((b, ()), (r, padL (l ++ [0]), ())))).sat R
    rw [k1]; exact hs
  · have hb' : (l.length : Int) % 128 = 112 := by simpa using hb
    rw [padL_end hb'] at hs
    exact .inr ⟨by simp, hs⟩
noncomputable abbrev roLT : LTab := [(0, loopF (stC roC roH) 0 [roCf, .auto, .vers] roF)]
/-- the document's sum -/
def rshaF (b : List Int) : List Int := numbersF (overF beginK (padL (b ++ [128]) ++ List.replicate 8 0 ++ eightF (IntKind.u64.wrap (8 * IntKind.u64.wrap b.length))))
noncomputable def rofE : Ent := Ent.ofS [some u8] (bA) (lNil) fun x_ y_ => (fun (b : List Int) => .leaf (some (b.length ≤ 17592186044416)) (nRow .u8 64 (rshaF b)) []) x_.1
theorem rof_tree (b : List Int) : fnT Tryz.prog roTab roLT Tryz.f36 ((bA).wr (b, ())) ((lNil).wr ()) [.fr [.sym], .auto] =
  End.need (b.length * (1 : Nat) ≤ (70368744177664 : Nat) ∧ b.length ≤ (70368744177664 : Nat)) (End.need ((b.length + (1 : Nat)) * (1 : Nat) ≤
  (70368744177664 : Nat) ∧ b.length + (1 : Nat) ≤ (70368744177664 : Nat)) (End.need ((b ++ [(128 : Int)]).length ≤ (35184372088832 : Nat)) (End.need ((0
  : Int) ≤ (8 : Int) ∧ ((padL (b ++ [(128 : Int)])).length + (8 : Nat)) * (1 : Nat) ≤ (70368744177664 : Nat) ∧ (padL (b ++ [(128 : Int)])).length + (8 :
  Nat) ≤ (70368744177664 : Nat)) (End.need (((padL (b ++ [(128 : Int)]) ++ List.replicate (8 : Nat) (0 : Int)).length + (8 : Nat)) * (1 : Nat) ≤
  (70368744177664 : Nat) ∧ (padL (b ++ [(128 : Int)]) ++ List.replicate (8 : Nat) (0 : Int)).length + (8 : Nat) ≤ (70368744177664 : Nat)) (End.need ((8 :
  Nat) = (8 : Nat)) (End.leaf (LV.one (VV.agg [SV.arr (Ty.int IntKind.u8) (64 : Nat) (numbersF (overF beginK (padL (b ++ [(128 : Int)]) ++ List.replicate
  (8 : Nat) (0 : Int) ++ eightF (IntKind.u64.wrap ((8 : Int) * IntKind.u64.wrap (↑b.length : Int))))))])) [])))))) := by kernel_rfl
theorem rof_ok : rofE.Ok Tryz.prog 36 := by
  refine (Ent.ofOk Tryz.call36 fun x_ y_ Q H_ => ?_).sym
  obtain ⟨b, _⟩ := x_
  obtain ⟨hn, hq⟩ := H_
  have hn : b.length ≤ 17592186044416 := hn
  refine (fnT_ok mixed roTab_ok Tryz.func36 rfl (LT := roLT) (ks := [.fr [.sym], .auto]) (LOk.ofTab (LTC rfl (loopF_ok (hp := []) ro_loop) LT0))).use (D := []) ?_ hq
  show (fnT _ _ _ _ ((bA).wr (b, ())) ((lNil).wr ()) _).sat _
  rw [rof_tree]
  have e : (padL (b ++ [128])).length ≤ b.length + 129 := by unfold padL; simp; omega
  exact ⟨by omega, by omega, by simp; omega, by omega, by simp; omega, rfl, rfl, rfl⟩
end Go.Proofs.YthdfifcgobfgdaaGreat
end

section
set_option linter.unusedVariables false
set_option linter.unusedSimpArgs false
namespace Go.Proofs.YthdfifcgobfgdaaGreat
open Go Go.Ev
set_option maxRecDepth 100000
theorem overN_succ (k : Nat) (s b : List Int) : overN (k + 1) s b = overN k (stepF s (wordsF (b.take 128))) (b.drop 128) := rfl
theorem overN_zero (s b : List Int) : overN 0 s b = s := rfl
theorem overN_take : ∀ (k : Nat) (s b c : List Int), b.take (128 * k) = c.take (128 * k) → 128 * k ≤ b.length → 128 * k ≤ c.length → overN k s b = overN k s c
  | 0, _, _, _, _, _, _ => rfl
  | k + 1, s, b, c, h, hb, hc => by
    have e1 : b.take 128 = c.take 128 := by
      have := congrArg (List.take 128) h
      rw [List.take_take, List.take_take, Nat.min_eq_left (by omega)] at this
      exact this
    have e2 : (b.drop 128).take (128 * k) = (c.drop 128).take (128 * k) := by
      have := congrArg (List.drop 128) h
      rw [List.drop_take, List.drop_take, show 128 * (k + 1) - 128 = 128 * k from by omega] at this
      exact this
    rw [overN_succ, overN_succ, e1]
    exact overN_take k _ _ _ e2 (by rw [List.length_drop]; omega) (by rw [List.length_drop]; omega)
theorem overN_last : ∀ (k : Nat) (s a b : List Int), a.length = 128 * k → b.length = 128 → overN (k + 1) s (a ++ b) = stepF (overN k s a) (wordsF b)
  | 0, s, a, b, ha, hb => by
    have : a = [] := List.eq_nil_of_length_eq_zero (by omega)
    subst this
    rw [overN_succ, overN_zero, overN_zero, List.nil_append, List.take_of_length_le (by omega)]
  | k + 1, s, a, b, ha, hb => by
    rw [overN_succ (k + 1), overN_succ k s a, List.take_append_of_le_length (by omega), List.drop_append_of_le_length (by omega)]
    exact overN_last k _ (a.drop 128) b (by rw [List.length_drop]; omega) hb
/-- what a sum that goes on has of a row -/
structure HP (h : HH) (row : List Int) : Prop where
  ok : HOk h
  n : h.n = row.length
  s : h.s = overF beginK row
  wait : h.wait.take (row.length % 128) = row.drop (row.length / 128 * 128)
theorem HP.byte {h : HH} {row : List Int} (hp : HP h row) (c : Int) : HP (hByte h c) (row ++ [c]) := by
  obtain ⟨h0, h1, h2, h3⟩ := hp
  have hw := h0.wait
  have hn : (h.n % 128).toNat = row.length % 128 := by rw [h1]; omega
  have hset : (h.wait.set (row.length % 128) c).take (row.length % 128 + 1) = row.drop (row.length / 128 * 128) ++ [c] := by
    rw [List.take_add_one, List.take_set_of_le (Nat.le_refl _), h3]
    simp [show row.length % 128 < h.wait.length by omega]
  refine ⟨hByte_ok h0 c, ?_, ?_, ?_⟩
  · rw [hByte_n, h1]; simp
  · unfold hByte
    by_cases hz : (h.n + 1) % 128 = 0
    · rw [if_pos hz, hn]
      simp only
      have hl : row.length % 128 = 127 := by omega
      have hfull : h.wait.set (row.length % 128) c = row.drop (row.length / 128 * 128) ++ [c] := by
        rw [← hset, List.take_of_length_le (by simp; omega)]
      have hk : (row ++ [c]).length / 128 = row.length / 128 + 1 := by simp; omega
      rw [hfull, h2]
      unfold overF
      rw [hk]
      have e : row ++ [c] = row.take (row.length / 128 * 128) ++ (row.drop (row.length / 128 * 128) ++ [c]) := by rw [← List.append_assoc, List.take_append_drop]
      rw [e, overN_last _ _ _ _ (by rw [List.length_take]; omega) (by simp; omega)]
      congr 1
      exact overN_take _ _ _ _ (by rw [List.take_take]; congr 1; omega) (by omega) (by rw [List.length_take]; omega)
    · rw [if_neg hz]
      simp only
      have hk : (row ++ [c]).length / 128 = row.length / 128 := by simp; omega
      rw [h2]
      unfold overF
      rw [hk]
      exact overN_take _ _ _ _ (by rw [List.take_append_of_le_length (by omega)]) (by omega) (by simp; omega)
  · have hwb : (hByte h c).wait = h.wait.set (row.length % 128) c := by unfold hByte; split <;> simp only [hn]
    rw [hwb]
    by_cases hz : (row.length + 1) % 128 = 0
    · have e1 : (row ++ [c]).length % 128 = 0 := by simpa using hz
      have e2 : (row ++ [c]).length / 128 * 128 = (row ++ [c]).length := by omega
      rw [e1, e2, List.drop_length]; rfl
    · have e1 : (row ++ [c]).length % 128 = row.length % 128 + 1 := by simp; omega
      have e2 : (row ++ [c]).length / 128 * 128 = row.length / 128 * 128 := by simp; omega
      rw [e1, e2, hset, List.drop_append_of_le_length (by omega)]
theorem HP.put : ∀ (b : List Int) {h : HH} {row : List Int}, HP h row → HP (hPut h b) (row ++ b)
  | [], h, row, hp => by simpa [hPut] using hp
  | c :: b, h, row, hp => by
    have := HP.put b (hp.byte c)
    rw [List.append_assoc] at this
    exact this
theorem HP.new : HP newH [] := ⟨newH_ok, rfl, rfl, rfl⟩
theorem HP.of (b : List Int) : HP (hPut newH b) b := by simpa using HP.new.put b
theorem eight0 : eightF 0 = List.replicate 8 0 := by decide
theorem sha_eq {b : List Int} (hb : b.length ≤ 17592186044416) : shaF b = rshaF b := by
  unfold shaF sumF lastF rshaF
  have hn : (hPut newH b).n = b.length := (HP.of b).n
  have hw : IntKind.u64.wrap (b.length : Int) = b.length := wrap_u64 (by omega) (by omega)
  have e1 : shr .u64 (b.length : Int) 61 = 0 := by
    have := shr_div .u64 (b.length : Int) 61 (by decide)
    rw [show ((61 : Nat) : Int) = 61 from rfl] at this
    rw [this]
    exact Int.ediv_eq_zero_of_lt (by omega) (by have : (2 ^ 61 : Nat) = 2305843009213693952 := by decide
                                                omega)
  have e2 : shl .u64 (b.length : Int) 3 = IntKind.u64.wrap (8 * (b.length : Int)) := by
    have := shl_mul .u64 (b.length : Int) 3 (by decide)
    rw [show ((3 : Nat) : Int) = 3 from rfl] at this
    rw [this, Int.mul_comm]; rfl
  rw [hn, hw, e1, e2, eight0]
  have hp : padH (hPut (hPut newH b) [128]) = hPut newH (padL (b ++ [128])) := by
    unfold padH padL
    rw [← hPut_append newH b, hPut_append newH (b ++ [128]) (List.replicate _ 0), (HP.of (b ++ [128])).n]
  rw [hp, ← hPut_append, ← hPut_append, (HP.of _).s, List.append_assoc]
end Go.Proofs.YthdfifcgobfgdaaGreat
end

section
set_option linter.unusedVariables false
set_option linter.unusedSimpArgs false
namespace Go.Proofs.YthdfifcgobfgdaaGreat
open Go Go.Ev
set_option maxRecDepth 100000
/-- bytes as a number, the lowest one first -/
def numW : List Int → Int
  | [] => 0
  | x :: l => IntKind.u64.wrap (IntKind.u64.wrap (numW l * 256) + IntKind.u64.wrap x)
theorem ba_loop (bs : ByteArray) : ∀ (k i : Nat) (r : List UInt8), bs.size - i = k → ByteArray.toList.loop bs i r = r.reverse ++ bs.data.toList.drop i := by
  intro k
  induction k with
  | zero =>
    intro i r h
    unfold ByteArray.toList.loop
    rw [if_neg (by omega), List.drop_eq_nil_of_le (by simp; exact Nat.sub_eq_zero_iff_le.1 h)]
    simp
  | succ k ih =>
    intro i r h
    unfold ByteArray.toList.loop
    have hi : i < bs.size := by omega
    have hi' : i < bs.data.toList.length := by simpa using hi
    rw [if_pos hi, ih (i + 1) _ (by omega), List.drop_eq_getElem_cons hi']
    have : bs.get! i = bs.data.toList[i] := by
      cases bs with | mk d => simp [ByteArray.get!, ByteArray.size] at *; exact getElem!_pos d i hi
    rw [this]; simp
theorem ba_toList (bs : ByteArray) : bs.toList = bs.data.toList := by
  unfold ByteArray.toList
  rw [ba_loop bs _ 0 [] rfl]; simp
theorem strOf_size' (l : List Int) : (strOf l).toList.length = l.length := by
  rw [ba_toList]
  simp [strOf]
theorem strEq_len {l m : List Int} (h : strEq l m = true) : l.length = m.length := by
  unfold strEq at h
  have := congrArg List.length (beq_iff_eq.1 h)
  rwa [strOf_size', strOf_size'] at this
theorem numW_range : ∀ {l : List Int}, AllBy l → l.length ≤ 8 → 0 ≤ numW l ∧ numW l < 256 ^ l.length ∧ ∀ c, By c → l.length < 8 → numW (c :: l) = numW l * 256 + c
  | [], _, _ => ⟨by simp [numW], by simp [numW], fun c hc _ => by
    obtain ⟨h0, h1⟩ := hc
    simp only [numW]
    rw [wrap_u64 (n := 0 * 256) (by omega) (by omega), wrap_u64 (n := c) (by omega) (by omega), wrap_u64 (by omega) (by omega)]⟩
  | x :: l, hb, hl => by
    simp only [List.length_cons] at hl
    have hx : By x := hb x (by simp)
    have hb' : AllBy l := fun z hz => hb z (by simp [hz])
    obtain ⟨h1, h2, h3⟩ := numW_range hb' (by omega)
    have e := h3 x hx (by omega)
    obtain ⟨hx0, hx1⟩ := hx
    have hp : (256 : Int) ^ (l.length + 1) = 256 ^ l.length * 256 := Int.pow_succ _ _
    have hlt : numW (x :: l) < 256 ^ (l.length + 1) := by rw [e, hp]; omega
    refine ⟨by rw [e]; omega, hlt, fun c hc h8 => ?_⟩
    simp only [List.length_cons] at h8
    obtain ⟨hc0, hc1⟩ := hc
    have hle : (256 : Int) ^ (l.length + 1) ≤ 256 ^ 7 := by
      have : (256 : Nat) ^ (l.length + 1) ≤ 256 ^ 7 := Nat.pow_le_pow_right (by omega) (by omega)
      exact_mod_cast this
    have h7 : (256 : Int) ^ 7 = 72057594037927936 := by decide
    have h0 : 0 ≤ numW (x :: l) := by rw [e]; omega
    have hd : numW (c :: x :: l) = IntKind.u64.wrap (IntKind.u64.wrap (numW (x :: l) * 256) + IntKind.u64.wrap c) := rfl
    rw [hd, wrap_u64 (n := numW (x :: l) * 256) (by omega) (by omega), wrap_u64 (n := c) (by omega) (by omega), wrap_u64 (by omega) (by omega)]
theorem numW_snoc : ∀ {l : List Int} {c : Int}, AllBy l → By c → l.length < 8 → numW (l ++ [c]) = numW l + c * 256 ^ l.length
  | [], c, hb, hc, _ => by
    have := (numW_range (l := []) (fun _ h => by simp at h) (by simp)).2.2 c hc (by simp)
    simp only [List.nil_append, List.length_nil, Int.pow_zero]
    rw [this]; simp [numW]
  | x :: l, c, hb, hc, h8 => by
    simp only [List.length_cons] at h8
    have hx : By x := hb x (by simp)
    have hb' : AllBy l := fun z hz => hb z (by simp [hz])
    have hb2 : AllBy (l ++ [c]) := fun z hz => by
      rcases List.mem_append.1 hz with h | h
      · exact hb' z h
      · simp at h; subst h; exact hc
    have e1 := (numW_range hb2 (by simp; omega)).2.2 x hx (by simp; omega)
    have e2 := (numW_range hb' (by omega)).2.2 x hx (by omega)
    rw [List.cons_append, e1, numW_snoc hb' hc (by omega), e2, List.length_cons, Int.pow_succ, Int.add_mul, Int.mul_assoc]
    omega
theorem by_getD {l : List Int} (h : AllBy l) (i : Nat) : By (l.getD i 0) := by
  rw [List.getD_eq_getElem?_getD]
  cases he : l[i]? with
  | none => exact ⟨by simp, by simp⟩
  | some z => exact h z (List.mem_of_getElem? he)
theorem map_getD_drop {l : List Int} {j n : Nat} (h : j + n ≤ l.length) : (List.range n).map (fun i => l.getD (j + i) 0) = (l.drop j).take n := by
  apply List.ext_getElem?
  intro i
  simp only [List.getElem?_map, List.getElem?_take, List.getElem?_drop]
  rcases Nat.lt_or_ge i n with h1 | h1
  · rw [List.getElem?_range h1]
    simp [List.getD_eq_getElem?_getD, h1, List.getElem?_eq_getElem (show j + i < l.length by omega)]
  · rw [List.getElem?_eq_none (by simpa using h1)]
    simp [show ¬ i < n by omega]
end Go.Proofs.YthdfifcgobfgdaaGreat
end

section
set_option linter.unusedVariables false
set_option linter.unusedSimpArgs false
namespace Go.Proofs.YthdfifcgobfgdaaGreat
open Go Go.Ev
set_option maxRecDepth 100000
noncomputable abbrev vaFn : Func := Tryz.f107
abbrev vaC : Cod (List LV) (Int × List Int × Int × Int × Unit) := (jk 3 (lCons (vOne (sInt .u64)) (jk 3 (lCons (vOne (sRd false false u8)) (lCons (vOne (sInt .i64)) (lCons (vOne (sInt .i64)) (jk 13 lNil)))))))
abbrev vaCf : Wk := .fr (fmS 23 [(3, .sym), (7, .keep), (8, .sym), (9, .sym)])
abbrev vaX : Cod (List LV) (Int × Unit) := (jk 3 (lCons (vOne (sInt .u64)) (jk 19 lNil)))
abbrev vaXf : Wk := .fr (fmS 23 [(3, .sym)])
def vaW : Exit → List Wk
  | .normal => [vaCf, .auto]
  | .exit 0 => [vaXf, .auto]
  | _ => []
theorem va_rnd (x : Int) (l : List Int) (n i : Int) : rndT Tryz.prog [] [] vaFn 0 [] vaW ((stC vaC lNil).wr ((x, l, n, i, ()), ())) =
  Res.ite (decide (i < n)) (Res.need ((0 : Int) ≤ i ∧ i < (↑l.length : Int)) (Res.need ((0 : Int) ≤ IntKind.i64.wrap ((8 : Int) * i)) (Res.leaf
  Exit.normal ((stC vaC lNil).wr ((bitOr IntKind.u64 x (shl IntKind.u64 (IntKind.u64.wrap (l.getD i.toNat (0 : Int))) (IntKind.i64.wrap ((8 : Int) *
  i))), l, n, IntKind.i64.wrap (i + (1 : Int)), PUnit.unit), PUnit.unit))))) (Res.leaf (Exit.exit (0 : Nat)) ((stC vaX lNil).wr ((x, PUnit.unit),
  PUnit.unit))) := by kernel_rfl
noncomputable def vaF (x : (Int × List Int × Int × Int × Unit) × Unit) : Res :=
  .need (x.1.1 = 0 ∧ x.1.2.1.length = 8 ∧ AllBy x.1.2.1 ∧ x.1.2.2.1 = x.1.2.1.length ∧ x.1.2.2.2.1 = 0) (.leaf (.exit 0) ((stC vaX lNil).wr ((numW x.1.2.1, ()), ())))
theorem va_or {l : List Int} {k : Nat} (hl : AllBy l) (h8 : l.length = 8) (hk : k < 8) :
    bitOr .u64 (numW (l.take k)) (shl .u64 (IntKind.u64.wrap (l.getD k 0)) (IntKind.i64.wrap (8 * (k : Int)))) = numW (l.take (k + 1)) := by
  have hc : By (l.getD k 0) := by_getD hl k
  have e0 : l.take (k + 1) = l.take k ++ [l.getD k 0] := by
    rw [List.take_add_one]
    simp [List.getD_eq_getElem?_getD, List.getElem?_eq_getElem (show k < l.length by omega)]
  have hlen : (l.take k).length = k := by rw [List.length_take]; omega
  obtain ⟨r1, r2, _⟩ := numW_range (hl.take k) (by omega)
  rw [hlen] at r2
  obtain ⟨hc0, hc1⟩ := hc
  have e1 : IntKind.i64.wrap (8 * (k : Int)) = ((8 * k : Nat) : Int) := by rw [wrap_ok (by omega) (by omega)]; omega
  have hpw : ((2 ^ (8 * k) : Nat) : Int) = 256 ^ k := by rw [Nat.pow_mul, Int.natCast_pow]; rfl
  have hle : (256 : Int) ^ k ≤ 256 ^ 7 := by
    have : (256 : Nat) ^ k ≤ 256 ^ 7 := Nat.pow_le_pow_right (by omega) (by omega)
    exact_mod_cast this
  have h7 : (256 : Int) ^ 7 = 72057594037927936 := by decide
  have hpos : (0 : Int) < 256 ^ k := Int.pow_pos (by omega)
  have hmul : l.getD k 0 * 256 ^ k ≤ 255 * 256 ^ k := Int.mul_le_mul_of_nonneg_right (by omega) (by omega)
  have hmul0 : 0 ≤ l.getD k 0 * 256 ^ k := Int.mul_nonneg hc0 (by omega)
  rw [e0, numW_snoc (hl.take k) ⟨hc0, hc1⟩ (by omega), hlen, e1, wrap_u64 hc0 (by omega), shl_mul .u64 _ _ (by show 8 * k ≤ 64; omega), hpw, wrap_u64 (by omega) (by omega), or_comm',
    or_u64 (m := 8 * k) hmul0 (by rw [hpw]; exact Int.mul_emod_left _ _) r1 (by rw [hpw]; exact r2) (by omega)]
  omega
theorem va_loop (x) : Ex Tryz.prog [] (.loop (loopAt vaFn 0)) ((stC vaC lNil).wr x) (vaF x) := by
  obtain ⟨⟨y, l, n, i, _⟩, _⟩ := x
  refine Ex.need fun ⟨h1, h2, h3, h4, h5⟩ => ?_
  simp only at h1 h2 h3 h4 h5
  subst h1 h4 h5
  have key := loopUp (fn := vaFn) (id := 0) (j := 0) (ws := vaW) (hp := []) mixed tab0 (LOk.nil _) 8 (fun k (_ : Unit) => (stC vaC lNil).wr ((numW (l.take k), l, (l.length : Int), (k : Int), ()), ())) (fun _ => (stC vaX lNil).wr ((numW (l.take 8), ()), ())) (fun _ u => u) (fun _ _ => True)
    (fun k u R hk _ hn hx => ?_) (fun _ _ _ _ => trivial) 0 () (by omega) trivial
  · rw [List.take_of_length_le (show l.length ≤ 8 by omega)] at key; exact key
  rw [va_rnd]
  refine ⟨fun hb => ?_, fun hb => ?_⟩
  · have hk' : k < 8 := by have := of_decide_eq_true hb; omega
    have e := va_or h3 h2 hk'
    rw [Int.toNat_natCast, e, wrap_succ k (by omega)]
    refine ⟨by omega, ?_, hn hk'⟩
    rw [wrap_ok (by omega) (by omega)]; omega
  · have : k = 8 := by have := of_decide_eq_false hb; omega
    subst this
    exact hx rfl
noncomputable abbrev vaLT : LTab := [(0, loopF (stC vaC lNil) 0 [vaCf, .auto] vaF)]
noncomputable def valueE : Ent := Ent.ofS [some u8] (bA) (lNil) fun x_ y_ => (fun (l : List Int) => .leaf (some (8 ≤ l.length ∧ AllBy l)) (nU (numW (l.take 8))) []) x_.1
theorem value_tree (l : List Int) : fnT Tryz.prog [] vaLT Tryz.f107 ((bA).wr (l, ())) ((lNil).wr ()) [.fr [.sym], .auto] =
  End.need ((0 : Int) ≤ (0 : Int) ∧ (0 : Int) ≤ (8 : Int) ∧ (8 : Int) ≤ (↑l.length : Int)) (End.need ((0 : Int) = (0 : Int) ∧ (List.take (8 : Nat)
  (List.drop (0 : Nat) l)).length = (8 : Nat) ∧ AllBy (List.take (8 : Nat) (List.drop (0 : Nat) l)) ∧ (↑(List.take (8 : Nat) (List.drop (0 : Nat)
  l)).length : Int) = (↑(List.take (8 : Nat) (List.drop (0 : Nat) l)).length : Int) ∧ (0 : Int) = (0 : Int)) (End.leaf (LV.one (VV.sc (SV.int IntKind.u64
  (SI.sym (numW (List.take (8 : Nat) (List.drop (0 : Nat) l))))))) [])) := by kernel_rfl
theorem value_ok : valueE.Ok Tryz.prog 107 := by
  refine (Ent.ofOk Tryz.call107 fun x_ y_ Q H_ => ?_).sym
  obtain ⟨l, _⟩ := x_
  obtain ⟨hn, hq⟩ := H_
  have hn : 8 ≤ l.length ∧ AllBy l := hn
  refine (fnT_ok mixed tab0 Tryz.func107 rfl (LT := vaLT) (ks := [.fr [.sym], .auto]) (LOk.ofTab (LTC rfl (loopF_ok (hp := []) va_loop) LT0))).use (D := []) ?_ hq
  show (fnT _ _ _ _ ((bA).wr (l, ())) ((lNil).wr ()) _).sat _
  rw [value_tree]
  obtain ⟨h1, h2⟩ := hn
  rw [List.drop_zero]
  exact ⟨by omega, ⟨rfl, by simp; omega, h2.take 8, rfl, rfl⟩, rfl, rfl⟩
structure MM where
  ver : Int
  flo : Int
  len : Int
  list : List Int
  plain : List Int
abbrev cMM : Cod (List SV) MM := (rowsMan lNil).iso (fun x => ⟨x.1, x.2.1, x.2.2.1, x.2.2.2.1, x.2.2.2.2.1⟩) (fun m => (m.ver, m.flo, m.len, m.list, m.plain, ())) (fun _ => rfl)
def mm0 : MM := ⟨0, 0, 0, List.replicate 64 0, List.replicate 64 0⟩
abbrev getV (r : MM × Bool) : LV := .tup [.agg (cMM.wr r.1), .sc (.bool (.sym r.2))]
def mmOf (b : List Int) : MM := ⟨numW (b.take 8), numW ((b.drop 8).take 8), numW ((b.drop 16).take 8), (b.drop 24).take 64, (b.drop 88).take 64⟩
def getF (b : List Int) : MM × Bool :=
  if b.length = 152 ∧ rightF (mmOf b).ver (mmOf b).flo (mmOf b).len = true then (mmOf b, true) else (mm0, false)
noncomputable def getE : Ent := Ent.ofS [some u8] (bA) (lNil) fun x_ y_ => (fun (b : List Int) => .leaf (some (AllBy b)) (getV (getF b)) []) x_.1
theorem get_tree (b : List Int) : fnT Tryz.prog [(107, valueE), (56, rightE)] [] Tryz.f51 ((bA).wr (b, ())) ((lNil).wr ()) [.fr [.sym], .auto] =
  End.ite (((↑b.length : Int) != (152 : Int)) == false) (End.need ((0 : Int) ≤ (16 : Int) ∧ (16 : Int) ≤ (↑b.length : Int) ∧ (↑b.length : Int) ≤
  (↑b.length : Int)) (End.need ((8 : Nat) ≤ (List.take ((↑b.length : Int) - (16 : Int)).toNat (List.drop (16 : Nat) b)).length ∧ AllBy (List.take
  ((↑b.length : Int) - (16 : Int)).toNat (List.drop (16 : Nat) b))) (End.ite (decide ((131072 : Int) < numW (List.take (8 : Nat) (List.take ((↑b.length :
  Int) - (16 : Int)).toNat (List.drop (16 : Nat) b))))) (End.leaf (LV.tup [VV.agg [SV.int IntKind.u64 (SI.sym (0 : Int)), SV.int IntKind.u64 (SI.sym (0 :
  Int)), SV.int IntKind.i64 (SI.sym (0 : Int)), SV.arr (Ty.int IntKind.u8) (64 : Nat) (List.replicate (64 : Nat) (0 : Int)), SV.arr (Ty.int IntKind.u8)
  (64 : Nat) (List.replicate (64 : Nat) (0 : Int))], VV.sc (SV.bool (SB.sym false))]) []) (End.need ((8 : Nat) ≤ b.length ∧ AllBy b) (End.need ((0 : Int)
  ≤ (8 : Int) ∧ (8 : Int) ≤ (↑b.length : Int) ∧ (↑b.length : Int) ≤ (↑b.length : Int)) (End.need ((8 : Nat) ≤ (List.take ((↑b.length : Int) - (8 :
  Int)).toNat (List.drop (8 : Nat) b)).length ∧ AllBy (List.take ((↑b.length : Int) - (8 : Int)).toNat (List.drop (8 : Nat) b))) (End.need ((0 : Int) ≤
  (16 : Int) ∧ (16 : Int) ≤ (↑b.length : Int) ∧ (↑b.length : Int) ≤ (↑b.length : Int)) (End.need ((8 : Nat) ≤ (List.take ((↑b.length : Int) - (16 :
  Int)).toNat (List.drop (16 : Nat) b)).length ∧ AllBy (List.take ((↑b.length : Int) - (16 : Int)).toNat (List.drop (16 : Nat) b))) (End.need ((0 : Int)
  ≤ (24 : Int) ∧ (24 : Int) ≤ (↑b.length : Int) ∧ (↑b.length : Int) ≤ (↑b.length : Int)) (End.need ((64 : Nat) ≤ (List.take ((↑b.length : Int) - (24 :
  Int)).toNat (List.drop (24 : Nat) b)).length) (End.need ((64 : Nat) ≤ (List.take ((↑b.length : Int) - (24 : Int)).toNat (List.drop (24 : Nat)
  b)).length) (End.need ((0 : Int) ≤ (88 : Int) ∧ (88 : Int) ≤ (↑b.length : Int) ∧ (↑b.length : Int) ≤ (↑b.length : Int)) (End.need ((64 : Nat) ≤
  (List.take ((↑b.length : Int) - (88 : Int)).toNat (List.drop (88 : Nat) b)).length) (End.need ((64 : Nat) ≤ (List.take ((↑b.length : Int) - (88 :
  Int)).toNat (List.drop (88 : Nat) b)).length) (End.ite (!rightF (numW (List.take (8 : Nat) b)) (numW (List.take (8 : Nat) (List.take ((↑b.length : Int)
  - (8 : Int)).toNat (List.drop (8 : Nat) b)))) (IntKind.i64.wrap (numW (List.take (8 : Nat) (List.take ((↑b.length : Int) - (16 : Int)).toNat (List.drop
  (16 : Nat) b)))))) (End.leaf (LV.tup [VV.agg [SV.int IntKind.u64 (SI.sym (0 : Int)), SV.int IntKind.u64 (SI.sym (0 : Int)), SV.int IntKind.i64 (SI.sym
  (0 : Int)), SV.arr (Ty.int IntKind.u8) (64 : Nat) (List.replicate (64 : Nat) (0 : Int)), SV.arr (Ty.int IntKind.u8) (64 : Nat) (List.replicate (64 :
  Nat) (0 : Int))], VV.sc (SV.bool (SB.sym false))]) []) (End.leaf (LV.tup [VV.agg [SV.int IntKind.u64 (SI.sym (numW (List.take (8 : Nat) b))), SV.int
  IntKind.u64 (SI.sym (numW (List.take (8 : Nat) (List.take ((↑b.length : Int) - (8 : Int)).toNat (List.drop (8 : Nat) b))))), SV.int IntKind.i64 (SI.sym
  (IntKind.i64.wrap (numW (List.take (8 : Nat) (List.take ((↑b.length : Int) - (16 : Int)).toNat (List.drop (16 : Nat) b)))))), SV.arr (Ty.int
  IntKind.u8) (64 : Nat) (List.take (64 : Nat) (List.drop (0 : Nat) (List.take ((↑b.length : Int) - (24 : Int)).toNat (List.drop (24 : Nat) b)))), SV.arr
  (Ty.int IntKind.u8) (64 : Nat) (List.take (64 : Nat) (List.drop (0 : Nat) (List.take ((↑b.length : Int) - (88 : Int)).toNat (List.drop (88 : Nat)
  b))))], VV.sc (SV.bool (SB.sym true))]) [])))))))))))))))) (End.leaf (LV.tup [VV.agg [SV.int IntKind.u64 (SI.sym (0 : Int)), SV.int IntKind.u64 (SI.sym
  (0 : Int)), SV.int IntKind.i64 (SI.sym (0 : Int)), SV.arr (Ty.int IntKind.u8) (64 : Nat) (List.replicate (64 : Nat) (0 : Int)), SV.arr (Ty.int
  IntKind.u8) (64 : Nat) (List.replicate (64 : Nat) (0 : Int))], VV.sc (SV.bool (SB.sym false))]) []) := by kernel_rfl
theorem get_ok : getE.Ok Tryz.prog 51 := by
  refine (Ent.ofOk Tryz.call51 fun x_ y_ Q H_ => ?_).sym
  obtain ⟨b, _⟩ := x_
  obtain ⟨hn, hq⟩ := H_
  have hn : AllBy b := hn
  refine (fnT_ok mixed ((tabC value_ok (tabC right_ok tab0))) Tryz.func51 rfl (LT := []) (ks := [.fr [.sym], .auto]) (LOk.nil _)).use (D := []) ?_ hq
  show (fnT _ _ _ _ ((bA).wr (b, ())) ((lNil).wr ()) _).sat _
  rw [get_tree]
  refine ⟨fun h0 => ?_, fun h0 => ?_⟩
  · have hl : b.length = 152 := by have : ((b.length : Int) != 152) = false := by simpa using h0
                                   simp at this; omega
    have e : ∀ k : Nat, k ≤ 152 → List.take ((b.length : Int) - (k : Int)).toNat (List.drop k b) = b.drop k := fun k hk => by rw [List.take_of_length_le (by rw [List.length_drop]; omega)]
    have e8 : List.take ((b.length : Int) - 8).toNat (List.drop 8 b) = b.drop 8 := e 8 (by omega)
    have e16 : List.take ((b.length : Int) - 16).toNat (List.drop 16 b) = b.drop 16 := e 16 (by omega)
    have e24 : List.take ((b.length : Int) - 24).toNat (List.drop 24 b) = b.drop 24 := e 24 (by omega)
    have e88 : List.take ((b.length : Int) - 88).toNat (List.drop 88 b) = b.drop 88 := e 88 (by omega)
    rw [e8, e16, e24, e88]
    obtain ⟨r1, r2, _⟩ := numW_range ((hn.drop 16).take 8) (by rw [List.length_take]; omega)
    refine ⟨by omega, ⟨by simp; omega, hn.drop 16⟩, fun h1 => ?_, fun h1 => ?_⟩
    · have h1 := of_decide_eq_true h1
      have eg : getF b = (mm0, false) := if_neg fun ⟨_, hr⟩ => by
        have := (rightF_range hr).2
        simp only [mmOf] at this
        omega
      rw [eg]; exact ⟨rfl, rfl⟩
    · have h1 := of_decide_eq_false h1
      have ew : IntKind.i64.wrap (numW ((b.drop 16).take 8)) = numW ((b.drop 16).take 8) := wrap_ok (by omega) (by omega)
      rw [ew]
      refine ⟨⟨by omega, hn⟩, by omega, ⟨by simp; omega, hn.drop 8⟩, by omega, ⟨by simp; omega, hn.drop 16⟩, by omega, by simp; omega, by simp; omega, by omega, by simp; omega, by simp; omega, fun h2 => ?_, fun h2 => ?_⟩
      · have eg : getF b = (mm0, false) := if_neg fun ⟨_, hr⟩ => by
          have hr' : rightF (numW (b.take 8)) (numW ((b.drop 8).take 8)) (numW ((b.drop 16).take 8)) = true := hr
          rw [hr'] at h2; cases h2
        rw [eg]; exact ⟨rfl, rfl⟩
      · have h2' : rightF (numW (b.take 8)) (numW ((b.drop 8).take 8)) (numW ((b.drop 16).take 8)) = true := by simpa using h2
        have eg : getF b = (mmOf b, true) := if_pos ⟨hl, h2'⟩
        rw [eg]; exact ⟨rfl, rfl⟩
  · have hl : ¬ b.length = 152 := fun e => by rw [e] at h0; simp at h0
    have eg : getF b = (mm0, false) := if_neg fun ⟨h, _⟩ => hl h
    rw [eg]; exact ⟨rfl, rfl⟩
end Go.Proofs.YthdfifcgobfgdaaGreat
end

section
set_option linter.unusedVariables false
set_option linter.unusedSimpArgs false
namespace Go.Proofs.YthdfifcgobfgdaaGreat
open Go Go.Ev Go.ChangeShapes Go.WideShapes Go.ChangeAt Go.RowKit
set_option maxRecDepth 100000
def manBts : List Bt := .int .u64 :: .int .u64 :: .int .i64 :: (List.replicate 64 (.int .u8) ++ (List.replicate 64 (.int .u8) ++ []))
theorem manFlat : flatT Tryz.prog 10 41 = some manBts := by kernel_rfl
theorem wf_u64' {z : Int} (h : (Lit.int .u64 z).wf = true) : 0 ≤ z ∧ z < 18446744073709551616 := by
  have := bounds_u64 h
  omega
theorem open_man {H : Type} {enc : TypeId × Value → H} {W : World} {base : Nat} {v : Value} {d : DataW H} {p : List MemPlace}
    (hval : Value.okWide Tryz.prog W .any base 41 v) (h : DataW.Trod enc Tryz.prog W 0 (fun _ => true) true 41 v d p) :
    ∃ m : MM, ((0 ≤ m.ver ∧ m.ver < 18446744073709551616 ∧ 0 ≤ m.flo ∧ m.flo < 18446744073709551616) ∧ (m.list.length = 64 ∧ AllBy m.list) ∧ (m.plain.length = 64 ∧ AllBy m.plain)) ∧ (LV.one (.agg (cMM.wr m))).den (env0 W) (kd []) v := by
  unfold Value.okWide at hval
  rw [Tryz.underlying41] at hval
  obtain ⟨cs, rfl, _, _⟩ := hval
  obtain ⟨fuel, h⟩ := h
  have h' := flat_ok 10 manFlat h
  clear h
  simp only [Value.cells] at h'
  obtain ⟨cs⟩ := cs
  cases h' with
  | cons h1 h => cases h with
  | cons h2 h => cases h with
  | cons h3 h =>
    obtain ⟨c, rfl, w1⟩ := h1
    obtain ⟨v, rfl, w2⟩ := h2
    obtain ⟨n, rfl, _⟩ := h3
    obtain ⟨x, ux, rx, e1, lx, _, hx, wx, h⟩ := fits_row (β := env0 W) (pm := true) 64 h
    obtain ⟨y, uy, ry, e2, ly, _, hy, wy, h⟩ := fits_row (β := env0 W) (pm := true) 64 h
    cases h
    subst e2 e1
    have b1 := wf_u64' w1
    have b2 := wf_u64' w2
    exact ⟨⟨c, v, n, x, y⟩, ⟨⟨b1.1, b1.2, b2.1, b2.2⟩, ⟨lx, fun z hz => wf_u8 (wx z hz)⟩, ⟨ly, fun z hz => wf_u8 (wy z hz)⟩⟩, _, rfl, DenL.cons1 rfl (DenL.cons1 rfl (DenL.cons1 rfl (HasL.cons ⟨lx, hx⟩ (HasL.cons ⟨ly, hy⟩ .nil))))⟩
end Go.Proofs.YthdfifcgobfgdaaGreat
end

section
set_option linter.unusedVariables false
set_option linter.unusedSimpArgs false
namespace Go.Ev
open Go
/-- n values, one after the other -/
def Vec (α : Type) : Nat → Type
  | 0 => Unit
  | n + 1 => α × Vec α n
namespace Vec
variable {α β γ : Type}
def toList : {n : Nat} → Vec α n → List α
  | 0, _ => []
  | _ + 1, v => v.1 :: toList v.2
def map (f : α → β) : {n : Nat} → Vec α n → Vec β n
  | 0, _ => ()
  | _ + 1, v => (f v.1, map f v.2)
def zip (f : α → β → γ) : {n : Nat} → Vec α n → Vec β n → Vec γ n
  | 0, _, _ => ()
  | _ + 1, v, u => (f v.1 u.1, zip f v.2 u.2)
def ofFn : (n : Nat) → (Nat → α) → Vec α n
  | 0, _ => ()
  | n + 1, f => (f 0, ofFn n fun i => f (i + 1))
def get [Inhabited α] : {n : Nat} → Vec α n → Nat → α
  | 0, _, _ => default
  | _ + 1, v, 0 => v.1
  | _ + 1, v, i + 1 => get v.2 i
theorem toList_length : {n : Nat} → (v : Vec α n) → v.toList.length = n
  | 0, _ => rfl
  | _ + 1, v => by simp [toList, toList_length v.2]
theorem toList_inj : {n : Nat} → {v u : Vec α n} → v.toList = u.toList → v = u
  | 0, _, _, _ => rfl
  | n + 1, v, u, h => by
    simp only [toList, List.cons.injEq] at h
    exact Prod.ext h.1 (toList_inj h.2)
end Vec
/-- n rounds -/
def rnds {α : Type} (f : Nat → α → α) : Nat → α → α
  | 0, a => a
  | k + 1, a => f k (rnds f k a)
theorem rnds_upto {α : Type} (f : Nat → α → α) (a : α) : ∀ n, upto f 0 n a = rnds f n a
  | 0 => rfl
  | n + 1 => by rw [upto_succ, rnds_upto f a n, Nat.zero_add]; rfl
def add64 (x y c : Int) : Int × Int := ((((x.toNat + y.toNat + c.toNat) % 2 ^ 64 : Nat) : Int), (((x.toNat + y.toNat + c.toNat) / 2 ^ 64 : Nat) : Int))
def sub64 (x y b : Int) : Int × Int := ((((x.toNat + 2 ^ 64 - y.toNat - b.toNat) % 2 ^ 64 : Nat) : Int), if x.toNat < y.toNat + b.toNat then 1 else 0)
def conj (p : Prop) : Option Prop → Option Prop
  | none => some p
  | some q => some (p ∧ q)
abbrev cU3 : Cod (List LV) (Int × Int × Int × Unit) := lCons (vOne (sInt .u64)) (lCons (vOne (sInt .u64)) (lCons (vOne (sInt .u64)) lNil))
def onceE (g : Int → Int → Int → Int × Int) : Ent := Ent.of [] cU3 lNil fun x _ => .leaf (some (0 ≤ x.2.2.1 ∧ x.2.2.1 ≤ 1)) (.tup [.sc (.int .u64 (.sym (g x.1 x.2.1 x.2.2.1).1)), .sc (.int .u64 (.sym (g x.1 x.2.1 x.2.2.1).2))]) []
theorem once_ok {P : Program} {f : FuncId} {g : Int → Int → Int → Int × Int} (h : ∀ (a b c : Int) (w : World), 0 ≤ c → c ≤ 1 → (callFunc f #[.int .u64 a, .int .u64 b, .int .u64 c]).run P w = .ok (.value (.tuple #[.int .u64 (g a b c).1, .int .u64 (g a b c).2])) w) :
    (onceE g).Ok P f := by
  refine ⟨fun args hp Q hq => ?_⟩
  simp only [onceE, Ent.of] at hq
  split at hq
  · rename_i x y hx hy
    rw [cU3.ok hx]
    obtain ⟨a, b, c, _⟩ := x
    obtain ⟨⟨h0, h1⟩, hq⟩ := hq
    intro β w vals hh hargs
    cases hargs with
    | cons e1 hargs => cases hargs with
      | cons e2 hargs => cases hargs with
        | cons e3 hargs =>
          cases hargs
          simp only [LV.den, VV.den, SV.den, vOne, sInt, SI.val] at e1 e2 e3
          subst e1 e2 e3
          exact .inl ⟨_, h a b c w h0 h1, _, β, _, hp, rfl, ⟨[], hq, rfl⟩, ⟨_, rfl, .cons rfl (.cons rfl .nil)⟩, hh⟩
  · exact hq.elim
theorem run_three {P : Program} (n : String) (a b c : Int) (w : World) (hc : ¬ c.toNat > 1) :
    (Extern.MathBitsCarry.three n #[.int .u64 a, .int .u64 b, .int .u64 c]).run P w = .ok (a.toNat, b.toNat, c.toNat) w := by
  have e : Extern.MathBitsCarry.three n #[.int .u64 a, .int .u64 b, .int .u64 c] = (do
    let c := (← asInt (.int .u64 c)).toNat
    if c > 1 then unsupported (.noEntry ("extern/math/bits." ++ n ++ ": a carry that is neither 0 nor 1"))
    pure ((← asInt (.int .u64 a)).toNat, (← asInt (.int .u64 b)).toNat, c)) := rfl
  rw [e]
  have hc' : ¬ 1 < c.toNat := hc
  simp [asInt, asIntOf]
  omega
theorem add64_once {P : Program} {f : FuncId} {fn : Func} (hf : P.funcs[f]? = some fn) (hname : (fn.name == "runtime.NumGoroutine") = false) (hb : fn.body.isNone = true) (hn : Extern.findNext fn = none)
    {e : Array Value → Sem Value} (he : Extern.find fn = some e) (hee : e = (Extern.MathBitsCarry.rows.getD 0 ("", fun _ => pure undef)).2) : (onceE add64).Ok P f := by
  refine once_ok fun a b c w h0 h1 => ?_
  rw [run_callFunc_extern hf hname hb hn he, hee]
  have hc : ¬ c.toNat > 1 := by omega
  simp [Extern.MathBitsCarry.rows, run_three _ _ _ _ _ hc, Extern.MathBitsCarry.pair, Extern.MathBitsCarry.m64, add64]
theorem sub64_once {P : Program} {f : FuncId} {fn : Func} (hf : P.funcs[f]? = some fn) (hname : (fn.name == "runtime.NumGoroutine") = false) (hb : fn.body.isNone = true) (hn : Extern.findNext fn = none)
    {e : Array Value → Sem Value} (he : Extern.find fn = some e) (hee : e = (Extern.MathBitsCarry.rows.getD 1 ("", fun _ => pure undef)).2) : (onceE sub64).Ok P f := by
  refine once_ok fun a b c w h0 h1 => ?_
  rw [run_callFunc_extern hf hname hb hn he, hee]
  have hc : ¬ c.toNat > 1 := by omega
  simp [Extern.MathBitsCarry.rows, run_three _ _ _ _ _ hc, Extern.MathBitsCarry.pair, Extern.MathBitsCarry.m64, sub64]
  split <;> rfl
def vecA (k : IntKind) {Y : Type} (r : Cod (List SV) Y) : (n : Nat) → Cod (List SV) (Vec Int n × Y)
  | 0 => r.iso (fun y => ((), y)) (fun p => p.2) (fun _ => rfl)
  | n + 1 => (lCons (sInt k) (vecA k r n)).iso (fun p => ((p.1, p.2.1), p.2.2)) (fun p => (p.1.1, (p.1.2, p.2))) (fun _ => rfl)
def vecL (k : IntKind) : (n : Nat) → Cod (List SV) (Vec Int n)
  | 0 => lNil
  | n + 1 => lCons (sInt k) (vecL k n)
/-- the row of a list -/
def v32 (l : List Int) : Vec Int 32 := Vec.ofFn 32 fun i => l.getD i 0
end Go.Ev
end

section
namespace BJ
/-- a number that has no divisors but 1 and itself -/
def IsPrime (n : Nat) : Prop := 2 ≤ n ∧ ∀ m, m ∣ n → m = 1 ∨ m = n
theorem exists_prime_dvd : ∀ n : Nat, 2 ≤ n → ∃ q, IsPrime q ∧ q ∣ n := by
  intro n
  induction n using Nat.strongRecOn with
  | _ n ih =>
    intro h
    by_cases hp : ∀ m, m ∣ n → m = 1 ∨ m = n
    · exact ⟨n, ⟨h, hp⟩, Nat.dvd_refl n⟩
    · have ⟨m, hm⟩ := Classical.not_forall.1 hp
      have ⟨hd, hn⟩ := Classical.not_imp.1 hm
      have h1 : m ≠ 1 := fun e => hn (.inl e)
      have h2 : m ≠ n := fun e => hn (.inr e)
      have hle : m ≤ n := Nat.le_of_dvd (by omega) hd
      have h0 : m ≠ 0 := by
        rintro rfl
        have := Nat.eq_zero_of_zero_dvd hd
        omega
      obtain ⟨q, hq, hqm⟩ := ih m (by omega) (by omega)
      exact ⟨q, hq, Nat.dvd_trans hqm hd⟩
theorem IsPrime.coprime {q a : Nat} (hq : IsPrime q) (h : ¬ q ∣ a) : Nat.Coprime q a := by
  rcases hq.2 (Nat.gcd q a) (Nat.gcd_dvd_left q a) with h1 | h1
  · exact h1
  · exact absurd (h1 ▸ Nat.gcd_dvd_right q a) h
theorem IsPrime.dvd_mul {q a b : Nat} (hq : IsPrime q) (h : q ∣ a * b) : q ∣ a ∨ q ∣ b := by
  by_cases ha : q ∣ a
  · exact .inl ha
  · exact .inr ((hq.coprime ha).dvd_of_dvd_mul_left h)
theorem IsPrime.dvd_prod {q : Nat} (hq : IsPrime q) : ∀ l : List Nat, (∀ x ∈ l, IsPrime x) → q ∣ l.foldr (· * ·) 1 → q ∈ l
  | [], _, h => by
    have : q = 1 := Nat.eq_one_of_dvd_one h
    have := hq.1
    omega
  | x :: l, hl, h => by
    rcases hq.dvd_mul h with h | h
    · rcases (hl x (by simp)).2 q h with h1 | h1
      · have := hq.1; omega
      · simp [h1]
    · exact List.mem_cons_of_mem _ (hq.dvd_prod l (fun y hy => hl y (by simp [hy])) h)
/-- powers modulo n, by halving the exponent -/
def pm (n : Nat) : Nat → Nat → Nat → Nat
  | 0, _, _ => 1 % n
  | f + 1, a, e => if e % 2 = 1 then a * pm n f (a * a % n) (e / 2) % n else pm n f (a * a % n) (e / 2)
theorem pm_eq (n : Nat) : ∀ f a e, e < 2 ^ f → pm n f a e = a ^ e % n := by
  intro f
  induction f with
  | zero => intro a e h; have : e = 0 := by simpa using h
            subst this; simp [pm]
  | succ f ih =>
    intro a e h
    have h2 : e / 2 < 2 ^ f := by rw [Nat.pow_succ] at h; omega
    have hk : (a * a % n) ^ (e / 2) % n = a ^ (2 * (e / 2)) % n := by
      rw [← Nat.pow_mod, Nat.pow_mul, Nat.pow_two]
    simp only [pm, ih _ _ h2, hk]
    split
    · rename_i ho
      rw [Nat.mul_mod, Nat.mod_mod, ← Nat.mul_mod, Nat.mul_comm, ← Nat.pow_succ]
      congr 2; omega
    · rename_i ho
      congr 2; omega
theorem pow_one_mod {n a k : Nat} (hn : 2 ≤ n) (h : a ^ k % n = 1) (j : Nat) : a ^ (k * j) % n = 1 := by
  rw [Nat.pow_mul, Nat.pow_mod, h, Nat.one_pow, Nat.mod_eq_of_lt hn]
/-- the least exponent that gives 1 -/
theorem exists_order {n a m : Nat} (hm : 0 < m) (h : a ^ m % n = 1) :
    ∃ k, 0 < k ∧ a ^ k % n = 1 ∧ ∀ j, 0 < j → j < k → a ^ j % n ≠ 1 := by
  induction m using Nat.strongRecOn with
  | _ m ih =>
    by_cases hs : ∃ j, 0 < j ∧ j < m ∧ a ^ j % n = 1
    · obtain ⟨j, h0, h1, h2⟩ := hs
      exact ih j h1 h0 h2
    · exact ⟨m, hm, h, fun j h0 h1 h2 => hs ⟨j, h0, h1, h2⟩⟩
theorem order_dvd {n a k m : Nat} (hn : 2 ≤ n) (hk : 0 < k) (h1 : a ^ k % n = 1) (hmin : ∀ j, 0 < j → j < k → a ^ j % n ≠ 1)
    (hm : a ^ m % n = 1) : k ∣ m := by
  have e : a ^ m = a ^ (k * (m / k)) * a ^ (m % k) := by
    rw [← Nat.pow_add, Nat.div_add_mod]
  rw [e, Nat.mul_mod, pow_one_mod hn h1, Nat.one_mul, Nat.mod_mod] at hm
  by_cases hr : m % k = 0
  · exact Nat.dvd_of_mod_eq_zero hr
  · exact absurd hm (hmin _ (by omega) (Nat.mod_lt _ hk))
/-- all of 1 .. n-1 lie in a list of n-1 different numbers of 1 .. n-1 -/
theorem mem_of_nodup : ∀ (m : Nat) (l : List Nat), l.Nodup → (∀ x ∈ l, 1 ≤ x ∧ x ≤ m) → m ≤ l.length → ∀ x, 1 ≤ x → x ≤ m → x ∈ l
  | 0, _, _, _, _, x, h1, h2 => by omega
  | m + 1, l, hd, hl, hlen, x, h1, h2 => by
    have hmem : m + 1 ∈ l := by
      refine Classical.byContradiction fun hno => ?_
      have hl' : ∀ y ∈ l, 1 ≤ y ∧ y ≤ m := fun y hy => by
        have := hl y hy
        have : y ≠ m + 1 := fun e => hno (e ▸ hy)
        omega
      -- too many numbers for m places
      have := length_le m l hd hl'
      omega
    have hd' : (l.erase (m + 1)).Nodup := hd.erase _
    have hlen' : (l.erase (m + 1)).length = l.length - 1 := List.length_erase_of_mem hmem
    have hl' : ∀ y ∈ l.erase (m + 1), 1 ≤ y ∧ y ≤ m := fun y hy => by
      have hy' := (List.Nodup.mem_erase_iff hd).1 hy
      have := hl y hy'.2
      have := hy'.1
      omega
    by_cases hx : x = m + 1
    · exact hx ▸ hmem
    · exact List.mem_of_mem_erase (mem_of_nodup m (l.erase (m + 1)) hd' hl' (by omega) x h1 (by omega))
where
  length_le : ∀ (m : Nat) (l : List Nat), l.Nodup → (∀ x ∈ l, 1 ≤ x ∧ x ≤ m) → l.length ≤ m
    | 0, l, _, hl => by
      cases l with
      | nil => simp
      | cons a l => have := hl a (by simp); omega
    | m + 1, l, hd, hl => by
      have hd' : (l.erase (m + 1)).Nodup := hd.erase _
      have hl' : ∀ y ∈ l.erase (m + 1), 1 ≤ y ∧ y ≤ m := fun y hy => by
        have hy' := (List.Nodup.mem_erase_iff hd).1 hy
        have := hl y hy'.2
        have := hy'.1
        omega
      have := length_le m _ hd' hl'
      have h3 := @List.length_erase Nat _ _ (m + 1) l
      split at h3 <;> omega
/-- what Lucas' test gives: every number that n does not divide is a power of a, modulo n -/
def Root (n a : Nat) : Prop := 2 ≤ n ∧ a ^ (n - 1) % n = 1 ∧ ∀ x, x % n ≠ 0 → ∃ i, a ^ i % n = x % n
theorem lucas {n a : Nat} {l : List Nat} (hn : 2 ≤ n) (hl : ∀ q ∈ l, IsPrime q) (hp : l.foldr (· * ·) 1 = n - 1)
    (h1 : a ^ (n - 1) % n = 1) (hq : ∀ q ∈ l, a ^ ((n - 1) / q) % n ≠ 1) : Root n a := by
  refine ⟨hn, h1, ?_⟩
  by_cases hn2 : n = 2
  · subst hn2
    intro x hx
    exact ⟨0, by simp; omega⟩
  obtain ⟨k, hk, hk1, hmin⟩ := exists_order (m := n - 1) (by omega) h1
  have hdvd := order_dvd hn hk hk1 hmin h1
  have hkn : k = n - 1 := by
    refine Classical.byContradiction fun hne => ?_
    obtain ⟨c, hc⟩ := hdvd
    have hc2 : 2 ≤ c := by
      rcases Nat.lt_or_ge c 2 with h | h
      · have : c = 0 ∨ c = 1 := by omega
        rcases this with rfl | rfl
        · simp at hc; omega
        · simp at hc; omega
      · exact h
    obtain ⟨q, hqp, c', rfl⟩ := exists_prime_dvd c hc2
    have hmem : q ∈ l := hqp.dvd_prod l hl (by rw [hp, hc]; exact ⟨k * c', by rw [Nat.mul_left_comm]⟩)
    refine hq q hmem ?_
    have : (n - 1) / q = k * c' := by
      rw [hc, Nat.mul_left_comm]
      exact Nat.mul_div_cancel_left _ (by have := hqp.1; omega)
    rw [this]
    exact pow_one_mod hn hk1 c'
  subst hkn
  -- a and n have no common divisor: a power of a times a is 1
  have hinv : ∀ i, a ^ i % n ≠ 0 := by
    intro i h0
    have : a ^ ((n - 1) * (i + 1)) % n = 1 := pow_one_mod hn h1 _
    have e : (n - 1) * (i + 1) = i + ((n - 1) * (i + 1) - i) := by
      have : i ≤ (n - 1) * (i + 1) := Nat.le_trans (by omega) (Nat.le_mul_of_pos_left (i + 1) (by omega))
      omega
    rw [e, Nat.pow_add, Nat.mul_mod, h0, Nat.zero_mul, Nat.zero_mod] at this
    omega
  -- powers with exponents below n - 1 are different
  have hinj : ∀ i j, i < j → j < n - 1 → a ^ i % n ≠ a ^ j % n := by
    intro i j hij hj he
    have e1 : a ^ (j + (n - 1 - i)) % n = 1 := by
      rw [Nat.pow_add, Nat.mul_mod, ← he, ← Nat.mul_mod, ← Nat.pow_add]
      have : i + (n - 1 - i) = n - 1 := by omega
      rw [this]; exact h1
    have e2 : j + (n - 1 - i) = (n - 1) + (j - i) := by omega
    rw [e2, Nat.pow_add, Nat.mul_mod, h1, Nat.one_mul, Nat.mod_mod] at e1
    exact hmin (j - i) (by omega) (by omega) e1
  intro x hx
  have hnd : ((List.range (n - 1)).map fun i => a ^ i % n).Nodup := by
    rw [List.nodup_iff_pairwise_ne, List.pairwise_map]
    refine List.Pairwise.imp_of_mem ?_ (List.pairwise_lt_range (n := n - 1))
    intro i j hi hj hij
    exact hinj i j hij (by simpa using hj)
  have := mem_of_nodup (n - 1) _ hnd (fun y hy => by
    obtain ⟨i, _, rfl⟩ := List.mem_map.1 hy
    have := hinv i
    have := Nat.mod_lt (a ^ i) (show 0 < n by omega)
    omega) (by simp) (x % n) (by omega) (by have := Nat.mod_lt x (show 0 < n by omega); omega)
  obtain ⟨i, _, hi⟩ := List.mem_map.1 this
  exact ⟨i, hi⟩
theorem Root.fermat {n a : Nat} (h : Root n a) {x : Nat} (hx : x % n ≠ 0) : x ^ (n - 1) % n = 1 := by
  obtain ⟨hn, h1, hs⟩ := h
  obtain ⟨i, hi⟩ := hs x hx
  rw [Nat.pow_mod, ← hi, ← Nat.pow_mod, ← Nat.pow_mul, Nat.mul_comm]
  exact pow_one_mod hn h1 i
theorem Root.prime {n a : Nat} (h : Root n a) : IsPrime n := by
  refine ⟨h.1, fun m hm => ?_⟩
  refine Classical.byContradiction fun hne => ?_
  have hn := h.1
  have hle : m ≤ n := Nat.le_of_dvd (by omega) hm
  have h1 : m ≠ 1 := fun e => hne (.inl e)
  have h2 : m ≠ n := fun e => hne (.inr e)
  have h0 : m ≠ 0 := by
    rintro rfl
    have := Nat.eq_zero_of_zero_dvd hm
    omega
  have hf := h.fermat (x := m) (by rw [Nat.mod_eq_of_lt (by omega)]; exact h0)
  have hd : m ∣ m ^ (n - 1) := by
    rw [show n - 1 = (n - 2) + 1 from by omega, Nat.pow_succ]
    exact Nat.dvd_mul_left m _
  have : m ∣ m ^ (n - 1) % n := (Nat.dvd_mod_iff hm).2 hd
  rw [hf] at this
  exact h1 (Nat.eq_one_of_dvd_one this)
/-- Lucas' test, to be reckoned: the factors of n - 1 are known to be prime -/
def check (n a f : Nat) (l : List Nat) : Bool :=
  decide (2 ≤ n) && decide (n - 1 < 2 ^ f) && l.foldr (· * ·) 1 == n - 1 && pm n f a (n - 1) == 1 && l.all fun q => pm n f a ((n - 1) / q) != 1
theorem root_of_check {n a f : Nat} {l : List Nat} (hl : ∀ q ∈ l, IsPrime q) (h : check n a f l = true) : Root n a := by
  simp only [check, Bool.and_eq_true, decide_eq_true_eq, beq_iff_eq, List.all_eq_true, bne_iff_ne] at h
  obtain ⟨⟨⟨⟨hn, hf⟩, hp⟩, h1⟩, hq⟩ := h
  refine lucas hn hl hp ?_ ?_
  · rw [← pm_eq n f a _ hf]; exact h1
  · intro q hm
    rw [← pm_eq n f a _ (Nat.lt_of_le_of_lt (Nat.div_le_self _ _) hf)]
    exact hq q hm
/-- small primes by trying all divisors -/
def noDiv (n : Nat) : Nat → Nat → Bool
  | 0, _ => true
  | k + 1, d => if d * d > n then true else n % d != 0 && noDiv n k (d + 1)
theorem noDiv_spec (n : Nat) : ∀ k d, noDiv n k d = true → (d + k) * (d + k) > n → ∀ m, d ≤ m → m * m ≤ n → ¬ m ∣ n := by
  intro k
  induction k with
  | zero => intro d _ hgt m h1 h2; exfalso; have := Nat.mul_le_mul h1 h1; simp at hgt; omega
  | succ k ih =>
    intro d h hgt m h1 h2 hd
    unfold noDiv at h
    split at h
    · have := Nat.mul_le_mul h1 h1; omega
    · simp only [Bool.and_eq_true, bne_iff_ne] at h
      by_cases he : m = d
      · subst he; exact h.1 (Nat.mod_eq_zero_of_dvd hd)
      · exact ih (d + 1) h.2 (by rw [show d + 1 + k = d + (k + 1) by omega]; exact hgt) m (by omega) h2 hd
theorem prime_small {n : Nat} (k : Nat) (hn : 2 ≤ n) (hk : (2 + k) * (2 + k) > n) (h : noDiv n k 2 = true) : IsPrime n := by
  have hs := noDiv_spec n k 2 h hk
  refine ⟨hn, fun m hm => ?_⟩
  refine Classical.byContradiction fun hne => ?_
  have h1 : m ≠ 1 := fun e => hne (.inl e)
  have h2 : m ≠ n := fun e => hne (.inr e)
  obtain ⟨c, hc⟩ := hm
  have h0 : m ≠ 0 := by rintro rfl; simp at hc; omega
  have hc0 : c ≠ 0 := by rintro rfl; simp at hc; omega
  have hc1 : c ≠ 1 := by rintro rfl; simp at hc; omega
  by_cases hmc : m ≤ c
  · exact hs m (by omega) (by rw [hc]; exact Nat.mul_le_mul_left m hmc) ⟨c, hc⟩
  · exact hs c (by omega) (by rw [hc]; exact Nat.mul_le_mul_right c (by omega)) ⟨m, by rw [hc, Nat.mul_comm]⟩
end BJ
end

section
namespace BJ
theorem p2 : IsPrime 2 := prime_small 1 (by decide) (by decide) (by decide +kernel)
theorem p3 : IsPrime 3 := prime_small 1 (by decide) (by decide) (by decide +kernel)
theorem p65147 : IsPrime 65147 := prime_small 254 (by decide) (by decide) (by decide +kernel)
theorem p353 : IsPrime 353 := prime_small 17 (by decide) (by decide) (by decide +kernel)
theorem p57467 : IsPrime 57467 := prime_small 238 (by decide) (by decide) (by decide +kernel)
theorem p7 : IsPrime 7 := prime_small 1 (by decide) (by decide) (by decide +kernel)
theorem p131 : IsPrime 131 := prime_small 10 (by decide) (by decide) (by decide +kernel)
theorem r132049 : Root 132049 26 := root_of_check (f := 18) (l := [2, 2, 2, 2, 3, 3, 7, 131]) (by simp only [List.mem_cons, List.not_mem_nil, or_false]; rintro q (rfl | rfl | rfl | rfl | rfl | rfl | rfl | rfl) <;> first | exact p2 | exact p3 | exact p7 | exact p131) (by decide +kernel)
theorem p132049 : IsPrime 132049 := r132049.prime
theorem p43 : IsPrime 43 := prime_small 5 (by decide) (by decide) (by decide +kernel)
theorem p3727 : IsPrime 3727 := prime_small 60 (by decide) (by decide) (by decide +kernel)
theorem r1923133 : Root 1923133 2 := root_of_check (f := 21) (l := [2, 2, 3, 43, 3727]) (by simp only [List.mem_cons, List.not_mem_nil, or_false]; rintro q (rfl | rfl | rfl | rfl | rfl) <;> first | exact p2 | exact p3 | exact p43 | exact p3727) (by decide +kernel)
theorem p1923133 : IsPrime 1923133 := r1923133.prime
theorem p31 : IsPrime 31 := prime_small 4 (by decide) (by decide) (by decide +kernel)
theorem p107 : IsPrime 107 := prime_small 9 (by decide) (by decide) (by decide +kernel)
theorem p223 : IsPrime 223 := prime_small 13 (by decide) (by decide) (by decide +kernel)
theorem p4153 : IsPrime 4153 := prime_small 63 (by decide) (by decide) (by decide +kernel)
theorem p5 : IsPrime 5 := prime_small 1 (by decide) (by decide) (by decide +kernel)
theorem p1723 : IsPrime 1723 := prime_small 40 (by decide) (by decide) (by decide +kernel)
theorem r430751 : Root 430751 17 := root_of_check (f := 19) (l := [2, 5, 5, 5, 1723]) (by simp only [List.mem_cons, List.not_mem_nil, or_false]; rintro q (rfl | rfl | rfl | rfl | rfl) <;> first | exact p2 | exact p5 | exact p1723) (by decide +kernel)
theorem p430751 : IsPrime 430751 := r430751.prime
theorem r31757755568855353 : Root 31757755568855353 10 := root_of_check (f := 55) (l := [2, 2, 2, 3, 31, 107, 223, 4153, 430751]) (by simp only [List.mem_cons, List.not_mem_nil, or_false]; rintro q (rfl | rfl | rfl | rfl | rfl | rfl | rfl | rfl | rfl) <;> first | exact p2 | exact p3 | exact p31 | exact p107 | exact p223 | exact p4153 | exact p430751) (by decide +kernel)
theorem p31757755568855353 : IsPrime 31757755568855353 := r31757755568855353.prime
theorem p75707 : IsPrime 75707 := prime_small 274 (by decide) (by decide) (by decide +kernel)
theorem p13 : IsPrime 13 := prime_small 2 (by decide) (by decide) (by decide +kernel)
theorem p2437 : IsPrime 2437 := prime_small 48 (by decide) (by decide) (by decide +kernel)
theorem p97 : IsPrime 97 := prime_small 8 (by decide) (by decide) (by decide +kernel)
theorem p419 : IsPrime 419 := prime_small 19 (by decide) (by decide) (by decide +kernel)
theorem r569003 : Root 569003 2 := root_of_check (f := 20) (l := [2, 7, 97, 419]) (by simp only [List.mem_cons, List.not_mem_nil, or_false]; rintro q (rfl | rfl | rfl | rfl) <;> first | exact p2 | exact p7 | exact p97 | exact p419) (by decide +kernel)
theorem p569003 : IsPrime 569003 := r569003.prime
theorem r2773320623 : Root 2773320623 5 := root_of_check (f := 32) (l := [2, 2437, 569003]) (by simp only [List.mem_cons, List.not_mem_nil, or_false]; rintro q (rfl | rfl | rfl) <;> first | exact p2 | exact p2437 | exact p569003) (by decide +kernel)
theorem p2773320623 : IsPrime 2773320623 := r2773320623.prime
theorem r72106336199 : Root 72106336199 7 := root_of_check (f := 37) (l := [2, 13, 2773320623]) (by simp only [List.mem_cons, List.not_mem_nil, or_false]; rintro q (rfl | rfl | rfl) <;> first | exact p2 | exact p13 | exact p2773320623) (by decide +kernel)
theorem p72106336199 : IsPrime 72106336199 := r72106336199.prime
theorem p19 : IsPrime 19 := prime_small 3 (by decide) (by decide) (by decide +kernel)
theorem p47 : IsPrime 47 := prime_small 5 (by decide) (by decide) (by decide +kernel)
theorem p127 : IsPrime 127 := prime_small 10 (by decide) (by decide) (by decide +kernel)
theorem p103 : IsPrime 103 := prime_small 9 (by decide) (by decide) (by decide +kernel)
theorem p991 : IsPrime 991 := prime_small 30 (by decide) (by decide) (by decide +kernel)
theorem r8574133 : Root 8574133 2 := root_of_check (f := 24) (l := [2, 2, 3, 7, 103, 991]) (by simp only [List.mem_cons, List.not_mem_nil, or_false]; rintro q (rfl | rfl | rfl | rfl | rfl | rfl) <;> first | exact p2 | exact p3 | exact p7 | exact p103 | exact p991) (by decide +kernel)
theorem p8574133 : IsPrime 8574133 := r8574133.prime
theorem r1919519569386763 : Root 1919519569386763 2 := root_of_check (f := 51) (l := [2, 3, 7, 19, 47, 47, 127, 8574133]) (by simp only [List.mem_cons, List.not_mem_nil, or_false]; rintro q (rfl | rfl | rfl | rfl | rfl | rfl | rfl | rfl) <;> first | exact p2 | exact p3 | exact p7 | exact p19 | exact p47 | exact p127 | exact p8574133) (by decide +kernel)
theorem p1919519569386763 : IsPrime 1919519569386763 := r1919519569386763.prime
theorem r75445702479781427272750846543864801 : Root 75445702479781427272750846543864801 7 := root_of_check (f := 116) (l := [2, 2, 2, 2, 2, 3, 3, 5, 5, 75707, 72106336199, 1919519569386763]) (by simp only [List.mem_cons, List.not_mem_nil, or_false]; rintro q (rfl | rfl | rfl | rfl | rfl | rfl | rfl | rfl | rfl | rfl | rfl | rfl) <;> first | exact p2 | exact p3 | exact p5 | exact p75707 | exact p72106336199 | exact p1919519569386763) (by decide +kernel)
theorem p75445702479781427272750846543864801 : IsPrime 75445702479781427272750846543864801 := r75445702479781427272750846543864801.prime
theorem r74058212732561358302231226437062788676166966415465897661863160754340907 : Root 74058212732561358302231226437062788676166966415465897661863160754340907 2 := root_of_check (f := 236) (l := [2, 3, 353, 57467, 132049, 1923133, 31757755568855353, 75445702479781427272750846543864801]) (by simp only [List.mem_cons, List.not_mem_nil, or_false]; rintro q (rfl | rfl | rfl | rfl | rfl | rfl | rfl | rfl) <;> first | exact p2 | exact p3 | exact p353 | exact p57467 | exact p132049 | exact p1923133 | exact p31757755568855353 | exact p75445702479781427272750846543864801) (by decide +kernel)
theorem p74058212732561358302231226437062788676166966415465897661863160754340907 : IsPrime 74058212732561358302231226437062788676166966415465897661863160754340907 := r74058212732561358302231226437062788676166966415465897661863160754340907.prime
theorem r57896044618658097711785492504343953926634992332820282019728792003956564819949 : Root 57896044618658097711785492504343953926634992332820282019728792003956564819949 2 := root_of_check (f := 255) (l := [2, 2, 3, 65147, 74058212732561358302231226437062788676166966415465897661863160754340907]) (by simp only [List.mem_cons, List.not_mem_nil, or_false]; rintro q (rfl | rfl | rfl | rfl | rfl) <;> first | exact p2 | exact p3 | exact p65147 | exact p74058212732561358302231226437062788676166966415465897661863160754340907) (by decide +kernel)
theorem p57896044618658097711785492504343953926634992332820282019728792003956564819949 : IsPrime 57896044618658097711785492504343953926634992332820282019728792003956564819949 := r57896044618658097711785492504343953926634992332820282019728792003956564819949.prime
theorem p11 : IsPrime 11 := prime_small 2 (by decide) (by decide) (by decide +kernel)
theorem p23 : IsPrime 23 := prime_small 3 (by decide) (by decide) (by decide +kernel)
theorem p34123 : IsPrime 34123 := prime_small 183 (by decide) (by decide) (by decide +kernel)
theorem r409477 : Root 409477 2 := root_of_check (f := 19) (l := [2, 2, 3, 34123]) (by simp only [List.mem_cons, List.not_mem_nil, or_false]; rintro q (rfl | rfl | rfl | rfl) <;> first | exact p2 | exact p3 | exact p34123) (by decide +kernel)
theorem p409477 : IsPrime 409477 := r409477.prime
theorem r14741173 : Root 14741173 2 := root_of_check (f := 24) (l := [2, 2, 3, 3, 409477]) (by simp only [List.mem_cons, List.not_mem_nil, or_false]; rintro q (rfl | rfl | rfl | rfl | rfl) <;> first | exact p2 | exact p3 | exact p409477) (by decide +kernel)
theorem p14741173 : IsPrime 14741173 := r14741173.prime
theorem r58964693 : Root 58964693 2 := root_of_check (f := 26) (l := [2, 2, 14741173]) (by simp only [List.mem_cons, List.not_mem_nil, or_false]; rintro q (rfl | rfl | rfl) <;> first | exact p2 | exact p14741173) (by decide +kernel)
theorem p58964693 : IsPrime 58964693 := r58964693.prime
theorem p30703 : IsPrime 30703 := prime_small 174 (by decide) (by decide) (by decide +kernel)
theorem p82163 : IsPrime 82163 := prime_small 285 (by decide) (by decide) (by decide +kernel)
theorem p22111 : IsPrime 22111 := prime_small 147 (by decide) (by decide) (by decide +kernel)
theorem r132667 : Root 132667 5 := root_of_check (f := 18) (l := [2, 3, 22111]) (by simp only [List.mem_cons, List.not_mem_nil, or_false]; rintro q (rfl | rfl | rfl) <;> first | exact p2 | exact p3 | exact p22111) (by decide +kernel)
theorem p132667 : IsPrime 132667 := r132667.prime
theorem p17231 : IsPrime 17231 := prime_small 130 (by decide) (by decide) (by decide +kernel)
theorem r137849 : Root 137849 3 := root_of_check (f := 18) (l := [2, 2, 2, 17231]) (by simp only [List.mem_cons, List.not_mem_nil, or_false]; rintro q (rfl | rfl | rfl | rfl) <;> first | exact p2 | exact p17231) (by decide +kernel)
theorem p137849 : IsPrime 137849 := r137849.prime
theorem r3044861653679985063343 : Root 3044861653679985063343 5 := root_of_check (f := 72) (l := [2, 3, 11, 30703, 82163, 132667, 137849]) (by simp only [List.mem_cons, List.not_mem_nil, or_false]; rintro q (rfl | rfl | rfl | rfl | rfl | rfl | rfl) <;> first | exact p2 | exact p3 | exact p11 | exact p30703 | exact p82163 | exact p132667 | exact p137849) (by decide +kernel)
theorem p3044861653679985063343 : IsPrime 3044861653679985063343 := r3044861653679985063343.prime
theorem r198211423230930754013084525763697 : Root 198211423230930754013084525763697 5 := root_of_check (f := 108) (l := [2, 2, 2, 2, 3, 23, 58964693, 3044861653679985063343]) (by simp only [List.mem_cons, List.not_mem_nil, or_false]; rintro q (rfl | rfl | rfl | rfl | rfl | rfl | rfl | rfl) <;> first | exact p2 | exact p3 | exact p23 | exact p58964693 | exact p3044861653679985063343) (by decide +kernel)
theorem p198211423230930754013084525763697 : IsPrime 198211423230930754013084525763697 := r198211423230930754013084525763697.prime
theorem p269 : IsPrime 269 := prime_small 15 (by decide) (by decide) (by decide +kernel)
theorem p73 : IsPrime 73 := prime_small 7 (by decide) (by decide) (by decide +kernel)
theorem p307 : IsPrime 307 := prime_small 16 (by decide) (by decide) (by decide +kernel)
theorem p5879 : IsPrime 5879 := prime_small 75 (by decide) (by decide) (by decide +kernel)
theorem r292386187 : Root 292386187 2 := root_of_check (f := 29) (l := [2, 3, 3, 3, 3, 307, 5879]) (by simp only [List.mem_cons, List.not_mem_nil, or_false]; rintro q (rfl | rfl | rfl | rfl | rfl | rfl | rfl) <;> first | exact p2 | exact p3 | exact p307 | exact p5879) (by decide +kernel)
theorem p292386187 : IsPrime 292386187 := r292386187.prime
theorem r213441916511 : Root 213441916511 13 := root_of_check (f := 38) (l := [2, 5, 73, 292386187]) (by simp only [List.mem_cons, List.not_mem_nil, or_false]; rintro q (rfl | rfl | rfl | rfl) <;> first | exact p2 | exact p5 | exact p73 | exact p292386187) (by decide +kernel)
theorem p213441916511 : IsPrime 213441916511 := r213441916511.prime
theorem p1361 : IsPrime 1361 := prime_small 35 (by decide) (by decide) (by decide +kernel)
theorem p2851 : IsPrime 2851 := prime_small 52 (by decide) (by decide) (by decide +kernel)
theorem p41 : IsPrime 41 := prime_small 5 (by decide) (by decide) (by decide +kernel)
theorem p3797 : IsPrime 3797 := prime_small 60 (by decide) (by decide) (by decide +kernel)
theorem r531581 : Root 531581 2 := root_of_check (f := 20) (l := [2, 2, 5, 7, 3797]) (by simp only [List.mem_cons, List.not_mem_nil, or_false]; rintro q (rfl | rfl | rfl | rfl | rfl) <;> first | exact p2 | exact p5 | exact p7 | exact p3797) (by decide +kernel)
theorem p531581 : IsPrime 531581 := r531581.prime
theorem p2551 : IsPrime 2551 := prime_small 49 (by decide) (by decide) (by decide +kernel)
theorem r1224481 : Root 1224481 13 := root_of_check (f := 21) (l := [2, 2, 2, 2, 2, 3, 5, 2551]) (by simp only [List.mem_cons, List.not_mem_nil, or_false]; rintro q (rfl | rfl | rfl | rfl | rfl | rfl | rfl | rfl) <;> first | exact p2 | exact p3 | exact p5 | exact p2551) (by decide +kernel)
theorem p1224481 : IsPrime 1224481 := r1224481.prime
theorem r1257559732178653 : Root 1257559732178653 2 := root_of_check (f := 51) (l := [2, 2, 3, 7, 23, 531581, 1224481]) (by simp only [List.mem_cons, List.not_mem_nil, or_false]; rintro q (rfl | rfl | rfl | rfl | rfl | rfl | rfl) <;> first | exact p2 | exact p3 | exact p7 | exact p23 | exact p531581 | exact p1224481) (by decide +kernel)
theorem p1257559732178653 : IsPrime 1257559732178653 := r1257559732178653.prime
theorem r4434155615661930479 : Root 4434155615661930479 17 := root_of_check (f := 62) (l := [2, 41, 43, 1257559732178653]) (by simp only [List.mem_cons, List.not_mem_nil, or_false]; rintro q (rfl | rfl | rfl | rfl) <;> first | exact p2 | exact p41 | exact p43 | exact p1257559732178653) (by decide +kernel)
theorem p4434155615661930479 : IsPrime 4434155615661930479 := r4434155615661930479.prime
theorem r172054593956031949258510691 : Root 172054593956031949258510691 2 := root_of_check (f := 88) (l := [2, 5, 1361, 2851, 4434155615661930479]) (by simp only [List.mem_cons, List.not_mem_nil, or_false]; rintro q (rfl | rfl | rfl | rfl | rfl) <;> first | exact p2 | exact p5 | exact p1361 | exact p2851 | exact p4434155615661930479) (by decide +kernel)
theorem p172054593956031949258510691 : IsPrime 172054593956031949258510691 := r172054593956031949258510691.prime
theorem r19757330305831588566944191468367130476339 : Root 19757330305831588566944191468367130476339 2 := root_of_check (f := 134) (l := [2, 269, 213441916511, 172054593956031949258510691]) (by simp only [List.mem_cons, List.not_mem_nil, or_false]; rintro q (rfl | rfl | rfl | rfl) <;> first | exact p2 | exact p269 | exact p213441916511 | exact p172054593956031949258510691) (by decide +kernel)
theorem p19757330305831588566944191468367130476339 : IsPrime 19757330305831588566944191468367130476339 := r19757330305831588566944191468367130476339.prime
theorem r276602624281642239937218680557139826668747 : Root 276602624281642239937218680557139826668747 2 := root_of_check (f := 138) (l := [2, 7, 19757330305831588566944191468367130476339]) (by simp only [List.mem_cons, List.not_mem_nil, or_false]; rintro q (rfl | rfl | rfl) <;> first | exact p2 | exact p7 | exact p19757330305831588566944191468367130476339) (by decide +kernel)
theorem p276602624281642239937218680557139826668747 : IsPrime 276602624281642239937218680557139826668747 := r276602624281642239937218680557139826668747.prime
theorem r7237005577332262213973186563042994240857116359379907606001950938285454250989 : Root 7237005577332262213973186563042994240857116359379907606001950938285454250989 2 := root_of_check (f := 253) (l := [2, 2, 3, 11, 198211423230930754013084525763697, 276602624281642239937218680557139826668747]) (by simp only [List.mem_cons, List.not_mem_nil, or_false]; rintro q (rfl | rfl | rfl | rfl | rfl | rfl) <;> first | exact p2 | exact p3 | exact p11 | exact p198211423230930754013084525763697 | exact p276602624281642239937218680557139826668747) (by decide +kernel)
end BJ
end

section
namespace BJ
/-- the prime of the field -/
abbrev pp : Nat := 57896044618658097711785492504343953926634992332820282019728792003956564819949
abbrev F := Fin pp
instance : NeZero pp := ⟨by decide⟩
theorem pp_prime : IsPrime pp := p57896044618658097711785492504343953926634992332820282019728792003956564819949
theorem F.mul_eq_zero {a b : F} (h : a * b = 0) : a = 0 ∨ b = 0 := by
  have h1 : (a.val * b.val) % pp = 0 := by
    have := congrArg Fin.val h
    rwa [Fin.val_mul] at this
  rcases pp_prime.dvd_mul (Nat.dvd_of_mod_eq_zero h1) with h2 | h2
  · exact .inl (Fin.ext (Nat.eq_zero_of_dvd_of_lt h2 a.isLt))
  · exact .inr (Fin.ext (Nat.eq_zero_of_dvd_of_lt h2 b.isLt))
theorem F.mz (a : F) : a * 0 = 0 := by grobner
theorem F.az : (0 : F) + 0 = 0 := by grobner
theorem F.mul_ne {a b : F} (ha : a ≠ 0) (hb : b ≠ 0) : a * b ≠ 0 := fun h =>
  (F.mul_eq_zero h).elim ha hb
theorem F.cancel {a b c : F} (hc : c ≠ 0) (h : a * c = b * c) : a = b := by
  have : (a - b) * c = 0 := by grobner
  rcases F.mul_eq_zero this with h1 | h1
  · grobner
  · exact absurd h1 hc
/-- powers -/
def F.pow (a : F) (n : Nat) : F := ⟨a.val ^ n % pp, Nat.mod_lt _ (by decide)⟩
theorem F.pow_zero (a : F) : F.pow a 0 = 1 := by
  apply Fin.ext; simp [F.pow]
theorem F.pow_succ (a : F) (n : Nat) : F.pow a (n + 1) = F.pow a n * a := by
  apply Fin.ext
  simp only [F.pow, Fin.val_mul, Nat.pow_succ]
  rw [Nat.mul_mod, Nat.mod_eq_of_lt a.isLt]
/-- the inverse -/
def F.inv (a : F) : F := F.pow a (pp - 2)
theorem F.val_ne {a : F} (h : a ≠ 0) : a.val % pp ≠ 0 := by
  rw [Nat.mod_eq_of_lt a.isLt]
  intro e
  exact h (Fin.ext e)
theorem pp_root : Root pp 2 := r57896044618658097711785492504343953926634992332820282019728792003956564819949
theorem F.inv_mul {a : F} (h : a ≠ 0) : a * F.inv a = 1 := by
  have hf := pp_root.fermat (F.val_ne h)
  apply Fin.ext
  show (a.val * (a.val ^ (pp - 2) % pp)) % pp = 1 % pp
  rw [Nat.mul_mod, Nat.mod_mod, ← Nat.mul_mod, Nat.mul_comm, ← Nat.pow_succ]
  rw [show Nat.succ (pp - 2) = pp - 1 from by decide, hf]
  decide
/-- the curve's number -/
def dd : F := 37095705934669439343138083508754565189542113879843219016388785533085940283555
/-- a root of -1 -/
def ii : F := 19681161376707505956807079304988542015446066515923890162744021073123829784752
theorem ii_sq : ii * ii = -1 := by decide +kernel
theorem dd_ne : dd ≠ 0 := by decide +kernel
/-- no square is d -/
theorem dd_nonsquare (s : F) : s * s ≠ dd := by
  intro h
  have hs : s ≠ 0 := by
    rintro rfl
    exact dd_ne (by rw [← h]; decide +kernel)
  have hf := pp_root.fermat (F.val_ne hs)
  have h1 : (s.val * s.val) % pp = dd.val := by
    have := congrArg Fin.val h
    rwa [Fin.val_mul] at this
  have h2 : dd.val ^ ((pp - 1) / 2) % pp = 1 := by
    rw [← h1, ← Nat.pow_mod, ← Nat.pow_two, ← Nat.pow_mul]
    rw [show 2 * ((pp - 1) / 2) = pp - 1 from by decide]
    exact hf
  rw [← pm_eq pp 255 _ _ (by decide +kernel)] at h2
  revert h2
  decide +kernel
theorem two_ne : (2 : F) ≠ 0 := by decide +kernel
def OnC (x y : F) : Prop := y * y - x * x = 1 + dd * (x * x) * (y * y)
theorem OnC.zero {x y : F} (h : OnC x y) : y * y - x * x - (1 + dd * (x * x) * (y * y)) = 0 := by unfold OnC at h; grobner
theorem denom {x1 y1 x2 y2 e : F} (h1 : OnC x1 y1) (h2 : OnC x2 y2) (he : e * e = 1) : dd * x1 * x2 * y1 * y2 ≠ e := by
  intro hd
  unfold OnC at h1 h2
  have e0 : e ≠ 0 := by rintro rfl; revert he; decide +kernel
  have hx1 : x1 ≠ 0 := by rintro rfl; apply e0; rw [← hd]; grobner
  have hy1 : y1 ≠ 0 := by rintro rfl; apply e0; rw [← hd]; grobner
  have hy2 : y2 ≠ 0 := by rintro rfl; apply e0; rw [← hd]; grobner
  have hi := ii_sq
  -- d (x1 y1)^2 (y2 + s i x2)^2 = (y1 + s e i x1)^2, of both signs
  have k1 : dd * ((x1 * y1 * (y2 + ii * x2)) * (x1 * y1 * (y2 + ii * x2))) = (y1 + e * ii * x1) * (y1 + e * ii * x1) := by grobner
  have k2 : dd * ((x1 * y1 * (y2 - ii * x2)) * (x1 * y1 * (y2 - ii * x2))) = (y1 - e * ii * x1) * (y1 - e * ii * x1) := by grobner
  have sq : ∀ t u : F, dd * (t * t) = u * u → t = 0 := by
    intro t u h
    refine Classical.byContradiction fun ht => ?_
    apply dd_nonsquare (u * F.inv t)
    have hv := F.inv_mul ht
    have : u * F.inv t * (u * F.inv t) = (u * u) * (F.inv t * F.inv t) := by grobner
    rw [this, ← h]
    have : dd * (t * t) * (F.inv t * F.inv t) = dd * ((t * F.inv t) * (t * F.inv t)) := by grobner
    rw [this, hv]; grobner
  have z1 := sq _ _ k1
  have z2 := sq _ _ k2
  have hxy := F.mul_ne hx1 hy1
  have w1 : y2 + ii * x2 = 0 := (F.mul_eq_zero z1).resolve_left hxy
  have w2 : y2 - ii * x2 = 0 := (F.mul_eq_zero z2).resolve_left hxy
  have : (2 : F) * y2 = 0 := by grobner
  exact hy2 ((F.mul_eq_zero this).resolve_left two_ne)
theorem denom_plus {x1 y1 x2 y2 : F} (h1 : OnC x1 y1) (h2 : OnC x2 y2) : 1 + dd * x1 * x2 * y1 * y2 ≠ 0 := by
  intro h
  exact denom h1 h2 (e := -1) (by decide +kernel) (by grobner)
theorem denom_minus {x1 y1 x2 y2 : F} (h1 : OnC x1 y1) (h2 : OnC x2 y2) : 1 - dd * x1 * x2 * y1 * y2 ≠ 0 := by
  intro h
  exact denom h1 h2 (e := 1) (by decide +kernel) (by grobner)
/-- a point of the curve -/
structure Pt where
  x : F
  y : F
  on : OnC x y
theorem Pt.ext' {p q : Pt} (hx : p.x = q.x) (hy : p.y = q.y) : p = q := by
  cases p; cases q; simp at hx hy; subst hx hy; rfl
def addX (x1 y1 x2 y2 : F) : F := (x1 * y2 + y1 * x2) * F.inv (1 + dd * x1 * x2 * y1 * y2)
def addY (x1 y1 x2 y2 : F) : F := (y1 * y2 + x1 * x2) * F.inv (1 - dd * x1 * x2 * y1 * y2)
theorem addX_mul {x1 y1 x2 y2 : F} (h1 : OnC x1 y1) (h2 : OnC x2 y2) : addX x1 y1 x2 y2 * (1 + dd * x1 * x2 * y1 * y2) = x1 * y2 + y1 * x2 := by
  have := F.inv_mul (denom_plus h1 h2)
  unfold addX
  generalize F.inv (1 + dd * x1 * x2 * y1 * y2) = v at *
  grobner
theorem addY_mul {x1 y1 x2 y2 : F} (h1 : OnC x1 y1) (h2 : OnC x2 y2) : addY x1 y1 x2 y2 * (1 - dd * x1 * x2 * y1 * y2) = y1 * y2 + x1 * x2 := by
  have := F.inv_mul (denom_minus h1 h2)
  unfold addY
  generalize F.inv (1 - dd * x1 * x2 * y1 * y2) = v at *
  grobner
theorem closure_id (d x1 y1 x2 y2 : F) : ((y1 * y2 + x1 * x2) * (y1 * y2 + x1 * x2)) * ((1 + d * x1 * x2 * y1 * y2) * (1 + d * x1 * x2 * y1 * y2)) - ((x1 * y2 + y1 * x2) * (x1 * y2 + y1 * x2)) * ((1 - d * x1 * x2 * y1 * y2) * (1 - d * x1 * x2 * y1 * y2)) - ((1 + d * x1 * x2 * y1 * y2) * (1 + d * x1 * x2 * y1 * y2)) * ((1 - d * x1 * x2 * y1 * y2) * (1 - d * x1 * x2 * y1 * y2)) - d * ((x1 * y2 + y1 * x2) * (x1 * y2 + y1 * x2)) * ((y1 * y2 + x1 * x2) * (y1 * y2 + x1 * x2)) = (y2 * y2 * y2 * y2 - 4 * x2 * x2 * y2 * y2 - 2 * x2 * x2 * y2 * y2 * d + 2 * x2 * x2 * y2 * y2 * y2 * y2 + x2 * x2 * x2 * x2 - 2 * x2 * x2 * x2 * x2 * y2 * y2 - 2 * x2 * x2 * x2 * x2 * y2 * y2 * y2 * y2 * d - x2 * x2 * x2 * x2 * y2 * y2 * y2 * y2 * d * d - y1 * y1 * x2 * x2 * y2 * y2 * y2 * y2 * d + y1 * y1 * x2 * x2 * x2 * x2 * y2 * y2 * d + y1 * y1 * x2 * x2 * x2 * x2 * y2 * y2 * y2 * y2 * d * d + x1 * x1 * x2 * x2 * y2 * y2 * y2 * y2 * d - x1 * x1 * x2 * x2 * x2 * x2 * y2 * y2 * d - x1 * x1 * x2 * x2 * x2 * x2 * y2 * y2 * y2 * y2 * d * d + x1 * x1 * y1 * y1 * x2 * x2 * x2 * x2 * y2 * y2 * y2 * y2 * d * d * d) * (y1 * y1 - x1 * x1 - (1 + d * (x1 * x1) * (y1 * y1))) + (1 + y2 * y2 - x2 * x2 + 2 * x2 * x2 * y2 * y2 + x2 * x2 * y2 * y2 * d - y1 * y1 * y2 * y2 + y1 * y1 * x2 * x2 - 2 * y1 * y1 * x2 * x2 * y2 * y2 - 2 * y1 * y1 * x2 * x2 * y2 * y2 * d + y1 * y1 * y1 * y1 * x2 * x2 * y2 * y2 * d + x1 * x1 * y2 * y2 - x1 * x1 * x2 * x2 + 2 * x1 * x1 * x2 * x2 * y2 * y2 + 2 * x1 * x1 * x2 * x2 * y2 * y2 * d + x1 * x1 * x1 * x1 * x2 * x2 * y2 * y2 * d) * (y2 * y2 - x2 * x2 - (1 + d * (x2 * x2) * (y2 * y2))) := by grobner
theorem assoc_x_id (d x1 y1 x2 y2 x3 y3 : F) : ((x1 * y2 + y1 * x2) * (1 - d * x1 * x2 * y1 * y2) * y3 + (y1 * y2 + x1 * x2) * (1 + d * x1 * x2 * y1 * y2) * x3) * ((1 + d * x2 * x3 * y2 * y3) * (1 - d * x2 * x3 * y2 * y3) + d * x1 * y1 * (x2 * y3 + y2 * x3) * (y2 * y3 + x2 * x3)) - (x1 * (y2 * y3 + x2 * x3) * (1 + d * x2 * x3 * y2 * y3) + y1 * (x2 * y3 + y2 * x3) * (1 - d * x2 * x3 * y2 * y3)) * ((1 + d * x1 * x2 * y1 * y2) * (1 - d * x1 * x2 * y1 * y2) + d * (x1 * y2 + y1 * x2) * (y1 * y2 + x1 * x2) * x3 * y3) = (- y1 * x2 * y2 * y2 * y2 * y2 * x3 * x3 * y3 * d - y1 * x2 * x2 * y2 * y2 * y2 * x3 * d - y1 * x2 * x2 * y2 * y2 * y2 * x3 * x3 * x3 * d - y1 * x2 * x2 * x2 * y2 * y2 * y3 * d + y1 * x2 * x2 * x2 * y2 * y2 * y3 * y3 * y3 * d + y1 * x2 * x2 * x2 * y2 * y2 * y2 * y2 * x3 * x3 * y3 * d * d + y1 * x2 * x2 * x2 * x2 * y2 * x3 * y3 * y3 * d + y1 * x2 * x2 * x2 * x2 * y2 * y2 * y2 * x3 * y3 * y3 * d * d + x1 * x2 * y2 * y2 * y2 * y2 * x3 * y3 * y3 * d - x1 * x2 * x2 * y2 * y2 * y2 * y3 * d + x1 * x2 * x2 * y2 * y2 * y2 * y3 * y3 * y3 * d - x1 * x2 * x2 * x2 * y2 * y2 * x3 * d - x1 * x2 * x2 * x2 * y2 * y2 * x3 * x3 * x3 * d - x1 * x2 * x2 * x2 * y2 * y2 * y2 * y2 * x3 * y3 * y3 * d * d - x1 * x2 * x2 * x2 * x2 * y2 * x3 * x3 * y3 * d - x1 * x2 * x2 * x2 * x2 * y2 * y2 * y2 * x3 * x3 * y3 * d * d) * (y1 * y1 - x1 * x1 - (1 + d * (x1 * x1) * (y1 * y1))) + (y1 * y2 * x3 - y1 * y2 * x3 * y3 * y3 + y1 * y2 * x3 * x3 * x3 + y1 * y2 * x3 * x3 * x3 * y3 * y3 * d + y1 * x2 * y3 - y1 * x2 * y3 * y3 * y3 + y1 * x2 * x3 * x3 * y3 + y1 * x2 * x3 * x3 * y3 * y3 * y3 * d - y1 * x2 * y2 * y2 * x3 * x3 * y3 * d - y1 * x2 * x2 * y2 * x3 * y3 * y3 * d - y1 * y1 * y1 * y2 * x3 + y1 * y1 * y1 * y2 * x3 * y3 * y3 - y1 * y1 * y1 * y2 * x3 * x3 * x3 - y1 * y1 * y1 * y2 * x3 * x3 * x3 * y3 * y3 * d - y1 * y1 * y1 * x2 * y3 + y1 * y1 * y1 * x2 * y3 * y3 * y3 - y1 * y1 * y1 * x2 * x3 * x3 * y3 - y1 * y1 * y1 * x2 * x3 * x3 * y3 * y3 * y3 * d + y1 * y1 * y1 * x2 * y2 * y2 * x3 * x3 * y3 * d + y1 * y1 * y1 * x2 * x2 * y2 * x3 * y3 * y3 * d + x1 * y2 * y3 - x1 * y2 * y3 * y3 * y3 + x1 * y2 * x3 * x3 * y3 + x1 * y2 * x3 * x3 * y3 * y3 * y3 * d + x1 * x2 * x3 - x1 * x2 * x3 * y3 * y3 + x1 * x2 * x3 * x3 * x3 + x1 * x2 * x3 * x3 * x3 * y3 * y3 * d + x1 * x2 * y2 * y2 * x3 * y3 * y3 * d + x1 * x2 * x2 * y2 * x3 * x3 * y3 * d - x1 * y1 * y1 * y2 * y3 + x1 * y1 * y1 * y2 * y3 * y3 * y3 - x1 * y1 * y1 * y2 * x3 * x3 * y3 - x1 * y1 * y1 * y2 * x3 * x3 * y3 * y3 * y3 * d - x1 * y1 * y1 * x2 * x3 + x1 * y1 * y1 * x2 * x3 * y3 * y3 - x1 * y1 * y1 * x2 * x3 * x3 * x3 - x1 * y1 * y1 * x2 * x3 * x3 * x3 * y3 * y3 * d - x1 * y1 * y1 * x2 * y2 * y2 * x3 * y3 * y3 * d + x1 * y1 * y1 * x2 * y2 * y2 * x3 * x3 * x3 * y3 * y3 * d * d - x1 * y1 * y1 * x2 * x2 * y2 * x3 * x3 * y3 * d - x1 * y1 * y1 * x2 * x2 * y2 * x3 * x3 * y3 * y3 * y3 * d * d + x1 * x1 * y1 * y2 * x3 - x1 * x1 * y1 * y2 * x3 * y3 * y3 + x1 * x1 * y1 * y2 * x3 * x3 * x3 + x1 * x1 * y1 * y2 * x3 * x3 * x3 * y3 * y3 * d + x1 * x1 * y1 * x2 * y3 - x1 * x1 * y1 * x2 * y3 * y3 * y3 + x1 * x1 * y1 * x2 * x3 * x3 * y3 + x1 * x1 * y1 * x2 * x3 * x3 * y3 * y3 * y3 * d - x1 * x1 * y1 * x2 * y2 * y2 * x3 * x3 * y3 * d - x1 * x1 * y1 * x2 * y2 * y2 * x3 * x3 * y3 * y3 * y3 * d * d - x1 * x1 * y1 * x2 * x2 * y2 * x3 * y3 * y3 * d + x1 * x1 * y1 * x2 * x2 * y2 * x3 * x3 * x3 * y3 * y3 * d * d + x1 * x1 * x1 * y2 * y3 - x1 * x1 * x1 * y2 * y3 * y3 * y3 + x1 * x1 * x1 * y2 * x3 * x3 * y3 + x1 * x1 * x1 * y2 * x3 * x3 * y3 * y3 * y3 * d + x1 * x1 * x1 * x2 * x3 - x1 * x1 * x1 * x2 * x3 * y3 * y3 + x1 * x1 * x1 * x2 * x3 * x3 * x3 + x1 * x1 * x1 * x2 * x3 * x3 * x3 * y3 * y3 * d + x1 * x1 * x1 * x2 * y2 * y2 * x3 * y3 * y3 * d + x1 * x1 * x1 * x2 * x2 * y2 * x3 * x3 * y3 * d) * (y2 * y2 - x2 * x2 - (1 + d * (x2 * x2) * (y2 * y2))) + (- y1 * y2 * x3 + y1 * y2 * y2 * y2 * x3 - y1 * x2 * y3 + y1 * x2 * y2 * y2 * y3 - y1 * x2 * x2 * y2 * x3 - y1 * x2 * x2 * x2 * y3 + y1 * y1 * y1 * y2 * x3 - y1 * y1 * y1 * y2 * y2 * y2 * x3 + y1 * y1 * y1 * x2 * y3 - y1 * y1 * y1 * x2 * y2 * y2 * y3 + y1 * y1 * y1 * x2 * x2 * y2 * x3 + y1 * y1 * y1 * x2 * x2 * x2 * y3 - x1 * y2 * y3 + x1 * y2 * y2 * y2 * y3 - x1 * x2 * x3 + x1 * x2 * y2 * y2 * x3 - x1 * x2 * x2 * y2 * y3 - x1 * x2 * x2 * x2 * x3 + x1 * y1 * y1 * y2 * y3 - x1 * y1 * y1 * y2 * y2 * y2 * y3 + x1 * y1 * y1 * x2 * x3 - x1 * y1 * y1 * x2 * y2 * y2 * x3 - x1 * y1 * y1 * x2 * y2 * y2 * x3 * d + x1 * y1 * y1 * x2 * x2 * y2 * y3 + x1 * y1 * y1 * x2 * x2 * y2 * y3 * d + x1 * y1 * y1 * x2 * x2 * x2 * x3 - x1 * x1 * y1 * y2 * x3 + x1 * x1 * y1 * y2 * y2 * y2 * x3 - x1 * x1 * y1 * x2 * y3 + x1 * x1 * y1 * x2 * y2 * y2 * y3 + x1 * x1 * y1 * x2 * y2 * y2 * y3 * d - x1 * x1 * y1 * x2 * x2 * y2 * x3 - x1 * x1 * y1 * x2 * x2 * y2 * x3 * d - x1 * x1 * y1 * x2 * x2 * x2 * y3 - x1 * x1 * x1 * y2 * y3 + x1 * x1 * x1 * y2 * y2 * y2 * y3 - x1 * x1 * x1 * x2 * x3 + x1 * x1 * x1 * x2 * y2 * y2 * x3 - x1 * x1 * x1 * x2 * x2 * y2 * y3 - x1 * x1 * x1 * x2 * x2 * x2 * x3) * (y3 * y3 - x3 * x3 - (1 + d * (x3 * x3) * (y3 * y3))) := by grobner
theorem assoc_y_id (d x1 y1 x2 y2 x3 y3 : F) : ((y1 * y2 + x1 * x2) * (1 + d * x1 * x2 * y1 * y2) * y3 + (x1 * y2 + y1 * x2) * (1 - d * x1 * x2 * y1 * y2) * x3) * ((1 + d * x2 * x3 * y2 * y3) * (1 - d * x2 * x3 * y2 * y3) - d * x1 * y1 * (x2 * y3 + y2 * x3) * (y2 * y3 + x2 * x3)) - (y1 * (y2 * y3 + x2 * x3) * (1 + d * x2 * x3 * y2 * y3) + x1 * (x2 * y3 + y2 * x3) * (1 - d * x2 * x3 * y2 * y3)) * ((1 + d * x1 * x2 * y1 * y2) * (1 - d * x1 * x2 * y1 * y2) - d * (x1 * y2 + y1 * x2) * (y1 * y2 + x1 * x2) * x3 * y3) = (y1 * x2 * y2 * y2 * y2 * y2 * x3 * y3 * y3 * d - y1 * x2 * x2 * y2 * y2 * y2 * y3 * d + y1 * x2 * x2 * y2 * y2 * y2 * y3 * y3 * y3 * d - y1 * x2 * x2 * x2 * y2 * y2 * x3 * d - y1 * x2 * x2 * x2 * y2 * y2 * x3 * x3 * x3 * d - y1 * x2 * x2 * x2 * y2 * y2 * y2 * y2 * x3 * y3 * y3 * d * d - y1 * x2 * x2 * x2 * x2 * y2 * x3 * x3 * y3 * d - y1 * x2 * x2 * x2 * x2 * y2 * y2 * y2 * x3 * x3 * y3 * d * d - x1 * x2 * y2 * y2 * y2 * y2 * x3 * x3 * y3 * d - x1 * x2 * x2 * y2 * y2 * y2 * x3 * d - x1 * x2 * x2 * y2 * y2 * y2 * x3 * x3 * x3 * d - x1 * x2 * x2 * x2 * y2 * y2 * y3 * d + x1 * x2 * x2 * x2 * y2 * y2 * y3 * y3 * y3 * d + x1 * x2 * x2 * x2 * y2 * y2 * y2 * y2 * x3 * x3 * y3 * d * d + x1 * x2 * x2 * x2 * x2 * y2 * x3 * y3 * y3 * d + x1 * x2 * x2 * x2 * x2 * y2 * y2 * y2 * x3 * y3 * y3 * d * d) * (y1 * y1 - x1 * x1 - (1 + d * (x1 * x1) * (y1 * y1))) + (y1 * y2 * y3 - y1 * y2 * y3 * y3 * y3 + y1 * y2 * x3 * x3 * y3 + y1 * y2 * x3 * x3 * y3 * y3 * y3 * d + y1 * x2 * x3 - y1 * x2 * x3 * y3 * y3 + y1 * x2 * x3 * x3 * x3 + y1 * x2 * x3 * x3 * x3 * y3 * y3 * d + y1 * x2 * y2 * y2 * x3 * y3 * y3 * d + y1 * x2 * x2 * y2 * x3 * x3 * y3 * d - y1 * y1 * y1 * y2 * y3 + y1 * y1 * y1 * y2 * y3 * y3 * y3 - y1 * y1 * y1 * y2 * x3 * x3 * y3 - y1 * y1 * y1 * y2 * x3 * x3 * y3 * y3 * y3 * d - y1 * y1 * y1 * x2 * x3 + y1 * y1 * y1 * x2 * x3 * y3 * y3 - y1 * y1 * y1 * x2 * x3 * x3 * x3 - y1 * y1 * y1 * x2 * x3 * x3 * x3 * y3 * y3 * d - y1 * y1 * y1 * x2 * y2 * y2 * x3 * y3 * y3 * d - y1 * y1 * y1 * x2 * x2 * y2 * x3 * x3 * y3 * d + x1 * y2 * x3 - x1 * y2 * x3 * y3 * y3 + x1 * y2 * x3 * x3 * x3 + x1 * y2 * x3 * x3 * x3 * y3 * y3 * d + x1 * x2 * y3 - x1 * x2 * y3 * y3 * y3 + x1 * x2 * x3 * x3 * y3 + x1 * x2 * x3 * x3 * y3 * y3 * y3 * d - x1 * x2 * y2 * y2 * x3 * x3 * y3 * d - x1 * x2 * x2 * y2 * x3 * y3 * y3 * d - x1 * y1 * y1 * y2 * x3 + x1 * y1 * y1 * y2 * x3 * y3 * y3 - x1 * y1 * y1 * y2 * x3 * x3 * x3 - x1 * y1 * y1 * y2 * x3 * x3 * x3 * y3 * y3 * d - x1 * y1 * y1 * x2 * y3 + x1 * y1 * y1 * x2 * y3 * y3 * y3 - x1 * y1 * y1 * x2 * x3 * x3 * y3 - x1 * y1 * y1 * x2 * x3 * x3 * y3 * y3 * y3 * d + x1 * y1 * y1 * x2 * y2 * y2 * x3 * x3 * y3 * d + x1 * y1 * y1 * x2 * y2 * y2 * x3 * x3 * y3 * y3 * y3 * d * d + x1 * y1 * y1 * x2 * x2 * y2 * x3 * y3 * y3 * d - x1 * y1 * y1 * x2 * x2 * y2 * x3 * x3 * x3 * y3 * y3 * d * d + x1 * x1 * y1 * y2 * y3 - x1 * x1 * y1 * y2 * y3 * y3 * y3 + x1 * x1 * y1 * y2 * x3 * x3 * y3 + x1 * x1 * y1 * y2 * x3 * x3 * y3 * y3 * y3 * d + x1 * x1 * y1 * x2 * x3 - x1 * x1 * y1 * x2 * x3 * y3 * y3 + x1 * x1 * y1 * x2 * x3 * x3 * x3 + x1 * x1 * y1 * x2 * x3 * x3 * x3 * y3 * y3 * d + x1 * x1 * y1 * x2 * y2 * y2 * x3 * y3 * y3 * d - x1 * x1 * y1 * x2 * y2 * y2 * x3 * x3 * x3 * y3 * y3 * d * d + x1 * x1 * y1 * x2 * x2 * y2 * x3 * x3 * y3 * d + x1 * x1 * y1 * x2 * x2 * y2 * x3 * x3 * y3 * y3 * y3 * d * d + x1 * x1 * x1 * y2 * x3 - x1 * x1 * x1 * y2 * x3 * y3 * y3 + x1 * x1 * x1 * y2 * x3 * x3 * x3 + x1 * x1 * x1 * y2 * x3 * x3 * x3 * y3 * y3 * d + x1 * x1 * x1 * x2 * y3 - x1 * x1 * x1 * x2 * y3 * y3 * y3 + x1 * x1 * x1 * x2 * x3 * x3 * y3 + x1 * x1 * x1 * x2 * x3 * x3 * y3 * y3 * y3 * d - x1 * x1 * x1 * x2 * y2 * y2 * x3 * x3 * y3 * d - x1 * x1 * x1 * x2 * x2 * y2 * x3 * y3 * y3 * d) * (y2 * y2 - x2 * x2 - (1 + d * (x2 * x2) * (y2 * y2))) + (- y1 * y2 * y3 + y1 * y2 * y2 * y2 * y3 - y1 * x2 * x3 + y1 * x2 * y2 * y2 * x3 - y1 * x2 * x2 * y2 * y3 - y1 * x2 * x2 * x2 * x3 + y1 * y1 * y1 * y2 * y3 - y1 * y1 * y1 * y2 * y2 * y2 * y3 + y1 * y1 * y1 * x2 * x3 - y1 * y1 * y1 * x2 * y2 * y2 * x3 + y1 * y1 * y1 * x2 * x2 * y2 * y3 + y1 * y1 * y1 * x2 * x2 * x2 * x3 - x1 * y2 * x3 + x1 * y2 * y2 * y2 * x3 - x1 * x2 * y3 + x1 * x2 * y2 * y2 * y3 - x1 * x2 * x2 * y2 * x3 - x1 * x2 * x2 * x2 * y3 + x1 * y1 * y1 * y2 * x3 - x1 * y1 * y1 * y2 * y2 * y2 * x3 + x1 * y1 * y1 * x2 * y3 - x1 * y1 * y1 * x2 * y2 * y2 * y3 - x1 * y1 * y1 * x2 * y2 * y2 * y3 * d + x1 * y1 * y1 * x2 * x2 * y2 * x3 + x1 * y1 * y1 * x2 * x2 * y2 * x3 * d + x1 * y1 * y1 * x2 * x2 * x2 * y3 - x1 * x1 * y1 * y2 * y3 + x1 * x1 * y1 * y2 * y2 * y2 * y3 - x1 * x1 * y1 * x2 * x3 + x1 * x1 * y1 * x2 * y2 * y2 * x3 + x1 * x1 * y1 * x2 * y2 * y2 * x3 * d - x1 * x1 * y1 * x2 * x2 * y2 * y3 - x1 * x1 * y1 * x2 * x2 * y2 * y3 * d - x1 * x1 * y1 * x2 * x2 * x2 * x3 - x1 * x1 * x1 * y2 * x3 + x1 * x1 * x1 * y2 * y2 * y2 * x3 - x1 * x1 * x1 * x2 * y3 + x1 * x1 * x1 * x2 * y2 * y2 * y3 - x1 * x1 * x1 * x2 * x2 * y2 * x3 - x1 * x1 * x1 * x2 * x2 * x2 * y3) * (y3 * y3 - x3 * x3 - (1 + d * (x3 * x3) * (y3 * y3))) := by grobner
theorem add_on {x1 y1 x2 y2 : F} (h1 : OnC x1 y1) (h2 : OnC x2 y2) : OnC (addX x1 y1 x2 y2) (addY x1 y1 x2 y2) := by
  have a := addX_mul h1 h2
  have b := addY_mul h1 h2
  have p := denom_plus h1 h2
  have q := denom_minus h1 h2
  have c := closure_id dd x1 y1 x2 y2
  have z1 := h1.zero
  have z2 := h2.zero
  rw [z1, z2, F.mz, F.mz, F.az] at c
  unfold OnC
  generalize addX x1 y1 x2 y2 = X at *
  generalize addY x1 y1 x2 y2 = Y at *
  rw [← a, ← b] at c
  generalize 1 + dd * x1 * x2 * y1 * y2 = D at *
  generalize 1 - dd * x1 * x2 * y1 * y2 = E at *
  clear a b z1 z2 h1 h2
  have k : (Y * Y - X * X - (1 + dd * (X * X) * (Y * Y))) * ((D * D) * (E * E)) = 0 := by grobner
  rcases F.mul_eq_zero k with k | k
  · grobner
  · exact absurd k (F.mul_ne (F.mul_ne p p) (F.mul_ne q q))
def Pt.add (p q : Pt) : Pt := ⟨addX p.x p.y q.x q.y, addY p.x p.y q.x q.y, add_on p.on q.on⟩
def Pt.zero : Pt := ⟨0, 1, by unfold OnC; grobner⟩
def Pt.neg (p : Pt) : Pt := ⟨-p.x, p.y, by have := p.on; unfold OnC at *; grobner⟩
theorem Pt.add_comm (p q : Pt) : p.add q = q.add p := by
  apply Pt.ext'
  · show addX _ _ _ _ = addX _ _ _ _
    unfold addX
    rw [show p.x * q.y + p.y * q.x = q.x * p.y + q.y * p.x from by grobner, show 1 + dd * p.x * q.x * p.y * q.y = 1 + dd * q.x * p.x * q.y * p.y from by grobner]
  · show addY _ _ _ _ = addY _ _ _ _
    unfold addY
    rw [show p.y * q.y + p.x * q.x = q.y * p.y + q.x * p.x from by grobner, show 1 - dd * p.x * q.x * p.y * q.y = 1 - dd * q.x * p.x * q.y * p.y from by grobner]
theorem Pt.add_zero (p : Pt) : p.add Pt.zero = p := by
  have h1 := addX_mul p.on Pt.zero.on
  have h2 := addY_mul p.on Pt.zero.on
  apply Pt.ext'
  · show addX p.x p.y 0 1 = p.x
    have e : addX p.x p.y 0 1 * (1 + dd * p.x * 0 * p.y * 1) = p.x * 1 + p.y * 0 := h1
    grobner
  · show addY p.x p.y 0 1 = p.y
    have e : addY p.x p.y 0 1 * (1 - dd * p.x * 0 * p.y * 1) = p.y * 1 + p.x * 0 := h2
    grobner
theorem Pt.add_neg (p : Pt) : p.add p.neg = Pt.zero := by
  have h1 := addX_mul p.on p.neg.on
  have h2 := addY_mul p.on p.neg.on
  have d1 := denom_plus p.on p.neg.on
  have d2 := denom_minus p.on p.neg.on
  have ho := p.on
  unfold OnC at ho
  simp only [Pt.neg] at h1 h2 d1 d2
  apply Pt.ext'
  · show addX p.x p.y (-p.x) p.y = 0
    apply F.cancel d1
    rw [h1]; grobner
  · show addY p.x p.y (-p.x) p.y = 1
    apply F.cancel d2
    rw [h2]; grobner
theorem Pt.add_assoc (p q r : Pt) : (p.add q).add r = p.add (q.add r) := by

  obtain ⟨x1, y1, o1⟩ := p
  obtain ⟨x2, y2, o2⟩ := q
  obtain ⟨x3, y3, o3⟩ := r
  have a12 := addX_mul o1 o2
  have b12 := addY_mul o1 o2
  have a23 := addX_mul o2 o3
  have b23 := addY_mul o2 o3
  have p12 := denom_plus o1 o2
  have q12 := denom_minus o1 o2
  have p23 := denom_plus o2 o3
  have q23 := denom_minus o2 o3
  have n12 := add_on o1 o2
  have n23 := add_on o2 o3
  have aL := addX_mul n12 o3
  have bL := addY_mul n12 o3
  have aR := addX_mul o1 n23
  have bR := addY_mul o1 n23
  have pL := denom_plus n12 o3
  have qL := denom_minus n12 o3
  have pR := denom_plus o1 n23
  have qR := denom_minus o1 n23
  have ix := assoc_x_id dd x1 y1 x2 y2 x3 y3
  have iy := assoc_y_id dd x1 y1 x2 y2 x3 y3
  have z1 := o1.zero
  have z2 := o2.zero
  have z3 := o3.zero
  rw [z1, z2, z3, F.mz, F.mz, F.mz, F.az, F.az] at ix iy
  apply Pt.ext'
  · show addX (addX x1 y1 x2 y2) (addY x1 y1 x2 y2) x3 y3 = addX x1 y1 (addX x2 y2 x3 y3) (addY x2 y2 x3 y3)
    clear z1 z2 z3 o1 o2 o3 n12 n23 bL bR iy qL qR
    generalize addX (addX x1 y1 x2 y2) (addY x1 y1 x2 y2) x3 y3 = XL at *
    generalize addX x1 y1 (addX x2 y2 x3 y3) (addY x2 y2 x3 y3) = XR at *
    generalize addX x1 y1 x2 y2 = u at *
    generalize addY x1 y1 x2 y2 = v at *
    generalize addX x2 y2 x3 y3 = s at *
    generalize addY x2 y2 x3 y3 = t at *
    generalize 1 + dd * x1 * x2 * y1 * y2 = D at *
    generalize 1 - dd * x1 * x2 * y1 * y2 = E at *
    generalize 1 + dd * x2 * x3 * y2 * y3 = G at *
    generalize 1 - dd * x2 * x3 * y2 * y3 = H at *
    rw [← a12, ← b12, ← a23, ← b23] at ix
    clear a12 b12 a23 b23
    generalize hA : 1 + dd * u * x3 * v * y3 = A at *
    generalize hB : 1 + dd * x1 * s * y1 * t = B at *
    have k1 : XL * (D * E * A) = (u * y3 + v * x3) * (D * E) := by grobner
    have k2 : XR * (G * H * B) = (x1 * t + y1 * s) * (G * H) := by grobner
    have k3 : (u * y3 + v * x3) * (D * E) * (G * H * B) = (x1 * t + y1 * s) * (G * H) * (D * E * A) := by grobner
    apply F.cancel (F.mul_ne (F.mul_ne (F.mul_ne p12 q12) pL) (F.mul_ne (F.mul_ne p23 q23) pR))
    grobner
  · show addY (addX x1 y1 x2 y2) (addY x1 y1 x2 y2) x3 y3 = addY x1 y1 (addX x2 y2 x3 y3) (addY x2 y2 x3 y3)
    clear z1 z2 z3 o1 o2 o3 n12 n23 aL aR ix pL pR
    generalize addY (addX x1 y1 x2 y2) (addY x1 y1 x2 y2) x3 y3 = XL at *
    generalize addY x1 y1 (addX x2 y2 x3 y3) (addY x2 y2 x3 y3) = XR at *
    generalize addX x1 y1 x2 y2 = u at *
    generalize addY x1 y1 x2 y2 = v at *
    generalize addX x2 y2 x3 y3 = s at *
    generalize addY x2 y2 x3 y3 = t at *
    generalize 1 + dd * x1 * x2 * y1 * y2 = D at *
    generalize 1 - dd * x1 * x2 * y1 * y2 = E at *
    generalize 1 + dd * x2 * x3 * y2 * y3 = G at *
    generalize 1 - dd * x2 * x3 * y2 * y3 = H at *
    rw [← a12, ← b12, ← a23, ← b23] at iy
    clear a12 b12 a23 b23
    generalize hA : 1 - dd * u * x3 * v * y3 = A at *
    generalize hB : 1 - dd * x1 * s * y1 * t = B at *
    have k1 : XL * (D * E * A) = (v * y3 + u * x3) * (D * E) := by grobner
    have k2 : XR * (G * H * B) = (y1 * t + x1 * s) * (G * H) := by grobner
    have k3 : (v * y3 + u * x3) * (D * E) * (G * H * B) = (y1 * t + x1 * s) * (G * H) * (D * E * A) := by grobner
    apply F.cancel (F.mul_ne (F.mul_ne (F.mul_ne p12 q12) qL) (F.mul_ne (F.mul_ne p23 q23) qR))
    grobner
end BJ
end

section
namespace Go.Proofs.YthdfifcgobfgdaaGreat
open Go Go.Ev
set_option maxRecDepth 100000
abbrev Fe := Vec Int 5
abbrev B32 := Vec Int 32
def w64 (n : Int) : Int := IntKind.u64.wrap n
def and64 (a b : Int) : Int := bitAnd .u64 a b
def shr64 (a b : Int) : Int := shr .u64 a b
def msk : Int := 2251799813685247
def feCarry (x : Fe) : Fe :=
  (w64 (and64 x.1 msk + w64 (shr64 x.2.2.2.2.1 51 * 19)),
   w64 (and64 x.2.1 msk + shr64 x.1 51),
   w64 (and64 x.2.2.1 msk + shr64 x.2.1 51),
   w64 (and64 x.2.2.2.1 msk + shr64 x.2.2.1 51),
   w64 (and64 x.2.2.2.2.1 msk + shr64 x.2.2.2.1 51), ())
def feSmall (n : Int) : Fe := (and64 n msk, shr64 n 51, 0, 0, 0, ())
def feAdd (carry : Fe → Fe) (x y : Fe) : Fe := carry (Vec.zip (fun a b => w64 (a + b)) x y)
def feSub (carry : Fe → Fe) (x y : Fe) : Fe := carry (Vec.zip (fun a b => w64 (a - b)) (Vec.zip (fun a b => w64 (a + b)) x (4503599627370458, 4503599627370494, 4503599627370494, 4503599627370494, 4503599627370494, ())) y)
def feZero : Fe := (0, 0, 0, 0, 0, ())
def eqV : {n : Nat} → Vec Int n → Vec Int n → Bool
  | 0, _, _ => true
  | _ + 1, v, u => (v.1 == u.1) && eqV v.2 u.2
theorem eqV_iff : {n : Nat} → (v u : Vec Int n) → (eqV v u = true ↔ v = u)
  | 0, _, _ => ⟨fun _ => rfl, fun _ => rfl⟩
  | n + 1, v, u => by
    simp only [eqV, Bool.and_eq_true, beq_iff_eq, eqV_iff v.2 u.2]
    exact ⟨fun h => Prod.ext h.1 h.2, fun h => by rw [h]; exact ⟨rfl, rfl⟩⟩
def feOdd (bytes : Fe → B32) (x : Fe) : Bool := bitAnd .u8 (bytes x).1 1 == 1
def feLeast (carry : Fe → Fe) (x : Fe) : Fe :=
  let y := carry x
  let c := shr64 (w64 (y.1 + 19)) 51
  let c := shr64 (w64 (y.2.1 + c)) 51
  let c := shr64 (w64 (y.2.2.1 + c)) 51
  let c := shr64 (w64 (y.2.2.2.1 + c)) 51
  let c := shr64 (w64 (y.2.2.2.2.1 + c)) 51
  let c := w64 (c * 19)
  let c0 := w64 (c + y.1)
  let c1 := w64 (shr64 c0 51 + y.2.1)
  let c2 := w64 (shr64 c1 51 + y.2.2.1)
  let c3 := w64 (shr64 c2 51 + y.2.2.2.1)
  let c4 := w64 (shr64 c3 51 + y.2.2.2.2.1)
  (and64 c0 msk, and64 c1 msk, and64 c2 msk, and64 c3 msk, and64 c4 msk, ())
end Go.Proofs.YthdfifcgobfgdaaGreat
namespace Go.Proofs.YthdfifcgobfgdaaGreat
open Go Go.Ev
set_option maxRecDepth 1000000
def feBits (y : Fe) : B32 := Vec.ofFn 32 fun j => (List.range (if j = 31 then 7 else 8)).foldl
  (fun acc i => bitOr .u8 acc (shl .u8 (IntKind.u8.wrap (and64 (shr64 (y.get ((8 * j + i) / 51)) (((8 * j + i) % 51 : Nat) : Int)) 1)) (i : Int))) 0
def word (b : B32) (j : Nat) : Int := (List.range 8).foldl (fun acc i => bitOr .u64 acc (shl .u64 (w64 (b.get (8 * j + i))) (8 * i : Nat))) 0
def feFrom (b : B32) : Fe :=
  (and64 (word b 0) msk, and64 (bitOr .u64 (shr64 (word b 0) 51) (shl .u64 (word b 1) 13)) msk, and64 (bitOr .u64 (shr64 (word b 1) 38) (shl .u64 (word b 2) 26)) msk,
   and64 (bitOr .u64 (shr64 (word b 2) 25) (shl .u64 (word b 3) 39)) msk, and64 (shr64 (word b 3) 12) msk, ())
def Vec.upd {α : Type} (f : α → α) : {n : Nat} → Nat → Vec α n → Vec α n
  | 0, _, _ => ()
  | _ + 1, 0, v => (f v.1, v.2)
  | _ + 1, i + 1, v => (v.1, Vec.upd f i v.2)
def clearTop (b : B32) : B32 := Vec.upd (fun x => bitAndNot .u8 x 128) 31 b
def mulFn (x y : Int) : Int × Int :=
  let x0 := and64 x 4294967295
  let x1 := shr64 x 32
  let y0 := and64 y 4294967295
  let y1 := shr64 y 32
  let t := w64 (w64 (x1 * y0) + shr64 (w64 (x0 * y0)) 32)
  let w1 := w64 (and64 t 4294967295 + w64 (x0 * y1))
  (w64 (w64 (w64 (x1 * y1) + shr64 t 32) + shr64 w1 32), w64 (x * y))
def conjAll : List Prop → Option Prop
  | [] => none
  | p :: l => conj p (conjAll l)
section
variable (m64 : Int → Int → Int × Int) (a64 : Int → Int → Int → Int × Int)
def mulRun (x y : Fe) : List (Nat × Nat) → List (Int × Int) → List (Int × Int) × List Prop
  | [], r => (r, [])
  | (i, j) :: l, r =>
    let a := if i + j < 5 then x.get i else w64 (x.get i * 19)
    let p := r.getD ((i + j) % 5) (0, 0)
    let m := m64 a (y.get j)
    let s := a64 p.2 m.2 0
    let t := a64 p.1 m.1 s.2
    let z := mulRun x y l (r.set ((i + j) % 5) (t.1, s.1))
    (z.1, (0 ≤ s.2 ∧ s.2 ≤ 1) :: z.2)
def mulSteps : List (Nat × Nat) := [(0,0),(0,1),(0,2),(0,3),(0,4),(1,0),(1,1),(1,2),(1,3),(1,4),(2,0),(2,1),(2,2),(2,3),(2,4),(3,0),(3,1),(3,2),(3,3),(3,4),(4,0),(4,1),(4,2),(4,3),(4,4)]
def mulNeeds (x y : Fe) : List Prop := (mulRun m64 a64 x y mulSteps [(0,0),(0,0),(0,0),(0,0),(0,0)]).2
def mulOut (carry : Fe → Fe) (x y : Fe) : Fe :=
  let r := (mulRun m64 a64 x y mulSteps [(0,0),(0,0),(0,0),(0,0),(0,0)]).1
  let lo (i : Nat) := and64 (r.getD i (0,0)).2 msk
  let c (i : Nat) := bitOr .u64 (shl .u64 (r.getD i (0,0)).1 13) (shr64 (r.getD i (0,0)).2 51)
  carry (w64 (w64 (0 + lo 0) + w64 (c 4 * 19)), w64 (w64 (0 + c 0) + lo 1), w64 (w64 (0 + c 1) + lo 2), w64 (w64 (0 + c 2) + lo 3), w64 (w64 (0 + c 3) + lo 4), ())
end
end Go.Proofs.YthdfifcgobfgdaaGreat
namespace Go.Proofs.YthdfifcgobfgdaaGreat
open Go Go.Ev
set_option maxRecDepth 1000000
noncomputable def feExp (lo hi : Int) : B32 := Vec.ofFn 32 fun j => if j = 0 then lo else if j = 31 then hi else 255
def selN (b : Bool) : {n : Nat} → Vec Int n → Vec Int n → Vec Int n
  | 0, _, _ => ()
  | _ + 1, v, u => (bif b then v.1 else u.1, selN b v.2 u.2)
theorem selN_eq : {n : Nat} → (b : Bool) → (v u : Vec Int n) → selN b v u = bif b then v else u
  | 0, b, v, u => by cases b <;> rfl
  | n + 1, b, v, u => by
    show ((bif b then v.1 else u.1), selN b v.2 u.2) = _
    rw [selN_eq b v.2 u.2]
    cases b <;> rfl
theorem selN_self {n : Nat} (b : Bool) (v : Vec Int n) : selN b v v = v := by rw [selN_eq]; cases b <;> rfl
def bitU8 (e : B32) (i : Nat) : Bool := bitAnd .u8 (shr .u8 (e.get (i / 8)) ((i % 8 : Nat) : Int)) 1 == 1
section
variable (small : Int → Fe) (square : Fe → Fe) (mul : Fe → Fe → Fe)
def powStep (x : Fe) (e : B32) (k : Nat) (r : Fe) : Fe := selN (bitU8 e (255 - k)) (mul (square r) x) (square r)
noncomputable def powFn (x : Fe) (e : B32) : Fe := rnds (powStep square mul x e) 256 (small 1)
end
section
variable (pow : Fe → B32 → Fe) (exp : Int → Int → B32) (mul : Fe → Fe → Fe) (square neg : Fe → Fe) (small : Int → Fe) (equal : Fe → Fe → Bool) (odd isZero : Fe → Bool) (invert : Fe → Fe)
noncomputable def rootFn (x : Fe) : Fe × Bool :=
  let r := pow x (exp 254 15)
  let r1 := selN (!(equal (square r) x)) (mul r (pow (small 2) (exp 251 31))) r
  let bad := !(equal (square r1) (selN (!(equal (square r) x)) x x))
  (selN bad feZero (selN (odd r1) (neg r1) r1), bif bad then false else true)
end
end Go.Proofs.YthdfifcgobfgdaaGreat
namespace Go.Proofs.YthdfifcgobfgdaaGreat
open Go Go.Ev
set_option maxRecDepth 1000000
abbrev Pt := Bool × Fe × Fe × Fe × Fe
noncomputable def selPt (b : Bool) (p q : Pt) : Pt := (bif b then p.1 else q.1, selN b p.2.1 q.2.1, selN b p.2.2.1 q.2.2.1, selN b p.2.2.2.1 q.2.2.2.1, selN b p.2.2.2.2 q.2.2.2.2)
theorem selPt_eq (b : Bool) (p q : Pt) : selPt b p q = bif b then p else q := by
  unfold selPt; rw [selN_eq, selN_eq, selN_eq, selN_eq]; cases b <;> rfl
section
variable (mul add sub : Fe → Fe → Fe) (square neg invert : Fe → Fe) (small : Int → Fe) (isZero odd : Fe → Bool) (sqrt : Fe → Fe × Bool) (ratio : Fe → Fe → Fe × Bool) (frm : B32 → Fe) (bytes : Fe → B32)
  (canonical : B32 → Bool) (equal : Fe → Fe → Bool) (edge : Fe) (zero : Pt) (own : Pt → Pt) (affine : Fe → Fe → Pt) (root : Fe → Fe × Bool) (place : Pt → Fe × Fe) (cross : Fe → Fe → Fe → Fe → Pt) (padd : Pt → Pt → Pt)
noncomputable def edgeBytes : B32 := (0xa3, 0x78, 0x59, 0x13, 0xca, 0x4d, 0xeb, 0x75, 0xab, 0xd8, 0x41, 0x41, 0x4d, 0x0a, 0x70, 0x00, 0x98, 0xe8, 0x79, 0x77, 0x79, 0x40, 0xc7, 0x8c, 0x73, 0xfe, 0x6f, 0x2b, 0xee, 0x6c, 0x03, 0x52, ())
noncomputable def affineFn (x y : Fe) : Pt := (true, x, y, small 1, mul x y)
noncomputable def ownFn (p : Pt) : Pt := selPt (!p.1) zero p
noncomputable def ptNone : Pt := (false, feZero, feZero, feZero, feZero)
noncomputable def topBit (b : B32) : Bool := bitAnd .u8 (b.get 31) 128 != 0
noncomputable def decodeFn (b : B32) : Pt × Bool :=
  let y := frm b
  let x := (root y).1
  let ok := (root y).2
  let b1 := (!ok) == false
  let b2 := (!(canonical b)) == false
  let b3 := topBit b == true
  let j (v : Fe) : Fe := selN b1 (selN b2 (selN b3 v v) v) v
  let jb (v : Bool) : Bool := bif b1 then (bif b2 then (bif b3 then v else v) else v) else v
  let bad := bif b1 then (bif b2 then (bif b3 then isZero x else false) else true) else true
  let o := jb (topBit b)
  (selPt bad ptNone (affine (selN o (neg (j x)) (j x)) (selN o (j y) (j y))), bif bad then false else true)
noncomputable def placeFn (p : Pt) : Fe × Fe := (mul (own p).2.1 (invert (own p).2.2.2.1), mul (own p).2.2.1 (invert (own p).2.2.2.1))
noncomputable def encodeFn (p : Pt) : B32 :=
  let b := bytes (place p).2
  selN (odd (place p).1) (Vec.upd (fun x => bitOr .u8 x 128) 31 b) b
noncomputable def crossFn (e f g h : Fe) : Pt := (true, mul e f, mul g h, mul f g, mul e h)
noncomputable def addFn (p0 q0 : Pt) : Pt :=
  let p := own p0
  let q := own q0
  let a := mul (sub p.2.2.1 p.2.1) (sub q.2.2.1 q.2.1)
  let b := mul (add p.2.2.1 p.2.1) (add q.2.2.1 q.2.1)
  let c := mul (mul p.2.2.2.2 q.2.2.2.2) edge
  let c := add c c
  let d := mul p.2.2.2.1 q.2.2.2.1
  let d := add d d
  cross (sub b a) (sub d c) (add d c) (add b a)
noncomputable def negFn (p : Pt) : Pt := ((own p).1, neg (own p).2.1, (own p).2.2.1, (own p).2.2.2.1, neg (own p).2.2.2.2)
end
end Go.Proofs.YthdfifcgobfgdaaGreat
namespace Go.Ev
open Go
end Go.Ev
namespace Go.Proofs.YthdfifcgobfgdaaGreat
open Go Go.Ev
set_option maxRecDepth 1000000
noncomputable def bitFn (b : B32) (k : Nat) : Int := IntKind.i64.wrap (bitAnd .u8 (shr .u8 (b.get (k / 8)) ((k % 8 : Nat) : Int)) 1)
section
variable (bit : B32 → Nat → Int) (zero base : Pt) (double : Pt → Pt) (padd : Pt → Pt → Pt)
noncomputable def multStep (n : B32) (p : Pt) (k : Nat) (r : Pt) : Pt := selPt (bit n (255 - k) == 1) (padd (double r) p) (double r)
noncomputable def multFn (n : B32) (p : Pt) : Pt := rnds (multStep bit double padd n p) 256 zero
end
end Go.Proofs.YthdfifcgobfgdaaGreat
namespace Go.Proofs.YthdfifcgobfgdaaGreat
open Go Go.Ev
set_option maxRecDepth 1000000
abbrev Fn := Vec Int 16
def w (n : Int) : Int := IntKind.i64.wrap n
def lowBits (n m : Int) : Int := bitAnd .i64 n m
def down (n m : Int) : Int := shr .i64 n m
noncomputable def prime9 : Fn := (65517, 65535, 65535, 65535, 65535, 65535, 65535, 65535, 65535, 65535, 65535, 65535, 65535, 65535, 65535, 32767, ())
noncomputable def zero9 : Fn := (0, 0, 0, 0, 0, 0, 0, 0, 0, 0, 0, 0, 0, 0, 0, 0, ())
def belowAt (a b : Fn) : Nat → Bool
  | 0 => false
  | k + 1 => bif a.get k != b.get k then decide (a.get k < b.get k) else belowAt a b k
def carried9 : {n : Nat} → Int → Vec Int n → Vec Int (n + 1)
  | 0, x, _ => (x, ())
  | _ + 1, x, v => (lowBits x 65535, carried9 (w (v.1 + down x 16)) v.2)
def pass9 (t : Fn) : Fn := carried9 t.1 t.2
noncomputable def fold9 (t : Fn) : Fn := (w (t.1 + w (19 * down (t.get 15) 15)), (Vec.upd (fun x => lowBits x 32767) 15 t).2)
section
variable (prime : Fn) (below : Fn → Fn → Bool) (norm : Fn → Fn)
noncomputable def norm9 (t : Fn) : Fn :=
  let r := pass9 (fold9 (pass9 (fold9 (pass9 (fold9 (pass9 (fold9 (pass9 t))))))))
  selN (!(below r prime)) (pass9 (Vec.zip (fun a b => w (a - b)) r prime)) r
noncomputable def pairs9 (b : B32) : Fn := Vec.ofFn 16 fun i => w (w (b.get (2 * i)) + w (256 * w (b.get (2 * i + 1))))
noncomputable def from9 (b : B32) : Fn := norm (Vec.upd (fun x => lowBits x 32767) 15 (pairs9 b))
noncomputable def small9 (n : Int) : Fn := Vec.ofFn 16 fun i => if i < 4 then w (and64 (shr64 n ((16 * i : Nat) : Int)) 65535) else 0
noncomputable def bytes9 (x : Fn) : B32 := Vec.ofFn 32 fun i => if i % 2 = 0 then IntKind.u8.wrap (lowBits (x.get (i / 2)) 255) else IntKind.u8.wrap (down (x.get (i / 2)) 8)
noncomputable def clear9 (b : B32) : B32 := Vec.upd (fun x => bitAnd .u8 x 127) 31 b
noncomputable def add9 (x y : Fn) : Fn := norm (Vec.zip (fun a b => w (a + b)) x y)
noncomputable def sub9 (x y : Fn) : Fn := norm (Vec.zip (fun a b => w (a - b)) (Vec.zip (fun a b => w (a + b)) x prime) y)
def mulAt (x y : Fn) (j : Nat) : Int := (List.range 16).foldl (fun acc i => if i ≤ j ∧ j - i < 16 then w (acc + w (x.get i * y.get (j - i))) else acc) 0
noncomputable def mul9 (x y : Fn) : Fn := norm (Vec.ofFn 16 fun i => w (mulAt x y i + w (38 * mulAt x y (i + 16))))
def odd9 (x : Fn) : Bool := x.1.tmod 2 == 1
end
end Go.Proofs.YthdfifcgobfgdaaGreat
namespace Go.Proofs.YthdfifcgobfgdaaGreat
open Go Go.Ev
set_option maxRecDepth 1000000
noncomputable def bitFn9 (b : B32) (k : Nat) : Int := bitAnd .i64 (IntKind.i64.wrap (shr .u8 (b.get (k / 8)) ((k % 8 : Nat) : Int))) 1
abbrev Pn := Fn × Fn × Fn × Fn
noncomputable def selPn (b : Bool) (p q : Pn) : Pn := (selN b p.1 q.1, selN b p.2.1 q.2.1, selN b p.2.2.1 q.2.2.1, selN b p.2.2.2 q.2.2.2)
theorem selPn_eq (b : Bool) (p q : Pn) : selPn b p q = bif b then p else q := by
  unfold selPn; rw [selN_eq, selN_eq, selN_eq, selN_eq]; cases b <;> rfl
section
variable (bit : B32 → Nat → Int) (small : Int → Fn) (mul add sub : Fn → Fn → Fn) (neg invert : Fn → Fn) (odd : Fn → Bool) (pow : Fn → B32 → Fn) (sqrt : Fn → Fn × Bool) (ratio : Fn → Fn → Fn × Bool) (edge : Fn)
  (frm : B32 → Fn) (bytes : Fn → B32) (canonical : B32 → Bool) (zero : Pn) (ofp : Fn → Fn → Pn) (xOf : Fn → Fn × Bool) (plus3 : Pn → Pn → Fn → Pn)
noncomputable def powStep9 (x : Fn) (e : B32) (k : Nat) (r : Fn) : Fn := selN (bit e (255 - k) == 1) (mul (mul r r) x) (mul r r)
noncomputable def powFn9 (x : Fn) (e : B32) : Fn := rnds (powStep9 bit mul x e) 256 (small 1)
noncomputable def rootFn9 (x : Fn) : Fn × Bool :=
  let r := pow x (feExp 254 15)
  let b1 := !(eqV (mul r r) x)
  let r1 := selN b1 (mul r (pow (small 2) (feExp 251 31))) r
  let bad := !(eqV (mul r1 r1) (selN b1 x x))
  (selN bad zero9 (selN (odd r1) (neg r1) r1), bif bad then false else true)
noncomputable def ratioFn9 (u v : Fn) : Fn × Bool := (selN (eqV v zero9) zero9 (sqrt (mul u (invert v))).1, bif eqV v zero9 then eqV u zero9 else (sqrt (mul u (invert v))).2)
noncomputable def zeroPn : Pn := (zero9, small 1, small 1, zero9)
noncomputable def ofPn (x y : Fn) : Pn := (x, y, small 1, mul x y)
noncomputable def xOfFn (y : Fn) : Fn × Bool := ratio (sub (mul y y) (small 1)) (add (mul edge (mul y y)) (small 1))
noncomputable def baseFn9 : Pn := ofp (xOf (mul (small 4) (invert (small 5)))).1 (mul (small 4) (invert (small 5)))
noncomputable def decodeFn9 (b : B32) : Pn × Bool :=
  let o := decide (b.get 31 > 127)
  let nc := !(canonical b)
  let y := frm b
  let x := (xOf y).1
  let b1 := (!(xOf y).2) == false
  let b2 := (eqV x zero9) == true
  let j (v : Fn) : Fn := selN b1 (selN b2 v v) v
  let o' := bif b1 then (bif b2 then o else o) else o
  let bad := bif b1 then (bif b2 then o else false) else true
  (selPn nc zero (selPn bad zero (ofp (selN o' (neg (j x)) (j x)) (selN o' (j y) (j y)))), bif nc then false else (bif bad then false else true))
noncomputable def encodeFn9 (p : Pn) : B32 :=
  let z := invert p.2.2.1
  let b := bytes (mul p.2.1 z)
  selN (odd (mul p.1 z)) (Vec.upd (fun x => IntKind.u8.wrap (x + 128)) 31 b) b
noncomputable def plusFn9 (p q : Pn) (dd : Fn) : Pn :=
  let a := mul (sub p.2.1 p.1) (sub q.2.1 q.1)
  let b := mul (add p.2.1 p.1) (add q.2.1 q.1)
  let c := mul (mul p.2.2.2 q.2.2.2) dd
  let d := mul (add p.2.2.1 p.2.2.1) q.2.2.1
  let e := sub b a
  let f := sub d c
  let g := add d c
  let h := add b a
  (mul e f, mul g h, mul f g, mul e h)
end
end Go.Proofs.YthdfifcgobfgdaaGreat
namespace BJ
def toF (n : Int) : F := ⟨(n % (pp : Int)).toNat, by
  have h1 : 0 ≤ n % (pp : Int) := Int.emod_nonneg _ (by decide)
  have h2 : n % (pp : Int) < (pp : Int) := Int.emod_lt_of_pos _ (by decide)
  omega⟩
theorem toF_val (n : Int) : ((toF n).val : Int) = n % (pp : Int) := Int.toNat_of_nonneg (Int.emod_nonneg _ (by decide))
theorem F_ext {a b : F} (h : (a.val : Int) = b.val) : a = b := Fin.ext (Int.ofNat_inj.1 h)
theorem toF_iff {a b : Int} : toF a = toF b ↔ a % (pp : Int) = b % (pp : Int) := by
  constructor
  · intro h; rw [← toF_val, ← toF_val, h]
  · intro h; exact F_ext (by rw [toF_val, toF_val, h])
theorem toF_add (a b : Int) : toF (a + b) = toF a + toF b := by
  apply F_ext
  rw [toF_val, Fin.val_add, Int.natCast_emod, Int.natCast_add, toF_val, toF_val, ← Int.add_emod]
theorem toF_mul (a b : Int) : toF (a * b) = toF a * toF b := by
  apply F_ext
  rw [toF_val, Fin.val_mul, Int.natCast_emod, Int.natCast_mul, toF_val, toF_val, ← Int.mul_emod]
theorem toF_zero : toF 0 = 0 := by apply F_ext; rw [toF_val]; decide
theorem toF_one : toF 1 = 1 := by apply F_ext; rw [toF_val]; decide
theorem toF_sub (a b : Int) : toF (a - b) = toF a - toF b := by
  have h : toF (a - b) + toF b = toF a := by rw [← toF_add]; congr 1; omega
  grobner
theorem toF_pp (a k : Int) : toF (a + k * (pp : Int)) = toF a := toF_iff.2 (Int.add_mul_emod_self_right _ _ _)
end BJ
namespace Go.Proofs.YthdfifcgobfgdaaGreat
open Go Go.Ev BJ
def mk5 (a b c d e : Int) : Fe := (a, b, c, d, e, ())
def U64 (n : Int) : Prop := 0 ≤ n ∧ n < 18446744073709551616
def Lim (n : Int) : Prop := 0 ≤ n ∧ n < 2251799813947392
def U5 (x : Fe) : Prop := U64 x.1 ∧ U64 x.2.1 ∧ U64 x.2.2.1 ∧ U64 x.2.2.2.1 ∧ U64 x.2.2.2.2.1
def Ok5 (x : Fe) : Prop := Lim x.1 ∧ Lim x.2.1 ∧ Lim x.2.2.1 ∧ Lim x.2.2.2.1 ∧ Lim x.2.2.2.2.1
def val5 (x : Fe) : Int := x.1 + x.2.1 * 2251799813685248 + x.2.2.1 * 5070602400912917605986812821504 + x.2.2.2.1 * 11417981541647679048466287755595961091061972992 + x.2.2.2.2.1 * 25711008708143844408671393477458601640355247900524685364822016
def fe (x : Fe) : F := toF (val5 x)
theorem and_msk (x : Int) : and64 x msk = x % 2251799813685248 := by
  have := and_u64 (m := 51) (by decide) x msk (by decide)
  simpa [and64] using this
theorem shr_51 (x : Int) : shr64 x 51 = x / 2251799813685248 := by
  have := shr_div .u64 x 51 (by decide)
  simpa [shr64] using this
theorem carry_val {x : Fe} (h : U5 x) : Ok5 (feCarry x) ∧ ∃ k, val5 (feCarry x) = val5 x + k * (pp : Int) := by
  obtain ⟨x0, x1, x2, x3, x4, u⟩ := x
  obtain ⟨h0, h1, h2, h3, h4⟩ := h
  simp only [U64] at h0 h1 h2 h3 h4
  have e : feCarry (x0, x1, x2, x3, x4, u) = mk5 (x0 % 2251799813685248 + x4 / 2251799813685248 * 19) (x1 % 2251799813685248 + x0 / 2251799813685248) (x2 % 2251799813685248 + x1 / 2251799813685248)
      (x3 % 2251799813685248 + x2 / 2251799813685248) (x4 % 2251799813685248 + x3 / 2251799813685248) := by
    simp only [feCarry, and_msk, shr_51, w64]
    rw [wrap_u64 (n := x4 / 2251799813685248 * 19) (by omega) (by omega)]
    rw [wrap_u64 (by omega) (by omega), wrap_u64 (by omega) (by omega), wrap_u64 (by omega) (by omega), wrap_u64 (by omega) (by omega), wrap_u64 (by omega) (by omega)]
    rfl
  rw [e]
  refine ⟨?_, -(x4 / 2251799813685248), ?_⟩
  · simp only [Ok5, Lim, mk5]; omega
  · simp only [val5, pp, mk5]; omega
theorem carry_fe {x : Fe} (h : U5 x) : Ok5 (feCarry x) ∧ fe (feCarry x) = fe x := by
  obtain ⟨h1, k, h2⟩ := carry_val h
  exact ⟨h1, by unfold fe; rw [h2, toF_pp]⟩
theorem add_fe {x y : Fe} (hx : Ok5 x) (hy : Ok5 y) : Ok5 (feAdd feCarry x y) ∧ fe (feAdd feCarry x y) = fe x + fe y := by
  obtain ⟨x0, x1, x2, x3, x4, u⟩ := x
  obtain ⟨y0, y1, y2, y3, y4, v⟩ := y
  simp only [Ok5, Lim] at hx hy
  have e : Vec.zip (n := 5) (fun a b => w64 (a + b)) (x0, x1, x2, x3, x4, u) (y0, y1, y2, y3, y4, v) = mk5 (x0 + y0) (x1 + y1) (x2 + y2) (x3 + y3) (x4 + y4) := by
    show (w64 (x0 + y0), w64 (x1 + y1), w64 (x2 + y2), w64 (x3 + y3), w64 (x4 + y4), ()) = _
    simp only [w64]
    rw [wrap_u64 (by omega) (by omega), wrap_u64 (by omega) (by omega), wrap_u64 (by omega) (by omega), wrap_u64 (by omega) (by omega), wrap_u64 (by omega) (by omega)]
    rfl
  unfold feAdd
  rw [e]
  obtain ⟨h1, h2⟩ := carry_fe (x := mk5 (x0 + y0) (x1 + y1) (x2 + y2) (x3 + y3) (x4 + y4)) (by simp only [U5, U64, mk5]; omega)
  refine ⟨h1, ?_⟩
  rw [h2]
  unfold fe
  rw [← toF_add]
  congr 1
  simp only [val5, mk5]; omega
theorem sub_fe {x y : Fe} (hx : Ok5 x) (hy : Ok5 y) : Ok5 (feSub feCarry x y) ∧ fe (feSub feCarry x y) = fe x - fe y := by
  obtain ⟨x0, x1, x2, x3, x4, u⟩ := x
  obtain ⟨y0, y1, y2, y3, y4, v⟩ := y
  simp only [Ok5, Lim] at hx hy
  have e : Vec.zip (n := 5) (fun a b => w64 (a - b)) (Vec.zip (n := 5) (fun a b => w64 (a + b)) (x0, x1, x2, x3, x4, u) (4503599627370458, 4503599627370494, 4503599627370494, 4503599627370494, 4503599627370494, ())) (y0, y1, y2, y3, y4, v) =
      mk5 (x0 + 4503599627370458 - y0) (x1 + 4503599627370494 - y1) (x2 + 4503599627370494 - y2) (x3 + 4503599627370494 - y3) (x4 + 4503599627370494 - y4) := by
    show (w64 (w64 (x0 + 4503599627370458) - y0), w64 (w64 (x1 + 4503599627370494) - y1), w64 (w64 (x2 + 4503599627370494) - y2), w64 (w64 (x3 + 4503599627370494) - y3), w64 (w64 (x4 + 4503599627370494) - y4), ()) = _
    simp only [w64]
    rw [wrap_u64 (n := x0 + 4503599627370458) (by omega) (by omega), wrap_u64 (n := x1 + 4503599627370494) (by omega) (by omega), wrap_u64 (n := x2 + 4503599627370494) (by omega) (by omega), wrap_u64 (n := x3 + 4503599627370494) (by omega) (by omega), wrap_u64 (n := x4 + 4503599627370494) (by omega) (by omega)]
    rw [wrap_u64 (by omega) (by omega), wrap_u64 (by omega) (by omega), wrap_u64 (by omega) (by omega), wrap_u64 (by omega) (by omega), wrap_u64 (by omega) (by omega)]
    rfl
  unfold feSub
  rw [e]
  obtain ⟨h1, h2⟩ := carry_fe (x := mk5 (x0 + 4503599627370458 - y0) (x1 + 4503599627370494 - y1) (x2 + 4503599627370494 - y2) (x3 + 4503599627370494 - y3) (x4 + 4503599627370494 - y4)) (by simp only [U5, U64, mk5]; omega)
  refine ⟨h1, ?_⟩
  rw [h2]
  unfold fe
  rw [← toF_sub, ← toF_pp (val5 (x0, x1, x2, x3, x4, u) - _) 2]
  congr 1
  simp only [val5, pp, mk5]; omega
theorem zero_fe : Ok5 feZero ∧ fe feZero = 0 := by
  refine ⟨by simp [Ok5, Lim, feZero], ?_⟩
  rw [← toF_zero]; rfl
theorem mulFn_val {a b : Int} (ha : U64 a) (hb : U64 b) : mulFn a b = (a * b / 18446744073709551616, a * b % 18446744073709551616) := by
  simp only [U64] at ha hb
  have e0 : ∀ x, and64 x 4294967295 = x % 4294967296 := fun x => by
    have := and_u64 (m := 32) (by decide) x 4294967295 (by decide)
    simpa [and64] using this
  have e1 : ∀ x, shr64 x 32 = x / 4294967296 := fun x => by
    have := shr_div .u64 x 32 (by decide)
    simpa [shr64] using this
  obtain ⟨a0, a1, ha0, ha1, rfl⟩ : ∃ a0 a1 : Int, a % 4294967296 = a0 ∧ a / 4294967296 = a1 ∧ a = a1 * 4294967296 + a0 := ⟨_, _, rfl, rfl, by omega⟩
  obtain ⟨b0, b1, hb0, hb1, rfl⟩ : ∃ b0 b1 : Int, b % 4294967296 = b0 ∧ b / 4294967296 = b1 ∧ b = b1 * 4294967296 + b0 := ⟨_, _, rfl, rfl, by omega⟩
  have bnd : ∀ {p q : Int}, 0 ≤ p → p ≤ 4294967295 → 0 ≤ q → q ≤ 4294967295 → 0 ≤ p * q ∧ p * q ≤ 18446744065119617025 := fun {p q} h1 h2 h3 h4 =>
    ⟨Int.mul_nonneg h1 h3, Int.le_trans (Int.mul_le_mul h2 h4 h3 (by decide)) (by decide)⟩
  have h00 := bnd (p := a0) (q := b0) (by omega) (by omega) (by omega) (by omega)
  have h01 := bnd (p := a0) (q := b1) (by omega) (by omega) (by omega) (by omega)
  have h10 := bnd (p := a1) (q := b0) (by omega) (by omega) (by omega) (by omega)
  have h11 := bnd (p := a1) (q := b1) (by omega) (by omega) (by omega) (by omega)
  have hab : (a1 * 4294967296 + a0) * (b1 * 4294967296 + b0) = a1 * b1 * 18446744073709551616 + (a1 * b0 + a0 * b1) * 4294967296 + a0 * b0 := by grind
  simp only [mulFn, e0, e1, ha0, ha1, hb0, hb1, w64]
  rw [hab]
  generalize a0 * b0 = p00 at *
  generalize a0 * b1 = p01 at *
  generalize a1 * b0 = p10 at *
  generalize a1 * b1 = p11 at *
  rw [wrap_u64 (n := p00) (by omega) (by omega), wrap_u64 (n := p10) (by omega) (by omega), wrap_u64 (n := p01) (by omega) (by omega), wrap_u64 (n := p11) (by omega) (by omega)]
  rw [wrap_u64 (n := p10 + p00 / 4294967296) (by omega) (by omega)]
  rw [wrap_u64 (n := (p10 + p00 / 4294967296) % 4294967296 + p01) (by omega) (by omega)]
  rw [wrap_u64 (n := p11 + (p10 + p00 / 4294967296) / 4294967296) (by omega) (by omega)]
  rw [wrap_u64', wrap_u64']
  refine Prod.ext ?_ ?_
  · show _ = _ / _; omega
  · show _ = _ % _; omega
end Go.Proofs.YthdfifcgobfgdaaGreat
namespace Go.Proofs.YthdfifcgobfgdaaGreat
open Go Go.Ev BJ
theorem add64_val {x y c : Int} (hx : 0 ≤ x) (hy : 0 ≤ y) (hc : 0 ≤ c) : add64 x y c = ((x + y + c) % 18446744073709551616, (x + y + c) / 18446744073709551616) := by
  obtain ⟨a, rfl⟩ := Int.eq_ofNat_of_zero_le hx
  obtain ⟨b, rfl⟩ := Int.eq_ofNat_of_zero_le hy
  obtain ⟨d, rfl⟩ := Int.eq_ofNat_of_zero_le hc
  simp only [add64, Int.toNat_natCast]
  refine Prod.ext ?_ ?_
  · show (((a + b + d) % 2 ^ 64 : Nat) : Int) = _; omega
  · show (((a + b + d) / 2 ^ 64 : Nat) : Int) = _; omega
def OkP (p : Int × Int) : Prop := 0 ≤ p.2 ∧ p.2 < 18446744073709551616 ∧ 0 ≤ p.1
def pv (p : Int × Int) : Int := p.1 * 18446744073709551616 + p.2
def coef (x : Fe) (i j : Nat) : Int := if i + j < 5 then x.get i else w64 (x.get i * 19)
def sumAt (x y : Fe) (k : Nat) : List (Nat × Nat) → Int
  | [] => 0
  | (i, j) :: l => (if (i + j) % 5 = k then coef x i j * y.get j else 0) + sumAt x y k l
theorem mulRun_ok {x y : Fe} (hc : ∀ i j, i < 5 → j < 5 → 0 ≤ coef x i j ∧ coef x i j < 72057594037927936) (hy : ∀ j, j < 5 → 0 ≤ y.get j ∧ y.get j < 4503599627370496) :
    ∀ (l : List (Nat × Nat)) (r : List (Int × Int)) (B : Int), (∀ p ∈ l, p.1 < 5 ∧ p.2 < 5) → r.length = 5 → (∀ k, k < 5 → OkP (r.getD k (0, 0)) ∧ pv (r.getD k (0, 0)) ≤ B) →
      B + l.length * 324518553658426726783156020576256 < 340282366920938463463374607431768211456 →
      (∀ k, k < 5 → OkP ((mulRun mulFn add64 x y l r).1.getD k (0, 0)) ∧ pv ((mulRun mulFn add64 x y l r).1.getD k (0, 0)) = pv (r.getD k (0, 0)) + sumAt x y k l) ∧
      ∀ p ∈ (mulRun mulFn add64 x y l r).2, p
  | [], r, B, _, hl, hr, _ => ⟨fun k hk => ⟨(hr k hk).1, by simp [mulRun, sumAt]⟩, fun p hp => by simp [mulRun] at hp⟩
  | (i, j) :: l, r, B, hm, hl, hr, hB => by
    obtain ⟨hi, hj⟩ := hm (i, j) (by simp)
    obtain ⟨c0, c1⟩ := hc i j hi hj
    obtain ⟨y0, y1⟩ := hy j hj
    have hkk : (i + j) % 5 < 5 := Nat.mod_lt _ (by decide)
    obtain ⟨⟨p0, p1, p2⟩, p3⟩ := hr _ hkk
    have hpr : 0 ≤ coef x i j * y.get j ∧ coef x i j * y.get j ≤ 324518553658426726783156020576256 := ⟨Int.mul_nonneg c0 y0, by
      have := Int.mul_le_mul (a := coef x i j) (b := y.get j) (c := 72057594037927936) (d := 4503599627370496) (by omega) (by omega) (by omega) (by omega)
      omega⟩
    have hcB : 0 ≤ (l.length : Int) := by omega
    simp only [List.length_cons, Int.natCast_add] at hB
    have hmul := mulFn_val (a := coef x i j) (b := y.get j) ⟨c0, by omega⟩ ⟨y0, by omega⟩
    generalize hab : coef x i j * y.get j = ab at hpr hmul
    generalize hpe : r.getD ((i + j) % 5) (0, 0) = p at p0 p1 p2 p3
    unfold pv at p3
    have hs : add64 p.2 (mulFn (coef x i j) (y.get j)).2 0 = ((p.2 + ab % 18446744073709551616 + 0) % 18446744073709551616, (p.2 + ab % 18446744073709551616 + 0) / 18446744073709551616) := by
      rw [hmul]; exact add64_val p0 (by show 0 ≤ ab % 18446744073709551616; omega) (by omega)
    have ht : add64 p.1 (mulFn (coef x i j) (y.get j)).1 (add64 p.2 (mulFn (coef x i j) (y.get j)).2 0).2 = ((p.1 + ab / 18446744073709551616 + (p.2 + ab % 18446744073709551616 + 0) / 18446744073709551616) % 18446744073709551616,
        (p.1 + ab / 18446744073709551616 + (p.2 + ab % 18446744073709551616 + 0) / 18446744073709551616) / 18446744073709551616) := by
      rw [hs, hmul]; exact add64_val p2 (by show 0 ≤ ab / 18446744073709551616; omega) (by show 0 ≤ (p.2 + ab % 18446744073709551616 + 0) / 18446744073709551616; omega)
    have hstep : mulRun mulFn add64 x y ((i, j) :: l) r = ((mulRun mulFn add64 x y l (r.set ((i + j) % 5) ((add64 p.1 (mulFn (coef x i j) (y.get j)).1 (add64 p.2 (mulFn (coef x i j) (y.get j)).2 0).2).1, (add64 p.2 (mulFn (coef x i j) (y.get j)).2 0).1))).1,
        (0 ≤ (add64 p.2 (mulFn (coef x i j) (y.get j)).2 0).2 ∧ (add64 p.2 (mulFn (coef x i j) (y.get j)).2 0).2 ≤ 1) :: (mulRun mulFn add64 x y l (r.set ((i + j) % 5) ((add64 p.1 (mulFn (coef x i j) (y.get j)).1 (add64 p.2 (mulFn (coef x i j) (y.get j)).2 0).2).1, (add64 p.2 (mulFn (coef x i j) (y.get j)).2 0).1))).2) := by
      rw [← hpe]; rfl
    rw [hstep, ht, hs]
    have hget : ∀ (v : Int × Int) k, k < 5 → (r.set ((i + j) % 5) v).getD k (0, 0) = if (i + j) % 5 = k then v else r.getD k (0, 0) := by
      intro v k hk
      simp only [List.getD_eq_getElem?_getD, List.getElem?_set]
      split
      · rename_i e; subst e; simp [hl, hkk]
      · rfl
    obtain ⟨h1, h2⟩ := mulRun_ok hc hy l (r.set ((i + j) % 5) ((p.1 + ab / 18446744073709551616 + (p.2 + ab % 18446744073709551616 + 0) / 18446744073709551616) % 18446744073709551616, (p.2 + ab % 18446744073709551616 + 0) % 18446744073709551616))
      (B + 324518553658426726783156020576256) (fun p hp => hm p (by simp [hp])) (by simpa using hl) (fun k hk => by
        rw [hget _ k hk]
        split
        · refine ⟨⟨?_, ?_, ?_⟩, ?_⟩
          · show 0 ≤ (p.2 + ab % 18446744073709551616 + 0) % 18446744073709551616; omega
          · show (p.2 + ab % 18446744073709551616 + 0) % 18446744073709551616 < _; omega
          · show 0 ≤ (p.1 + ab / 18446744073709551616 + (p.2 + ab % 18446744073709551616 + 0) / 18446744073709551616) % 18446744073709551616; omega
          · show (p.1 + ab / 18446744073709551616 + (p.2 + ab % 18446744073709551616 + 0) / 18446744073709551616) % 18446744073709551616 * 18446744073709551616 + (p.2 + ab % 18446744073709551616 + 0) % 18446744073709551616 ≤ _
            omega
        · exact ⟨(hr k hk).1, by have := (hr k hk).2; omega⟩) (by omega)
    refine ⟨fun k hk => ?_, ?_⟩
    · obtain ⟨h3, h4⟩ := h1 k hk
      refine ⟨h3, ?_⟩
      show pv _ = _ + ((if (i + j) % 5 = k then coef x i j * y.get j else 0) + sumAt x y k l)
      rw [h4, hget _ k hk]
      split
      · rename_i e
        rw [← e, hpe, hab]
        simp only [pv]
        omega
      · omega
    · intro q hq
      rcases List.mem_cons.1 hq with rfl | hq
      · show 0 ≤ (p.2 + ab % 18446744073709551616 + 0) / 18446744073709551616 ∧ (p.2 + ab % 18446744073709551616 + 0) / 18446744073709551616 ≤ 1
        omega
      · exact h2 q hq
theorem needs_conjAll : ∀ {l : List Prop}, (∀ p ∈ l, p) → needs (conjAll l)
  | [], _ => trivial
  | p :: l, h => by
    have h1 := h p (by simp)
    have h2 := needs_conjAll (l := l) fun q hq => h q (by simp [hq])
    unfold conjAll
    cases hc : conjAll l with
    | none => exact h1
    | some q => rw [hc] at h2; exact ⟨h1, h2⟩
theorem get5 (x0 x1 x2 x3 x4 : Int) (u : Vec Int 0) : Vec.get (n := 5) (x0, x1, x2, x3, x4, u) 0 = x0 ∧ Vec.get (n := 5) (x0, x1, x2, x3, x4, u) 1 = x1 ∧ Vec.get (n := 5) (x0, x1, x2, x3, x4, u) 2 = x2 ∧
    Vec.get (n := 5) (x0, x1, x2, x3, x4, u) 3 = x3 ∧ Vec.get (n := 5) (x0, x1, x2, x3, x4, u) 4 = x4 := ⟨rfl, rfl, rfl, rfl, rfl⟩
theorem get5_all {x : Fe} {Q : Int → Prop} (h0 : Q x.1) (h1 : Q x.2.1) (h2 : Q x.2.2.1) (h3 : Q x.2.2.2.1) (h4 : Q x.2.2.2.2.1) : ∀ i, i < 5 → Q (x.get i)
  | 0, _ => h0
  | 1, _ => h1
  | 2, _ => h2
  | 3, _ => h3
  | 4, _ => h4
  | n + 5, h => absurd h (by omega)
theorem mulNeeds_ok {x y : Fe} (hx : Ok5 x) (hy : Ok5 y) : needs (conjAll (mulNeeds mulFn add64 x y)) ∧
    ∀ k, k < 5 → ∃ p, (mulRun mulFn add64 x y mulSteps [(0, 0), (0, 0), (0, 0), (0, 0), (0, 0)]).1.getD k (0, 0) = p ∧ OkP p ∧ pv p = sumAt x y k mulSteps := by
  have hgx : ∀ i, i < 5 → Lim (x.get i) := get5_all hx.1 hx.2.1 hx.2.2.1 hx.2.2.2.1 hx.2.2.2.2
  have hgy : ∀ i, i < 5 → Lim (y.get i) := get5_all hy.1 hy.2.1 hy.2.2.1 hy.2.2.2.1 hy.2.2.2.2
  obtain ⟨h1, h2⟩ := mulRun_ok (x := x) (y := y) (fun i j hi hj => by
      obtain ⟨a, b⟩ := hgx i hi
      unfold coef
      split
      · omega
      · unfold w64; rw [wrap_u64 (by omega) (by omega)]; omega) (fun j hj => by obtain ⟨a, b⟩ := hgy j hj; omega)
    mulSteps [(0, 0), (0, 0), (0, 0), (0, 0), (0, 0)] 0 (by decide) rfl (fun k hk => by
      have : ([(0, 0), (0, 0), (0, 0), (0, 0), (0, 0)] : List (Int × Int)).getD k (0, 0) = (0, 0) := by
        match k, hk with
        | 0, _ => rfl
        | 1, _ => rfl
        | 2, _ => rfl
        | 3, _ => rfl
        | 4, _ => rfl
      rw [this]; exact ⟨⟨by decide, by decide, by decide⟩, by decide⟩) (by decide)
  refine ⟨needs_conjAll h2, fun k hk => ⟨_, rfl, (h1 k hk).1, ?_⟩⟩
  rw [(h1 k hk).2]
  have : ([(0, 0), (0, 0), (0, 0), (0, 0), (0, 0)] : List (Int × Int)).getD k (0, 0) = (0, 0) := by
    match k, hk with
    | 0, _ => rfl
    | 1, _ => rfl
    | 2, _ => rfl
    | 3, _ => rfl
    | 4, _ => rfl
  rw [this]; simp [pv]
theorem high_low {p : Int × Int} (h : OkP p) {R : Int} (hR : pv p = R) (hlt : R < 20769187434139310514121985316880384) :
    and64 p.2 msk = R % 2251799813685248 ∧ bitOr .u64 (shl .u64 p.1 13) (shr64 p.2 51) = R / 2251799813685248 := by
  obtain ⟨a, b⟩ := p
  obtain ⟨h0, h1, h2⟩ := h
  simp only [pv] at *
  rw [and_msk, shr_51]
  have e : shl .u64 a 13 = a * 8192 := by
    have := shl_mul .u64 a 13 (by decide)
    rw [show ((13 : Nat) : Int) = 13 from rfl] at this
    rw [this]
    exact wrap_u64 (by omega) (by omega)
  rw [e, or_u64 (m := 13) (by omega) (by omega) (by omega) (by omega) (by omega)]
  constructor <;> omega
theorem mul_val (x0 x1 x2 x3 x4 y0 y1 y2 y3 y4 : Int) (u v : Vec Int 0) (hx : Ok5 (x0, x1, x2, x3, x4, u)) (k : Nat) (hk : k < 5) :
    sumAt (x0, x1, x2, x3, x4, u) (y0, y1, y2, y3, y4, v) k mulSteps =
      [x0 * y0 + x1 * 19 * y4 + x2 * 19 * y3 + x3 * 19 * y2 + x4 * 19 * y1, x0 * y1 + x1 * y0 + x2 * 19 * y4 + x3 * 19 * y3 + x4 * 19 * y2, x0 * y2 + x1 * y1 + x2 * y0 + x3 * 19 * y4 + x4 * 19 * y3,
        x0 * y3 + x1 * y2 + x2 * y1 + x3 * y0 + x4 * 19 * y4, x0 * y4 + x1 * y3 + x2 * y2 + x3 * y1 + x4 * y0].getD k 0 := by
  simp only [Ok5, Lim] at hx
  have w1 : w64 (x1 * 19) = x1 * 19 := wrap_u64 (by omega) (by omega)
  have w2 : w64 (x2 * 19) = x2 * 19 := wrap_u64 (by omega) (by omega)
  have w3 : w64 (x3 * 19) = x3 * 19 := wrap_u64 (by omega) (by omega)
  have w4 : w64 (x4 * 19) = x4 * 19 := wrap_u64 (by omega) (by omega)
  obtain ⟨g0, g1, g2, g3, g4⟩ := get5 x0 x1 x2 x3 x4 u
  obtain ⟨f0, f1, f2, f3, f4⟩ := get5 y0 y1 y2 y3 y4 v
  match k, hk with
  | 0, _ => simp [sumAt, mulSteps, coef, g0, g1, g2, g3, g4, f0, f1, f2, f3, f4, w1, w2, w3, w4]; omega
  | 1, _ => simp [sumAt, mulSteps, coef, g0, g1, g2, g3, g4, f0, f1, f2, f3, f4, w2, w3, w4]; omega
  | 2, _ => simp [sumAt, mulSteps, coef, g0, g1, g2, g3, g4, f0, f1, f2, f3, f4, w3, w4]; omega
  | 3, _ => simp [sumAt, mulSteps, coef, g0, g1, g2, g3, g4, f0, f1, f2, f3, f4, w4]; omega
  | 4, _ => simp [sumAt, mulSteps, coef, g0, g1, g2, g3, g4, f0, f1, f2, f3, f4]; omega
theorem mul_ring (x0 x1 x2 x3 x4 y0 y1 y2 y3 y4 t : F) (ht : t * t * t * t * t = 19) :
    (x0 * y0 + x1 * 19 * y4 + x2 * 19 * y3 + x3 * 19 * y2 + x4 * 19 * y1) + (x0 * y1 + x1 * y0 + x2 * 19 * y4 + x3 * 19 * y3 + x4 * 19 * y2) * t + (x0 * y2 + x1 * y1 + x2 * y0 + x3 * 19 * y4 + x4 * 19 * y3) * (t * t) +
      (x0 * y3 + x1 * y2 + x2 * y1 + x3 * y0 + x4 * 19 * y4) * (t * t * t) + (x0 * y4 + x1 * y3 + x2 * y2 + x3 * y1 + x4 * y0) * (t * t * t * t) =
    (x0 + x1 * t + x2 * (t * t) + x3 * (t * t * t) + x4 * (t * t * t * t)) * (y0 + y1 * t + y2 * (t * t) + y3 * (t * t * t) + y4 * (t * t * t * t)) := by
  grobner
end Go.Proofs.YthdfifcgobfgdaaGreat
namespace Go.Proofs.YthdfifcgobfgdaaGreat
open Go Go.Ev BJ
def tt : F := toF 2251799813685248
theorem tt5 : tt * tt * tt * tt * tt = 19 := by decide +kernel
theorem tt2 : toF 5070602400912917605986812821504 = tt * tt := by decide +kernel
theorem tt3 : toF 11417981541647679048466287755595961091061972992 = tt * tt * tt := by decide +kernel
theorem tt4 : toF 25711008708143844408671393477458601640355247900524685364822016 = tt * tt * tt * tt := by decide +kernel
theorem t19 : toF 19 = 19 := by decide +kernel
theorem toF_val5 (x0 x1 x2 x3 x4 : Int) : toF (x0 + x1 * 2251799813685248 + x2 * 5070602400912917605986812821504 + x3 * 11417981541647679048466287755595961091061972992 + x4 * 25711008708143844408671393477458601640355247900524685364822016) =
    toF x0 + toF x1 * tt + toF x2 * (tt * tt) + toF x3 * (tt * tt * tt) + toF x4 * (tt * tt * tt * tt) := by
  simp only [toF_add, toF_mul, tt2, tt3, tt4]; rfl
theorem tail_mk {R0 R1 R2 R3 R4 : Int} (n0 : 0 ≤ R0 ∧ R0 ≤ 1000000000000000000000000000000000) (n1 : 0 ≤ R1 ∧ R1 ≤ 1000000000000000000000000000000000) (n2 : 0 ≤ R2 ∧ R2 ≤ 1000000000000000000000000000000000)
    (n3 : 0 ≤ R3 ∧ R3 ≤ 1000000000000000000000000000000000) (n4 : 0 ≤ R4 ∧ R4 ≤ 26000000000000000000000000000000) :
    ((w64 (w64 (0 + R0 % 2251799813685248) + w64 (R4 / 2251799813685248 * 19)), w64 (w64 (0 + R0 / 2251799813685248) + R1 % 2251799813685248), w64 (w64 (0 + R1 / 2251799813685248) + R2 % 2251799813685248),
      w64 (w64 (0 + R2 / 2251799813685248) + R3 % 2251799813685248), w64 (w64 (0 + R3 / 2251799813685248) + R4 % 2251799813685248), ()) : Fe) = mk5 (R0 % 2251799813685248 + R4 / 2251799813685248 * 19) (R0 / 2251799813685248 + R1 % 2251799813685248) (R1 / 2251799813685248 + R2 % 2251799813685248)
      (R2 / 2251799813685248 + R3 % 2251799813685248) (R3 / 2251799813685248 + R4 % 2251799813685248) := by
  simp only [w64, Int.zero_add]
  rw [wrap_u64 (n := R0 % 2251799813685248) (by omega) (by omega), wrap_u64 (n := R4 / 2251799813685248 * 19) (by omega) (by omega), wrap_u64 (n := R0 / 2251799813685248) (by omega) (by omega), wrap_u64 (n := R1 / 2251799813685248) (by omega) (by omega),
    wrap_u64 (n := R2 / 2251799813685248) (by omega) (by omega), wrap_u64 (n := R3 / 2251799813685248) (by omega) (by omega)]
  rw [wrap_u64 (n := R0 % 2251799813685248 + R4 / 2251799813685248 * 19) (by omega) (by omega), wrap_u64 (n := R0 / 2251799813685248 + R1 % 2251799813685248) (by omega) (by omega), wrap_u64 (n := R1 / 2251799813685248 + R2 % 2251799813685248) (by omega) (by omega),
    wrap_u64 (n := R2 / 2251799813685248 + R3 % 2251799813685248) (by omega) (by omega), wrap_u64 (n := R3 / 2251799813685248 + R4 % 2251799813685248) (by omega) (by omega)]
  rfl
theorem tail_fe {R0 R1 R2 R3 R4 : Int} (n0 : 0 ≤ R0 ∧ R0 ≤ 1000000000000000000000000000000000) (n1 : 0 ≤ R1 ∧ R1 ≤ 1000000000000000000000000000000000) (n2 : 0 ≤ R2 ∧ R2 ≤ 1000000000000000000000000000000000)
    (n3 : 0 ≤ R3 ∧ R3 ≤ 1000000000000000000000000000000000) (n4 : 0 ≤ R4 ∧ R4 ≤ 26000000000000000000000000000000) :
    U5 (mk5 (R0 % 2251799813685248 + R4 / 2251799813685248 * 19) (R0 / 2251799813685248 + R1 % 2251799813685248) (R1 / 2251799813685248 + R2 % 2251799813685248)
      (R2 / 2251799813685248 + R3 % 2251799813685248) (R3 / 2251799813685248 + R4 % 2251799813685248)) ∧ fe (mk5 (R0 % 2251799813685248 + R4 / 2251799813685248 * 19) (R0 / 2251799813685248 + R1 % 2251799813685248) (R1 / 2251799813685248 + R2 % 2251799813685248)
      (R2 / 2251799813685248 + R3 % 2251799813685248) (R3 / 2251799813685248 + R4 % 2251799813685248)) =
      toF (R0 + R1 * 2251799813685248 + R2 * 5070602400912917605986812821504 + R3 * 11417981541647679048466287755595961091061972992 + R4 * 25711008708143844408671393477458601640355247900524685364822016) := by
  constructor
  · simp only [U5, U64, mk5]; omega
  · unfold fe
    rw [← toF_pp (val5 _) (R4 / 2251799813685248)]
    congr 1
    simp only [val5, pp, mk5]; omega
set_option maxHeartbeats 1000000 in
theorem mul_fe {x y : Fe} (hx : Ok5 x) (hy : Ok5 y) : Ok5 (mulOut mulFn add64 feCarry x y) ∧ fe (mulOut mulFn add64 feCarry x y) = fe x * fe y := by
  obtain ⟨_, hr⟩ := mulNeeds_ok hx hy
  obtain ⟨x0, x1, x2, x3, x4, u⟩ := x
  obtain ⟨y0, y1, y2, y3, y4, v⟩ := y
  have hv := mul_val x0 x1 x2 x3 x4 y0 y1 y2 y3 y4 u v hx
  have bnd : ∀ {p q : Int}, 0 ≤ p → p < 2251799813947392 → 0 ≤ q → q < 2251799813947392 → 0 ≤ p * q ∧ p * q ≤ 5070602402093548913987446767616 := fun {p q} h1 h2 h3 h4 =>
    ⟨Int.mul_nonneg h1 h3, Int.le_trans (Int.mul_le_mul (c := 2251799813947392) (d := 2251799813947392) (by omega) (by omega) h3 (by decide)) (by decide)⟩
  simp only [Ok5, Lim] at hx hy
  obtain ⟨hx0, hx1, hx2, hx3, hx4⟩ := hx
  obtain ⟨hy0, hy1, hy2, hy3, hy4⟩ := hy
  have b00 := bnd hx0.1 hx0.2 hy0.1 hy0.2
  have b01 := bnd hx0.1 hx0.2 hy1.1 hy1.2
  have b02 := bnd hx0.1 hx0.2 hy2.1 hy2.2
  have b03 := bnd hx0.1 hx0.2 hy3.1 hy3.2
  have b04 := bnd hx0.1 hx0.2 hy4.1 hy4.2
  have b10 := bnd hx1.1 hx1.2 hy0.1 hy0.2
  have b11 := bnd hx1.1 hx1.2 hy1.1 hy1.2
  have b12 := bnd hx1.1 hx1.2 hy2.1 hy2.2
  have b13 := bnd hx1.1 hx1.2 hy3.1 hy3.2
  have b14 := bnd hx1.1 hx1.2 hy4.1 hy4.2
  have b20 := bnd hx2.1 hx2.2 hy0.1 hy0.2
  have b21 := bnd hx2.1 hx2.2 hy1.1 hy1.2
  have b22 := bnd hx2.1 hx2.2 hy2.1 hy2.2
  have b23 := bnd hx2.1 hx2.2 hy3.1 hy3.2
  have b24 := bnd hx2.1 hx2.2 hy4.1 hy4.2
  have b30 := bnd hx3.1 hx3.2 hy0.1 hy0.2
  have b31 := bnd hx3.1 hx3.2 hy1.1 hy1.2
  have b32 := bnd hx3.1 hx3.2 hy2.1 hy2.2
  have b33 := bnd hx3.1 hx3.2 hy3.1 hy3.2
  have b34 := bnd hx3.1 hx3.2 hy4.1 hy4.2
  have b40 := bnd hx4.1 hx4.2 hy0.1 hy0.2
  have b41 := bnd hx4.1 hx4.2 hy1.1 hy1.2
  have b42 := bnd hx4.1 hx4.2 hy2.1 hy2.2
  have b43 := bnd hx4.1 hx4.2 hy3.1 hy3.2
  have b44 := bnd hx4.1 hx4.2 hy4.1 hy4.2
  have sw : ∀ a b : Int, a * 19 * b = 19 * (a * b) := fun a b => by rw [Int.mul_comm a 19, Int.mul_assoc]
  obtain ⟨p0, e0, k0, v0⟩ := hr 0 (by decide)
  obtain ⟨p1, e1, k1, v1⟩ := hr 1 (by decide)
  obtain ⟨p2, e2, k2, v2⟩ := hr 2 (by decide)
  obtain ⟨p3, e3, k3, v3⟩ := hr 3 (by decide)
  obtain ⟨p4, e4, k4, v4⟩ := hr 4 (by decide)
  rw [hv 0 (by decide)] at v0
  rw [hv 1 (by decide)] at v1
  rw [hv 2 (by decide)] at v2
  rw [hv 3 (by decide)] at v3
  rw [hv 4 (by decide)] at v4
  have v0' : pv p0 = x0 * y0 + x1 * 19 * y4 + x2 * 19 * y3 + x3 * 19 * y2 + x4 * 19 * y1 := v0
  have v1' : pv p1 = x0 * y1 + x1 * y0 + x2 * 19 * y4 + x3 * 19 * y3 + x4 * 19 * y2 := v1
  have v2' : pv p2 = x0 * y2 + x1 * y1 + x2 * y0 + x3 * 19 * y4 + x4 * 19 * y3 := v2
  have v3' : pv p3 = x0 * y3 + x1 * y2 + x2 * y1 + x3 * y0 + x4 * 19 * y4 := v3
  have v4' : pv p4 = x0 * y4 + x1 * y3 + x2 * y2 + x3 * y1 + x4 * y0 := v4
  have hring := mul_ring (toF x0) (toF x1) (toF x2) (toF x3) (toF x4) (toF y0) (toF y1) (toF y2) (toF y3) (toF y4) tt tt5
  have hR0 : toF (pv p0) = toF x0 * toF y0 + toF x1 * 19 * toF y4 + toF x2 * 19 * toF y3 + toF x3 * 19 * toF y2 + toF x4 * 19 * toF y1 := by rw [v0']; simp only [toF_add, toF_mul, t19]
  have hR1 : toF (pv p1) = toF x0 * toF y1 + toF x1 * toF y0 + toF x2 * 19 * toF y4 + toF x3 * 19 * toF y3 + toF x4 * 19 * toF y2 := by rw [v1']; simp only [toF_add, toF_mul, t19]
  have hR2 : toF (pv p2) = toF x0 * toF y2 + toF x1 * toF y1 + toF x2 * toF y0 + toF x3 * 19 * toF y4 + toF x4 * 19 * toF y3 := by rw [v2']; simp only [toF_add, toF_mul, t19]
  have hR3 : toF (pv p3) = toF x0 * toF y3 + toF x1 * toF y2 + toF x2 * toF y1 + toF x3 * toF y0 + toF x4 * 19 * toF y4 := by rw [v3']; simp only [toF_add, toF_mul, t19]
  have hR4 : toF (pv p4) = toF x0 * toF y4 + toF x1 * toF y3 + toF x2 * toF y2 + toF x3 * toF y1 + toF x4 * toF y0 := by rw [v4']; simp only [toF_add, toF_mul]
  rw [← hR0, ← hR1, ← hR2, ← hR3, ← hR4] at hring
  have n0 : 0 ≤ pv p0 ∧ pv p0 ≤ 1000000000000000000000000000000000 := by rw [v0']; simp only [sw]; omega
  have n1 : 0 ≤ pv p1 ∧ pv p1 ≤ 1000000000000000000000000000000000 := by rw [v1']; simp only [sw]; omega
  have n2 : 0 ≤ pv p2 ∧ pv p2 ≤ 1000000000000000000000000000000000 := by rw [v2']; simp only [sw]; omega
  have n3 : 0 ≤ pv p3 ∧ pv p3 ≤ 1000000000000000000000000000000000 := by rw [v3']; simp only [sw]; omega
  have n4 : 0 ≤ pv p4 ∧ pv p4 ≤ 26000000000000000000000000000000 := by rw [v4']; omega
  obtain ⟨l0, c0⟩ := high_low k0 rfl (by omega)
  obtain ⟨l1, c1⟩ := high_low k1 rfl (by omega)
  obtain ⟨l2, c2⟩ := high_low k2 rfl (by omega)
  obtain ⟨l3, c3⟩ := high_low k3 rfl (by omega)
  obtain ⟨l4, c4⟩ := high_low k4 rfl (by omega)
  generalize pv p0 = R0 at *
  generalize pv p1 = R1 at *
  generalize pv p2 = R2 at *
  generalize pv p3 = R3 at *
  generalize pv p4 = R4 at *
  have e : mulOut mulFn add64 feCarry (x0, x1, x2, x3, x4, u) (y0, y1, y2, y3, y4, v) = feCarry (mk5 (R0 % 2251799813685248 + R4 / 2251799813685248 * 19) (R0 / 2251799813685248 + R1 % 2251799813685248) (R1 / 2251799813685248 + R2 % 2251799813685248)
      (R2 / 2251799813685248 + R3 % 2251799813685248) (R3 / 2251799813685248 + R4 % 2251799813685248)) := by
    rw [← tail_mk n0 n1 n2 n3 n4]
    simp only [mulOut, e0, e1, e2, e3, e4, l0, l1, l2, l3, l4, c0, c1, c2, c3, c4]
  rw [e]
  obtain ⟨hU, h3⟩ := tail_fe n0 n1 n2 n3 n4
  obtain ⟨h1, h2⟩ := carry_fe hU
  refine ⟨h1, ?_⟩
  rw [h2, h3, toF_val5, hring]
  show _ = toF (x0 + x1 * _ + _ + _ + _) * toF (y0 + y1 * _ + _ + _ + _)
  rw [toF_val5, toF_val5]
def Lim51 (n : Int) : Prop := 0 ≤ n ∧ n < 2251799813685248
def Lst5 (x : Fe) : Prop := (Lim51 x.1 ∧ Lim51 x.2.1 ∧ Lim51 x.2.2.1 ∧ Lim51 x.2.2.2.1 ∧ Lim51 x.2.2.2.2.1) ∧ val5 x < (pp : Int)
theorem least_fe {x : Fe} (hx : Ok5 x) : Lst5 (feLeast feCarry x) ∧ fe (feLeast feCarry x) = fe x := by
  obtain ⟨hy, hyx⟩ := carry_fe (x := x) (by simp only [Ok5, Lim] at hx; simp only [U5, U64]; omega)
  rw [← hyx]
  unfold feLeast
  generalize feCarry x = y at hy
  obtain ⟨y0, y1, y2, y3, y4, u⟩ := y
  simp only [Ok5, Lim] at hy
  simp only [and_msk, shr_51, w64]
  obtain ⟨a0, ha0⟩ : ∃ a, a = (y0 + 19) / 2251799813685248 := ⟨_, rfl⟩
  obtain ⟨a1, ha1⟩ : ∃ a, a = (y1 + a0) / 2251799813685248 := ⟨_, rfl⟩
  obtain ⟨a2, ha2⟩ : ∃ a, a = (y2 + a1) / 2251799813685248 := ⟨_, rfl⟩
  obtain ⟨a3, ha3⟩ : ∃ a, a = (y3 + a2) / 2251799813685248 := ⟨_, rfl⟩
  obtain ⟨q, hq⟩ : ∃ a, a = (y4 + a3) / 2251799813685248 := ⟨_, rfl⟩
  rw [wrap_u64 (n := y0 + 19) (by omega) (by omega), ← ha0]
  rw [wrap_u64 (n := y1 + a0) (by omega) (by omega), ← ha1]
  rw [wrap_u64 (n := y2 + a1) (by omega) (by omega), ← ha2]
  rw [wrap_u64 (n := y3 + a2) (by omega) (by omega), ← ha3]
  rw [wrap_u64 (n := y4 + a3) (by omega) (by omega), ← hq]
  have hq01 : q = 0 ∨ q = 1 := by omega
  rw [wrap_u64 (n := q * 19) (by omega) (by omega)]
  obtain ⟨c0, hc0⟩ : ∃ a, a = q * 19 + y0 := ⟨_, rfl⟩
  rw [wrap_u64 (n := q * 19 + y0) (by omega) (by omega), ← hc0]
  obtain ⟨c1, hc1⟩ : ∃ a, a = c0 / 2251799813685248 + y1 := ⟨_, rfl⟩
  rw [wrap_u64 (n := c0 / 2251799813685248 + y1) (by omega) (by omega), ← hc1]
  obtain ⟨c2, hc2⟩ : ∃ a, a = c1 / 2251799813685248 + y2 := ⟨_, rfl⟩
  rw [wrap_u64 (n := c1 / 2251799813685248 + y2) (by omega) (by omega), ← hc2]
  obtain ⟨c3, hc3⟩ : ∃ a, a = c2 / 2251799813685248 + y3 := ⟨_, rfl⟩
  rw [wrap_u64 (n := c2 / 2251799813685248 + y3) (by omega) (by omega), ← hc3]
  obtain ⟨c4, hc4⟩ : ∃ a, a = c3 / 2251799813685248 + y4 := ⟨_, rfl⟩
  rw [wrap_u64 (n := c3 / 2251799813685248 + y4) (by omega) (by omega), ← hc4]
  have hval : val5 (c0 % 2251799813685248, c1 % 2251799813685248, c2 % 2251799813685248, c3 % 2251799813685248, c4 % 2251799813685248, ()) = val5 (y0, y1, y2, y3, y4, u) - q * (pp : Int) ∧
      val5 (c0 % 2251799813685248, c1 % 2251799813685248, c2 % 2251799813685248, c3 % 2251799813685248, c4 % 2251799813685248, ()) < (pp : Int) := by
    simp only [val5, pp]
    rcases hq01 with rfl | rfl
    · constructor <;> omega
    · constructor <;> omega
  refine ⟨⟨by simp only [Lim51]; omega, hval.2⟩, ?_⟩
  unfold fe
  rw [hval.1, ← toF_pp (val5 (y0, y1, y2, y3, y4, u) - _) q]
  congr 1; omega
end Go.Proofs.YthdfifcgobfgdaaGreat
namespace Go.Proofs.YthdfifcgobfgdaaGreat
open Go Go.Ev BJ
def valB : {n : Nat} → Vec Int n → Int
  | 0, _ => 0
  | _ + 1, v => v.1 + 256 * valB v.2
def OkB : {n : Nat} → Vec Int n → Prop
  | 0, _ => True
  | _ + 1, v => (0 ≤ v.1 ∧ v.1 < 256) ∧ OkB v.2
theorem valB_nonneg : {n : Nat} → {v : Vec Int n} → OkB v → 0 ≤ valB v
  | 0, _, _ => Int.le_refl _
  | n + 1, v, h => by have := valB_nonneg h.2; have := h.1; simp only [valB]; omega
theorem valB_lt : {n : Nat} → {v : Vec Int n} → OkB v → valB v < (256 ^ n : Nat)
  | 0, _, _ => by simp [valB]
  | n + 1, v, h => by
    have h1 := valB_lt h.2
    have h2 := h.1
    simp only [valB]
    have e : (256 ^ (n + 1) : Nat) = 256 * 256 ^ n := by rw [Nat.pow_succ, Nat.mul_comm]
    rw [e]
    generalize (256 ^ n : Nat) = m at *
    omega
theorem valB_inj : {n : Nat} → {v u : Vec Int n} → OkB v → OkB u → valB v = valB u → v = u
  | 0, _, _, _, _, _ => rfl
  | n + 1, v, u, hv, hu, h => by
    simp only [valB] at h
    have h1 := hv.1
    have h2 := hu.1
    have e1 : v.1 = u.1 := by omega
    have e2 : valB v.2 = valB u.2 := by omega
    exact Prod.ext e1 (valB_inj hv.2 hu.2 e2)
def digB (n : Nat) (V : Int) : Vec Int n := Vec.ofFn n fun j => V / (256 ^ j : Nat) % 256
theorem digB_spec : (n : Nat) → (V : Int) → 0 ≤ V → OkB (digB n V) ∧ valB (digB n V) = V % (256 ^ n : Nat)
  | 0, V, h => ⟨trivial, by simp [valB]⟩
  | n + 1, V, h => by
    have e : digB (n + 1) V = (V / (256 ^ 0 : Nat) % 256, digB n (V / 256)) := by
      unfold digB
      show (_, Vec.ofFn n fun i => V / (256 ^ (i + 1) : Nat) % 256) = _
      have : (fun i : Nat => V / (256 ^ (i + 1) : Nat) % 256) = fun j : Nat => V / 256 / (256 ^ j : Nat) % 256 := by
        funext j
        rw [Int.ediv_ediv_of_nonneg (by omega)]
        congr 2
        rw [Nat.pow_succ]; simp [Int.mul_comm]
      rw [this]
    rw [e]
    obtain ⟨h1, h2⟩ := digB_spec n (V / 256) (by omega)
    refine ⟨⟨by simp only [Nat.pow_zero]; omega, h1⟩, ?_⟩
    show V / (256 ^ 0 : Nat) % 256 + 256 * valB (digB n (V / 256)) = _
    rw [h2]
    have e2 : (256 ^ (n + 1) : Nat) = 256 * 256 ^ n := by rw [Nat.pow_succ, Nat.mul_comm]
    rw [e2]
    generalize hm : (256 ^ n : Nat) = m
    have hm0 : 0 < (m : Int) := by have := Nat.pow_pos (n := n) (show 0 < 256 by decide); omega
    have h3 := Int.emod_nonneg (V / 256) (b := (m : Int)) (by omega)
    have h4 := Int.emod_lt_of_pos (V / 256) hm0
    have h5 := Int.emod_add_mul_ediv (V / 256) (m : Int)
    have h6 : V = (V % 256 + 256 * (V / 256 % m)) + ((256 * m : Nat) : Int) * (V / 256 / m) := by
      rw [Int.natCast_mul, Int.mul_assoc]
      generalize (m : Int) * (V / 256 / m) = z at *
      omega
    rw [Nat.pow_zero]
    have h7 : V % ((256 * m : Nat) : Int) = V % 256 + 256 * (V / 256 % m) := by
      conv => lhs; rw [h6]
      rw [Int.add_mul_emod_self_left]
      exact Int.emod_eq_of_lt (by omega) (by rw [Int.natCast_mul]; omega)
    rw [h7]; omega
theorem digB_valB {n : Nat} {v : Vec Int n} (h : OkB v) : digB n (valB v) = v := by
  obtain ⟨h1, h2⟩ := digB_spec n (valB v) (valB_nonneg h)
  exact valB_inj h1 h (by rw [h2, Int.emod_eq_of_lt (valB_nonneg h) (valB_lt h)])
def bytesF (a : F) : B32 := digB 32 (a.val : Int)
theorem p256 : (256 ^ 32 : Nat) = 115792089237316195423570985008687907853269984665640564039457584007913129639936 := by decide
theorem bytesF_val (a : F) : OkB (bytesF a) ∧ valB (bytesF a) = (a.val : Int) := by
  obtain ⟨h1, h2⟩ := digB_spec 32 (a.val : Int) (by omega)
  have := a.isLt
  refine ⟨h1, h2.trans (Int.emod_eq_of_lt (by omega) ?_)⟩
  rw [p256]; simp only [pp] at this; omega
theorem bytesF_inj {a b : F} (h : bytesF a = bytesF b) : a = b := F_ext (by rw [← (bytesF_val a).2, ← (bytesF_val b).2, h])
def bsum (f : Nat → Int) : Nat → Int
  | 0 => 0
  | n + 1 => bsum f n + f n * (2 ^ n : Nat)
theorem or_bits (f : Nat → Int) : ∀ n, n ≤ 8 → (∀ i, i < n → 0 ≤ f i ∧ f i ≤ 1) →
    (List.range n).foldl (fun acc i => bitOr .u8 acc (shl .u8 (f i) (i : Int))) 0 = bsum f n ∧ 0 ≤ bsum f n ∧ bsum f n < (2 ^ n : Nat)
  | 0, _, _ => ⟨rfl, by simp [bsum], by simp [bsum]⟩
  | n + 1, hn, hf => by
    obtain ⟨h1, h2, h3⟩ := or_bits f n (by omega) fun i hi => hf i (by omega)
    have h4 := hf n (by omega)
    rw [List.range_succ, List.foldl_append, h1]
    simp only [List.foldl_cons, List.foldl_nil, bsum]
    have hp : 0 < 2 ^ n := Nat.two_pow_pos n
    have hle : 2 ^ n ≤ 2 ^ 7 := Nat.pow_le_pow_right (by omega) (by omega)
    have hs : f n * (2 ^ n : Nat) = 0 ∨ f n * (2 ^ n : Nat) = (2 ^ n : Nat) := by
      have : f n = 0 ∨ f n = 1 := by omega
      rcases this with e | e <;> rw [e] <;> simp
    have e : shl .u8 (f n) (n : Int) = f n * (2 ^ n : Nat) := by
      rw [shl_mul .u8 _ _ (by show n ≤ 8; omega), wrap_u8]
      have : (2 : Nat) ^ 7 = 128 := by decide
      omega
    have hm : f n * (2 ^ n : Nat) % (2 ^ n : Nat) = 0 := Int.mul_emod_left _ _
    have h7 : (2 : Nat) ^ 7 = 128 := by decide
    rw [e, or_comm', or_u8 (m := n) (by omega) hm h2 h3 (by omega)]
    have e2 : (2 ^ (n + 1) : Nat) = 2 * 2 ^ n := by rw [Nat.pow_succ, Nat.mul_comm]
    rw [e2]
    refine ⟨by omega, by omega, by omega⟩
theorem bit_low (u H : Int) {b : Nat} (hb : b < 51) : (u + 2251799813685248 * H) / (2 ^ b : Nat) % 2 = u / (2 ^ b : Nat) % 2 := by
  have e : (2251799813685248 : Int) = (2 ^ b : Nat) * (2 * (2 ^ (50 - b) : Nat)) := by
    have : (2251799813685248 : Nat) = 2 ^ b * (2 * 2 ^ (50 - b)) := by
      rw [← Nat.mul_assoc, Nat.mul_comm (2 ^ b) 2, Nat.mul_assoc, ← Nat.pow_add, show b + (50 - b) = 50 by omega]
    have h2 : ((2251799813685248 : Nat) : Int) = ((2 ^ b * (2 * 2 ^ (50 - b)) : Nat) : Int) := by rw [← this]
    rw [Int.natCast_mul, Int.natCast_mul] at h2
    exact h2
  rw [e, Int.mul_assoc, Int.add_mul_ediv_left _ _ (by have := Nat.two_pow_pos b; omega), Int.mul_assoc, Int.add_mul_emod_self_left]
theorem limb_bit {y : Fe} (h : Lim51 y.1 ∧ Lim51 y.2.1 ∧ Lim51 y.2.2.1 ∧ Lim51 y.2.2.2.1 ∧ Lim51 y.2.2.2.2.1) (q : Nat) (hq : q < 255) :
    y.get (q / 51) / (2 ^ (q % 51) : Nat) % 2 = val5 y / (2 ^ q : Nat) % 2 := by
  obtain ⟨y0, y1, y2, y3, y4, u⟩ := y
  simp only [Lim51] at h
  have hb : q % 51 < 51 := Nat.mod_lt _ (by decide)
  have hq2 : (2 ^ q : Nat) = 2 ^ (51 * (q / 51)) * 2 ^ (q % 51) := by rw [← Nat.pow_add]; congr 1; omega
  rw [hq2, Int.natCast_mul, ← Int.ediv_ediv_of_nonneg (Int.natCast_nonneg _)]
  have h5 : q / 51 < 5 := by omega
  generalize q % 51 = b at *
  generalize q / 51 = a at *
  have key : ∀ (V H : Int), val5 (y0, y1, y2, y3, y4, u) / (2 ^ (51 * a) : Nat) = V + 2251799813685248 * H → V / (2 ^ b : Nat) % 2 = val5 (y0, y1, y2, y3, y4, u) / (2 ^ (51 * a) : Nat) / (2 ^ b : Nat) % 2 := by
    intro V H e; rw [e, bit_low V H hb]
  match a, h5 with
  | 0, _ => exact key y0 (y1 + y2 * 2251799813685248 + y3 * 5070602400912917605986812821504 + y4 * 11417981541647679048466287755595961091061972992) (by simp only [val5, Nat.mul_zero, Nat.pow_zero]; omega)
  | 1, _ => exact key y1 (y2 + y3 * 2251799813685248 + y4 * 5070602400912917605986812821504) (by
      have : (2 : Nat) ^ (51 * 1) = 2251799813685248 := by decide
      rw [this]; simp only [val5]; omega)
  | 2, _ => exact key y2 (y3 + y4 * 2251799813685248) (by
      have : (2 : Nat) ^ (51 * 2) = 5070602400912917605986812821504 := by decide
      rw [this]; simp only [val5]; omega)
  | 3, _ => exact key y3 y4 (by
      have : (2 : Nat) ^ (51 * 3) = 11417981541647679048466287755595961091061972992 := by decide
      rw [this]; simp only [val5]; omega)
  | 4, _ => exact key y4 0 (by
      have : (2 : Nat) ^ (51 * 4) = 25711008708143844408671393477458601640355247900524685364822016 := by decide
      rw [this]; simp only [val5]; omega)
theorem bsum8 (W : Int) : bsum (fun i => W / (2 ^ i : Nat) % 2) 8 = W % 256 := by
  simp [bsum]; omega
theorem bsum7 (W : Int) (h0 : 0 ≤ W) (h : W < 128) : bsum (fun i => W / (2 ^ i : Nat) % 2) 7 = W % 256 := by
  simp [bsum]; omega
theorem ofFn_congr {α : Type} : ∀ {n : Nat} {f g : Nat → α}, (∀ i, i < n → f i = g i) → Vec.ofFn n f = Vec.ofFn n g
  | 0, _, _, _ => rfl
  | n + 1, f, g, h => by
    show (f 0, Vec.ofFn n _) = (g 0, Vec.ofFn n _)
    rw [h 0 (by omega), ofFn_congr (n := n) fun i hi => h (i + 1) (by omega)]
theorem bits_dig {y : Fe} (h : Lst5 y) : feBits y = digB 32 (val5 y) := by
  have hv0 : 0 ≤ val5 y := by
    obtain ⟨y0, y1, y2, y3, y4, u⟩ := y
    have := h.1
    simp only [Lim51] at this
    simp only [val5]; omega
  have hv1 := h.2
  unfold feBits digB
  refine ofFn_congr fun j hj => ?_
  have hfold : ∀ n, n ≤ 8 → (∀ i, i < n → 8 * j + i < 255) →
      (List.range n).foldl (fun acc i => bitOr .u8 acc (shl .u8 (IntKind.u8.wrap (and64 (shr64 (y.get ((8 * j + i) / 51)) (((8 * j + i) % 51 : Nat) : Int)) 1)) (i : Int))) 0 =
        bsum (fun i => val5 y / (2 ^ (8 * j) : Nat) / (2 ^ i : Nat) % 2) n := by
    intro n hn hlt
    have hbit : ∀ i, i < n → IntKind.u8.wrap (and64 (shr64 (y.get ((8 * j + i) / 51)) (((8 * j + i) % 51 : Nat) : Int)) 1) = val5 y / (2 ^ (8 * j) : Nat) / (2 ^ i : Nat) % 2 := by
      intro i hi
      have e1 : shr64 (y.get ((8 * j + i) / 51)) (((8 * j + i) % 51 : Nat) : Int) = y.get ((8 * j + i) / 51) / (2 ^ ((8 * j + i) % 51) : Nat) := shr_div .u64 _ _ (by show (8 * j + i) % 51 ≤ 64; omega)
      have e2 : ∀ x, and64 x 1 = x % 2 := fun x => by
        have := and_u64 (m := 1) (by decide) x 1 (by decide)
        simpa [and64] using this
      rw [e1, e2, limb_bit h.1 _ (hlt i hi), wrap_u8, Int.ediv_ediv_of_nonneg (Int.natCast_nonneg _), ← Int.natCast_mul, ← Nat.pow_add]
      omega
    have hcongr : ∀ (l : List Nat) (a : Int), (∀ i ∈ l, i < n) → l.foldl (fun (acc : Int) (i : Nat) => bitOr .u8 acc (shl .u8 (IntKind.u8.wrap (and64 (shr64 (y.get ((8 * j + i) / 51)) (((8 * j + i) % 51 : Nat) : Int)) 1)) (i : Int))) a =
        l.foldl (fun (acc : Int) (i : Nat) => bitOr .u8 acc (shl .u8 (val5 y / (2 ^ (8 * j) : Nat) / (2 ^ i : Nat) % 2) (i : Int))) a := by
      intro l
      induction l with
      | nil => intro a _; rfl
      | cons i l ih => intro a hl; simp only [List.foldl_cons]; rw [hbit i (hl i (by simp)), ih _ fun k hk => hl k (by simp [hk])]
    rw [hcongr _ _ fun i hi => List.mem_range.1 hi]
    exact (or_bits (fun i => val5 y / (2 ^ (8 * j) : Nat) / (2 ^ i : Nat) % 2) n hn fun i _ => by
      have := Int.emod_nonneg (val5 y / (2 ^ (8 * j) : Nat) / (2 ^ i : Nat)) (b := 2) (by omega)
      have := Int.emod_lt_of_pos (val5 y / (2 ^ (8 * j) : Nat) / (2 ^ i : Nat)) (b := 2) (by omega)
      omega).1
  have e8 : (2 ^ (8 * j) : Nat) = 256 ^ j := by rw [Nat.pow_mul]
  by_cases h31 : j = 31
  · rw [if_pos h31, hfold 7 (by omega) (fun i hi => by omega), e8]
    refine bsum7 _ (Int.ediv_nonneg hv0 (Int.natCast_nonneg _)) ?_
    subst h31
    have : (256 ^ 31 : Nat) = 452312848583266388373324160190187140051835877600158453279131187530910662656 := by decide
    rw [this]
    simp only [pp] at hv1
    omega
  · rw [if_neg h31, hfold 8 (by omega) (fun i hi => by omega), e8]
    exact bsum8 _
theorem val_of_least {y : Fe} (h : Lst5 y) : ((fe y).val : Int) = val5 y := by
  have hv0 : 0 ≤ val5 y := by
    obtain ⟨y0, y1, y2, y3, y4, u⟩ := y
    have := h.1
    simp only [Lim51] at this
    simp only [val5]; omega
  unfold fe
  rw [toF_val, Int.emod_eq_of_lt hv0 h.2]
noncomputable def feBytes (x : Fe) : B32 := feBits (feLeast feCarry x)
theorem bytes_fe {x : Fe} (h : Ok5 x) : feBytes x = bytesF (fe x) := by
  obtain ⟨h1, h2⟩ := least_fe h
  unfold feBytes bytesF
  rw [bits_dig h1, ← val_of_least h1, h2]
theorem eq_bytes {a b : F} : eqV (bytesF a) (bytesF b) = decide (a = b) := by
  by_cases h : a = b
  · subst h; rw [decide_eq_true rfl]; exact (eqV_iff _ _).2 rfl
  · rw [decide_eq_false h]
    refine Bool.eq_false_iff.2 fun e => h (bytesF_inj ((eqV_iff _ _).1 e))
theorem equal_fe {x y : Fe} (hx : Ok5 x) (hy : Ok5 y) : eqV (feBytes x) (feBytes y) = decide (fe x = fe y) := by
  rw [bytes_fe hx, bytes_fe hy, eq_bytes]
theorem odd_fe {x : Fe} (h : Ok5 x) : feOdd feBytes x = decide ((fe x).val % 2 = 1) := by
  unfold feOdd
  rw [bytes_fe h]
  have e : (bytesF (fe x)).1 = ((fe x).val : Int) / (256 ^ 0 : Nat) % 256 := rfl
  rw [e, and_u8 (m := 1) (by decide) _ 1 (by decide)]
  have : ((((fe x).val : Int) / (256 ^ 0 : Nat) % 256 % (2 ^ 1 : Nat) == 1) = true) ↔ (fe x).val % 2 = 1 := by
    rw [beq_iff_eq]; simp only [Nat.pow_zero, Nat.pow_one]; omega
  by_cases h1 : (fe x).val % 2 = 1
  · rw [decide_eq_true h1]; exact this.2 h1
  · rw [decide_eq_false h1]; exact Bool.eq_false_iff.2 fun e => h1 (this.1 e)
theorem small_fe {n : Int} (h : U64 n) : Ok5 (feSmall n) ∧ fe (feSmall n) = toF n := by
  simp only [U64] at h
  have e : feSmall n = mk5 (n % 2251799813685248) (n / 2251799813685248) 0 0 0 := by
    simp only [feSmall, and_msk, shr_51]; rfl
  rw [e]
  refine ⟨by simp only [Ok5, Lim, mk5]; omega, ?_⟩
  unfold fe; congr 1; simp only [val5, mk5]; omega
end Go.Proofs.YthdfifcgobfgdaaGreat
end
