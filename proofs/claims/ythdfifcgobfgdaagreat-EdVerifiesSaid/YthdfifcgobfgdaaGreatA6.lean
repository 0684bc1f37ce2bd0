/- What the laws lean on, part 6: a reader of code, plain facts, and what each function gives; no conditions. -/
import Derived.Test.YthdfifcgobfgdaaGreatA5
section
set_option linter.unusedVariables false
set_option linter.unusedSimpArgs false
namespace Go.Proofs.YthdfifcgobfgdaaGreat
open Go Go.Ev
set_option maxRecDepth 100000
noncomputable def rbeginE : Ent := Ent.ofS [] lNil lNil fun _ _ => .leaf none (nRow .u64 8 beginK) []
noncomputable def rroundsE : Ent := Ent.ofS [] lNil lNil fun _ _ => .leaf none (nRow .u64 80 roundsK) []
theorem rbegin_tree : fnT Tryz.prog [] [] Tryz.f76 (lNil.wr ()) (lNil.wr ()) [.fr [.sym], .rowF 0 0 8 .u64, .auto] = .leaf (nRow .u64 8 beginK) [] := by kernel_rfl
theorem rrounds_tree : fnT Tryz.prog [] [] Tryz.f150 (lNil.wr ()) (lNil.wr ()) [.fr [.sym], .auto] = .leaf (nRow .u64 80 roundsK) [] := by kernel_rfl
theorem rbegin_ok : rbeginE.Ok Tryz.prog 76 := by
  refine (Ent.ofOk Tryz.call76 fun x_ y_ Q h => ?_).sym
  refine (fnT_ok mixed tab0 Tryz.func76 rfl (LT := []) (ks := [.fr [.sym], .rowF 0 0 8 .u64, .auto]) (LOk.nil _)).use (D := []) ?_ h.2
  show (fnT _ _ _ _ (lNil.wr ()) (lNil.wr ()) _).sat _
  rw [rbegin_tree]
  exact ⟨rfl, rfl⟩
theorem rrounds_ok : rroundsE.Ok Tryz.prog 150 := by
  refine (Ent.ofOk Tryz.call150 fun x_ y_ Q h => ?_).sym
  refine (fnT_ok mixed tab0 Tryz.func150 rfl (LT := []) (ks := [.fr [.sym], .auto]) (LOk.nil _)).use (D := []) ?_ h.2
  show (fnT _ _ _ _ (lNil.wr ()) (lNil.wr ()) _).sat _
  rw [rrounds_tree]
  exact ⟨rfl, rfl⟩
noncomputable def rrotrE : Ent := Ent.ofS [] (uiC) (lNil) fun x_ y_ => (fun (x n : Int) => .leaf (some (0 < n ∧ n < 64)) (nU (rotr x n)) []) x_.1 x_.2.1
theorem rrotr_tree (x n : Int) : fnT Tryz.prog [] [] Tryz.f151 ((uiC).wr (x, n, ())) ((lNil).wr ()) [.fr [.sym], .auto] =
  End.ite (IntKind.u64.wrap ((IntKind.i64.wrap (n.tmod (64 : Int) + (64 : Int))).tmod (64 : Int)) == (0 : Int)) (End.leaf (LV.one (VV.sc (SV.int
  IntKind.u64 (SI.sym x)))) []) (End.need ((0 : Int) ≤ IntKind.u64.wrap ((IntKind.i64.wrap (n.tmod (64 : Int) + (64 : Int))).tmod (64 : Int))) (End.need
  ((0 : Int) ≤ IntKind.u64.wrap ((64 : Int) - IntKind.u64.wrap ((IntKind.i64.wrap (n.tmod (64 : Int) + (64 : Int))).tmod (64 : Int)))) (End.leaf (LV.one
  (VV.sc (SV.int IntKind.u64 (SI.sym (bitOr IntKind.u64 (shr IntKind.u64 x (IntKind.u64.wrap ((IntKind.i64.wrap (n.tmod (64 : Int) + (64 : Int))).tmod
  (64 : Int)))) (shl IntKind.u64 x (IntKind.u64.wrap ((64 : Int) - IntKind.u64.wrap ((IntKind.i64.wrap (n.tmod (64 : Int) + (64 : Int))).tmod (64 :
  Int)))))))))) []))) := by kernel_rfl
theorem rrotr_ok : rrotrE.Ok Tryz.prog 151 := by
  refine (Ent.ofOk Tryz.call151 fun x_ y_ Q H_ => ?_).sym
  obtain ⟨x, n, _⟩ := x_
  obtain ⟨hn, hq⟩ := H_
  have hn : 0 < n ∧ n < 64 := hn
  refine (fnT_ok mixed tab0 Tryz.func151 rfl (LT := []) (ks := [.fr [.sym], .auto]) (LOk.nil _)).use (D := []) ?_ hq
  show (fnT _ _ _ _ ((uiC).wr (x, n, ())) ((lNil).wr ()) _).sat _
  rw [rrotr_tree]
  obtain ⟨h0, h1⟩ := hn
  have e : IntKind.u64.wrap ((IntKind.i64.wrap (n.tmod 64 + 64)).tmod 64) = n := by
    have a1 : n.tmod 64 = n := by rw [Int.tmod_eq_emod_of_nonneg (by omega)]; omega
    rw [a1, wrap_i64 (by omega) (by omega)]
    have a2 : (n + 64).tmod 64 = n := by rw [Int.tmod_eq_emod_of_nonneg (by omega)]; omega
    rw [a2, wrap_u64 (by omega) (by omega)]
  have e2 : IntKind.u64.wrap (64 - n) = 64 - n := wrap_u64 (by omega) (by omega)
  rw [e, e2, or_comm']
  exact ⟨fun h => by simp at h; omega, fun _ => ⟨by omega, by omega, rfl, rfl⟩⟩
theorem ofInt_wrap (b : BitVec 64) : BitVec.ofInt 64 (IntKind.u64.wrap (b.toNat : Int)) = b := by
  have h := b.isLt
  rw [wrap_u64 (by omega) (by omega)]
  simp
theorem maj_or (x y z : Int) : bitOr .u64 (bitOr .u64 (bitAnd .u64 x y) (bitAnd .u64 x z)) (bitAnd .u64 y z) = majF x y z := by
  unfold majF bitOr bitXor bitAnd
  show IntKind.u64.wrap ((BitVec.ofInt 64 (IntKind.u64.wrap ((BitVec.ofInt 64 (IntKind.u64.wrap ((BitVec.ofInt 64 x &&& BitVec.ofInt 64 y).toNat : Int)) ||| BitVec.ofInt 64 (IntKind.u64.wrap ((BitVec.ofInt 64 x &&& BitVec.ofInt 64 z).toNat : Int))).toNat : Int)) ||| BitVec.ofInt 64 (IntKind.u64.wrap ((BitVec.ofInt 64 y &&& BitVec.ofInt 64 z).toNat : Int))).toNat : Int) =
    IntKind.u64.wrap ((BitVec.ofInt 64 (IntKind.u64.wrap ((BitVec.ofInt 64 (IntKind.u64.wrap ((BitVec.ofInt 64 x &&& BitVec.ofInt 64 y).toNat : Int)) ^^^ BitVec.ofInt 64 (IntKind.u64.wrap ((BitVec.ofInt 64 x &&& BitVec.ofInt 64 z).toNat : Int))).toNat : Int)) ^^^ BitVec.ofInt 64 (IntKind.u64.wrap ((BitVec.ofInt 64 y &&& BitVec.ofInt 64 z).toNat : Int))).toNat : Int)
  simp only [ofInt_wrap]
  congr 3
  apply BitVec.eq_of_getLsbD_eq
  intro i _
  simp only [BitVec.getLsbD_or, BitVec.getLsbD_and, BitVec.getLsbD_xor]
  cases (BitVec.ofInt 64 x).getLsbD i <;> cases (BitVec.ofInt 64 y).getLsbD i <;> cases (BitVec.ofInt 64 z).getLsbD i <;> rfl
noncomputable abbrev rwFn : Func := Tryz.f126
abbrev rwC : Cod (List LV) (List Int × Int × Unit) := (lCons (vOne (sRd false false u8)) (jk 1 (lSkip (vOne (sPtr 0 0)) (jk 1 (lSkip (vOne (sPtr 1 0)) (lCons (vOne (sInt .i64)) (jk 24 lNil)))))))
abbrev rwCf : Wk := .fr (fmS 30 [(0, .keep), (2, .keep), (4, .keep), (5, .sym)])
abbrev rwX : Cod (List LV) (Unit) := (jk 2 (lSkip (vOne (sPtr 0 0)) (jk 1 (lSkip (vOne (sPtr 1 0)) (jk 25 lNil)))))
abbrev rwXf : Wk := .fr (fmS 30 [(2, .keep), (4, .keep)])
def rwW : Exit → List Wk
  | .normal => [rwCf, .rowB 0 0 16 .u64, .rowB 1 0 16 .u64, .auto]
  | .exit 0 => [rwXf, .auto]
  | _ => []
theorem rw_rnd (b : List Int) (i : Int) (r m : List Int) : rndT Tryz.prog [] [] rwFn 0 [] rwW ((stC rwC woH).wr ((b, i, ()), (r, m, ()))) =
  Res.ite (decide (i < (128 : Int))) (Res.need ((0 : Int) ≤ IntKind.i64.wrap (i.tdiv (8 : Int)) ∧ IntKind.i64.wrap (i.tdiv (8 : Int)) < (16 : Int))
  (Res.need ((0 : Int) ≤ i ∧ i < (↑b.length : Int)) (Res.need ((0 : Int) ≤ IntKind.i64.wrap (i.tdiv (8 : Int)) ∧ IntKind.i64.wrap (i.tdiv (8 : Int)) <
  (16 : Int)) (Res.leaf Exit.normal ((stC rwC woH).wr ((b, IntKind.i64.wrap (i + (1 : Int)), PUnit.unit), r, m.set ((0 : Nat) + (IntKind.i64.wrap (i.tdiv
  (8 : Int))).toNat) (bitOr IntKind.u64 (shl IntKind.u64 ((List.take (16 : Nat) (List.drop (0 : Nat) m)).getD (IntKind.i64.wrap (i.tdiv (8 : Int))).toNat
  (0 : Int)) (8 : Int)) (IntKind.u64.wrap (b.getD i.toNat (0 : Int)))), PUnit.unit)))))) (Res.leaf (Exit.exit (0 : Nat)) ((stC rwX woH).wr (PUnit.unit,
  r, m, PUnit.unit))) := by kernel_rfl
noncomputable def rwF (x : (List Int × Int × Unit) × List Int × List Int × Unit) : Res :=
  .need (x.1.1.length = 128 ∧ x.1.2.1 = 0 ∧ x.2.2.1 = List.replicate 16 0) (.leaf (.exit 0) ((stC rwX woH).wr ((), (x.2.1, wordsF x.1.1, ()))))
theorem rw_loop (x) : Ex Tryz.prog [] (.loop (loopAt rwFn 0)) ((stC rwC woH).wr x) (rwF x) := by
  obtain ⟨⟨b, i, _⟩, r, m, _⟩ := x
  refine Ex.need fun ⟨h1, h3, h4⟩ => ?_
  simp only at h1 h3 h4
  subst h3 h4
  refine loopUp (ws := rwW) (hp := []) mixed tab0 (LOk.nil _) 128 (fun k m => (stC rwC woH).wr ((b, (k : Int), ()), (r, m, ()))) (fun m => (stC rwX woH).wr ((), (r, m, ()))) (wordF b) (fun _ m => m.length = 16)
    (fun k m R hk hm hn hx => ?_) (fun k m _ hm => by rw [wordF_length]; exact hm) 0 (List.replicate 16 0) (by omega) (by simp)
  rw [rw_rnd]
  refine ⟨fun hb => ?_, fun hb => ?_⟩
  · have hlt : k < 128 := by have := of_decide_eq_true hb; omega
    have e : IntKind.i64.wrap ((k : Int).tdiv 8) = ((k / 8 : Nat) : Int) := tdiv_nat k 8 (by omega)
    rw [e, take_all hm, wrap_succ k (by omega)]
    simp only [Int.toNat_natCast, Nat.zero_add]
    exact ⟨by omega, by omega, by omega, hn hlt⟩
  · have : k = 128 := by have := of_decide_eq_false hb; omega
    exact hx this
noncomputable abbrev rwLT : LTab := [(0, loopF (stC rwC woH) 0 [rwCf, .auto, .rowB 0 0 16 .u64, .rowB 1 0 16 .u64] rwF)]
noncomputable def rwordsE : Ent := Ent.ofS [some u8] (bA) (lNil) fun x_ y_ => (fun (b : List Int) => .leaf (some (b.length = 128)) (.tup [.agg [.arr (.int .u64) 16 (wordsF b)], .sc (.bool (.sym true))]) []) x_.1
theorem rwords_tree (b : List Int) : fnT Tryz.prog [] rwLT Tryz.f126 ((bA).wr (b, ())) ((lNil).wr ()) [.fr [.sym], .rowF 0 0 16 .u64, .auto] =
  End.ite ((↑b.length : Int) != (128 : Int)) (End.leaf (LV.tup [VV.agg [SV.arr (Ty.int IntKind.u64) (16 : Nat) [(0 : Int), (0 : Int), (0 : Int), (0 :
  Int), (0 : Int), (0 : Int), (0 : Int), (0 : Int), (0 : Int), (0 : Int), (0 : Int), (0 : Int), (0 : Int), (0 : Int), (0 : Int), (0 : Int)]], VV.sc
  (SV.bool (SB.sym false))]) []) (End.need (b.length = (128 : Nat) ∧ (0 : Int) = (0 : Int) ∧ [(0 : Int), (0 : Int), (0 : Int), (0 : Int), (0 : Int), (0 :
  Int), (0 : Int), (0 : Int), (0 : Int), (0 : Int), (0 : Int), (0 : Int), (0 : Int), (0 : Int), (0 : Int), (0 : Int)] = List.replicate (16 : Nat) (0 :
  Int)) (End.leaf (LV.tup [VV.agg [SV.arr (Ty.int IntKind.u64) (16 : Nat) (wordsF b)], VV.sc (SV.bool (SB.sym true))]) [])) := by kernel_rfl
theorem rwords_ok : rwordsE.Ok Tryz.prog 126 := by
  refine (Ent.ofOk Tryz.call126 fun x_ y_ Q H_ => ?_).sym
  obtain ⟨b, _⟩ := x_
  obtain ⟨hn, hq⟩ := H_
  have hn : b.length = 128 := hn
  refine (fnT_ok mixed tab0 Tryz.func126 rfl (LT := rwLT) (ks := [.fr [.sym], .rowF 0 0 16 .u64, .auto]) (LOk.ofTab (LTC rfl (loopF_ok (hp := []) rw_loop) LT0))).use (D := []) ?_ hq
  show (fnT _ _ _ _ ((bA).wr (b, ())) ((lNil).wr ()) _).sat _
  rw [rwords_tree]
  refine ⟨fun h => ?_, fun h => ⟨⟨hn, rfl, rfl⟩, rfl, rfl⟩⟩
  simp [hn] at h
def rschF (m : List Int) (t : Nat) (w : List Int) : List Int := if t < 16 then w.set t (m.getD t 0) else schF t w
theorem rschF_length (m : List Int) (t : Nat) (w : List Int) : (rschF m t w).length = w.length := by unfold rschF; split <;> simp [schF]
theorem rsch_first (m : List Int) : ∀ (j k : Nat), k + j ≤ 16 → m.length = 16 → upto (rschF m) k j (m.take k ++ List.replicate (80 - k) 0) = m.take (k + j) ++ List.replicate (80 - (k + j)) 0
  | 0, _, _, _ => rfl
  | j + 1, k, h, hm => by
    have e : rschF m k (m.take k ++ List.replicate (80 - k) 0) = m.take (k + 1) ++ List.replicate (80 - (k + 1)) 0 := by
      unfold rschF
      have hl : (m.take k).length = k := by simp; omega
      rw [if_pos (by omega), List.set_append_right _ _ (by omega), hl, Nat.sub_self, show 80 - k = (80 - (k + 1)) + 1 from by omega, List.replicate_succ, List.set_cons_zero, ← List.take_append_getElem (by omega : k < m.length), List.append_assoc]
      simp [List.getD_eq_getElem?_getD, List.getElem?_eq_getElem (show k < m.length by omega)]
    show upto (rschF m) (k + 1) j (rschF m k _) = _
    rw [e, rsch_first m j (k + 1) (by omega) hm, show k + 1 + j = k + (j + 1) from by omega]
theorem rsched_eq {m : List Int} (hm : m.length = 16) : upto (rschF m) 0 80 (List.replicate 80 0) = schedF m := by
  have h := rsch_first m 16 0 (by omega) hm
  rw [show (80 : Nat) = 16 + 64 from rfl, upto_add]
  simp only [List.take_zero, List.nil_append, Nat.zero_add, Nat.sub_zero] at h
  rw [Nat.zero_add, show List.replicate (16 + 64) (0 : Int) = List.replicate 80 0 from rfl, h, List.take_of_length_le (by omega)]
  exact upto_congr (n := 80) (fun k (_ : List Int) => 16 ≤ k) (fun k _ _ h => by omega) (fun k w _ h => by unfold rschF; rw [if_neg (by omega)]) 64 16 _ (by omega) (by omega)
noncomputable abbrev rscFn : Func := Tryz.f149
abbrev rsC : Cod (List LV) (Int × Unit) := (jk 1 (lSkip (vOne (sPtr 0 0)) (lSkip (vOne (sPtr 1 0)) (lSkip (vOne (sPtr 2 0)) (lCons (vOne (sInt .i64)) (jk 52 lNil))))))
abbrev rsCf : Wk := .fr (fmS 57 [(1, .keep), (2, .keep), (3, .keep), (4, .sym)])
abbrev rsX : Cod (List LV) (Unit) := (jk 2 (lSkip (vOne (sPtr 0 0)) (lSkip (vOne (sPtr 1 0)) (jk 53 lNil))))
abbrev rsXf : Wk := .fr (fmS 57 [(2, .keep), (3, .keep)])
abbrev rsH : Cod Hp (List Int × List Int × List Int × Unit) := lCons (iRow 152 .u64 16) (lCons (iRow 171 .u64 80) (lCons (iRow 171 .u64 80) lNil))
noncomputable abbrev rsTab : List (FuncId × Ent) := [(151, rrotrE)]
theorem rsTab_ok : ∀ p ∈ rsTab, p.2.Ok Tryz.prog p.1 := tabC rrotr_ok tab0
def rsW : Exit → List Wk
  | .normal => [rsCf, .auto]
  | .exit 0 => [rsXf, .auto]
  | _ => []
theorem rs_rnd (t : Int) (m r w : List Int) : rndT Tryz.prog rsTab [] rscFn 0 [] rsW ((stC rsC rsH).wr ((t, ()), (m, r, w, ()))) =
  Res.ite (decide (t < (80 : Int))) (Res.ite (decide (t < (16 : Int))) (Res.need ((0 : Int) ≤ t ∧ t < (16 : Int)) (Res.need ((0 : Int) ≤ t ∧ t < (80 :
  Int)) (Res.leaf Exit.normal ((stC rsC rsH).wr ((IntKind.i64.wrap (t + (1 : Int)), PUnit.unit), m, r, w.set ((0 : Nat) + t.toNat) ((List.take (16 : Nat)
  (List.drop (0 : Nat) m)).getD t.toNat (0 : Int)), PUnit.unit))))) (Res.need ((0 : Int) ≤ IntKind.i64.wrap (t - (15 : Int)) ∧ IntKind.i64.wrap (t - (15
  : Int)) < (80 : Int)) (Res.need ((0 : Int) ≤ IntKind.i64.wrap (t - (2 : Int)) ∧ IntKind.i64.wrap (t - (2 : Int)) < (80 : Int)) (Res.need ((0 : Int) <
  (19 : Int) ∧ (19 : Int) < (64 : Int)) (Res.need ((0 : Int) < (61 : Int) ∧ (61 : Int) < (64 : Int)) (Res.need ((0 : Int) ≤ IntKind.i64.wrap (t - (7 :
  Int)) ∧ IntKind.i64.wrap (t - (7 : Int)) < (80 : Int)) (Res.need ((0 : Int) < (1 : Int) ∧ (1 : Int) < (64 : Int)) (Res.need ((0 : Int) < (8 : Int) ∧ (8
  : Int) < (64 : Int)) (Res.need ((0 : Int) ≤ IntKind.i64.wrap (t - (16 : Int)) ∧ IntKind.i64.wrap (t - (16 : Int)) < (80 : Int)) (Res.need ((0 : Int) ≤
  t ∧ t < (80 : Int)) (Res.leaf Exit.normal ((stC rsC rsH).wr ((IntKind.i64.wrap (t + (1 : Int)), PUnit.unit), m, r, w.set ((0 : Nat) + t.toNat)
  (IntKind.u64.wrap (IntKind.u64.wrap (IntKind.u64.wrap (bitXor IntKind.u64 (bitXor IntKind.u64 (rotr ((List.take (80 : Nat) (List.drop (0 : Nat)
  w)).getD (IntKind.i64.wrap (t - (2 : Int))).toNat (0 : Int)) (19 : Int)) (rotr ((List.take (80 : Nat) (List.drop (0 : Nat) w)).getD (IntKind.i64.wrap
  (t - (2 : Int))).toNat (0 : Int)) (61 : Int))) (shr IntKind.u64 ((List.take (80 : Nat) (List.drop (0 : Nat) w)).getD (IntKind.i64.wrap (t - (2 :
  Int))).toNat (0 : Int)) (6 : Int)) + (List.take (80 : Nat) (List.drop (0 : Nat) w)).getD (IntKind.i64.wrap (t - (7 : Int))).toNat (0 : Int)) + bitXor
  IntKind.u64 (bitXor IntKind.u64 (rotr ((List.take (80 : Nat) (List.drop (0 : Nat) w)).getD (IntKind.i64.wrap (t - (15 : Int))).toNat (0 : Int)) (1 :
  Int)) (rotr ((List.take (80 : Nat) (List.drop (0 : Nat) w)).getD (IntKind.i64.wrap (t - (15 : Int))).toNat (0 : Int)) (8 : Int))) (shr IntKind.u64
  ((List.take (80 : Nat) (List.drop (0 : Nat) w)).getD (IntKind.i64.wrap (t - (15 : Int))).toNat (0 : Int)) (7 : Int))) + (List.take (80 : Nat)
  (List.drop (0 : Nat) w)).getD (IntKind.i64.wrap (t - (16 : Int))).toNat (0 : Int))), PUnit.unit))))))))))))) (Res.leaf (Exit.exit (0 : Nat)) ((stC rsX
  scH).wr (PUnit.unit, r, w, PUnit.unit))) := by kernel_rfl
noncomputable def rsF (x : (Int × Unit) × List Int × List Int × List Int × Unit) : Res :=
  .need (x.1.1 = 0 ∧ x.2.1.length = 16 ∧ x.2.2.2.1 = List.replicate 80 0) (.leaf (.exit 0) ((stC rsX scH).wr ((), (x.2.2.1, schedF x.2.1, ()))))
theorem rs_loop (x) : Ex Tryz.prog [] (.loop (loopAt rscFn 0)) ((stC rsC rsH).wr x) (rsF x) := by
  obtain ⟨⟨i, _⟩, m, r, w, _⟩ := x
  refine Ex.need fun ⟨h1, h2, h3⟩ => ?_
  simp only at h1 h2 h3
  subst h1 h3
  have key := loopUp (fn := rscFn) (id := 0) (j := 0) (ws := rsW) (hp := []) mixed rsTab_ok (LOk.nil _) 80 (fun k w => (stC rsC rsH).wr (((k : Int), ()), (m, r, w, ()))) (fun w => (stC rsX scH).wr ((), (r, w, ()))) (rschF m) (fun _ w => w.length = 80)
    (fun k w R hk hm hn hx => ?_) (fun k w _ hw => by rw [rschF_length]; exact hw) 0 (List.replicate 80 0) (by omega) (by simp)
  · rw [rsched_eq h2] at key; exact key
  rw [rs_rnd]
  refine ⟨fun hb => ?_, fun hb => ?_⟩
  · have hlt : k < 80 := by have := of_decide_eq_true hb; omega
    rw [take_all hm, take_all h2, wrap_succ k (by omega)]
    refine ⟨fun h16 => ?_, fun h16 => ?_⟩
    · have h16 : k < 16 := by have := of_decide_eq_true h16; omega
      have := hn hlt
      unfold rschF at this
      rw [if_pos h16] at this
      simp only [Int.toNat_natCast, Nat.zero_add]
      exact ⟨by omega, by omega, this⟩
    · have h16 : 16 ≤ k := by have := of_decide_eq_false h16; omega
      have := hn hlt
      unfold rschF at this
      rw [if_neg (by omega)] at this
      have e2 : IntKind.i64.wrap ((k : Int) - 2) = ((k - 2 : Nat) : Int) := wrap_sub k 2 (by omega) (by omega)
      have e7 : IntKind.i64.wrap ((k : Int) - 7) = ((k - 7 : Nat) : Int) := wrap_sub k 7 (by omega) (by omega)
      have e15 : IntKind.i64.wrap ((k : Int) - 15) = ((k - 15 : Nat) : Int) := wrap_sub k 15 (by omega) (by omega)
      have e16 : IntKind.i64.wrap ((k : Int) - 16) = ((k - 16 : Nat) : Int) := wrap_sub k 16 (by omega) (by omega)
      rw [e2, e7, e15, e16]
      simp only [Int.toNat_natCast, Nat.zero_add]
      exact ⟨by omega, by omega, by decide, by decide, by omega, by decide, by decide, by omega, by omega, this⟩
  · have : k = 80 := by have := of_decide_eq_false hb; omega
    exact hx this
noncomputable abbrev rsLT : LTab := [(0, loopF (stC rsC rsH) 0 [rsCf, .auto] rsF)]
noncomputable def rschedE : Ent := Ent.ofS [] (scA) (lNil) fun x_ y_ => (fun (m : List Int) => .leaf (some (m.length = 16)) (nRow .u64 80 (schedF m)) []) x_.1
theorem rsched_tree (m : List Int) : fnT Tryz.prog rsTab rsLT Tryz.f149 ((scA).wr (m, ())) ((lNil).wr ()) [.fr [.sym], .auto] =
  End.need ((0 : Int) = (0 : Int) ∧ m.length = (16 : Nat) ∧ List.replicate (80 : Nat) (0 : Int) = List.replicate (80 : Nat) (0 : Int)) (End.leaf (LV.one
  (VV.agg [SV.arr (Ty.int IntKind.u64) (80 : Nat) (schedF m)])) []) := by kernel_rfl
theorem rsched_ok : rschedE.Ok Tryz.prog 149 := by
  refine (Ent.ofOk Tryz.call149 fun x_ y_ Q H_ => ?_).sym
  obtain ⟨m, _⟩ := x_
  obtain ⟨hn, hq⟩ := H_
  have hn : m.length = 16 := hn
  refine (fnT_ok mixed rsTab_ok Tryz.func149 rfl (LT := rsLT) (ks := [.fr [.sym], .auto]) (LOk.ofTab (LTC rfl (loopF_ok (hp := []) rs_loop) LT0))).use (D := []) ?_ hq
  show (fnT _ _ _ _ ((scA).wr (m, ())) ((lNil).wr ()) _).sat _
  rw [rsched_tree]
  exact ⟨⟨rfl, hn, rfl⟩, rfl, rfl⟩
noncomputable abbrev rstFn : Func := Tryz.f127
abbrev rpC : Cod (List LV) (Int × Unit) := (jk 2 (lSkip (vOne (sPtr 0 0)) (jk 1 (lSkip (vOne (sPtr 1 0)) (lSkip (vOne (sPtr 2 0)) (lSkip (vOne (sPtr 3 0)) (lSkip (vOne (sPtr 4 0)) (lCons (vOne (sInt .i64)) (jk 105 lNil)))))))))
abbrev rpCf : Wk := .fr (fmS 114 [(2, .keep), (4, .keep), (5, .keep), (6, .keep), (7, .keep), (8, .sym)])
abbrev rpX : Cod (List LV) (Unit) := (jk 2 (lSkip (vOne (sPtr 0 0)) (jk 1 (lSkip (vOne (sPtr 1 0)) (jk 2 (lSkip (vOne (sPtr 2 0)) (jk 106 lNil)))))))
abbrev rpXf : Wk := .fr (fmS 114 [(2, .keep), (4, .keep), (7, .keep)])
noncomputable abbrev rpTab : List (FuncId × Ent) := [(150, rroundsE), (151, rrotrE), (149, rschedE)]
theorem rpTab_ok : ∀ p ∈ rpTab, p.2.Ok Tryz.prog p.1 := tabC rrounds_ok (tabC rrotr_ok (tabC rsched_ok tab0))
def rpW : Exit → List Wk
  | .normal => [rpCf, .rowB 4 0 8 .u64, .auto]
  | .exit 0 => [rpXf, .auto, .cellB 1, .cellB 2]
  | _ => []
theorem rp_rnd (t : Int) (s r w k x : List Int) : rndT Tryz.prog rpTab [] rstFn 0 [] rpW ((stC rpC spH).wr ((t, ()), (s, r, w, k, x, ()))) =
  Res.ite (decide (t < (80 : Int))) (Res.need ((0 : Int) < (14 : Int) ∧ (14 : Int) < (64 : Int)) (Res.need ((0 : Int) < (18 : Int) ∧ (18 : Int) < (64 :
  Int)) (Res.need ((0 : Int) < (41 : Int) ∧ (41 : Int) < (64 : Int)) (Res.need ((0 : Int) ≤ t ∧ t < (80 : Int)) (Res.need ((0 : Int) ≤ t ∧ t < (80 :
  Int)) (Res.need ((0 : Int) < (28 : Int) ∧ (28 : Int) < (64 : Int)) (Res.need ((0 : Int) < (34 : Int) ∧ (34 : Int) < (64 : Int)) (Res.need ((0 : Int) <
  (39 : Int) ∧ (39 : Int) < (64 : Int)) (Res.leaf Exit.normal ((stC rpC spH).wr ((IntKind.i64.wrap (t + (1 : Int)), PUnit.unit), s, r, w, k,
  [IntKind.u64.wrap (IntKind.u64.wrap (IntKind.u64.wrap (IntKind.u64.wrap (IntKind.u64.wrap (x.getD (7 : Nat) (0 : Int) + bitXor IntKind.u64 (bitXor
  IntKind.u64 (rotr (x.getD (4 : Nat) (0 : Int)) (14 : Int)) (rotr (x.getD (4 : Nat) (0 : Int)) (18 : Int))) (rotr (x.getD (4 : Nat) (0 : Int)) (41 :
  Int))) + bitXor IntKind.u64 (bitAnd IntKind.u64 (x.getD (4 : Nat) (0 : Int)) (x.getD (5 : Nat) (0 : Int))) (bitAnd IntKind.u64 (bitXor IntKind.u64
  (18446744073709551615 : Int) (x.getD (4 : Nat) (0 : Int))) (x.getD (6 : Nat) (0 : Int)))) + (List.take (80 : Nat) (List.drop (0 : Nat) k)).getD t.toNat
  (0 : Int)) + (List.take (80 : Nat) (List.drop (0 : Nat) w)).getD t.toNat (0 : Int)) + IntKind.u64.wrap (bitXor IntKind.u64 (bitXor IntKind.u64 (rotr
  (x.getD (0 : Nat) (0 : Int)) (28 : Int)) (rotr (x.getD (0 : Nat) (0 : Int)) (34 : Int))) (rotr (x.getD (0 : Nat) (0 : Int)) (39 : Int)) + bitOr
  IntKind.u64 (bitOr IntKind.u64 (bitAnd IntKind.u64 (x.getD (0 : Nat) (0 : Int)) (x.getD (1 : Nat) (0 : Int))) (bitAnd IntKind.u64 (x.getD (0 : Nat) (0
  : Int)) (x.getD (2 : Nat) (0 : Int)))) (bitAnd IntKind.u64 (x.getD (1 : Nat) (0 : Int)) (x.getD (2 : Nat) (0 : Int))))), x.getD (0 : Nat) (0 : Int),
  x.getD (1 : Nat) (0 : Int), x.getD (2 : Nat) (0 : Int), IntKind.u64.wrap (x.getD (3 : Nat) (0 : Int) + IntKind.u64.wrap (IntKind.u64.wrap
  (IntKind.u64.wrap (IntKind.u64.wrap (x.getD (7 : Nat) (0 : Int) + bitXor IntKind.u64 (bitXor IntKind.u64 (rotr (x.getD (4 : Nat) (0 : Int)) (14 : Int))
  (rotr (x.getD (4 : Nat) (0 : Int)) (18 : Int))) (rotr (x.getD (4 : Nat) (0 : Int)) (41 : Int))) + bitXor IntKind.u64 (bitAnd IntKind.u64 (x.getD (4 :
  Nat) (0 : Int)) (x.getD (5 : Nat) (0 : Int))) (bitAnd IntKind.u64 (bitXor IntKind.u64 (18446744073709551615 : Int) (x.getD (4 : Nat) (0 : Int)))
  (x.getD (6 : Nat) (0 : Int)))) + (List.take (80 : Nat) (List.drop (0 : Nat) k)).getD t.toNat (0 : Int)) + (List.take (80 : Nat) (List.drop (0 : Nat)
  w)).getD t.toNat (0 : Int))), x.getD (4 : Nat) (0 : Int), x.getD (5 : Nat) (0 : Int), x.getD (6 : Nat) (0 : Int)], PUnit.unit))))))))))) (Res.leaf
  (Exit.exit (0 : Nat)) ((stC rpX spHX).wr (PUnit.unit, s, [r.getD (nat_lit 0) (0 : Int), r.getD (nat_lit 1) (0 : Int), r.getD (nat_lit 2) (0 : Int),
  r.getD (nat_lit 3) (0 : Int), r.getD (nat_lit 4) (0 : Int), r.getD (nat_lit 5) (0 : Int), r.getD (nat_lit 6) (0 : Int), r.getD (nat_lit 7) (0 : Int)],
  [x.getD (nat_lit 0) (0 : Int), x.getD (nat_lit 1) (0 : Int), x.getD (nat_lit 2) (0 : Int), x.getD (nat_lit 3) (0 : Int), x.getD (nat_lit 4) (0 : Int),
  x.getD (nat_lit 5) (0 : Int), x.getD (nat_lit 6) (0 : Int), x.getD (nat_lit 7) (0 : Int)], PUnit.unit))) := by kernel_rfl
noncomputable def rpF (x : (Int × Unit) × List Int × List Int × List Int × List Int × List Int × Unit) : Res :=
  .need (x.1.1 = 0 ∧ x.2.2.2.2.1 = roundsK ∧ x.2.2.2.1.length = 80 ∧ x.2.2.2.2.2.1.length = 8) (.leaf (.exit 0) ((stC rpX spHX).wr ((), (x.2.1, x.2.2.1, allF x.2.2.2.1 x.2.2.2.2.2.1, ()))))
theorem rp_loop (x) : Ex Tryz.prog [] (.loop (loopAt rstFn 0)) ((stC rpC spH).wr x) (rpF x) := by
  obtain ⟨⟨i, _⟩, s, r, w, k, x, _⟩ := x
  refine Ex.need fun ⟨h1, h2, h3, h4⟩ => ?_
  simp only at h1 h2 h3 h4
  subst h1 h2
  refine loopUp (ws := rpW) (hp := []) mixed rpTab_ok (LOk.nil _) 80 (fun j x => (stC rpC spH).wr (((j : Int), ()), (s, r, w, roundsK, x, ()))) (fun x => (stC rpX spHX).wr ((), (s, r, x, ()))) (rndF w) (fun _ x => x.length = 8)
    (fun j x R hk hm hn hx => ?_) (fun k m _ hm => rfl) 0 x (by omega) h4
  rw [rp_rnd]
  refine ⟨fun hb => ?_, fun hb => ?_⟩
  · have hlt : j < 80 := by have := of_decide_eq_true hb; omega
    rw [take_all h3, take_all (l := roundsK) (n := 80) rfl, wrap_succ j (by omega), maj_or]
    simp only [Int.toNat_natCast]
    exact ⟨by decide, by decide, by decide, by omega, by omega, by decide, by decide, by decide, hn hlt⟩
  · have : j = 80 := by have := of_decide_eq_false hb; omega
    exact hx this
noncomputable abbrev rpLT : LTab := [(0, loopF (stC rpC spH) 0 [rpCf, .auto, .rowB 1 0 8 .u64, .rowB 4 0 8 .u64] rpF)]
noncomputable def rstepE : Ent := Ent.ofS [] (stA) (lNil) fun x_ y_ => (fun (s m : List Int) => .leaf (some (s.length = 8 ∧ m.length = 16)) (nRow .u64 8 (stepF s m)) []) x_.1 x_.2.1
theorem rstep_tree (s m : List Int) : fnT Tryz.prog rpTab rpLT Tryz.f127 ((stA).wr (s, m, ())) ((lNil).wr ()) [.fr [.sym], .rowF 0 0 8 .u64, .auto] =
  End.need (m.length = (16 : Nat)) (End.need ((0 : Int) = (0 : Int) ∧ roundsK = roundsK ∧ (schedF m).length = (80 : Nat) ∧ s.length = (8 : Nat))
  (End.leaf (LV.one (VV.agg [SV.arr (Ty.int IntKind.u64) (8 : Nat) [IntKind.u64.wrap ((allF (schedF m) s).getD (nat_lit 0) (0 : Int) + s.getD (0 : Nat)
  (0 : Int)), IntKind.u64.wrap ((allF (schedF m) s).getD (nat_lit 1) (0 : Int) + s.getD (1 : Nat) (0 : Int)), IntKind.u64.wrap ((allF (schedF m) s).getD
  (nat_lit 2) (0 : Int) + s.getD (2 : Nat) (0 : Int)), IntKind.u64.wrap ((allF (schedF m) s).getD (nat_lit 3) (0 : Int) + s.getD (3 : Nat) (0 : Int)),
  IntKind.u64.wrap ((allF (schedF m) s).getD (nat_lit 4) (0 : Int) + s.getD (4 : Nat) (0 : Int)), IntKind.u64.wrap ((allF (schedF m) s).getD (nat_lit 5)
  (0 : Int) + s.getD (5 : Nat) (0 : Int)), IntKind.u64.wrap ((allF (schedF m) s).getD (nat_lit 6) (0 : Int) + s.getD (6 : Nat) (0 : Int)),
  IntKind.u64.wrap ((allF (schedF m) s).getD (nat_lit 7) (0 : Int) + s.getD (7 : Nat) (0 : Int))]])) [])) := by kernel_rfl
theorem rstep_ok : rstepE.Ok Tryz.prog 127 := by
  refine (Ent.ofOk Tryz.call127 fun x_ y_ Q H_ => ?_).sym
  obtain ⟨s, m, _⟩ := x_
  obtain ⟨hn, hq⟩ := H_
  have hn : s.length = 8 ∧ m.length = 16 := hn
  refine (fnT_ok mixed rpTab_ok Tryz.func127 rfl (LT := rpLT) (ks := [.fr [.sym], .rowF 0 0 8 .u64, .auto]) (LOk.ofTab (LTC rfl (loopF_ok (hp := []) rp_loop) LT0))).use (D := []) ?_ hq
  show (fnT _ _ _ _ ((stA).wr (s, m, ())) ((lNil).wr ()) _).sat _
  rw [rstep_tree]
  exact ⟨hn.2, ⟨rfl, rfl, sched_length hn.2, hn.1⟩, rfl, rfl⟩
end Go.Proofs.YthdfifcgobfgdaaGreat
end

section
set_option linter.unusedVariables false
set_option linter.unusedSimpArgs false
namespace Go.Proofs.YthdfifcgobfgdaaGreat
open Go Go.Ev
set_option maxRecDepth 100000
structure HH where
  begun : Bool
  s : List Int
  n : Int
  wait : List Int
abbrev cHH : Cod (List SV) HH := (lCons sBool (lCons (sArr (.int .u64) 8) (lCons (sInt .i64) (lCons (sArr u8 128) lNil)))).iso (fun x => ⟨x.1, x.2.1, x.2.2.1, x.2.2.2.1⟩) (fun h => (h.begun, h.s, h.n, h.wait, ())) (fun _ => rfl)
abbrev hI (h : HH) : Ev.Item := .blk (cHH.wr h) 141
abbrev hpS : Cod Hp (HH × Unit) := lCons (iBlk 141 cHH) lNil
abbrev hV (h : HH) : LV := .one (.agg (cHH.wr h))
abbrev symH : Wk := .blk 0 [.sym, .keep, .sym, .keep]
def newH : HH := ⟨true, beginK, 0, List.replicate 128 0⟩
noncomputable def new8E : Ent := Ent.ofS [] (lNil) (lNil) fun x_ y_ => .leaf none (.one (.sc (.ptr 0 0))) [(0, hI newH)]
theorem new8_tree  : fnT Tryz.prog [(113, beginE)] [] Tryz.f60 ((lNil).wr ()) ((lNil).wr ()) [.rowB 0 1 8 .u64, symH, .auto] =
  End.leaf (LV.one (VV.sc (SV.ptr (0 : Nat) (0 : Nat)))) [some (Item.blk [SV.bool (SB.sym true), SV.arr (Ty.int IntKind.u64) (8 : Nat) beginK, SV.int
  IntKind.i64 (SI.sym (0 : Int)), SV.arr (Ty.int IntKind.u8) (128 : Nat) (List.replicate (128 : Nat) (0 : Int))] (141 : Nat))] := by kernel_rfl
theorem new8_ok : new8E.Ok Tryz.prog 60 := by
  refine (Ent.ofOk Tryz.call60 fun x_ y_ Q H_ => ?_).sym
  have hq := H_.2
  refine (fnT_ok mixed ((tabC begin_ok tab0)) Tryz.func60 rfl (LT := []) (ks := [.rowB 0 1 8 .u64, symH, .auto]) (LOk.nil _)).use (D := [(0, hI newH)]) ?_ hq
  show (fnT _ _ _ _ ((lNil).wr ()) ((lNil).wr ()) _).sat _
  rw [new8_tree]
  exact ⟨rfl, rfl⟩
noncomputable def ownE : Ent := Ent.ofS [] ((lSkip p0 lNil)) (hpS) fun x_ y_ => (fun (h : HH) => .leaf (some (h.begun = true)) (hV h) [])  y_.1
theorem own_tree (h : HH) : fnT Tryz.prog [] [] Tryz.f114 (((lSkip p0 lNil)).wr ()) ((hpS).wr (h, ())) [.auto] =
  End.ite (!h.begun) End.fail (End.leaf (LV.one (VV.agg [SV.bool (SB.sym h.begun), SV.arr (Ty.int IntKind.u64) (8 : Nat) h.s, SV.int IntKind.i64 (SI.sym
  h.n), SV.arr (Ty.int IntKind.u8) (128 : Nat) h.wait])) [some (Item.blk [SV.bool (SB.sym h.begun), SV.arr (Ty.int IntKind.u64) (8 : Nat) h.s, SV.int
  IntKind.i64 (SI.sym h.n), SV.arr (Ty.int IntKind.u8) (128 : Nat) h.wait] (141 : Nat))]) := by kernel_rfl
theorem own_ok : ownE.Ok Tryz.prog 114 := by
  refine (Ent.ofOk Tryz.call114 fun x_ y_ Q H_ => ?_).sym
  obtain ⟨h, _⟩ := y_
  obtain ⟨hn, hq⟩ := H_
  have hn : h.begun = true := hn
  refine (fnT_ok mixed tab0 Tryz.func114 rfl (LT := []) (ks := [.auto]) (LOk.nil _)).use (D := []) ?_ hq
  show (fnT _ _ _ _ (((lSkip p0 lNil)).wr ()) ((hpS).wr (h, ())) _).sat _
  rw [own_tree]
  exact ⟨fun e => (by rw [hn] at e; cases e), fun _ => ⟨rfl, rfl⟩⟩
/-- a byte more -/
def hByte (h : HH) (c : Int) : HH := if (h.n + 1) % 128 = 0 then ⟨h.begun, stepF h.s (wordsF (h.wait.set (h.n % 128).toNat c)), h.n + 1, h.wait.set (h.n % 128).toNat c⟩ else ⟨h.begun, h.s, h.n + 1, h.wait.set (h.n % 128).toNat c⟩
def hPut (h : HH) (b : List Int) : HH := b.foldl hByte h
structure HOk (h : HH) : Prop where
  begun : h.begun = true
  n : 0 ≤ h.n
  s : h.s.length = 8
  wait : h.wait.length = 128
theorem hByte_n (h : HH) (c : Int) : (hByte h c).n = h.n + 1 := by unfold hByte; split <;> rfl
theorem hByte_ok {h : HH} (hh : HOk h) (c : Int) : HOk (hByte h c) := by
  obtain ⟨h1, h2, h3, h4⟩ := hh
  unfold hByte
  split
  · exact ⟨h1, by simp only; omega, step_length _ _, by simp [h4]⟩
  · exact ⟨h1, by simp only; omega, h3, by simp [h4]⟩
theorem hPut_n : ∀ (b : List Int) (h : HH), (hPut h b).n = h.n + b.length
  | [], h => by simp [hPut]
  | c :: b, h => by
    show (hPut (hByte h c) b).n = _
    rw [hPut_n b, hByte_n, List.length_cons]; omega
theorem hPut_ok : ∀ (b : List Int) {h : HH}, HOk h → HOk (hPut h b)
  | [], _, hh => hh
  | c :: b, _, hh => hPut_ok b (hByte_ok hh c)
theorem hPut_append (h : HH) (a b : List Int) : hPut h (a ++ b) = hPut (hPut h a) b := by simp [hPut]
theorem upto_foldl {σ : Type} (g : σ → Int → σ) (b : List Int) : ∀ (m k : Nat) (s : σ), k + m = b.length → upto (fun k s => g s (b.getD k 0)) k m s = (b.drop k).foldl g s
  | 0, k, s, h => by rw [List.drop_eq_nil_of_le (by omega)]; rfl
  | m + 1, k, s, h => by
    rw [drop_getD (show k < b.length by omega)]
    exact upto_foldl g b m (k + 1) _ (by omega)
noncomputable abbrev puFn : Func := Tryz.f115
abbrev puC : Cod (List LV) (List Int × Int × Int × Unit) := (lSkip (vOne (sPtr 0 0)) (jk 7 (lCons (vOne (sRd false false u8)) (lCons (vOne (sInt .i64)) (lCons (vOne (sInt .i64)) (jk 44 lNil))))))
abbrev puCf : Wk := .fr (fmS 55 [(0, .keep), (8, .keep), (9, .sym), (10, .sym)])
abbrev puX : Cod (List LV) (Unit) := (jk 55 lNil)
abbrev puXf : Wk := .fr (fmS 55 [])
noncomputable abbrev puTab : List (FuncId × Ent) := [(143, wordsE), (144, stepE)]
def puW : Exit → List Wk
  | .normal => [puCf, symH, .auto]
  | .exit 0 => [puXf, symH, .auto]
  | _ => []
theorem pu_rnd (h0 h : HH) (b : List Int) (n i : Int) : rndT Tryz.prog puTab [] puFn 0 (hpS.wr (h0, ())) puW ((stC puC hpS).wr ((b, n, i, ()), (h, ()))) =
  Res.ite (decide (i < n)) (Res.need ((0 : Int) ≤ i ∧ i < (↑b.length : Int)) (Res.need ((0 : Int) ≤ h.n.tmod (128 : Int) ∧ h.n.tmod (128 : Int) < (128 :
  Int)) (Res.ite ((IntKind.i64.wrap (h.n + (1 : Int))).tmod (128 : Int) == (0 : Int)) (Res.need ((0 : Int) ≤ (0 : Int) ∧ (0 : Int) ≤ (128 : Int) ∧ (128 :
  Int) ≤ (128 : Int)) (Res.need ((List.take (128 : Nat) (List.drop (0 : Nat) (h.wait.set ((0 : Nat) + (h.n.tmod (128 : Int)).toNat) (b.getD i.toNat (0 :
  Int))))).length = (128 : Nat)) (Res.need (h.s.length = (8 : Nat) ∧ (16 : Nat) = (16 : Nat)) (Res.leaf Exit.normal ((stC puC hpS).wr ((b, n,
  IntKind.i64.wrap (i + (1 : Int)), PUnit.unit), { begun := h.begun, s := stepF h.s (wordsF (List.take (128 : Nat) (List.drop (0 : Nat) (h.wait.set ((0 : Nat) + (h.n.tmod (128 : Int)).toNat) (b.getD i.toNat (0 : Int)))))), n := IntKind.i64.wrap (h.n + (1 : Int)), wait := h.wait.set ((0 : Nat) + (h.n.tmod (128 : Int)).toNat) (b.getD i.toNat (0 : Int)) },
  PUnit.unit)))))) (Res.leaf Exit.normal ((stC puC hpS).wr ((b, n, IntKind.i64.wrap (i + (1 : Int)), PUnit.unit), { begun := h.begun, s := h.s, n := IntKind.i64.wrap (h.n + (1 : Int)), wait := h.wait.set ((0 : Nat) + (h.n.tmod (128 : Int)).toNat) (b.getD i.toNat (0 : Int)) },
  PUnit.unit)))))) (Res.leaf (Exit.exit (0 : Nat)) ((stC puX hpS).wr (PUnit.unit, h, PUnit.unit))) := by kernel_rfl
theorem puTab_ok : ∀ p ∈ puTab, p.2.Ok Tryz.prog p.1 := tabC words_ok (tabC step_ok tab0)
noncomputable def puF (x : (List Int × Int × Int × Unit) × HH × Unit) : Res :=
  .need (HOk x.2.1 ∧ x.1.2.1 = x.1.1.length ∧ x.1.2.2.1 = 0 ∧ x.2.1.n + x.1.1.length < 2305843009213693952) (.leaf (.exit 0) ((stC puX hpS).wr ((), (hPut x.2.1 x.1.1, ()))))
theorem pu_loop (h0 : HH) (x) : Ex Tryz.prog (hpS.wr (h0, ())) (.loop (loopAt puFn 0)) ((stC puC hpS).wr x) (puF x) := by
  obtain ⟨⟨b, n, i, _⟩, h, _⟩ := x
  refine Ex.need fun ⟨h1, h2, h3, h4⟩ => ?_
  simp only at h1 h2 h3 h4
  subst h2 h3
  have hb62 : (b.length : Int) < 2305843009213693952 := by have := h1.n; omega
  have key := loopUp (fn := puFn) (id := 0) (j := 0) (ws := puW) (hp := hpS.wr (h0, ())) mixed puTab_ok (LOk.nil _) b.length (fun k h => (stC puC hpS).wr ((b, (b.length : Int), (k : Int), ()), (h, ()))) (fun h => (stC puX hpS).wr ((), (h, ()))) (fun k h => hByte h (b.getD k 0)) (fun k h => HOk h ∧ h.n + (b.length - k : Nat) < 2305843009213693952)
    (fun k h R hk hm hn hx => ?_) (fun k h _ hh => ⟨hByte_ok hh.1 _, by rw [hByte_n]; have := hh.2; omega⟩) 0 h (by omega) ⟨h1, by simpa using h4⟩
  · rw [Nat.sub_zero, upto_foldl hByte b _ _ _ (by omega)] at key; exact key
  obtain ⟨hh, hlt⟩ := hm
  obtain ⟨g1, g2, g3, g4⟩ := hh
  rw [pu_rnd]
  refine ⟨fun hb => ?_, fun hb => ?_⟩
  · have hk' : k < b.length := by have := of_decide_eq_true hb; omega
    have e1 : IntKind.i64.wrap (h.n + 1) = h.n + 1 := wrap_ok (by omega) (by omega)
    have e2 : h.n.tmod 128 = h.n % 128 := Int.tmod_eq_emod_of_nonneg g2
    have e3 : (h.n + 1).tmod 128 = (h.n + 1) % 128 := Int.tmod_eq_emod_of_nonneg (by omega)
    have e4 : ∀ c, List.take 128 (List.drop 0 (h.wait.set (h.n % 128).toNat c)) = h.wait.set (h.n % 128).toNat c := fun c => take_all (by simp [g4])
    rw [e1, e2, e3, wrap_succ k (by omega)]
    simp only [Int.toNat_natCast, Nat.zero_add]
    rw [e4]
    have hn' := hn hk'
    refine ⟨⟨by omega, by omega⟩, by omega, fun hz => ?_, fun hz => ?_⟩
    · have hz' : (h.n + 1) % 128 = 0 := by simpa using hz
      rw [hByte, if_pos hz'] at hn'
      exact ⟨by omega, by simp [g4], ⟨g3, trivial⟩, hn'⟩
    · have hz' : ¬ (h.n + 1) % 128 = 0 := by simpa using hz
      rw [hByte, if_neg hz'] at hn'
      exact hn'
  · have : k = b.length := by have := of_decide_eq_false hb; omega
    exact hx this
noncomputable abbrev puLT : LTab := [(0, loopF (stC puC hpS) 1 [puCf, symH, .auto] puF)]
abbrev hbA : Cod (List LV) (List Int × Unit) := lSkip p0 (lCons (vOne (sRd false false u8)) lNil)
noncomputable def hputE : Ent := Ent.ofS [none, some u8] (hbA) (hpS) fun x_ y_ => (fun (b : List Int) (h : HH) => .leaf (some (HOk h ∧ h.n + b.length < 2305843009213693952)) (.tup []) [(0, hI (hPut h b))]) x_.1 y_.1
theorem hput_tree (b : List Int) (h : HH) : fnT Tryz.prog puTab puLT Tryz.f115 ((hbA).wr (b, ())) ((hpS).wr (h, ())) [symH, .auto] =
  End.need (HOk h ∧ (↑b.length : Int) = (↑b.length : Int) ∧ (0 : Int) = (0 : Int) ∧ h.n + (↑b.length : Int) < (2305843009213693952 : Int)) (End.leaf
  (LV.tup []) [some (Item.blk [SV.bool (SB.sym (hPut h b).begun), SV.arr (Ty.int IntKind.u64) (8 : Nat) (hPut h b).s, SV.int IntKind.i64 (SI.sym (hPut h
  b).n), SV.arr (Ty.int IntKind.u8) (128 : Nat) (hPut h b).wait] (141 : Nat))]) := by kernel_rfl
theorem hput_ok : hputE.Ok Tryz.prog 115 := by
  refine (Ent.ofOk Tryz.call115 fun x_ y_ Q H_ => ?_).sym
  obtain ⟨b, _⟩ := x_
  obtain ⟨h, _⟩ := y_
  obtain ⟨hn, hq⟩ := H_
  have hn : HOk h ∧ h.n + b.length < 2305843009213693952 := hn
  refine (fnT_ok mixed puTab_ok Tryz.func115 rfl (LT := puLT) (ks := [symH, .auto]) (LOk.ofTab (LTC rfl (loopF_ok (hp := hpS.wr (h, ())) (pu_loop h)) LT0))).use (D := [(0, hI (hPut h b))]) ?_ hq
  show (fnT _ _ _ _ ((hbA).wr (b, ())) ((hpS).wr (h, ())) _).sat _
  rw [hput_tree]
  exact ⟨⟨hn.1, rfl, rfl, hn.2⟩, rfl, rfl⟩
noncomputable def writeE : Ent := Ent.ofS [none, some u8] (hbA) (hpS) fun x_ y_ => (fun (b : List Int) (h : HH) => .leaf (some (HOk h ∧ h.n + b.length < 2305843009213693952)) (.tup []) [(0, hI (hPut h b))]) x_.1 y_.1
theorem write_tree (b : List Int) (h : HH) : fnT Tryz.prog [(114, ownE), (115, hputE)] [] Tryz.f61 ((hbA).wr (b, ())) ((hpS).wr (h, ())) [symH, .auto] =
  End.need (h.begun = true) (End.need (HOk h ∧ h.n + (↑b.length : Int) < (2305843009213693952 : Int)) (End.leaf (LV.tup []) [some (Item.blk [SV.bool
  (SB.sym (hPut h b).begun), SV.arr (Ty.int IntKind.u64) (8 : Nat) (hPut h b).s, SV.int IntKind.i64 (SI.sym (hPut h b).n), SV.arr (Ty.int IntKind.u8)
  (128 : Nat) (hPut h b).wait] (141 : Nat))])) := by kernel_rfl
theorem write_ok : writeE.Ok Tryz.prog 61 := by
  refine (Ent.ofOk Tryz.call61 fun x_ y_ Q H_ => ?_).sym
  obtain ⟨b, _⟩ := x_
  obtain ⟨h, _⟩ := y_
  obtain ⟨hn, hq⟩ := H_
  have hn : HOk h ∧ h.n + b.length < 2305843009213693952 := hn
  refine (fnT_ok mixed ((tabC own_ok (tabC hput_ok tab0))) Tryz.func61 rfl (LT := []) (ks := [symH, .auto]) (LOk.nil _)).use (D := [(0, hI (hPut h b))]) ?_ hq
  show (fnT _ _ _ _ ((hbA).wr (b, ())) ((hpS).wr (h, ())) _).sat _
  rw [write_tree]
  exact ⟨hn.1.begun, hn, rfl, rfl⟩
def eightF (x : Int) : List Int := (List.range 8).map fun i => IntKind.u8.wrap (shr .u64 x ((56 - 8 * i : Nat) : Int))
noncomputable def eightE : Ent := Ent.ofS [] ((lCons (vOne (sInt .u64)) lNil)) (lNil) fun x_ y_ => (fun (x : Int) => .leaf none (.one (.sc (.sl 0 0))) [(0, .own 0 u8 (eightF x))]) x_.1
theorem eight_tree (x : Int) : fnT Tryz.prog [] [] Tryz.f116 (((lCons (vOne (sInt .u64)) lNil)).wr (x, ())) ((lNil).wr ()) [.auto, .vers] =
  End.need ((1 : Nat) ≤ (70368744177664 : Nat) ∧ (1 : Nat) ≤ (70368744177664 : Nat)) (End.need ((2 : Nat) ≤ (70368744177664 : Nat) ∧ (2 : Nat) ≤
  (70368744177664 : Nat)) (End.need ((3 : Nat) ≤ (70368744177664 : Nat) ∧ (3 : Nat) ≤ (70368744177664 : Nat)) (End.need ((4 : Nat) ≤ (70368744177664 :
  Nat) ∧ (4 : Nat) ≤ (70368744177664 : Nat)) (End.need ((5 : Nat) ≤ (70368744177664 : Nat) ∧ (5 : Nat) ≤ (70368744177664 : Nat)) (End.need ((6 : Nat) ≤
  (70368744177664 : Nat) ∧ (6 : Nat) ≤ (70368744177664 : Nat)) (End.need ((7 : Nat) ≤ (70368744177664 : Nat) ∧ (7 : Nat) ≤ (70368744177664 : Nat))
  (End.need ((8 : Nat) ≤ (70368744177664 : Nat) ∧ (8 : Nat) ≤ (70368744177664 : Nat)) (End.leaf (LV.one (VV.sc (SV.sl (0 : Nat) (0 : Nat)))) [some
  (Item.own (0 : Nat) (Ty.int IntKind.u8) ([IntKind.u8.wrap (shr IntKind.u64 x (56 : Int))] ++ [IntKind.u8.wrap (shr IntKind.u64 x (48 : Int))] ++
  [IntKind.u8.wrap (shr IntKind.u64 x (40 : Int))] ++ [IntKind.u8.wrap (shr IntKind.u64 x (32 : Int))] ++ [IntKind.u8.wrap (shr IntKind.u64 x (24 :
  Int))] ++ [IntKind.u8.wrap (shr IntKind.u64 x (16 : Int))] ++ [IntKind.u8.wrap (shr IntKind.u64 x (8 : Int))] ++ [IntKind.u8.wrap (shr IntKind.u64 x (0
  : Int))]))])))))))) := by kernel_rfl
theorem eight_ok : eightE.Ok Tryz.prog 116 := by
  refine (Ent.ofOk Tryz.call116 fun x_ y_ Q H_ => ?_).sym
  obtain ⟨x, _⟩ := x_
  have hq := H_.2
  refine (fnT_ok mixed tab0 Tryz.func116 rfl (LT := []) (ks := [.auto, .vers]) (LOk.nil _)).use (D := [(0, .own 0 u8 (eightF x))]) ?_ hq
  show (fnT _ _ _ _ (((lCons (vOne (sInt .u64)) lNil)).wr (x, ())) ((lNil).wr ()) _).sat _
  rw [eight_tree]
  exact ⟨by omega, by omega, by omega, by omega, by omega, by omega, by omega, by omega, rfl, rfl⟩
def numbersF (s : List Int) : List Int := (List.range 8).foldl (fun a i => a ++ eightF (s.getD i 0)) []
noncomputable def numbersE : Ent := Ent.ofS [] ((lSkip p0 lNil)) (hpS) fun x_ y_ => (fun (h : HH) => .leaf none (.one (.sc (.sl 1 0))) [(1, .own 0 u8 (numbersF h.s))])  y_.1
theorem numbers_tree (h : HH) : fnT Tryz.prog [(116, eightE)] [] Tryz.f117 (((lSkip p0 lNil)).wr ()) ((hpS).wr (h, ())) [.auto, .vers] =
  End.need ((8 : Nat) ≤ (70368744177664 : Nat) ∧ (8 : Nat) ≤ (70368744177664 : Nat)) (End.need ((16 : Nat) ≤ (70368744177664 : Nat) ∧ (16 : Nat) ≤
  (70368744177664 : Nat)) (End.need ((24 : Nat) ≤ (70368744177664 : Nat) ∧ (24 : Nat) ≤ (70368744177664 : Nat)) (End.need ((32 : Nat) ≤ (70368744177664 :
  Nat) ∧ (32 : Nat) ≤ (70368744177664 : Nat)) (End.need ((40 : Nat) ≤ (70368744177664 : Nat) ∧ (40 : Nat) ≤ (70368744177664 : Nat)) (End.need ((48 : Nat)
  ≤ (70368744177664 : Nat) ∧ (48 : Nat) ≤ (70368744177664 : Nat)) (End.need ((56 : Nat) ≤ (70368744177664 : Nat) ∧ (56 : Nat) ≤ (70368744177664 : Nat))
  (End.need ((64 : Nat) ≤ (70368744177664 : Nat) ∧ (64 : Nat) ≤ (70368744177664 : Nat)) (End.leaf (LV.one (VV.sc (SV.sl (1 : Nat) (0 : Nat)))) [some
  (Item.blk [SV.bool (SB.sym h.begun), SV.arr (Ty.int IntKind.u64) (8 : Nat) h.s, SV.int IntKind.i64 (SI.sym h.n), SV.arr (Ty.int IntKind.u8) (128 : Nat)
  h.wait] (141 : Nat)), some (Item.own (0 : Nat) (Ty.int IntKind.u8) (eightF (h.s.getD (0 : Nat) (0 : Int)) ++ eightF (h.s.getD (1 : Nat) (0 : Int)) ++
  eightF (h.s.getD (2 : Nat) (0 : Int)) ++ eightF (h.s.getD (3 : Nat) (0 : Int)) ++ eightF (h.s.getD (4 : Nat) (0 : Int)) ++ eightF (h.s.getD (5 : Nat)
  (0 : Int)) ++ eightF (h.s.getD (6 : Nat) (0 : Int)) ++ eightF (h.s.getD (7 : Nat) (0 : Int))))])))))))) := by kernel_rfl
theorem numbers_ok : numbersE.Ok Tryz.prog 117 := by
  refine (Ent.ofOk Tryz.call117 fun x_ y_ Q H_ => ?_).sym
  obtain ⟨h, _⟩ := y_
  have hq := H_.2
  refine (fnT_ok mixed ((tabC eight_ok tab0)) Tryz.func117 rfl (LT := []) (ks := [.auto, .vers]) (LOk.nil _)).use (D := [(1, .own 0 u8 (numbersF h.s))]) ?_ hq
  show (fnT _ _ _ _ (((lSkip p0 lNil)).wr ()) ((hpS).wr (h, ())) _).sat _
  rw [numbers_tree]
  exact ⟨by omega, by omega, by omega, by omega, by omega, by omega, by omega, by omega, rfl, rfl⟩
end Go.Proofs.YthdfifcgobfgdaaGreat
end

section
set_option linter.unusedVariables false
set_option linter.unusedSimpArgs false
namespace Go.Proofs.YthdfifcgobfgdaaGreat
open Go Go.Ev
set_option maxRecDepth 100000
noncomputable abbrev suFn : Func := Tryz.f62
noncomputable abbrev suTab : List (FuncId × Ent) := [(114, ownE), (115, hputE), (116, eightE), (117, numbersE)]
theorem suTab_ok : ∀ p ∈ suTab, p.2.Ok Tryz.prog p.1 := tabC own_ok (tabC hput_ok (tabC eight_ok (tabC numbers_ok tab0)))
abbrev hpS3 : Cod Hp (HH × List Int × HH × Unit) := lCons (iBlk 141 cHH) (lCons (iRow 24 .u8 64) (lCons (iBlk 141 cHH) lNil))
abbrev symH2 : Wk := .blk 2 [.sym, .keep, .sym, .keep]
abbrev suC : Cod (List LV) (Int × Unit) := (jk 2 (lSkip (vOne (sPtr 1 0)) (lSkip (vOne (sPtr 2 0)) (lCons (vOne (sInt .u64)) (jk 24 lNil)))))
abbrev suCf : Wk := .fr (fmS 29 [(2, .keep), (3, .keep), (4, .sym)])
def suW : Exit → List Wk
  | .normal => [suCf, symH2, .auto]
  | .exit 0 => [suCf, symH2, .auto]
  | _ => []
theorem su_rnd (h0 : HH) (g : HH) (r : List Int) (h : HH) (n : Int) : rndT Tryz.prog suTab [] suFn 0 (hpS.wr (h0, ())) suW ((stC suC hpS3).wr ((n, ()), (g, r, h, ()))) =
  Res.ite (h.n.tmod (128 : Int) != (112 : Int)) (Res.need (HOk h ∧ h.n + (1 : Int) < (2305843009213693952 : Int)) (Res.leaf Exit.normal ((stC suC
  hpS3).wr ((n, PUnit.unit), g, r, hPut h [(0 : Int)], PUnit.unit)))) (Res.leaf (Exit.exit (0 : Nat)) ((stC suC hpS3).wr ((n, PUnit.unit), g, r, h,
  PUnit.unit))) := by kernel_rfl
/-- noughts, as many as are lacking -/
def padH (h : HH) : HH := hPut h (List.replicate ((112 - h.n) % 128).toNat 0)
theorem padH_step {h : HH} (hz : ¬ h.n % 128 = 112) : padH (hPut h [0]) = padH h ∧ ((112 - (hPut h [0]).n) % 128).toNat < ((112 - h.n) % 128).toNat := by
  have e1 : (hPut h [0]).n = h.n + 1 := by rw [hPut_n]; rfl
  have e2 : ((112 - h.n) % 128).toNat = ((112 - (hPut h [0]).n) % 128).toNat + 1 := by rw [e1]; omega
  refine ⟨?_, by omega⟩
  unfold padH
  rw [e2, List.replicate_succ]
  rfl
theorem padH_end {h : HH} (hz : h.n % 128 = 112) : padH h = h := by
  have e : ((112 - h.n) % 128).toNat = 0 := by omega
  unfold padH; rw [e]; rfl
noncomputable def suF (x : (Int × Unit) × HH × List Int × HH × Unit) : Res :=
  .need (HOk x.2.2.2.1 ∧ x.2.2.2.1.n + 128 < 2305843009213693952) (.leaf (.exit 0) ((stC suC hpS3).wr (x.1, (x.2.1, x.2.2.1, padH x.2.2.2.1, ()))))
theorem su_loop (h0 : HH) (x) : Ex Tryz.prog (hpS.wr (h0, ())) (.loop (loopAt suFn 0)) ((stC suC hpS3).wr x) (suF x) := by
  obtain ⟨⟨n, _⟩, g, r, h, _⟩ := x
  refine Ex.need fun ⟨h1, h2⟩ => ?_
  simp only at h1 h2
  refine loopR mixed suTab_ok (LT := []) (ws := suW) (hp := hpS.wr (h0, ())) (LOk.nil _) (fun h : HH => ((112 - h.n) % 128).toNat) (fun h : HH => (stC suC hpS3).wr ((n, ()), (g, r, h, ()))) (fun h => HOk h ∧ h.n + (112 - h.n) % 128 < 2305843009213693952)
    (fun h => .leaf (.exit 0) ((stC suC hpS3).wr ((n, ()), (g, r, padH h, ())))) (fun h _ => su_rnd h0 g r h n) (fun h R hh hs => ?_) h ⟨h1, by omega⟩
  obtain ⟨hh, hlt⟩ := hh
  have e : h.n.tmod 128 = h.n % 128 := Int.tmod_eq_emod_of_nonneg hh.n
  rw [e]
  refine ⟨fun hb => ?_, fun hb => ?_⟩
  · have hb' : ¬ h.n % 128 = 112 := by simpa using hb
    obtain ⟨k1, k2⟩ := padH_step hb'
    have e1 : (hPut h [0]).n = h.n + 1 := by rw [hPut_n]; rfl
    refine ⟨⟨hh, by omega⟩, .inl ⟨rfl, hPut h [0], rfl, ⟨hPut_ok _ hh, by rw [e1]; omega⟩, k2, ?_⟩⟩
    show (Res.leaf (.exit 0) ((stC suC hpS3).wr ((n, ()), (g, r, padH (hPut h [0]), ())))).sat R
    rw [k1]; exact hs
  · have hb' : h.n % 128 = 112 := by simpa using hb
    rw [padH_end hb'] at hs
    exact .inr ⟨by simp, hs⟩
noncomputable abbrev suLT : LTab := [(0, loopF (stC suC hpS3) 1 [suCf, symH2, .auto] suF)]
def lastF (h : HH) (n : Int) : HH := hPut (hPut (padH (hPut h [128])) (eightF (shr .u64 n 61))) (eightF (shl .u64 n 3))
def sumF (h : HH) : List Int := numbersF (lastF h (IntKind.u64.wrap h.n)).s
theorem eight_length (x : Int) : (eightF x).length = 8 := rfl
theorem numbers_length (s : List Int) : (numbersF s).length = 64 := rfl
noncomputable def sumE : Ent := Ent.ofS [] ((lSkip p0 lNil)) (hpS) fun x_ y_ => (fun (h : HH) => .leaf (some (HOk h ∧ h.n < 1152921504606846976)) (nRow .u8 64 (sumF h)) [])  y_.1
theorem sum_tree (h : HH) : fnT Tryz.prog suTab suLT Tryz.f62 (((lSkip p0 lNil)).wr ()) ((hpS).wr (h, ())) [.fr [.sym], symH, .auto] =
  End.need (h.begun = true) (End.need (HOk h ∧ h.n + (1 : Int) < (2305843009213693952 : Int)) (End.need (HOk (hPut h [(128 : Int)]) ∧ (hPut h [(128 :
  Int)]).n + (128 : Int) < (2305843009213693952 : Int)) (End.need (HOk (padH (hPut h [(128 : Int)])) ∧ (padH (hPut h [(128 : Int)])).n + (8 : Int) <
  (2305843009213693952 : Int)) (End.need (HOk (hPut (padH (hPut h [(128 : Int)])) (eightF (shr IntKind.u64 (IntKind.u64.wrap h.n) (61 : Int)))) ∧ (hPut
  (padH (hPut h [(128 : Int)])) (eightF (shr IntKind.u64 (IntKind.u64.wrap h.n) (61 : Int)))).n + (8 : Int) < (2305843009213693952 : Int)) (End.need ((64
  : Nat) ≤ (64 : Nat)) (End.need ((64 : Nat) ≤ (64 : Nat)) (End.leaf (LV.one (VV.agg [SV.arr (Ty.int IntKind.u8) (64 : Nat) (List.take (64 : Nat)
  (List.drop (0 : Nat) (numbersF (hPut (hPut (padH (hPut h [(128 : Int)])) (eightF (shr IntKind.u64 (IntKind.u64.wrap h.n) (61 : Int)))) (eightF (shl
  IntKind.u64 (IntKind.u64.wrap h.n) (3 : Int)))).s)))])) [some (Item.blk [SV.bool (SB.sym h.begun), SV.arr (Ty.int IntKind.u64) (8 : Nat) h.s, SV.int
  IntKind.i64 (SI.sym h.n), SV.arr (Ty.int IntKind.u8) (128 : Nat) h.wait] (141 : Nat))]))))))) := by kernel_rfl
theorem sum_ok : sumE.Ok Tryz.prog 62 := by
  refine (Ent.ofOk Tryz.call62 fun x_ y_ Q H_ => ?_).sym
  obtain ⟨h, _⟩ := y_
  obtain ⟨hn, hq⟩ := H_
  have hn : HOk h ∧ h.n < 1152921504606846976 := hn
  refine (fnT_ok mixed suTab_ok Tryz.func62 rfl (LT := suLT) (ks := [.fr [.sym], symH, .auto]) (LOk.ofTab (LTC rfl (loopF_ok (hp := hpS.wr (h, ())) (su_loop h)) LT0))).use (D := []) ?_ hq
  show (fnT _ _ _ _ (((lSkip p0 lNil)).wr ()) ((hpS).wr (h, ())) _).sat _
  rw [sum_tree]
  obtain ⟨g1, g2⟩ := hn
  have g3 := g1.n
  have e1 : (hPut h [128]).n = h.n + 1 := by rw [hPut_n]; rfl
  have k1 : HOk (hPut h [128]) := hPut_ok _ g1
  have k2 : HOk (padH (hPut h [128])) := hPut_ok _ k1
  have e2 : (padH (hPut h [128])).n ≤ h.n + 128 := by unfold padH; rw [hPut_n, e1, List.length_replicate]; omega
  have k3 : HOk (hPut (padH (hPut h [128])) (eightF (shr .u64 (IntKind.u64.wrap h.n) 61))) := hPut_ok _ k2
  have e3 : (hPut (padH (hPut h [128])) (eightF (shr .u64 (IntKind.u64.wrap h.n) 61))).n ≤ h.n + 136 := by rw [hPut_n, eight_length]; omega
  have e4 : ∀ s, List.take 64 (List.drop 0 (numbersF s)) = numbersF s := fun s => take_all (numbers_length s)
  rw [e4]
  exact ⟨g1.begun, ⟨g1, by omega⟩, ⟨k1, by omega⟩, ⟨k2, by omega⟩, ⟨k3, by omega⟩, by omega, by omega, rfl, rfl⟩
noncomputable abbrev ofFn : Func := Tryz.f28
noncomputable abbrev ofTab : List (FuncId × Ent) := [(60, new8E), (61, writeE), (62, sumE)]
abbrev rrA : Cod (List LV) (List (List Int) × Unit) := lCons (vOne (sRd false false (.sl u8))) lNil
abbrev ofC : Cod (List LV) (List (List Int) × Int × Int × Unit) := (jk 2 (lSkip (vOne (sPtr 0 0)) (lSkip (vOne (sPtr 1 0)) (jk 3 (lCons (vOne (sRd false false (.sl u8))) (lCons (vOne (sInt .i64)) (lCons (vOne (sInt .i64)) (jk 9 lNil))))))))
abbrev ofCf : Wk := .fr (fmS 19 [(2, .keep), (3, .keep), (7, .keep), (8, .sym), (9, .sym)])
abbrev ofX : Cod (List LV) (Unit) := (jk 2 (lSkip (vOne (sPtr 0 0)) (lSkip (vOne (sPtr 1 0)) (jk 15 lNil))))
abbrev ofXf : Wk := .fr (fmS 19 [(2, .keep), (3, .keep)])
abbrev hpOf : Cod Hp (List Int × HH × Unit) := lCons (iRow 24 .u8 64) (lCons (iBlk 141 cHH) lNil)
abbrev symH1 : Wk := .blk 1 [.sym, .keep, .sym, .keep]
def ofW : Exit → List Wk
  | .normal => [ofCf, symH1, .auto]
  | .exit 0 => [ofXf, symH1, .auto]
  | _ => []
theorem of_rnd (l : List (List Int)) (n i : Int) (r : List Int) (h : HH) : rndT Tryz.prog ofTab [] ofFn 0 [] ofW ((stC ofC hpOf).wr ((l, n, i, ()), (r, h, ()))) =
  Res.ite (decide (i < n)) (Res.need ((0 : Int) ≤ i ∧ i < (↑l.length : Int)) (Res.need (HOk h ∧ h.n + (↑(List.length (l.getD i.toNat [])) : Int) <
  (2305843009213693952 : Int)) (Res.leaf Exit.normal ((stC ofC hpOf).wr ((l, n, IntKind.i64.wrap (i + (1 : Int)), PUnit.unit), r, hPut h (l.getD i.toNat
  []), PUnit.unit))))) (Res.leaf (Exit.exit (0 : Nat)) ((stC ofX hpOf).wr (PUnit.unit, r, h, PUnit.unit))) := by kernel_rfl
theorem ofTab_ok : ∀ p ∈ ofTab, p.2.Ok Tryz.prog p.1 := tabC new8_ok (tabC write_ok (tabC sum_ok tab0))
theorem upto_rows {σ : Type} (g : σ → List Int → σ) (b : List (List Int)) : ∀ (m k : Nat) (s : σ), k + m = b.length → upto (fun k s => g s (b.getD k [])) k m s = (b.drop k).foldl g s
  | 0, k, s, h => by rw [List.drop_eq_nil_of_le (by omega)]; rfl
  | m + 1, k, s, h => by
    have e : b.drop k = b.getD k [] :: b.drop (k + 1) := by
      rw [List.drop_eq_getElem_cons (by omega : k < b.length), List.getD_eq_getElem?_getD, List.getElem?_eq_getElem (by omega : k < b.length)]; rfl
    rw [e]
    exact upto_rows g b m (k + 1) _ (by omega)
theorem hPut_rows : ∀ (l : List (List Int)) (h : HH), l.foldl hPut h = hPut h l.flatten
  | [], h => rfl
  | b :: l, h => by rw [List.foldl_cons, hPut_rows l, List.flatten_cons, hPut_append]
noncomputable def ofLF (x : (List (List Int) × Int × Int × Unit) × List Int × HH × Unit) : Res :=
  .need (HOk x.2.2.1 ∧ x.1.2.1 = x.1.1.length ∧ x.1.2.2.1 = 0 ∧ x.1.1.length < 2305843009213693952 ∧ x.2.2.1.n + x.1.1.flatten.length < 2305843009213693952) (.leaf (.exit 0) ((stC ofX hpOf).wr ((), (x.2.1, hPut x.2.2.1 x.1.1.flatten, ()))))
theorem of_loop (x) : Ex Tryz.prog [] (.loop (loopAt ofFn 0)) ((stC ofC hpOf).wr x) (ofLF x) := by
  obtain ⟨⟨l, n, i, _⟩, r, h, _⟩ := x
  refine Ex.need fun ⟨h1, h2, h3, h4, h5⟩ => ?_
  simp only at h1 h2 h3 h4 h5
  subst h2 h3
  have key := loopUp (fn := ofFn) (id := 0) (j := 0) (ws := ofW) (hp := []) mixed ofTab_ok (LOk.nil _) l.length (fun k h => (stC ofC hpOf).wr ((l, (l.length : Int), (k : Int), ()), (r, h, ()))) (fun h => (stC ofX hpOf).wr ((), (r, h, ()))) (fun k h => hPut h (l.getD k [])) (fun k h => HOk h ∧ h.n + (l.drop k).flatten.length < 2305843009213693952)
    (fun k h R hk hm hn hx => ?_) (fun k h hk hh => ⟨hPut_ok _ hh.1, ?_⟩) 0 h (by omega) ⟨h1, h5⟩
  · rw [Nat.sub_zero, upto_rows hPut l _ _ _ (by omega), hPut_rows] at key; exact key
  · obtain ⟨hh, hlt⟩ := hm
    rw [of_rnd]
    refine ⟨fun hb => ?_, fun hb => ?_⟩
    · have hk' : k < l.length := by have := of_decide_eq_true hb; omega
      have e : l.drop k = l.getD k [] :: l.drop (k + 1) := by
        rw [List.drop_eq_getElem_cons hk', List.getD_eq_getElem?_getD, List.getElem?_eq_getElem hk']; rfl
      rw [e, List.flatten_cons, List.length_append] at hlt
      rw [wrap_succ k (by omega)]
      simp only [Int.toNat_natCast]
      exact ⟨by omega, ⟨hh, by omega⟩, hn hk'⟩
    · have : k = l.length := by have := of_decide_eq_false hb; omega
      exact hx this
  · have e : l.drop k = l.getD k [] :: l.drop (k + 1) := by
      rw [List.drop_eq_getElem_cons hk, List.getD_eq_getElem?_getD, List.getElem?_eq_getElem hk]; rfl
    have h2 := hh.2
    rw [e, List.flatten_cons, List.length_append] at h2
    rw [hPut_n]
    omega
noncomputable abbrev ofLT : LTab := [(0, loopF (stC ofC hpOf) 0 [ofCf, symH1, .auto] ofLF)]
theorem newH_ok : HOk newH := ⟨rfl, by decide, rfl, rfl⟩
/-- the sum of bytes -/
def shaF (b : List Int) : List Int := sumF (hPut newH b)
theorem sha_length (b : List Int) : (shaF b).length = 64 := rfl
noncomputable def ofE : Ent := Ent.ofS [some (.sl u8)] (rrA) (lNil) fun x_ y_ => (fun (l : List (List Int)) => .leaf (some (l.length < 2305843009213693952 ∧ l.flatten.length < 1152921504606846976)) (nRow .u8 64 (shaF l.flatten)) []) x_.1
theorem of_tree (l : List (List Int)) : fnT Tryz.prog ofTab ofLT Tryz.f28 ((rrA).wr (l, ())) ((lNil).wr ()) [.fr [.sym], .auto] =
  End.need (HOk { begun := true, s := [(7640891576956012808 : Int), (13503953896175478587 : Int), (4354685564936845355 : Int), (11912009170470909681 : Int), (5840696475078001361 : Int), (11170449401992604703 : Int), (2270897969802886507 : Int), (6620516959819538809 : Int)], n := (0 : Int), wait := List.replicate (128 : Nat) (0 : Int) }
  ∧ (↑l.length : Int) = (↑l.length : Int) ∧ (0 : Int) = (0 : Int) ∧ l.length < (2305843009213693952 : Nat) ∧ (0 : Int) + (↑l.flatten.length : Int) <
  (2305843009213693952 : Int)) (End.need (HOk (hPut { begun := true, s := [(7640891576956012808 : Int), (13503953896175478587 : Int), (4354685564936845355 : Int), (11912009170470909681 : Int), (5840696475078001361 : Int), (11170449401992604703 : Int), (2270897969802886507 : Int), (6620516959819538809 : Int)], n := (0 : Int), wait := List.replicate (128 : Nat) (0 : Int) }
  l.flatten) ∧ (hPut { begun := true, s := [(7640891576956012808 : Int), (13503953896175478587 : Int), (4354685564936845355 : Int), (11912009170470909681 : Int), (5840696475078001361 : Int), (11170449401992604703 : Int), (2270897969802886507 : Int), (6620516959819538809 : Int)], n := (0 : Int), wait := List.replicate (128 : Nat) (0 : Int) }
  l.flatten).n < (1152921504606846976 : Int)) (End.leaf (LV.one (VV.agg [SV.arr (Ty.int IntKind.u8) (64 : Nat) (sumF (hPut { begun := true, s := [(7640891576956012808 : Int), (13503953896175478587 : Int), (4354685564936845355 : Int), (11912009170470909681 : Int), (5840696475078001361 : Int), (11170449401992604703 : Int), (2270897969802886507 : Int), (6620516959819538809 : Int)], n := (0 : Int), wait := List.replicate (128 : Nat) (0 : Int) }
  l.flatten))])) [])) := by kernel_rfl
theorem of_ok : ofE.Ok Tryz.prog 28 := by
  refine (Ent.ofOk Tryz.call28 fun x_ y_ Q H_ => ?_).sym
  obtain ⟨l, _⟩ := x_
  obtain ⟨hn, hq⟩ := H_
  have hn : l.length < 2305843009213693952 ∧ l.flatten.length < 1152921504606846976 := hn
  refine (fnT_ok mixed ofTab_ok Tryz.func28 rfl (LT := ofLT) (ks := [.fr [.sym], .auto]) (LOk.ofTab (LTC rfl (loopF_ok (hp := []) of_loop) LT0))).use (D := []) ?_ hq
  show (fnT _ _ _ _ ((rrA).wr (l, ())) ((lNil).wr ()) _).sat _
  rw [of_tree]
  have e : (hPut newH l.flatten).n = l.flatten.length := by rw [hPut_n]; show (0 : Int) + _ = _; omega
  exact ⟨⟨newH_ok, rfl, rfl, hn.1, by omega⟩, ⟨hPut_ok _ newH_ok, by show (hPut newH l.flatten).n < _; rw [e]; omega⟩, rfl, rfl⟩
end Go.Proofs.YthdfifcgobfgdaaGreat
end

section
set_option linter.unusedVariables false
set_option linter.unusedSimpArgs false
namespace Go.Proofs.YthdfifcgobfgdaaGreat
open Go Go.Ev
set_option maxRecDepth 100000
noncomputable def rhighE : Ent := Ent.ofS [] ((lCons (vOne (sInt .u64)) lNil)) (lNil) fun x_ y_ => (fun (x : Int) => .leaf none (.one (.sc (.sl 0 0))) [(0, .own 0 u8 (eightF x))]) x_.1
theorem rhigh_tree (x : Int) : fnT Tryz.prog [] [] Tryz.f73 (((lCons (vOne (sInt .u64)) lNil)).wr (x, ())) ((lNil).wr ()) [.auto, .vers] =
  End.need ((8 : Int) = (8 : Int) ∧ (0 : Int) ≤ (8 : Int) ∧ (8 : Int) ≤ (70368744177664 : Int) ∧ (8 : Int) ≤ (70368744177664 : Int)) (End.need ((0 : Int)
  ≤ (0 : Int) ∧ (0 : Int) < (8 : Int)) (End.need ((0 : Int) ≤ (1 : Int) ∧ (1 : Int) < (8 : Int)) (End.need ((0 : Int) ≤ (2 : Int) ∧ (2 : Int) < (8 :
  Int)) (End.need ((0 : Int) ≤ (3 : Int) ∧ (3 : Int) < (8 : Int)) (End.need ((0 : Int) ≤ (4 : Int) ∧ (4 : Int) < (8 : Int)) (End.need ((0 : Int) ≤ (5 :
  Int) ∧ (5 : Int) < (8 : Int)) (End.need ((0 : Int) ≤ (6 : Int) ∧ (6 : Int) < (8 : Int)) (End.need ((0 : Int) ≤ (7 : Int) ∧ (7 : Int) < (8 : Int))
  (End.leaf (LV.one (VV.sc (SV.sl (0 : Nat) (0 : Nat)))) [some (Item.own (0 : Nat) (Ty.int IntKind.u8) (((((((((List.replicate (8 : Nat) (0 : Int)).set
  (0 : Nat) (IntKind.u8.wrap (shr IntKind.u64 x (56 : Int)))).set (1 : Nat) (IntKind.u8.wrap (shr IntKind.u64 x (48 : Int)))).set (2 : Nat)
  (IntKind.u8.wrap (shr IntKind.u64 x (40 : Int)))).set (3 : Nat) (IntKind.u8.wrap (shr IntKind.u64 x (32 : Int)))).set (4 : Nat) (IntKind.u8.wrap (shr
  IntKind.u64 x (24 : Int)))).set (5 : Nat) (IntKind.u8.wrap (shr IntKind.u64 x (16 : Int)))).set (6 : Nat) (IntKind.u8.wrap (shr IntKind.u64 x (8 :
  Int)))).set (7 : Nat) (IntKind.u8.wrap (shr IntKind.u64 x (0 : Int)))))]))))))))) := by kernel_rfl
theorem rhigh_ok : rhighE.Ok Tryz.prog 73 := by
  refine (Ent.ofOk Tryz.call73 fun x_ y_ Q H_ => ?_).sym
  obtain ⟨x, _⟩ := x_
  have hq := H_.2
  refine (fnT_ok mixed tab0 Tryz.func73 rfl (LT := []) (ks := [.auto, .vers]) (LOk.nil _)).use (D := [(0, .own 0 u8 (eightF x))]) ?_ hq
  show (fnT _ _ _ _ (((lCons (vOne (sInt .u64)) lNil)).wr (x, ())) ((lNil).wr ()) _).sat _
  rw [rhigh_tree]
  exact ⟨by omega, by omega, by omega, by omega, by omega, by omega, by omega, by omega, by omega, rfl, rfl⟩
noncomputable abbrev rovFn : Func := Tryz.f75
noncomputable abbrev rovTab : List (FuncId × Ent) := [(126, rwordsE), (127, rstepE)]
theorem rovTab_ok : ∀ p ∈ rovTab, p.2.Ok Tryz.prog p.1 := tabC rwords_ok (tabC rstep_ok tab0)
abbrev rovA : Cod (List LV) (List Int × List Int × Unit) := lCons (vRow .u64 8) (lCons (vOne (sRd false false u8)) lNil)
abbrev ovC : Cod (List LV) (List Int × Unit) := (jk 1 (lCons (vOne (sRd false false u8)) (lSkip (vOne (sPtr 0 0)) (jk 1 (lSkip (vOne (sPtr 1 0)) (jk 17 lNil))))))
abbrev ovCf : Wk := .fr (fmS 22 [(1, .keep), (2, .keep), (4, .keep)])
abbrev ovX : Cod (List LV) (Unit) := (jk 2 (lSkip (vOne (sPtr 0 0)) (jk 1 (lSkip (vOne (sPtr 1 0)) (jk 17 lNil)))))
abbrev ovXf : Wk := .fr (fmS 22 [(2, .keep), (4, .keep)])
abbrev ovH : Cod Hp (List Int × List Int × Unit) := lCons (iRow 92 .u64 8) (lCons (iRow 92 .u64 8) lNil)
def ovW : Exit → List Wk
  | .normal => [ovCf, .auto]
  | .exit 0 => [ovXf, .auto]
  | _ => []
theorem ov_rnd (b s r : List Int) : rndT Tryz.prog rovTab [] rovFn 0 [] ovW ((stC ovC ovH).wr ((b, ()), (s, r, ()))) =
  Res.ite (decide ((128 : Int) ≤ (↑b.length : Int))) (Res.need ((0 : Int) ≤ (0 : Int) ∧ (0 : Int) ≤ (128 : Int) ∧ (128 : Int) ≤ (↑b.length : Int))
  (Res.need ((List.take (128 : Nat) (List.drop (0 : Nat) b)).length = (128 : Nat)) (Res.need (s.length = (8 : Nat) ∧ (16 : Nat) = (16 : Nat)) (Res.need
  ((0 : Int) ≤ (128 : Int) ∧ (128 : Int) ≤ (↑b.length : Int) ∧ (↑b.length : Int) ≤ (↑b.length : Int)) (Res.leaf Exit.normal ((stC ovC ovH).wr ((List.take
  ((↑b.length : Int) - (128 : Int)).toNat (List.drop (128 : Nat) b), PUnit.unit), stepF s (wordsF (List.take (128 : Nat) (List.drop (0 : Nat) b))), r,
  PUnit.unit))))))) (Res.leaf (Exit.exit (0 : Nat)) ((stC ovX ovH).wr (PUnit.unit, s, r, PUnit.unit))) := by kernel_rfl
def overN : Nat → List Int → List Int → List Int
  | 0, s, _ => s
  | k + 1, s, b => overN k (stepF s (wordsF (b.take 128))) (b.drop 128)
/-- the steps of all whole rows of 128 -/
def overF (s b : List Int) : List Int := overN (b.length / 128) s b
theorem overF_step {s b : List Int} (h : 128 ≤ b.length) : overF s b = overF (stepF s (wordsF (b.take 128))) (b.drop 128) := by
  unfold overF
  have e : b.length / 128 = (b.drop 128).length / 128 + 1 := by rw [List.length_drop]; omega
  rw [e]; rfl
theorem overF_end {s b : List Int} (h : b.length < 128) : overF s b = s := by
  unfold overF
  rw [show b.length / 128 = 0 from by omega]; rfl
noncomputable def ovF (x : (List Int × Unit) × List Int × List Int × Unit) : Res :=
  .need (x.2.1.length = 8) (.leaf (.exit 0) ((stC ovX ovH).wr ((), (overF x.2.1 x.1.1, x.2.2.1, ()))))
theorem ov_loop (x) : Ex Tryz.prog [] (.loop (loopAt rovFn 0)) ((stC ovC ovH).wr x) (ovF x) := by
  obtain ⟨⟨b, _⟩, s, r, _⟩ := x
  refine Ex.need fun h1 => ?_
  simp only at h1
  refine loopR mixed rovTab_ok (LT := []) (ws := ovW) (hp := []) (LOk.nil _) (fun x : List Int × List Int => x.1.length) (fun x : List Int × List Int => (stC ovC ovH).wr ((x.1, ()), (x.2, r, ()))) (fun x => x.2.length = 8)
    (fun x => .leaf (.exit 0) ((stC ovX ovH).wr ((), (overF x.2 x.1, r, ())))) (fun x _ => ov_rnd x.1 x.2 r) (fun x R hh hs => ?_) (b, s) h1
  obtain ⟨b, s⟩ := x
  simp only at hh hs ⊢
  refine ⟨fun hb => ?_, fun hb => ?_⟩
  · have hb' : 128 ≤ b.length := by have := of_decide_eq_true hb; omega
    have e1 : List.take 128 (List.drop 0 b) = b.take 128 := by rw [List.drop_zero]
    have e2 : List.take ((b.length : Int) - 128).toNat (List.drop 128 b) = b.drop 128 := by rw [List.take_of_length_le (by simp; omega)]
    rw [e1, e2]
    rw [overF_step hb'] at hs
    exact ⟨by omega, by simp; omega, ⟨hh, trivial⟩, by omega, .inl ⟨rfl, (b.drop 128, stepF s (wordsF (b.take 128))), rfl, step_length _ _, by simp; omega, hs⟩⟩
  · have hb' : b.length < 128 := by have := of_decide_eq_false hb; omega
    rw [overF_end hb'] at hs
    exact .inr ⟨by simp, hs⟩
noncomputable abbrev ovLT : LTab := [(0, loopF (stC ovC ovH) 0 [ovCf, .rowB 1 0 8 .u64, .auto] ovF)]
noncomputable def roverE : Ent := Ent.ofS [none, some u8] (rovA) (lNil) fun x_ y_ => (fun (s b : List Int) => .leaf (some (s.length = 8)) (nRow .u64 8 (overF s b)) []) x_.1 x_.2.1
theorem rover_tree (s b : List Int) : fnT Tryz.prog rovTab ovLT Tryz.f75 ((rovA).wr (s, b, ())) ((lNil).wr ()) [.fr [.sym], .auto] =
  End.need (s.length = (8 : Nat)) (End.leaf (LV.one (VV.agg [SV.arr (Ty.int IntKind.u64) (8 : Nat) (overF s b)])) []) := by kernel_rfl
theorem rover_ok : roverE.Ok Tryz.prog 75 := by
  refine (Ent.ofOk Tryz.call75 fun x_ y_ Q H_ => ?_).sym
  obtain ⟨s, b, _⟩ := x_
  obtain ⟨hn, hq⟩ := H_
  have hn : s.length = 8 := hn
  refine (fnT_ok mixed rovTab_ok Tryz.func75 rfl (LT := ovLT) (ks := [.fr [.sym], .auto]) (LOk.ofTab (LTC rfl (loopF_ok (hp := []) ov_loop) LT0))).use (D := []) ?_ hq
  show (fnT _ _ _ _ ((rovA).wr (s, b, ())) ((lNil).wr ()) _).sat _
  rw [rover_tree]
  exact ⟨hn, rfl, rfl⟩
noncomputable def rbytesE : Ent := Ent.ofS [] ((lCons (vRow .u64 8) lNil)) (lNil) fun x_ y_ => (fun (s : List Int) => .leaf none (.one (.sc (.sl 0 0))) [(0, .own 0 u8 (numbersF s))]) x_.1
theorem rbytes_tree (s : List Int) : fnT Tryz.prog [(73, rhighE)] [] Tryz.f125 (((lCons (vRow .u64 8) lNil)).wr (s, ())) ((lNil).wr ()) [.auto, .vers] =
  End.need ((8 : Nat) ≤ (70368744177664 : Nat) ∧ (8 : Nat) ≤ (70368744177664 : Nat)) (End.need ((16 : Nat) ≤ (70368744177664 : Nat) ∧ (16 : Nat) ≤
  (70368744177664 : Nat)) (End.need ((24 : Nat) ≤ (70368744177664 : Nat) ∧ (24 : Nat) ≤ (70368744177664 : Nat)) (End.need ((32 : Nat) ≤ (70368744177664 :
  Nat) ∧ (32 : Nat) ≤ (70368744177664 : Nat)) (End.need ((40 : Nat) ≤ (70368744177664 : Nat) ∧ (40 : Nat) ≤ (70368744177664 : Nat)) (End.need ((48 : Nat)
  ≤ (70368744177664 : Nat) ∧ (48 : Nat) ≤ (70368744177664 : Nat)) (End.need ((56 : Nat) ≤ (70368744177664 : Nat) ∧ (56 : Nat) ≤ (70368744177664 : Nat))
  (End.need ((64 : Nat) ≤ (70368744177664 : Nat) ∧ (64 : Nat) ≤ (70368744177664 : Nat)) (End.leaf (LV.one (VV.sc (SV.sl (0 : Nat) (0 : Nat)))) [some
  (Item.own (0 : Nat) (Ty.int IntKind.u8) (eightF (s.getD (0 : Nat) (0 : Int)) ++ eightF (s.getD (1 : Nat) (0 : Int)) ++ eightF (s.getD (2 : Nat) (0 :
  Int)) ++ eightF (s.getD (3 : Nat) (0 : Int)) ++ eightF (s.getD (4 : Nat) (0 : Int)) ++ eightF (s.getD (5 : Nat) (0 : Int)) ++ eightF (s.getD (6 : Nat)
  (0 : Int)) ++ eightF (s.getD (7 : Nat) (0 : Int))))])))))))) := by kernel_rfl
theorem rbytes_ok : rbytesE.Ok Tryz.prog 125 := by
  refine (Ent.ofOk Tryz.call125 fun x_ y_ Q H_ => ?_).sym
  obtain ⟨s, _⟩ := x_
  have hq := H_.2
  refine (fnT_ok mixed ((tabC rhigh_ok tab0)) Tryz.func125 rfl (LT := []) (ks := [.auto, .vers]) (LOk.nil _)).use (D := [(0, .own 0 u8 (numbersF s))]) ?_ hq
  show (fnT _ _ _ _ (((lCons (vRow .u64 8) lNil)).wr (s, ())) ((lNil).wr ()) _).sat _
  rw [rbytes_tree]
  exact ⟨by omega, by omega, by omega, by omega, by omega, by omega, by omega, by omega, rfl, rfl⟩
noncomputable abbrev flFn : Func := Tryz.f74
abbrev flC : Cod (List LV) (Int × Unit) := (jk 2 (lSkip (vOne (sPtr 0 0)) (lSkip (vOne (sPtr 1 0)) (lSkip (vOne (sSl 2 0)) (lCons (vOne (sInt .i64)) (jk 14 lNil))))))
abbrev flCf : Wk := .fr (fmS 20 [(2, .keep), (3, .keep), (4, .keep), (5, .sym)])
abbrev flX : Cod (List LV) (Unit) := (jk 2 (lSkip (vOne (sPtr 0 0)) (lSkip (vOne (sPtr 1 0)) (jk 16 lNil))))
abbrev flXf : Wk := .fr (fmS 20 [(2, .keep), (3, .keep)])
abbrev flH : Cod Hp (List Int × List Int × List Int × Unit) := lCons (iRow 24 .u8 64) (lCons (iRow 24 .u8 64) (lCons (iOwn 0 u8) lNil))
abbrev flHX : Cod Hp (List Int × List Int × Unit) := lCons (iRow 24 .u8 64) (lCons (iRow 24 .u8 64) lNil)
def flW : Exit → List Wk
  | .normal => [flCf, .auto]
  | .exit 0 => [flXf, .auto]
  | _ => []
theorem fl_rnd (i : Int) (r o b : List Int) : rndT Tryz.prog [] [] flFn 0 [] flW ((stC flC flH).wr ((i, ()), (r, o, b, ()))) =
  Res.ite (decide (i < (64 : Int))) (Res.need ((0 : Int) ≤ i ∧ i < (↑b.length : Int)) (Res.need ((0 : Int) ≤ i ∧ i < (64 : Int)) (Res.leaf Exit.normal
  ((stC flC flH).wr ((IntKind.i64.wrap (i + (1 : Int)), PUnit.unit), r, o.set ((0 : Nat) + i.toNat) (b.getD i.toNat (0 : Int)), b, PUnit.unit)))))
  (Res.leaf (Exit.exit (0 : Nat)) ((stC flX flHX).wr (PUnit.unit, r, o, PUnit.unit))) := by kernel_rfl
noncomputable def flF (x : (Int × Unit) × List Int × List Int × List Int × Unit) : Res :=
  .need (x.1.1 = 0 ∧ x.2.2.1.length = 64 ∧ x.2.2.2.1.length = 64) (.leaf (.exit 0) ((stC flX flHX).wr ((), (x.2.1, x.2.2.2.1, ()))))
theorem fl_loop (x) : Ex Tryz.prog [] (.loop (loopAt flFn 0)) ((stC flC flH).wr x) (flF x) := by
  obtain ⟨⟨i, _⟩, r, o, b, _⟩ := x
  refine Ex.need fun ⟨h1, h2, h3⟩ => ?_
  simp only at h1 h2 h3
  subst h1
  have key := loopUp (fn := flFn) (id := 0) (j := 0) (ws := flW) (hp := []) mixed tab0 (LOk.nil _) 64 (fun k o => (stC flC flH).wr (((k : Int), ()), (r, o, b, ()))) (fun o => (stC flX flHX).wr ((), (r, o, ()))) (fun k o => o.set k (b.getD k 0)) (fun _ o => o.length = 64)
    (fun k o R hk hm hn hx => ?_) (fun k o hk hh => by simpa using hh) 0 o (by omega) h2
  · rw [Nat.sub_zero, upto_fill _ h2, map_getD h3] at key; exact key
  rw [fl_rnd]
  refine ⟨fun hb => ?_, fun hb => ?_⟩
  · have hk' : k < 64 := by have := of_decide_eq_true hb; omega
    rw [wrap_succ k (by omega)]
    simp only [Int.toNat_natCast, Nat.zero_add]
    exact ⟨by omega, by omega, hn hk'⟩
  · have : k = 64 := by have := of_decide_eq_false hb; omega
    exact hx this
noncomputable abbrev flLT : LTab := [(0, loopF (stC flC flH) 0 [flCf, .auto, .vers] flF)]
noncomputable abbrev flTab : List (FuncId × Ent) := [(125, rbytesE)]
theorem flTab_ok : ∀ p ∈ flTab, p.2.Ok Tryz.prog p.1 := tabC rbytes_ok tab0
noncomputable def rflatE : Ent := Ent.ofS [] ((lCons (vRow .u64 8) lNil)) (lNil) fun x_ y_ => (fun (s : List Int) => .leaf none (nRow .u8 64 (numbersF s)) []) x_.1
theorem rflat_tree (s : List Int) : fnT Tryz.prog flTab flLT Tryz.f74 (((lCons (vRow .u64 8) lNil)).wr (s, ())) ((lNil).wr ()) [.fr [.sym], .auto] =
  End.need ((0 : Int) = (0 : Int) ∧ (64 : Nat) = (64 : Nat) ∧ (64 : Nat) = (64 : Nat)) (End.leaf (LV.one (VV.agg [SV.arr (Ty.int IntKind.u8) (64 : Nat)
  (numbersF s)])) []) := by kernel_rfl
theorem rflat_ok : rflatE.Ok Tryz.prog 74 := by
  refine (Ent.ofOk Tryz.call74 fun x_ y_ Q H_ => ?_).sym
  obtain ⟨s, _⟩ := x_
  have hq := H_.2
  refine (fnT_ok mixed flTab_ok Tryz.func74 rfl (LT := flLT) (ks := [.fr [.sym], .auto]) (LOk.ofTab (LTC rfl (loopF_ok (hp := []) fl_loop) LT0))).use (D := []) ?_ hq
  show (fnT _ _ _ _ (((lCons (vRow .u64 8) lNil)).wr (s, ())) ((lNil).wr ()) _).sat _
  rw [rflat_tree]
  exact ⟨⟨rfl, rfl, rfl⟩, rfl, rfl⟩
noncomputable abbrev roFn : Func := Tryz.f36
noncomputable abbrev roTab : List (FuncId × Ent) := [(73, rhighE), (76, rbeginE), (75, roverE), (74, rflatE)]
abbrev roC : Cod (List LV) (List Int × Unit) := (lCons (vOne (sRd false false u8)) (jk 1 (lSkip (vOne (sPtr 0 0)) (lSkip (vOne (sSl 1 0)) (jk 23 lNil)))))
abbrev roCf : Wk := .fr (fmS 27 [(0, .keep), (2, .keep), (3, .keep)])
abbrev roH : Cod Hp (List Int × List Int × Unit) := lCons (iRow 24 .u8 64) (lCons (iOwn 0 u8) lNil)
def roW : Exit → List Wk
  | .normal => [roCf, .auto, .vers]
  | .exit 0 => [roCf, .auto, .vers]
  | _ => []
theorem ro_rnd (b r l : List Int) : rndT Tryz.prog roTab [] roFn 0 [] roW ((stC roC roH).wr ((b, ()), (r, l, ()))) =
  Res.ite ((↑l.length : Int).tmod (128 : Int) != (112 : Int)) (Res.need ((l.length + (1 : Nat)) * (1 : Nat) ≤ (70368744177664 : Nat) ∧ l.length + (1 :
  Nat) ≤ (70368744177664 : Nat)) (Res.leaf Exit.normal ((stC roC roH).wr ((b, PUnit.unit), r, l ++ [(0 : Int)], PUnit.unit)))) (Res.leaf (Exit.exit (0 :
  Nat)) ((stC roC roH).wr ((b, PUnit.unit), r, l, PUnit.unit))) := by kernel_rfl
theorem roTab_ok : ∀ p ∈ roTab, p.2.Ok Tryz.prog p.1 := tabC rhigh_ok (tabC rbegin_ok (tabC rover_ok (tabC rflat_ok tab0)))
def padL (l : List Int) : List Int := l ++ List.replicate ((112 - (l.length : Int)) % 128).toNat 0
theorem padL_step {l : List Int} (hz : ¬ (l.length : Int) % 128 = 112) : padL (l ++ [0]) = padL l ∧ ((112 - ((l ++ [0]).length : Int)) % 128).toNat < ((112 - (l.length : Int)) % 128).toNat := by
  have e1 : ((l ++ [(0 : Int)]).length : Int) = l.length + 1 := by simp
  have e2 : ((112 - (l.length : Int)) % 128).toNat = ((112 - ((l ++ [(0 : Int)]).length : Int)) % 128).toNat + 1 := by rw [e1]; omega
  refine ⟨?_, by omega⟩
  unfold padL
  rw [e2, List.replicate_succ]
  simp
theorem padL_end {l : List Int} (hz : (l.length : Int) % 128 = 112) : padL l = l := by
  have e : ((112 - (l.length : Int)) % 128).toNat = 0 := by omega
  unfold padL; rw [e]; simp
noncomputable def roF (x : (List Int × Unit) × List Int × List Int × Unit) : Res :=
  .need (x.2.2.1.length ≤ 35184372088832) (.leaf (.exit 0) ((stC roC roH).wr (x.1, (x.2.1, padL x.2.2.1, ()))))
theorem ro_loop (x) : Ex Tryz.prog [] (.loop (loopAt roFn 0)) ((stC roC roH).wr x) (roF x) := by
  obtain ⟨⟨b, _⟩, r, l, _⟩ := x
  refine Ex.need fun h1 => ?_
  simp only at h1
  refine loopR mixed roTab_ok (LT := []) (ws := roW) (hp := []) (LOk.nil _) (fun l : List Int => ((112 - (l.length : Int)) % 128).toNat) (fun l : List Int => (stC roC roH).wr ((b, ()), (r, l, ()))) (fun l => (l.length : Int) + (112 - (l.length : Int)) % 128 < 70368744177664)
    (fun l => .leaf (.exit 0) ((stC roC roH).wr ((b, ()), (r, padL l, ())))) (fun l _ => ro_rnd b r l) (fun l R hh hs => ?_) l (by omega)
  have e : (l.length : Int).tmod 128 = (l.length : Int) % 128 := Int.tmod_eq_emod_of_nonneg (by omega)
  rw [e]
  refine ⟨fun hb => ?_, fun hb => ?_⟩
  · have hb' : ¬ (l.length : Int) % 128 = 112 := by simpa using hb
    obtain ⟨k1, k2⟩ := padL_step hb'
    have e1 : ((l ++ [(0 : Int)]).length : Int) = l.length + 1 := by simp
    refine ⟨by omega, .inl ⟨rfl, l ++ [0], rfl, by rw [e1]; omega, k2, ?_⟩⟩
    show (Res.leaf (.exit 0) ((stC roC roH).wr ((b, ()), (r, padL (l ++ [0]), ())))).sat R
    rw [k1]; exact hs
  · have hb' : (l.length : Int) % 128 = 112 := by simpa using hb
    rw [padL_end hb'] at hs
    exact .inr ⟨by simp, hs⟩
noncomputable abbrev roLT : LTab := [(0, loopF (stC roC roH) 0 [roCf, .auto, .vers] roF)]
/-- the document's sum -/
def rshaF (b : List Int) : List Int := numbersF (overF beginK (padL (b ++ [128]) ++ List.replicate 8 0 ++ eightF (IntKind.u64.wrap (8 * IntKind.u64.wrap b.length))))
noncomputable def rofE : Ent := Ent.ofS [some u8] (bA) (lNil) fun x_ y_ => (fun (b : List Int) => .leaf (some (b.length ≤ 17592186044416)) (nRow .u8 64 (rshaF b)) []) x_.1
theorem rof_tree (b : List Int) : fnT Tryz.prog roTab roLT Tryz.f36 ((bA).wr (b, ())) ((lNil).wr ()) [.fr [.sym], .auto] =
  End.need (b.length * (1 : Nat) ≤ (70368744177664 : Nat) ∧ b.length ≤ (70368744177664 : Nat)) (End.need ((b.length + (1 : Nat)) * (1 : Nat) ≤
  (70368744177664 : Nat) ∧ b.length + (1 : Nat) ≤ (70368744177664 : Nat)) (End.need ((b ++ [(128 : Int)]).length ≤ (35184372088832 : Nat)) (End.need ((0
  : Int) ≤ (8 : Int) ∧ ((padL (b ++ [(128 : Int)])).length + (8 : Nat)) * (1 : Nat) ≤ (70368744177664 : Nat) ∧ (padL (b ++ [(128 : Int)])).length + (8 :
  Nat) ≤ (70368744177664 : Nat)) (End.need (((padL (b ++ [(128 : Int)]) ++ List.replicate (8 : Nat) (0 : Int)).length + (8 : Nat)) * (1 : Nat) ≤
  (70368744177664 : Nat) ∧ (padL (b ++ [(128 : Int)]) ++ List.replicate (8 : Nat) (0 : Int)).length + (8 : Nat) ≤ (70368744177664 : Nat)) (End.need ((8 :
  Nat) = (8 : Nat)) (End.leaf (LV.one (VV.agg [SV.arr (Ty.int IntKind.u8) (64 : Nat) (numbersF (overF beginK (padL (b ++ [(128 : Int)]) ++ List.replicate
  (8 : Nat) (0 : Int) ++ eightF (IntKind.u64.wrap ((8 : Int) * IntKind.u64.wrap (↑b.length : Int))))))])) [])))))) := by kernel_rfl
theorem rof_ok : rofE.Ok Tryz.prog 36 := by
  refine (Ent.ofOk Tryz.call36 fun x_ y_ Q H_ => ?_).sym
  obtain ⟨b, _⟩ := x_
  obtain ⟨hn, hq⟩ := H_
  have hn : b.length ≤ 17592186044416 := hn
  refine (fnT_ok mixed roTab_ok Tryz.func36 rfl (LT := roLT) (ks := [.fr [.sym], .auto]) (LOk.ofTab (LTC rfl (loopF_ok (hp := []) ro_loop) LT0))).use (D := []) ?_ hq
  show (fnT _ _ _ _ ((bA).wr (b, ())) ((lNil).wr ()) _).sat _
  rw [rof_tree]
  have e : (padL (b ++ [128])).length ≤ b.length + 129 := by unfold padL; simp; omega
  exact ⟨by omega, by omega, by simp; omega, by omega, by simp; omega, rfl, rfl, rfl⟩
end Go.Proofs.YthdfifcgobfgdaaGreat
end

section
set_option linter.unusedVariables false
set_option linter.unusedSimpArgs false
namespace Go.Proofs.YthdfifcgobfgdaaGreat
open Go Go.Ev
set_option maxRecDepth 100000
theorem overN_succ (k : Nat) (s b : List Int) : overN (k + 1) s b = overN k (stepF s (wordsF (b.take 128))) (b.drop 128) := rfl
theorem overN_zero (s b : List Int) : overN 0 s b = s := rfl
theorem overN_take : ∀ (k : Nat) (s b c : List Int), b.take (128 * k) = c.take (128 * k) → 128 * k ≤ b.length → 128 * k ≤ c.length → overN k s b = overN k s c
  | 0, _, _, _, _, _, _ => rfl
  | k + 1, s, b, c, h, hb, hc => by
    have e1 : b.take 128 = c.take 128 := by
      have := congrArg (List.take 128) h
      rw [List.take_take, List.take_take, Nat.min_eq_left (by omega)] at this
      exact this
    have e2 : (b.drop 128).take (128 * k) = (c.drop 128).take (128 * k) := by
      have := congrArg (List.drop 128) h
      rw [List.drop_take, List.drop_take, show 128 * (k + 1) - 128 = 128 * k from by omega] at this
      exact this
    rw [overN_succ, overN_succ, e1]
    exact overN_take k _ _ _ e2 (by rw [List.length_drop]; omega) (by rw [List.length_drop]; omega)
theorem overN_last : ∀ (k : Nat) (s a b : List Int), a.length = 128 * k → b.length = 128 → overN (k + 1) s (a ++ b) = stepF (overN k s a) (wordsF b)
  | 0, s, a, b, ha, hb => by
    have : a = [] := List.eq_nil_of_length_eq_zero (by omega)
    subst this
    rw [overN_succ, overN_zero, overN_zero, List.nil_append, List.take_of_length_le (by omega)]
  | k + 1, s, a, b, ha, hb => by
    rw [overN_succ (k + 1), overN_succ k s a, List.take_append_of_le_length (by omega), List.drop_append_of_le_length (by omega)]
    exact overN_last k _ (a.drop 128) b (by rw [List.length_drop]; omega) hb
/-- what a sum that goes on has of a row -/
structure HP (h : HH) (row : List Int) : Prop where
  ok : HOk h
  n : h.n = row.length
  s : h.s = overF beginK row
  wait : h.wait.take (row.length % 128) = row.drop (row.length / 128 * 128)
theorem HP.byte {h : HH} {row : List Int} (hp : HP h row) (c : Int) : HP (hByte h c) (row ++ [c]) := by
  obtain ⟨h0, h1, h2, h3⟩ := hp
  have hw := h0.wait
  have hn : (h.n % 128).toNat = row.length % 128 := by rw [h1]; omega
  have hset : (h.wait.set (row.length % 128) c).take (row.length % 128 + 1) = row.drop (row.length / 128 * 128) ++ [c] := by
    rw [List.take_add_one, List.take_set_of_le (Nat.le_refl _), h3]
    simp [show row.length % 128 < h.wait.length by omega]
  refine ⟨hByte_ok h0 c, ?_, ?_, ?_⟩
  · rw [hByte_n, h1]; simp
  · unfold hByte
    by_cases hz : (h.n + 1) % 128 = 0
    · rw [if_pos hz, hn]
      simp only
      have hl : row.length % 128 = 127 := by omega
      have hfull : h.wait.set (row.length % 128) c = row.drop (row.length / 128 * 128) ++ [c] := by
        rw [← hset, List.take_of_length_le (by simp; omega)]
      have hk : (row ++ [c]).length / 128 = row.length / 128 + 1 := by simp; omega
      rw [hfull, h2]
      unfold overF
      rw [hk]
      have e : row ++ [c] = row.take (row.length / 128 * 128) ++ (row.drop (row.length / 128 * 128) ++ [c]) := by rw [← List.append_assoc, List.take_append_drop]
      rw [e, overN_last _ _ _ _ (by rw [List.length_take]; omega) (by simp; omega)]
      congr 1
      exact overN_take _ _ _ _ (by rw [List.take_take]; congr 1; omega) (by omega) (by rw [List.length_take]; omega)
    · rw [if_neg hz]
      simp only
      have hk : (row ++ [c]).length / 128 = row.length / 128 := by simp; omega
      rw [h2]
      unfold overF
      rw [hk]
      exact overN_take _ _ _ _ (by rw [List.take_append_of_le_length (by omega)]) (by omega) (by simp; omega)
  · have hwb : (hByte h c).wait = h.wait.set (row.length % 128) c := by unfold hByte; split <;> simp only [hn]
    rw [hwb]
    by_cases hz : (row.length + 1) % 128 = 0
    · have e1 : (row ++ [c]).length % 128 = 0 := by simpa using hz
      have e2 : (row ++ [c]).length / 128 * 128 = (row ++ [c]).length := by omega
      rw [e1, e2, List.drop_length]; rfl
    · have e1 : (row ++ [c]).length % 128 = row.length % 128 + 1 := by simp; omega
      have e2 : (row ++ [c]).length / 128 * 128 = row.length / 128 * 128 := by simp; omega
      rw [e1, e2, hset, List.drop_append_of_le_length (by omega)]
theorem HP.put : ∀ (b : List Int) {h : HH} {row : List Int}, HP h row → HP (hPut h b) (row ++ b)
  | [], h, row, hp => by simpa [hPut] using hp
  | c :: b, h, row, hp => by
    have := HP.put b (hp.byte c)
    rw [List.append_assoc] at this
    exact this
theorem HP.new : HP newH [] := ⟨newH_ok, rfl, rfl, rfl⟩
theorem HP.of (b : List Int) : HP (hPut newH b) b := by simpa using HP.new.put b
theorem eight0 : eightF 0 = List.replicate 8 0 := by decide
theorem sha_eq {b : List Int} (hb : b.length ≤ 17592186044416) : shaF b = rshaF b := by
  unfold shaF sumF lastF rshaF
  have hn : (hPut newH b).n = b.length := (HP.of b).n
  have hw : IntKind.u64.wrap (b.length : Int) = b.length := wrap_u64 (by omega) (by omega)
  have e1 : shr .u64 (b.length : Int) 61 = 0 := by
    have := shr_div .u64 (b.length : Int) 61 (by decide)
    rw [show ((61 : Nat) : Int) = 61 from rfl] at this
    rw [this]
    exact Int.ediv_eq_zero_of_lt (by omega) (by have : (2 ^ 61 : Nat) = 2305843009213693952 := by decide
                                                omega)
  have e2 : shl .u64 (b.length : Int) 3 = IntKind.u64.wrap (8 * (b.length : Int)) := by
    have := shl_mul .u64 (b.length : Int) 3 (by decide)
    rw [show ((3 : Nat) : Int) = 3 from rfl] at this
    rw [this, Int.mul_comm]; rfl
  rw [hn, hw, e1, e2, eight0]
  have hp : padH (hPut (hPut newH b) [128]) = hPut newH (padL (b ++ [128])) := by
    unfold padH padL
    rw [← hPut_append newH b, hPut_append newH (b ++ [128]) (List.replicate _ 0), (HP.of (b ++ [128])).n]
  rw [hp, ← hPut_append, ← hPut_append, (HP.of _).s, List.append_assoc]
end Go.Proofs.YthdfifcgobfgdaaGreat
end

section
set_option linter.unusedVariables false
set_option linter.unusedSimpArgs false
namespace Go.Proofs.YthdfifcgobfgdaaGreat
open Go Go.Ev
set_option maxRecDepth 100000
theorem map_getD_drop {l : List Int} {j n : Nat} (h : j + n ≤ l.length) : (List.range n).map (fun i => l.getD (j + i) 0) = (l.drop j).take n := by
  apply List.ext_getElem?
  intro i
  simp only [List.getElem?_map, List.getElem?_take, List.getElem?_drop]
  rcases Nat.lt_or_ge i n with h1 | h1
  · rw [List.getElem?_range h1]
    simp [List.getD_eq_getElem?_getD, h1, List.getElem?_eq_getElem (show j + i < l.length by omega)]
  · rw [List.getElem?_eq_none (by simpa using h1)]
    simp [show ¬ i < n by omega]
end Go.Proofs.YthdfifcgobfgdaaGreat
end

section
set_option linter.unusedVariables false
set_option linter.unusedSimpArgs false
namespace Go.Proofs.YthdfifcgobfgdaaGreat
open Go Go.Ev BJ
set_option maxRecDepth 1000000
noncomputable abbrev twFn : Func := Tryz.f44
abbrev twC : Cod (List LV) (Int × Unit) := (jk 3 (lSkip (vOne (sPtr 0 0)) (jk 1 (lSkip (vOne (sPtr 1 0)) (lSkip (vOne (sPtr 2 0)) (jk 1 (lSkip (vOne (sPtr 3 0)) (lSkip (vOne (sPtr 4 0)) (lCons (vOne (sInt .i64)) (jk 32 lNil))))))))))
abbrev twCf : Wk := .fr (fmS 43 [(3, .keep), (5, .keep), (6, .keep), (8, .keep), (9, .keep), (10, .sym)])
abbrev twX : Cod (List LV) (Unit) := (jk 6 (lSkip (vOne (sPtr 0 0)) (jk 2 (lSkip (vOne (sPtr 1 0)) (jk 33 lNil)))))
abbrev twXf : Wk := .fr (fmS 43 [(6, .keep), (9, .keep)])
abbrev ptC {Y : Type} (r : Cod (List SV) Y) : Cod (List SV) (Pt × Y) := (lCons sBool (vecA .u64 (vecA .u64 (vecA .u64 (vecA .u64 r 5) 5) 5) 5)).iso (fun x => ((x.1, x.2.1, x.2.2.1, x.2.2.2.1, x.2.2.2.2.1), x.2.2.2.2.2)) (fun y => (y.1.1, y.1.2.1, y.1.2.2.1, y.1.2.2.2.1, y.1.2.2.2.2, y.2)) (fun _ => rfl)
abbrev pt4C : Cod (List SV) (Pt × Pt × Pt × Pt × Unit) := ptC (ptC (ptC (ptC lNil)))
abbrev twH : Cod Hp (List Int × List Int × Pt × (Pt × Pt × Pt × Pt × Unit) × Pt × Unit) := lCons (iRow 22 .u8 32) (lCons (iRow 22 .u8 32) (lCons iPt (lCons (iBlk 134 pt4C) (lCons iPt lNil))))
def twW : Exit → List Wk
  | .normal => [twCf, symQ 2, .blk 3 (List.replicate 84 .sym), symQ 4, .auto]
  | .exit 0 => [twXf, .auto]
  | _ => []
abbrev twI (bit : List Int → Int → Int) (a b : List Int) (i : Int) : Int := IntKind.i64.wrap (bit a i + IntKind.i64.wrap (2 * bit b i))
theorem tw_rnd (bit : List Int → Int → Int) (dbl : Pt → Pt) (add : Pt → Pt → Pt) (a b : List Int) (r p0 p1 p2 p3 o : Pt) (i : Int) : rndT Tryz.prog [(101, eBi bit), (100, e1Q dbl), (99, e2Q add)] [] twFn 0 [] twW ((stC twC twH).wr ((i, ()), (a, b, r, (p0, p1, p2, p3, ()), o, ()))) =
    .ite (decide (0 ≤ i)) (.need (a.length = 32 ∧ 0 ≤ i ∧ i < 256) (.need (b.length = 32 ∧ 0 ≤ i ∧ i < 256) (.ite (decide (0 < twI bit a b i))
      (.need (0 ≤ twI bit a b i ∧ twI bit a b i < 4) (.leaf .normal ((stC twC twH).wr ((IntKind.i64.wrap (i - 1), ()), (a, b, r, (p0, p1, p2, p3, ()), add (dbl o) (pickPt (twI bit a b i) [p0, p1, p2, p3]), ())))))
      (.leaf .normal ((stC twC twH).wr ((IntKind.i64.wrap (i - 1), ()), (a, b, r, (p0, p1, p2, p3, ()), dbl o, ())))))))
      (.leaf (.exit 0) ((stC twX muHX).wr ((), (r, o, ())))) := by kernel_rfl
noncomputable def twG (bit : List Int → Int → Int) (dbl : Pt → Pt) (add : Pt → Pt → Pt) (a b : List Int) (l : List Pt) (k : Nat) (r : Pt) : Pt := bif decide (0 < twI bit a b (255 - (k : Int))) then add (dbl r) (pickPt (twI bit a b (255 - (k : Int))) l) else dbl r
abbrev twT : Type := (Int × Unit) × List Int × List Int × Pt × (Pt × Pt × Pt × Pt × Unit) × Pt × Unit
def twLF (w : List Int → List Int → Pt → Pt → Pt → Pt → Pt → Pt) (x : twT) : Res := .need (x.1.1 = 255 ∧ x.2.1.length = 32 ∧ x.2.2.1.length = 32) (.leaf (.exit 0) ((stC twX muHX).wr ((), (x.2.2.2.1, w x.2.1 x.2.2.1 x.2.2.2.2.1.1 x.2.2.2.2.1.2.1 x.2.2.2.2.1.2.2.1 x.2.2.2.2.1.2.2.2.1 x.2.2.2.2.2.1, ()))))
theorem bitL_01 {a : List Int} {i : Int} : bitL a i = 0 ∨ bitL a i = 1 := bit_01 _
theorem twI_range (a b : List Int) (i : Int) : 0 ≤ twI bitL a b i ∧ twI bitL a b i < 4 := by
  rcases bitL_01 (a := a) (i := i) with h | h <;> rcases bitL_01 (a := b) (i := i) with h' | h' <;> unfold twI <;> rw [h, h'] <;> decide
theorem tw_loop (x : twT) : Ex Tryz.prog [] (.loop (loopAt twFn 0)) ((stC twC twH).wr x) (.need (x.1.1 = 255 ∧ x.2.1.length = 32 ∧ x.2.2.1.length = 32) (.leaf (.exit 0) ((stC twX muHX).wr ((), (x.2.2.2.1, rnds (twG bitL doubleC addPC x.2.1 x.2.2.1 [x.2.2.2.2.1.1, x.2.2.2.2.1.2.1, x.2.2.2.2.1.2.2.1, x.2.2.2.2.1.2.2.2.1]) 256 x.2.2.2.2.2.1, ()))))) := by
  obtain ⟨⟨i, _⟩, a, b, r, ⟨p0, p1, p2, p3, _⟩, o, _⟩ := x
  refine Ex.need fun ⟨h1, h2, h3⟩ => ?_
  simp only at h1 h2 h3
  subst h1
  have key := loopUp (fn := twFn) (id := 0) (j := 0) (ws := twW) (hp := []) mixed muTab_ok (LOk.nil _) 256 (fun k o => (stC twC twH).wr ((255 - (k : Int), ()), (a, b, r, (p0, p1, p2, p3, ()), o, ()))) (fun o => (stC twX muHX).wr ((), (r, o, ()))) (twG bitL doubleC addPC a b [p0, p1, p2, p3]) (fun _ _ => True)
    (fun k o R hk _ hn hx => ?_) (fun _ _ _ _ => trivial) 0 o (by omega) trivial
  · rw [Nat.sub_zero, rnds_upto] at key; exact key
  rw [tw_rnd]
  refine ⟨fun hb => ?_, fun hb => ?_⟩
  · have hk' : k < 256 := by have := of_decide_eq_true hb; omega
    have hn' := hn hk'
    have e3 : IntKind.i64.wrap ((255 - (k : Int)) - 1) = 255 - ((k + 1 : Nat) : Int) := by rw [wrap_ok (by omega) (by omega)]; omega
    rw [e3]
    refine ⟨⟨h2, by omega, by omega⟩, ⟨h3, by omega, by omega⟩, fun hc => ⟨twI_range _ _ _, ?_⟩, fun hc => ?_⟩
    · have : twG bitL doubleC addPC a b [p0, p1, p2, p3] k o = addPC (doubleC o) (pickPt (twI bitL a b (255 - (k : Int))) [p0, p1, p2, p3]) := by unfold twG; rw [hc]; rfl
      rw [this] at hn'; exact hn'
    · have : twG bitL doubleC addPC a b [p0, p1, p2, p3] k o = doubleC o := by unfold twG; rw [hc]; rfl
      rw [this] at hn'; exact hn'
  · have : k = 256 := by have := of_decide_eq_false hb; omega
    exact hx this
noncomputable abbrev twLT (w : List Int → List Int → Pt → Pt → Pt → Pt → Pt → Pt) : LTab := [(0, loopF (stC twC twH) 0 [twCf, .auto, symQ 2, .blk 3 (List.replicate 84 .sym), symQ 4] (twLF w))]
abbrev twA : Cod (List LV) (List Int × Pt × List Int × Unit) := lCons cB (lCons cPt (lCons cB lNil))
def eTw (g : List Int → Pt → List Int → Pt) : Ent := Ent.ofS [] twA lNil fun x _ => .leaf (some (x.1.length = 32 ∧ x.2.2.1.length = 32)) (cPt.wr (g x.1 x.2.1 x.2.2.1)) []
noncomputable abbrev twTab (z b : Pt) (bit : List Int → Int → Int) (dbl : Pt → Pt) (add : Pt → Pt → Pt) : List (FuncId × Ent) := [(101, eBi bit), (100, e1Q dbl), (99, e2Q add), (98, e0Q z), (64, e0Q b)]
theorem mtwo_tree (z b : Pt) (w : List Int → List Int → Pt → Pt → Pt → Pt → Pt → Pt) (bit : List Int → Int → Int) (dbl : Pt → Pt) (add : Pt → Pt → Pt) (n m : List Int) (p : Pt) : fnT Tryz.prog (twTab z b bit dbl add) (twLT w) twFn (twA.wr (n, p, m, ())) [] kK =
    .need ((255 : Int) = 255 ∧ n.length = 32 ∧ m.length = 32) (.leaf (cPt.wr (w n m z p b (add p b) z)) []) := by kernel_rfl
theorem twoL_ex : ∃ f : List Int → Pt → List Int → Pt, ∀ n p m, f n p m = twoC (v32 n) p (v32 m) := ⟨fun n p m => twoC (v32 n) p (v32 m), fun _ _ _ => rfl⟩
/-- never opened: its rounds are many -/
noncomputable def twoL : List Int → Pt → List Int → Pt := Classical.choose twoL_ex
theorem twoL_eq (n : List Int) (p : Pt) (m : List Int) : twoL n p m = twoC (v32 n) p (v32 m) := Classical.choose_spec twoL_ex n p m
noncomputable def twW' (a b : List Int) (p0 p1 p2 p3 o : Pt) : Pt := rnds (twG bitL doubleC addPC a b [p0, p1, p2, p3]) 256 o
theorem twG_eq (a b : List Int) (l : Vec Pt 4) (k : Nat) (hk : k < 256) (r : Pt) : twG bitL doubleC addPC a b l.toList k r = twoStep bitFn doubleC addPC (v32 a) (v32 b) l (255 - (k : Int)) r := by
  unfold twG twoStep twoK twI bitL
  rw [selPt_eq]
  rfl
theorem twoW_eq (n m : List Int) (p : Pt) : twW' n m zeroC p baseC (addPC p baseC) zeroC = twoL n p m := by
  rw [twoL_eq]
  unfold twW' twoC twoFn
  exact rnds_congr (fun k hk r => twG_eq n m (vec4 zeroC p baseC (addPC p baseC)) k hk r) zeroC 256 (Nat.le_refl _)
theorem two_sat' {n m : List Int} {V W : Pt} (hn : n.length = 32) (hm : m.length = 32) (h : V = W) : (Ev.End.need ((255 : Int) = 255 ∧ n.length = 32 ∧ m.length = 32) (.leaf (cPt.wr V) [])).sat fun v hp' => v = cPt.wr W ∧ hp' = [] := by
  subst h; exact ⟨⟨rfl, hn, hm⟩, rfl, rfl⟩
theorem twW'_def (a b : List Int) (p0 p1 p2 p3 o : Pt) : twW' a b p0 p1 p2 p3 o = rnds (twG bitL doubleC addPC a b [p0, p1, p2, p3]) 256 o := rfl
theorem tw_loop' (x : twT) : Ex Tryz.prog [] (.loop (loopAt twFn 0)) ((stC twC twH).wr x) (twLF twW' x) := by
  unfold twLF
  rw [twW'_def]
  exact tw_loop x
theorem twL_ok : LOk Tryz.prog [] (twLT twW') (bodyOf twFn) := LOk.ofTab (LTC rfl (loopF_ok (hp := []) tw_loop') LT0)
theorem twT_ok : ∀ p ∈ twTab zeroC baseC bitL doubleC addPC, p.2.Ok Tryz.prog p.1 := tabC sbit'_ok (tabC qdouble_ok (tabC qadd_ok (tabC qzero_ok (tabC qbase_ok tab0))))
noncomputable abbrev mtwoE : Ent := eTw twoL
theorem mtwo_ok : mtwoE.Ok Tryz.prog 44 := by
  refine (Ent.ofOk Tryz.call44 fun x_ y_ Q H_ => ?_).sym
  obtain ⟨n, p, m, _⟩ := x_
  obtain ⟨hn, hq⟩ := H_
  have hn : n.length = 32 ∧ m.length = 32 := hn
  have hc : CallsT Tryz.prog 44 (twA.wr (n, p, m, ())) [] (fnT Tryz.prog (twTab zeroC baseC bitL doubleC addPC) (twLT twW') twFn (twA.wr (n, p, m, ())) [] kK) :=
    fnT_ok mixed twT_ok Tryz.func44 rfl twL_ok
  rw [mtwo_tree zeroC baseC twW' bitL doubleC addPC] at hc
  exact hc.use (D := []) (two_sat' hn.1 hn.2 (twoW_eq n m p)) hq
end Go.Proofs.YthdfifcgobfgdaaGreat
end

section
set_option linter.unusedVariables false
set_option linter.unusedSimpArgs false
namespace Go.Proofs.YthdfifcgobfgdaaGreat
open Go Go.Ev
set_option maxRecDepth 100000
theorem strEq_self (l : List Int) : strEq l l = true := by simp [strEq]
end Go.Proofs.YthdfifcgobfgdaaGreat
end

section
set_option linter.unusedVariables false
set_option linter.unusedSimpArgs false
namespace Go.Proofs.YthdfifcgobfgdaaGreat
open Go Go.Ev
set_option maxRecDepth 100000
end Go.Proofs.YthdfifcgobfgdaaGreat
end

section
set_option linter.unusedVariables false
set_option linter.unusedSimpArgs false
namespace Go.Proofs.YthdfifcgobfgdaaGreat
open Go Go.Ev BJ
set_option maxRecDepth 1000000
def eSha (g : List Int → List Int) : Ent := Ent.ofS [some (.sl u8)] rrA lNil fun x _ => .leaf (some (x.1.length < 2305843009213693952 ∧ x.1.flatten.length < 1152921504606846976)) (nRow .u8 64 (g x.1.flatten)) []
theorem of_as : ofE = eSha shaF := by kernel_rfl
theorem of'_ok : (eSha shaF).Ok Tryz.prog 28 := of_as ▸ of_ok
noncomputable abbrev eCat : Ent := catE
theorem cat'_ok : eCat.Ok Tryz.prog 33 := cat_ok
def domL : List Int := [83, 105, 103, 69, 100, 50, 53, 53, 49, 57, 32, 110, 111, 32, 69, 100, 50, 53, 53, 49, 57, 32, 99, 111, 108, 108, 105, 115, 105, 111, 110, 115]
def preL (c : List Int) : List Int := if c.length ≤ 255 then domL ++ ([1, (c.length : Int)] ++ c) else []
def ePre (g : List Int → List Int) : Ent := Ent.ofS [some u8] bA lNil fun x _ => .leaf none (.one (.sc (.sl 0 0))) [(0, .own 0 u8 (g x.1))]
noncomputable abbrev preE : Ent := ePre preL
theorem prefix_tree (c : List Int) : fnT Tryz.prog [(33, catE)] [] Tryz.f10 (bA.wr (c, ())) [] [.ownF 0 u8, .auto, .vers] =
  End.ite (decide ((255 : Int) < (↑c.length : Int))) (End.leaf (LV.one (VV.sc (SV.sl (0 : Nat) (0 : Nat)))) [some (Item.own (0 : Nat) (Ty.int IntKind.u8)
  [])]) (End.need ([[(83 : Int), (105 : Int), (103 : Int), (69 : Int), (100 : Int), (50 : Int), (53 : Int), (53 : Int), (49 : Int), (57 : Int), (32 :
  Int), (110 : Int), (111 : Int), (32 : Int), (69 : Int), (100 : Int), (50 : Int), (53 : Int), (53 : Int), (49 : Int), (57 : Int), (32 : Int), (99 :
  Int), (111 : Int), (108 : Int), (108 : Int), (105 : Int), (115 : Int), (105 : Int), (111 : Int), (110 : Int), (115 : Int)], [(1 : Int), IntKind.u8.wrap
  (↑c.length : Int)], c].flatten.length ≤ (70368744177664 : Nat) ∧ (3 : Nat) ≤ (140737488355328 : Nat)) (End.leaf (LV.one (VV.sc (SV.sl (0 : Nat) (0 :
  Nat)))) [some (Item.own (0 : Nat) (Ty.int IntKind.u8) [[(83 : Int), (105 : Int), (103 : Int), (69 : Int), (100 : Int), (50 : Int), (53 : Int), (53 :
  Int), (49 : Int), (57 : Int), (32 : Int), (110 : Int), (111 : Int), (32 : Int), (69 : Int), (100 : Int), (50 : Int), (53 : Int), (53 : Int), (49 :
  Int), (57 : Int), (32 : Int), (99 : Int), (111 : Int), (108 : Int), (108 : Int), (105 : Int), (115 : Int), (105 : Int), (111 : Int), (110 : Int), (115
  : Int)], [(1 : Int), IntKind.u8.wrap (↑c.length : Int)], c].flatten)])) := by kernel_rfl
theorem pre_ok : preE.Ok Tryz.prog 10 := by
  refine (Ent.ofOk Tryz.call10 fun x_ y_ Q H_ => ?_).sym
  obtain ⟨c, _⟩ := x_
  refine (fnT_ok mixed (tabC cat_ok tab0) Tryz.func10 rfl (LT := []) (ks := [.ownF 0 u8, .auto, .vers]) (LOk.nil _)).use (D := [(0, .own 0 u8 (preL c))]) ?_ H_.2
  show (fnT _ _ _ _ (bA.wr (c, ())) [] _).sat _
  rw [prefix_tree]
  refine ⟨fun h => ?_, fun h => ?_⟩
  · have h := of_decide_eq_true h
    have e : preL c = [] := if_neg (by omega)
    rw [e]; exact ⟨rfl, rfl⟩
  · have h := of_decide_eq_false h
    have e : preL c = domL ++ ([1, (c.length : Int)] ++ c) := if_pos (by omega)
    have ew : IntKind.u8.wrap (c.length : Int) = c.length := by rw [wrap_u8]; omega
    rw [e, ew]
    refine ⟨⟨by simp; omega, by decide⟩, rfl, ?_⟩
    have e2 : applyD [(0, Ev.Item.own 0 u8 (domL ++ ([1, (c.length : Int)] ++ c)))] (lNil.wr y_) = [some (Ev.Item.own 0 u8 (domL ++ ([1, (c.length : Int)] ++ c)))] := rfl
    rw [e2]
    simp [domL]
def secF (h : List Int) : List Int := ((h.take 32).set 0 (bitAndNot .u8 ((h.take 32).getD 0 0) 7)).set 31 (bitOr .u8 (bitAndNot .u8 (((h.take 32).set 0 (bitAndNot .u8 ((h.take 32).getD 0 0) 7)).getD 31 0) 128) 64)
def ePa (sec sha : List Int → List Int) : Ent := Ent.ofS [] bA32 lNil fun x _ => .leaf (some (x.1.length = 32)) (.tup [.agg [.arr (.int .u8) 32 (sec x.1)], .sc (.vb 0 0 (.int .u8) 64 32 32)]) [(0, .blk [.arr (.int .u8) 64 (sha x.1)] 24)]
noncomputable def secL (s : List Int) : List Int := secF (shaF s)
noncomputable abbrev spartsE : Ent := ePa secL shaF
theorem parts_tree (sha : List Int → List Int) (s : List Int) : fnT Tryz.prog [(28, eSha sha)] [] Tryz.f26 (bA32.wr (s, ())) [] [.auto] =
  End.need ((0 : Int) ≤ (0 : Int) ∧ (0 : Int) ≤ (32 : Int) ∧ (32 : Int) ≤ (32 : Int)) (End.need ((1 : Nat) < (2305843009213693952 : Nat) ∧ [List.take (32
  : Nat) (List.drop (0 : Nat) s)].flatten.length < (1152921504606846976 : Nat)) (End.need ((0 : Int) ≤ (0 : Int) ∧ (0 : Int) ≤ (32 : Int) ∧ (32 : Int) ≤
  (64 : Int)) (End.need ((32 : Nat) ≤ (List.take (32 : Nat) (List.drop (0 : Nat) (sha [List.take (32 : Nat) (List.drop (0 : Nat) s)].flatten))).length)
  (End.need ((32 : Nat) ≤ (List.take (32 : Nat) (List.drop (0 : Nat) (sha [List.take (32 : Nat) (List.drop (0 : Nat) s)].flatten))).length) (End.need ((0
  : Int) ≤ (32 : Int) ∧ (32 : Int) ≤ (64 : Int) ∧ (64 : Int) ≤ (64 : Int)) (End.leaf (LV.tup [VV.agg [SV.arr (Ty.int IntKind.u8) (32 : Nat) (((List.take
  (32 : Nat) (List.drop (0 : Nat) (List.take (32 : Nat) (List.drop (0 : Nat) (sha [List.take (32 : Nat) (List.drop (0 : Nat) s)].flatten))))).set (0 :
  Nat) (bitAndNot IntKind.u8 ((List.take (32 : Nat) (List.drop (0 : Nat) (List.take (32 : Nat) (List.drop (0 : Nat) (sha [List.take (32 : Nat) (List.drop
  (0 : Nat) s)].flatten))))).getD (0 : Nat) (0 : Int)) (7 : Int))).set (31 : Nat) (bitOr IntKind.u8 (bitAndNot IntKind.u8 (((List.take (32 : Nat)
  (List.drop (0 : Nat) (List.take (32 : Nat) (List.drop (0 : Nat) (sha [List.take (32 : Nat) (List.drop (0 : Nat) s)].flatten))))).set (0 : Nat)
  (bitAndNot IntKind.u8 ((List.take (32 : Nat) (List.drop (0 : Nat) (List.take (32 : Nat) (List.drop (0 : Nat) (sha [List.take (32 : Nat) (List.drop (0 :
  Nat) s)].flatten))))).getD (0 : Nat) (0 : Int)) (7 : Int))).getD (31 : Nat) (0 : Int)) (128 : Int)) (64 : Int)))], VV.sc (SV.vb (0 : Nat) (0 : Nat)
  (Ty.int IntKind.u8) (64 : Nat) (32 : Int) (32 : Int))]) [some (Item.blk [SV.arr (Ty.int IntKind.u8) (64 : Nat) (sha [List.take (32 : Nat) (List.drop (0
  : Nat) s)].flatten)] (24 : Nat))])))))) := by kernel_rfl
theorem sparts_ok : spartsE.Ok Tryz.prog 26 := by
  refine (Ent.ofOk Tryz.call26 fun x_ y_ Q H_ => ?_).sym
  obtain ⟨s, _⟩ := x_
  obtain ⟨hn, hq⟩ := H_
  have hn : s.length = 32 := hn
  refine (fnT_ok mixed (tabC of'_ok tab0) Tryz.func26 rfl (LT := []) (ks := [.auto]) (LOk.nil _)).use (D := [(0, .blk [.arr (.int .u8) 64 (shaF s)] 24)]) ?_ hq
  show (fnT _ _ _ _ (bA32.wr (s, ())) [] _).sat _
  rw [parts_tree, take_all hn, List.flatten_singleton]
  have hs := sha_length s
  have e1 : List.take 32 (List.drop 0 (List.take 32 (List.drop 0 (shaF s)))) = (shaF s).take 32 := by rw [List.drop_zero, List.drop_zero, List.take_take, Nat.min_self]
  have hl : (List.take 32 (List.drop 0 (shaF s))).length = 32 := by simp [hs]
  rw [e1]
  exact ⟨by decide, ⟨by decide, by omega⟩, by decide, by omega, by omega, by decide, rfl, rfl⟩
def ePub (g : List Int → List Int) : Ent := Ent.ofS [] bA32 lNil fun x _ => .leaf (some (x.1.length = 32)) (nRow .u8 32 (g x.1)) []
theorem secF_len {h : List Int} (hl : h.length = 64) : (secF h).length = 32 := by simp [secF, hl]
theorem secL_len (s : List Int) : (secL s).length = 32 := secF_len (sha_length s)
noncomputable def pubL (s : List Int) : List Int := encodeL (mbaseL (secL s))
noncomputable abbrev pubE : Ent := ePub pubL
theorem pub_tree (sec sha : List Int → List Int) (mb : List Int → Pt) (en : Pt → List Int) (s : List Int) : fnT Tryz.prog [(26, ePa sec sha), (29, eMb mb), (30, eEn en)] [] Tryz.f12 ((bA32).wr (s, ())) [] kK =
  End.need (s.length = (32 : Nat)) (End.need ((sec s).length = (32 : Nat)) (End.leaf (LV.one (VV.agg [SV.arr (Ty.int IntKind.u8) (32 : Nat) (en (mb (sec
  s)))])) [])) := by kernel_rfl
theorem pub_tab_ : ∀ p_ ∈ ([(26, ePa secL shaF), (29, eMb mbaseL), (30, eEn encodeL)] : List (FuncId × Ent)), p_.2.Ok Tryz.prog p_.1 := (tabC sparts_ok (tabC mbase_ok (tabC qencode_ok tab0)))
theorem pub_ok : pubE.Ok Tryz.prog 12 := by
  refine (Ent.ofOk Tryz.call12 fun x_ y_ Q H_ => ?_).sym
  obtain ⟨s, _⟩ := x_
  obtain ⟨hn, hq⟩ := H_
  have hn : s.length = 32 := hn
  refine (fnT_ok (tab := [(26, ePa secL shaF), (29, eMb mbaseL), (30, eEn encodeL)]) mixed pub_tab_ Tryz.func12 rfl (LT := []) (ks := kK) (LOk.nil _)).use (D := []) ?_ hq
  show (fnT _ _ _ _ ((bA32).wr (s, ())) [] _).sat _
  rw [pub_tree secL shaF mbaseL encodeL]
  exact ⟨hn, secL_len s, rfl, rfl⟩
abbrev row64 : Cod LV (List Int) := vRow .u8 64
abbrev chA : Cod (List LV) (List Int × List Int × List Int × List Int × Unit) := lCons (vOne (sRd false false u8)) (lCons cB (lCons cB (lCons row64 lNil)))
def eCh (g : List Int → List Int → List Int → List Int → List Int) : Ent := Ent.ofS [some u8, none, none, none] chA lNil fun x _ => .leaf (some (x.2.1.length = 32 ∧ x.2.2.1.length = 32 ∧ x.2.2.2.1.length = 64)) (nRow .u8 32 (g x.1 x.2.1 x.2.2.1 x.2.2.2.1)) []
noncomputable def chalL (c r p m : List Int) : List Int := redB (shaF (preL c ++ (r ++ (p ++ m))))
theorem eight_by (x : Int) : AllBy (eightF x) := fun z hz => by
  obtain ⟨i, _, rfl⟩ := List.mem_map.1 hz
  rw [wrap_u8]; unfold By; omega
theorem sha_by (b : List Int) : AllBy (shaF b) := by
  have key : ∀ (l : List Nat) (s a : List Int), AllBy a → AllBy (l.foldl (fun a i => a ++ eightF (s.getD i 0)) a) := by
    intro l s
    induction l with
    | nil => exact fun a h => h
    | cons i l ih => exact fun a h => ih _ (h.append (eight_by _))
  exact key _ _ [] (fun z hz => by cases hz)
theorem bitAndNot_by (x y : Int) : By (bitAndNot .u8 x y) := by
  unfold bitAndNot By; rw [wrap_u8]; omega
theorem bitOr_by (x y : Int) : By (bitOr .u8 x y) := by
  unfold bitOr By
  show 0 ≤ IntKind.u8.wrap _ ∧ IntKind.u8.wrap _ < 256
  rw [wrap_u8]; omega
theorem allBy_set {l : List Int} (h : AllBy l) {i : Nat} {x : Int} (hx : By x) : AllBy (l.set i x) := fun z hz => by
  rcases List.mem_or_eq_of_mem_set hz with k | k
  · exact h z k
  · subst k; exact hx
theorem secL_by (s : List Int) : AllBy (secL s) := allBy_set (allBy_set ((sha_by s).take 32) (bitAndNot_by _ _)) (bitOr_by _ _)
theorem secL_ok (s : List Int) : okB (secL s) := ⟨secL_len s, secL_by s⟩
theorem redB_ok (b : List Int) : okB (redB b) := ⟨dg_length _ _, dg_in (by decide) _ _⟩
theorem pre_len (c : List Int) : (preL c).length ≤ 289 := by unfold preL domL; split <;> simp; omega
noncomputable abbrev chalE : Ent := eCh chalL
theorem chal_tree (sha pre red : List Int → List Int) (c r p m : List Int) : fnT Tryz.prog [(28, eSha sha), (10, ePre pre), (27, e64B red)] [] Tryz.f32 ((chA).wr (c, r, p, m, ())) [] kK =
  End.need ((0 : Int) ≤ (0 : Int) ∧ (0 : Int) ≤ (32 : Int) ∧ (32 : Int) ≤ (32 : Int)) (End.need ((0 : Int) ≤ (0 : Int) ∧ (0 : Int) ≤ (32 : Int) ∧ (32 :
  Int) ≤ (32 : Int)) (End.need ((0 : Int) ≤ (0 : Int) ∧ (0 : Int) ≤ (64 : Int) ∧ (64 : Int) ≤ (64 : Int)) (End.need ((4 : Nat) < (2305843009213693952 :
  Nat) ∧ [pre c, List.take (32 : Nat) (List.drop (0 : Nat) r), List.take (32 : Nat) (List.drop (0 : Nat) p), List.take (64 : Nat) (List.drop (0 : Nat)
  m)].flatten.length < (1152921504606846976 : Nat)) (End.need ((sha [pre c, List.take (32 : Nat) (List.drop (0 : Nat) r), List.take (32 : Nat) (List.drop
  (0 : Nat) p), List.take (64 : Nat) (List.drop (0 : Nat) m)].flatten).length = (64 : Nat) ∧ AllBy (sha [pre c, List.take (32 : Nat) (List.drop (0 : Nat)
  r), List.take (32 : Nat) (List.drop (0 : Nat) p), List.take (64 : Nat) (List.drop (0 : Nat) m)].flatten)) (End.leaf (LV.one (VV.agg [SV.arr (Ty.int
  IntKind.u8) (32 : Nat) (red (sha [pre c, List.take (32 : Nat) (List.drop (0 : Nat) r), List.take (32 : Nat) (List.drop (0 : Nat) p), List.take (64 :
  Nat) (List.drop (0 : Nat) m)].flatten))])) []))))) := by kernel_rfl
theorem chal_tab_ : ∀ p_ ∈ ([(28, eSha shaF), (10, ePre preL), (27, e64B redB)] : List (FuncId × Ent)), p_.2.Ok Tryz.prog p_.1 := (tabC of'_ok (tabC pre_ok (tabC sReduce_ok tab0)))
theorem chal_ok : chalE.Ok Tryz.prog 32 := by
  refine (Ent.ofOk Tryz.call32 fun x_ y_ Q H_ => ?_).sym
  obtain ⟨c, r, p, m, _⟩ := x_
  obtain ⟨hn, hq⟩ := H_
  have hn : r.length = 32 ∧ p.length = 32 ∧ m.length = 64 := hn
  refine (fnT_ok (tab := [(28, eSha shaF), (10, ePre preL), (27, e64B redB)]) mixed chal_tab_ Tryz.func32 rfl (LT := []) (ks := kK) (LOk.nil _)).use (D := []) ?_ hq
  show (fnT _ _ _ _ ((chA).wr (c, r, p, m, ())) [] _).sat _
  rw [chal_tree shaF preL redB]
  rw [take_all hn.1, take_all hn.2.1, take_all hn.2.2]
  have h1 := pre_len c
  have e : [preL c, r, p, m].flatten = preL c ++ (r ++ (p ++ m)) := by simp
  rw [e]
  refine ⟨by decide, by decide, by decide, ⟨by decide, by simp; omega⟩, ⟨sha_length _, sha_by _⟩, rfl, rfl⟩
abbrev siA : Cod (List LV) (List Int × List Int × List Int × Unit) := lCons cB (lCons (vOne (sRd false false u8)) (lCons row64 lNil))
abbrev nSi (r : List Int × Int) : LV := .tup [.agg [.arr (.int .u8) 64 r.1], .sc (.int .i64 (.sym r.2))]
def eSi (g : List Int → List Int → List Int → List Int × Int) : Ent := Ent.ofS [none, some u8, none] siA lNil fun x _ => .leaf (some (x.1.length = 32 ∧ x.2.2.1.length = 64)) (nSi (g x.1 x.2.1 x.2.2.1)) []
noncomputable def nonL (s c m : List Int) : List Int := redB (shaF (preL c ++ ((shaF s).drop 32 ++ m)))
noncomputable def sigL (s c m : List Int) : List Int := encodeL (mbaseL (nonL s c m)) ++ mulB (chalL c (encodeL (mbaseL (nonL s c m))) (pubL s) m) (secL s) (nonL s c m)
theorem signL_ex : ∃ f : List Int → List Int → List Int → List Int × Int, ∀ (s c m : List Int) , f s c m = (if c.length ≤ 255 then (sigL s c m, 0) else (List.replicate 64 0, 1)) := ⟨fun s c m => if c.length ≤ 255 then (sigL s c m, 0) else (List.replicate 64 0, 1), fun _ _ _ => rfl⟩
noncomputable def signL : List Int → List Int → List Int → List Int × Int := Classical.choose signL_ex
theorem signL_eq (s c m : List Int)  : signL s c m = (if c.length ≤ 255 then (sigL s c m, 0) else (List.replicate 64 0, 1)) := Classical.choose_spec signL_ex s c m
theorem encodeL_len (p : Pt) : (encodeL p).length = 32 := Vec.toList_length _
theorem pubL_len (s : List Int) : (pubL s).length = 32 := by unfold pubL; exact encodeL_len _
theorem chalL_ok (c r p m : List Int) : okB (chalL c r p m) := by unfold chalL; exact redB_ok _
theorem mulB_len (a b c : List Int) : (mulB a b c).length = 32 := dg_length _ _
theorem sign_tree0 (sec sha pre red : List Int → List Int) (mb : List Int → Pt) (en : Pt → List Int) (pub : List Int → List Int) (ch : List Int → List Int → List Int → List Int → List Int) (mul : List Int → List Int → List Int → List Int) (s c m : List Int) : fnT Tryz.prog [(26, ePa sec sha), (28, eSha sha), (10, ePre pre), (27, e64B red), (29, eMb mb), (30, eEn en), (12, ePub pub), (32, eCh ch), (31, eB3 mul), (33, eCat)] [] Tryz.f8 (siA.wr (s, c, m, ())) [] [.fr [.sym], .auto] =
  End.ite (decide ((255 : Int) < (↑c.length : Int))) (End.leaf (LV.tup [VV.agg [SV.arr (Ty.int IntKind.u8) (64 : Nat) (List.replicate (64 : Nat) (0 :
  Int))], VV.sc (SV.int IntKind.i64 (SI.sym (1 : Int)))]) []) (End.need (s.length = (32 : Nat)) (End.need ((0 : Int) ≤ (0 : Int) ∧ (0 : Int) ≤ (64 : Int)
  ∧ (64 : Int) ≤ (64 : Int)) (End.need ((3 : Nat) < (2305843009213693952 : Nat) ∧ [pre c, List.take (32 : Nat) (List.drop (32 : Nat) (sha s)), List.take
  (64 : Nat) (List.drop (0 : Nat) m)].flatten.length < (1152921504606846976 : Nat)) (End.need ((sha [pre c, List.take (32 : Nat) (List.drop (32 : Nat)
  (sha s)), List.take (64 : Nat) (List.drop (0 : Nat) m)].flatten).length = (64 : Nat) ∧ AllBy (sha [pre c, List.take (32 : Nat) (List.drop (32 : Nat)
  (sha s)), List.take (64 : Nat) (List.drop (0 : Nat) m)].flatten)) (End.need ((red (sha [pre c, List.take (32 : Nat) (List.drop (32 : Nat) (sha s)),
  List.take (64 : Nat) (List.drop (0 : Nat) m)].flatten)).length = (32 : Nat)) (End.need (s.length = (32 : Nat)) (End.need ((en (mb (red (sha [pre c,
  List.take (32 : Nat) (List.drop (32 : Nat) (sha s)), List.take (64 : Nat) (List.drop (0 : Nat) m)].flatten)))).length = (32 : Nat) ∧ (pub s).length =
  (32 : Nat) ∧ m.length = (64 : Nat)) (End.need (okB (ch c (en (mb (red (sha [pre c, List.take (32 : Nat) (List.drop (32 : Nat) (sha s)), List.take (64 :
  Nat) (List.drop (0 : Nat) m)].flatten)))) (pub s) m) ∧ okB (sec s) ∧ okB (red (sha [pre c, List.take (32 : Nat) (List.drop (32 : Nat) (sha s)),
  List.take (64 : Nat) (List.drop (0 : Nat) m)].flatten))) (End.need ((0 : Int) ≤ (0 : Int) ∧ (0 : Int) ≤ (32 : Int) ∧ (32 : Int) ≤ (32 : Int)) (End.need
  ((0 : Int) ≤ (0 : Int) ∧ (0 : Int) ≤ (32 : Int) ∧ (32 : Int) ≤ (32 : Int)) (End.need ([List.take (32 : Nat) (List.drop (0 : Nat) (en (mb (red (sha [pre
  c, List.take (32 : Nat) (List.drop (32 : Nat) (sha s)), List.take (64 : Nat) (List.drop (0 : Nat) m)].flatten))))), List.take (32 : Nat) (List.drop (0
  : Nat) (mul (ch c (en (mb (red (sha [pre c, List.take (32 : Nat) (List.drop (32 : Nat) (sha s)), List.take (64 : Nat) (List.drop (0 : Nat)
  m)].flatten)))) (pub s) m) (sec s) (red (sha [pre c, List.take (32 : Nat) (List.drop (32 : Nat) (sha s)), List.take (64 : Nat) (List.drop (0 : Nat)
  m)].flatten))))].flatten.length ≤ (70368744177664 : Nat) ∧ (2 : Nat) ≤ (140737488355328 : Nat)) (End.need ((64 : Nat) ≤ [List.take (32 : Nat)
  (List.drop (0 : Nat) (en (mb (red (sha [pre c, List.take (32 : Nat) (List.drop (32 : Nat) (sha s)), List.take (64 : Nat) (List.drop (0 : Nat)
  m)].flatten))))), List.take (32 : Nat) (List.drop (0 : Nat) (mul (ch c (en (mb (red (sha [pre c, List.take (32 : Nat) (List.drop (32 : Nat) (sha s)),
  List.take (64 : Nat) (List.drop (0 : Nat) m)].flatten)))) (pub s) m) (sec s) (red (sha [pre c, List.take (32 : Nat) (List.drop (32 : Nat) (sha s)),
  List.take (64 : Nat) (List.drop (0 : Nat) m)].flatten))))].flatten.length) (End.need ((64 : Nat) ≤ [List.take (32 : Nat) (List.drop (0 : Nat) (en (mb
  (red (sha [pre c, List.take (32 : Nat) (List.drop (32 : Nat) (sha s)), List.take (64 : Nat) (List.drop (0 : Nat) m)].flatten))))), List.take (32 : Nat)
  (List.drop (0 : Nat) (mul (ch c (en (mb (red (sha [pre c, List.take (32 : Nat) (List.drop (32 : Nat) (sha s)), List.take (64 : Nat) (List.drop (0 :
  Nat) m)].flatten)))) (pub s) m) (sec s) (red (sha [pre c, List.take (32 : Nat) (List.drop (32 : Nat) (sha s)), List.take (64 : Nat) (List.drop (0 :
  Nat) m)].flatten))))].flatten.length) (End.leaf (LV.tup [VV.agg [SV.arr (Ty.int IntKind.u8) (64 : Nat) (List.take (64 : Nat) (List.drop (0 : Nat)
  [List.take (32 : Nat) (List.drop (0 : Nat) (en (mb (red (sha [pre c, List.take (32 : Nat) (List.drop (32 : Nat) (sha s)), List.take (64 : Nat)
  (List.drop (0 : Nat) m)].flatten))))), List.take (32 : Nat) (List.drop (0 : Nat) (mul (ch c (en (mb (red (sha [pre c, List.take (32 : Nat) (List.drop
  (32 : Nat) (sha s)), List.take (64 : Nat) (List.drop (0 : Nat) m)].flatten)))) (pub s) m) (sec s) (red (sha [pre c, List.take (32 : Nat) (List.drop (32
  : Nat) (sha s)), List.take (64 : Nat) (List.drop (0 : Nat) m)].flatten))))].flatten))], VV.sc (SV.int IntKind.i64 (SI.sym (0 : Int)))])
  [])))))))))))))) := by kernel_rfl
theorem sign_sat (sec sha pre red : List Int → List Int) (mb : List Int → Pt) (en : Pt → List Int) (pub : List Int → List Int) (ch : List Int → List Int → List Int → List Int → List Int) (mul : List Int → List Int → List Int → List Int) {s c m : List Int} (hs : s.length = 32) (hm : m.length = 64) (h1 : ∀ b, (sha b).length = 64) (h2 : ∀ b, AllBy (sha b)) (h3 : ∀ b, okB (red b)) (h4 : ∀ q, (en q).length = 32) (h5 : (pub s).length = 32) (h6 : ∀ a b c d, okB (ch a b c d)) (h7 : okB (sec s)) (h8 : ∀ a b c, (mul a b c).length = 32) (h9 : (pre c).length ≤ 289) :
    ∃ t_ : Ev.End, fnT Tryz.prog [(26, ePa sec sha), (28, eSha sha), (10, ePre pre), (27, e64B red), (29, eMb mb), (30, eEn en), (12, ePub pub), (32, eCh ch), (31, eB3 mul), (33, eCat)] [] Tryz.f8 (siA.wr (s, c, m, ())) [] [.fr [.sym], .auto] = t_ ∧ t_.sat fun v hp' => v = nSi (if c.length ≤ 255 then (en (mb (red (sha (pre c ++ ((sha s).drop 32 ++ m))))) ++ mul (ch c (en (mb (red (sha (pre c ++ ((sha s).drop 32 ++ m)))))) (pub s) m) (sec s) (red (sha (pre c ++ ((sha s).drop 32 ++ m)))), 0) else (List.replicate 64 0, 1)) ∧ hp' = [] := by
  refine ⟨_, sign_tree0 .., ?_⟩
  have e1 : List.take 32 (List.drop 32 (sha s)) = (sha s).drop 32 := List.take_of_length_le (by rw [List.length_drop, h1]; decide)
  have e2 : List.take 64 (List.drop 0 m) = m := take_all hm
  have e3 : [pre c, (sha s).drop 32, m].flatten = pre c ++ ((sha s).drop 32 ++ m) := by simp
  rw [e1, e2, e3]
  have l1 : (pre c ++ ((sha s).drop 32 ++ m)).length < 1152921504606846976 := by simp [h1, hm]; omega
  have l2 := h3 (sha (pre c ++ ((sha s).drop 32 ++ m)))
  generalize red (sha (pre c ++ ((sha s).drop 32 ++ m))) = n at *
  have l3 : ∀ {l : List Int}, l.length = 32 → List.take 32 (List.drop 0 l) = l := fun h => take_all h
  rw [l3 (h4 _), l3 (h8 _ _ _)]
  have l4 : ∀ a b : List Int, [a, b].flatten = a ++ b := fun a b => by simp
  have l5 : (en (mb n) ++ mul (ch c (en (mb n)) (pub s) m) (sec s) n).length = 64 := by rw [List.length_append, h4, h8]
  rw [l4, take_all l5]
  refine ⟨fun h => ?_, fun h => ?_⟩
  · have h := of_decide_eq_true h
    rw [if_neg (by omega)]; exact ⟨rfl, rfl⟩
  · have h := of_decide_eq_false h
    rw [if_pos (by omega)]
    exact ⟨hs, by decide, ⟨by decide, l1⟩, ⟨h1 _, h2 _⟩, l2.1, hs, ⟨h4 _, h5, hm⟩, ⟨h6 _ _ _ _, h7, l2⟩, by decide, by decide, ⟨by omega, by decide⟩, by omega, by omega, rfl, rfl⟩
theorem signRes_eq (s c m : List Int) : signL s c m = (if c.length ≤ 255 then (encodeL (mbaseL (redB (shaF (preL c ++ ((shaF s).drop 32 ++ m))))) ++ mulB (chalL c (encodeL (mbaseL (redB (shaF (preL c ++ ((shaF s).drop 32 ++ m)))))) (pubL s) m) (secL s) (redB (shaF (preL c ++ ((shaF s).drop 32 ++ m)))), 0) else (List.replicate 64 0, 1)) := by rw [signL_eq, sigL, nonL]
noncomputable abbrev signE : Ent := eSi signL
theorem sign_tab_ : ∀ p_ ∈ ([(26, ePa secL shaF), (28, eSha shaF), (10, ePre preL), (27, e64B redB), (29, eMb mbaseL), (30, eEn encodeL), (12, ePub pubL), (32, eCh chalL), (31, eB3 mulB), (33, eCat)] : List (FuncId × Ent)), p_.2.Ok Tryz.prog p_.1 := (tabC sparts_ok (tabC of'_ok (tabC pre_ok (tabC sReduce_ok (tabC mbase_ok (tabC qencode_ok (tabC pub_ok (tabC chal_ok (tabC sMulAdd_ok (tabC cat'_ok tab0))))))))))
theorem sign_ok : signE.Ok Tryz.prog 8 := by
  refine (Ent.ofOk Tryz.call8 fun x_ y_ Q H_ => ?_).sym
  obtain ⟨s, c, m, _⟩ := x_
  obtain ⟨hn, hq⟩ := H_
  have hn : s.length = 32 ∧ m.length = 64 := hn
  have hc_ : CallsT Tryz.prog 8 ((siA).wr (s, c, m, ())) [] (fnT Tryz.prog [(26, ePa secL shaF), (28, eSha shaF), (10, ePre preL), (27, e64B redB), (29, eMb mbaseL), (30, eEn encodeL), (12, ePub pubL), (32, eCh chalL), (31, eB3 mulB), (33, eCat)] [] Tryz.f8 ((siA).wr (s, c, m, ())) [] [.fr [.sym], .auto]) := fnT_ok mixed sign_tab_ Tryz.func8 rfl (LOk.nil _)
  obtain ⟨t_, ht_, hs_⟩ := sign_sat secL shaF preL redB mbaseL encodeL pubL chalL mulB hn.1 hn.2 sha_length sha_by redB_ok encodeL_len (pubL_len s) chalL_ok (secL_ok s) mulB_len (pre_len c)
  rw [← signRes_eq s c m] at hs_
  rw [ht_] at hc_
  exact hc_.use (D := []) hs_ hq
abbrev veA : Cod (List LV) (List Int × List Int × List Int × List Int × Unit) := lCons cB (lCons (vOne (sRd false false u8)) (lCons row64 (lCons row64 lNil)))
def eVe (g : List Int → List Int → List Int → List Int → Bool) : Ent := Ent.ofS [none, some u8, none, none] veA lNil fun x _ => .leaf (some (x.1.length = 32 ∧ x.2.2.1.length = 64 ∧ x.2.2.2.1.length = 64 ∧ AllBy x.2.2.2.1)) (nB (g x.1 x.2.1 x.2.2.1 x.2.2.2.1)) []
theorem verL_ex : ∃ f : List Int → List Int → List Int → List Int → Bool, ∀ (p c m g : List Int) , f p c m g = ((decodeL p).2 && (decide (c.length ≤ 255) && (canB (g.drop 32) && decide (encodeL (twoL (chalL c (g.take 32) p m) (negPC (decodeL p).1) (g.drop 32)) = g.take 32)))) := ⟨fun p c m g => (decodeL p).2 && (decide (c.length ≤ 255) && (canB (g.drop 32) && decide (encodeL (twoL (chalL c (g.take 32) p m) (negPC (decodeL p).1) (g.drop 32)) = g.take 32))), fun _ _ _ _ => rfl⟩
noncomputable def verL : List Int → List Int → List Int → List Int → Bool := Classical.choose verL_ex
theorem verL_eq (p c m g : List Int)  : verL p c m g = ((decodeL p).2 && (decide (c.length ≤ 255) && (canB (g.drop 32) && decide (encodeL (twoL (chalL c (g.take 32) p m) (negPC (decodeL p).1) (g.drop 32)) = g.take 32)))) := Classical.choose_spec verL_ex p c m g
theorem take32 {l : List Int} (h : l.length = 32) : List.take 32 (List.drop 0 l) = l := take_all h
theorem verify_tree0 (de : List Int → Pt × Bool) (can : List Int → Bool) (two : List Int → Pt → List Int → Pt) (ch : List Int → List Int → List Int → List Int → List Int) (neg : Pt → Pt) (en : Pt → List Int) (p c m g : List Int) : fnT Tryz.prog [(42, eDe de), (43, eBB can), (44, eTw two), (32, eCh ch), (45, e1Q neg), (30, eEn en)] [] Tryz.f15 (veA.wr (p, c, m, g, ())) [] kK =
  End.need ((0 : Int) ≤ (0 : Int) ∧ (0 : Int) ≤ (32 : Int) ∧ (32 : Int) ≤ (64 : Int)) (End.need ((32 : Nat) ≤ (List.take (32 : Nat) (List.drop (0 : Nat)
  g)).length) (End.need ((32 : Nat) ≤ (List.take (32 : Nat) (List.drop (0 : Nat) g)).length) (End.need ((0 : Int) ≤ (32 : Int) ∧ (32 : Int) ≤ (64 : Int)
  ∧ (64 : Int) ≤ (64 : Int)) (End.need ((32 : Nat) ≤ (List.take (32 : Nat) (List.drop (32 : Nat) g)).length) (End.need ((32 : Nat) ≤ (List.take (32 :
  Nat) (List.drop (32 : Nat) g)).length) (End.need (p.length = (32 : Nat)) (End.ite ((!(de p).snd) == false) (End.ite (decide ((255 : Int) < (↑c.length :
  Int)) == false) (End.need (okB (List.take (32 : Nat) (List.drop (0 : Nat) (List.take (32 : Nat) (List.drop (32 : Nat) g))))) (End.ite (!can (List.take
  (32 : Nat) (List.drop (0 : Nat) (List.take (32 : Nat) (List.drop (32 : Nat) g))))) (End.leaf (LV.one (VV.sc (SV.bool (SB.sym false)))) []) (End.need
  ((List.take (32 : Nat) (List.drop (0 : Nat) (List.take (32 : Nat) (List.drop (0 : Nat) g)))).length = (32 : Nat) ∧ p.length = (32 : Nat) ∧ m.length =
  (64 : Nat)) (End.need ((ch c (List.take (32 : Nat) (List.drop (0 : Nat) (List.take (32 : Nat) (List.drop (0 : Nat) g)))) p m).length = (32 : Nat) ∧
  (List.take (32 : Nat) (List.drop (0 : Nat) (List.take (32 : Nat) (List.drop (32 : Nat) g)))).length = (32 : Nat)) (End.leaf (LV.one (VV.sc (SV.bool
  (SB.sym (decide (en (two (ch c (List.take (32 : Nat) (List.drop (0 : Nat) (List.take (32 : Nat) (List.drop (0 : Nat) g)))) p m) (neg (de p).fst)
  (List.take (32 : Nat) (List.drop (0 : Nat) (List.take (32 : Nat) (List.drop (32 : Nat) g))))) = List.take (32 : Nat) (List.drop (0 : Nat) (List.take
  (32 : Nat) (List.drop (0 : Nat) g))))))))) []))))) (End.leaf (LV.one (VV.sc (SV.bool (SB.sym false)))) [])) (End.leaf (LV.one (VV.sc (SV.bool (SB.sym
  false)))) [])))))))) := by kernel_rfl
theorem verify_sat (de : List Int → Pt × Bool) (can : List Int → Bool) (two : List Int → Pt → List Int → Pt) (ch : List Int → List Int → List Int → List Int → List Int) (neg : Pt → Pt) (en : Pt → List Int) {p c m g : List Int} (h1 : p.length = 32) (h2 : m.length = 64) (h3 : g.length = 64) (h4 : AllBy g) (h5 : ∀ a b c d, (ch a b c d).length = 32) :
    ∃ t_ : Ev.End, fnT Tryz.prog [(42, eDe de), (43, eBB can), (44, eTw two), (32, eCh ch), (45, e1Q neg), (30, eEn en)] [] Tryz.f15 (veA.wr (p, c, m, g, ())) [] kK = t_ ∧ t_.sat fun v hp' => v = nB ((de p).2 && (decide (c.length ≤ 255) && (can (g.drop 32) && decide (en (two (ch c (g.take 32) p m) (neg (de p).1) (g.drop 32)) = g.take 32)))) ∧ hp' = [] := by
  refine ⟨_, verify_tree0 .., ?_⟩
  have l1 : (g.take 32).length = 32 := by rw [List.length_take, h3]; decide
  have l2 : (g.drop 32).length = 32 := by rw [List.length_drop, h3]
  have e1 : List.take 32 (List.drop 32 g) = g.drop 32 := List.take_of_length_le (by omega)
  have e2 : List.take 32 (List.drop 0 g) = g.take 32 := by rw [List.drop_zero]
  rw [e1, e2, take32 l1, take32 l2]
  have hb : AllBy (g.drop 32) := h4.drop 32
  generalize de p = d at *
  generalize g.take 32 = r at *
  generalize g.drop 32 = s at *
  obtain ⟨a, ok⟩ := d
  refine ⟨by decide, by omega, by omega, by decide, by omega, by omega, h1, ?_⟩
  cases ok
  · exact ⟨fun h => (by cases h), fun _ => ⟨rfl, rfl⟩⟩
  · refine ⟨fun _ => ⟨fun h => ⟨⟨l2, hb⟩, fun h' => ?_, fun h' => ⟨⟨l1, h1, h2⟩, ⟨h5 _ _ _ _, l2⟩, ?_, rfl⟩⟩, fun h => ?_⟩, fun h => (by cases h)⟩
    · have h' : can s = false := by simpa using h'
      rw [h']; simp; exact ⟨rfl, rfl⟩
    · have h' : can s = true := by simpa using h'
      have h : c.length ≤ 255 := by simp at h; omega
      rw [h', decide_eq_true h]; simp
    · have h : ¬ c.length ≤ 255 := by simp at h; omega
      rw [decide_eq_false h]; simp; exact ⟨rfl, rfl⟩
noncomputable abbrev verifyE : Ent := eVe verL
theorem verify_tab_ : ∀ p_ ∈ ([(42, eDe decodeL), (43, eBB canB), (44, eTw twoL), (32, eCh chalL), (45, e1Q negPC), (30, eEn encodeL)] : List (FuncId × Ent)), p_.2.Ok Tryz.prog p_.1 := (tabC qdecode_ok (tabC sCanon_ok (tabC mtwo_ok (tabC chal_ok (tabC qneg_ok (tabC qencode_ok tab0))))))
theorem verify_ok : verifyE.Ok Tryz.prog 15 := by
  refine (Ent.ofOk Tryz.call15 fun x_ y_ Q H_ => ?_).sym
  obtain ⟨p, c, m, g, _⟩ := x_
  obtain ⟨hn, hq⟩ := H_
  have hn : p.length = 32 ∧ m.length = 64 ∧ g.length = 64 ∧ AllBy g := hn
  have hc_ : CallsT Tryz.prog 15 ((veA).wr (p, c, m, g, ())) [] (fnT Tryz.prog [(42, eDe decodeL), (43, eBB canB), (44, eTw twoL), (32, eCh chalL), (45, e1Q negPC), (30, eEn encodeL)] [] Tryz.f15 ((veA).wr (p, c, m, g, ())) [] kK) := fnT_ok mixed verify_tab_ Tryz.func15 rfl (LOk.nil _)
  obtain ⟨t_, ht_, hs_⟩ := verify_sat decodeL canB twoL chalL negPC encodeL hn.1 hn.2.1 hn.2.2.1 hn.2.2.2 (fun a b c d => (chalL_ok a b c d).1)
  rw [← verL_eq p c m g] at hs_
  rw [ht_] at hc_
  exact hc_.use (D := []) hs_ hq
end Go.Proofs.YthdfifcgobfgdaaGreat
end

section
set_option linter.unusedVariables false
set_option linter.unusedSimpArgs false
namespace BJ
abbrev N4 := Nat × Nat × Nat × Nat
def mulN (a b : Nat) : Nat := a * b % pp
def addN (a b : Nat) : Nat := (a + b) % pp
def subN (a b : Nat) : Nat := (pp - b + a) % pp
def ddN : Nat := 37095705934669439343138083508754565189542113879843219016388785533085940283555
def plusN (p q : N4) : N4 :=
  let a := mulN (subN p.2.1 p.1) (subN q.2.1 q.1)
  let b := mulN (addN p.2.1 p.1) (addN q.2.1 q.1)
  let c := addN (mulN (mulN p.2.2.2 q.2.2.2) ddN) (mulN (mulN p.2.2.2 q.2.2.2) ddN)
  let d := addN (mulN p.2.2.1 q.2.2.1) (mulN p.2.2.1 q.2.2.1)
  (mulN (subN b a) (subN d c), mulN (addN d c) (addN b a), mulN (subN d c) (addN d c), mulN (subN b a) (addN b a))
def vals (p : E4) : N4 := (p.1.val, p.2.1.val, p.2.2.1.val, p.2.2.2.val)
theorem plusN_vals (p q : E4) : plusN (vals p) (vals q) = vals (addE p q) := by
  have hd : dd.val = ddN := rfl
  simp only [plusN, vals, addE, mulN, addN, subN, Fin.val_mul, Fin.val_add, Fin.sub_def, hd]
def stepN (V : Nat) (p : N4) (k : Nat) (r : N4) : N4 := bif Nat.beq (V / 2 ^ (255 - k) % 2) 1 then plusN (plusN r r) p else plusN r r
end BJ
namespace Go.Proofs.YthdfifcgobfgdaaGreat
open Go Go.Ev BJ
theorem stepN_vals (V : Nat) (p : E4) (k : Nat) (r : E4) : stepN V (vals p) k (vals r) = vals (stepE4 V p k r) := by
  unfold stepN stepE4 bitE
  rw [plusN_vals, plusN_vals]
  by_cases h : V / 2 ^ (255 - k) % 2 = 1
  · rw [decide_eq_true h, h]; rfl
  · have e : Nat.beq (V / 2 ^ (255 - k) % 2) 1 = false := by
      cases e : Nat.beq (V / 2 ^ (255 - k) % 2) 1 with
      | false => rfl
      | true => exact absurd (Nat.eq_of_beq_eq_true e) h
    rw [decide_eq_false h, e]; rfl
def zeroN : N4 := (0, 1, 1, 0)
def baseN : N4 := (15112221349535400772501151409588531511454012693041857206046113283949847762202, 46316835694926478169428394003475163141307993866256225615783033603165251855960, 1, 46827403850823179245072216630277197565144205554125654976674165829533817101731)
theorem zeroN_eq : zeroN = vals zeroE := rfl
theorem baseN_eq : baseN = vals (affE baseX baseY) := by decide +kernel
def multN (V : Nat) : N4 := rnds (stepN V baseN) 256 zeroN
theorem multN_vals (V : Nat) : multN V = vals (multE V (affE baseX baseY)) := by
  have key : ∀ k, rnds (stepN V baseN) k zeroN = vals (rnds (stepE4 V (affE baseX baseY)) k zeroE) := by
    intro k
    induction k with
    | zero => exact zeroN_eq
    | succ k ih =>
      simp only [rnds]
      rw [ih, baseN_eq, stepN_vals]
  exact key 256
/-- a multiple of the base, reckoned: its two numbers, by what lies below -/
def isN (V x y : Nat) : Bool := (fun r : N4 => Nat.beq r.1 (mulN x r.2.2.1) && Nat.beq r.2.1 (mulN y r.2.2.1)) (multN V)
theorem isN_pt {V x y : Nat} (hV : V < 2 ^ 256) (hx : x < pp) (hy : y < pp) (h : isN V x y = true) : (nsm V baseP).x.val = x ∧ (nsm V baseP).y.val = y := by
  have hi : IsP (multE V (affE baseX baseY)) (nsm V baseP) := mult_isP hV (isP_aff baseP)
  unfold isN at h
  rw [multN_vals] at h
  generalize multE V (affE baseX baseY) = p at *
  generalize nsm V baseP = P at *
  obtain ⟨h0, h1, h2, _⟩ := hi
  simp only [Bool.and_eq_true] at h
  have e1 : p.1.val = x * p.2.2.1.val % pp := Nat.eq_of_beq_eq_true h.1
  have e2 : p.2.1.val = y * p.2.2.1.val % pp := Nat.eq_of_beq_eq_true h.2
  have f1 : p.1 = (⟨x, hx⟩ : F) * p.2.2.1 := Fin.ext (by rw [e1, Fin.val_mul])
  have f2 : p.2.1 = (⟨y, hy⟩ : F) * p.2.2.1 := Fin.ext (by rw [e2, Fin.val_mul])
  rw [h1] at f1
  rw [h2] at f2
  have c : ∀ {a b : F}, a * p.2.2.1 = b * p.2.2.1 → a = b := fun {a b} e => by
    have h3 : p.2.2.1 * F.inv p.2.2.1 = 1 := F.inv_mul h0
    have e' := congrArg (fun z => z * F.inv p.2.2.1) e
    grobner
  exact ⟨by rw [c f1], by rw [c f2]⟩
def llN : Nat := 7237005577332262213973186563042994240857116359379907606001950938285454250989
theorem order_raw : isN llN 0 1 = true := by decide +kernel
theorem order_zero : nsm llN baseP = BJ.Pt.zero := by
  obtain ⟨h1, h2⟩ := isN_pt (V := llN) (by decide) (by decide) (by decide) order_raw
  exact BJ.Pt.ext' (Fin.ext h1) (Fin.ext h2)
theorem base_ne : baseP ≠ BJ.Pt.zero := fun h => by
  have := congrArg (fun P : BJ.Pt => P.x.val) h
  revert this
  decide
theorem nsm_mul_zero {m : Nat} (h : nsm m baseP = BJ.Pt.zero) (k : Nat) : nsm (k * m) baseP = BJ.Pt.zero := by
  rw [nsm_mul, h, nsm_zero]
theorem order_abs {n a : Nat} (hr : Root n a) (hz : nsm n baseP = BJ.Pt.zero) {m : Nat} (hm : nsm m baseP = BJ.Pt.zero) : m % n = 0 := by
  refine Classical.byContradiction fun h => base_ne ?_
  have hf := hr.fermat h
  have hn := hr.1
  have e : m ^ (n - 1) = m ^ (n - 2) * m := by rw [← Nat.pow_succ]; congr 1; omega
  have h1 : nsm (m ^ (n - 1)) baseP = BJ.Pt.zero := by rw [e]; exact nsm_mul_zero hm _
  have h2 : m ^ (n - 1) = m ^ (n - 1) / n * n + 1 := by
    have := Nat.div_add_mod (m ^ (n - 1)) n
    rw [hf, Nat.mul_comm] at this; exact this.symm
  rw [h2, nsm_add, nsm_mul_zero hz, nsm_one, BJ.Pt.zero_add] at h1
  exact h1
theorem order_dvd {m : Nat} (hm : nsm m baseP = BJ.Pt.zero) : m % llN = 0 := order_abs r7237005577332262213973186563042994240857116359379907606001950938285454250989 order_zero hm
theorem nsm_mod_abs {n : Nat} (hz : nsm n baseP = BJ.Pt.zero) (m : Nat) : nsm (m % n) baseP = nsm m baseP := by
  have h2 : m = m / n * n + m % n := by
    have := Nat.div_add_mod m n
    rw [Nat.mul_comm] at this; exact this.symm
  conv => rhs; rw [h2, nsm_add, nsm_mul_zero hz, BJ.Pt.zero_add]
theorem nsm_mod (m : Nat) : nsm (m % llN) baseP = nsm m baseP := nsm_mod_abs order_zero m
theorem nsm_inj_abs {n a : Nat} (hr : Root n a) (hz : nsm n baseP = BJ.Pt.zero) {k m : Nat} (h1 : k < n) (h2 : m < n) (h : nsm k baseP = nsm m baseP) : k = m := by
  have key : ∀ {k m : Nat}, k < n → m < n → k ≤ m → nsm k baseP = nsm m baseP → k = m := fun {k m} h1 h2 hle h => by
    have e : nsm (m - k) baseP = BJ.Pt.zero := by
      have e1 : m = k + (m - k) := by omega
      rw [e1, nsm_add] at h
      have e2 : (nsm k baseP).add BJ.Pt.zero = (nsm k baseP).add (nsm (m - k) baseP) := by rw [BJ.Pt.add_zero]; exact h
      exact (add_left e2).symm
    have := order_abs hr hz e
    rw [Nat.mod_eq_of_lt (by omega)] at this
    omega
  rcases Nat.le_total k m with h3 | h3
  · exact key h1 h2 h3 h
  · exact (key h2 h1 h3 h.symm).symm
theorem nsm_inj {k m : Nat} (h1 : k < llN) (h2 : m < llN) (h : nsm k baseP = nsm m baseP) : k = m := nsm_inj_abs r7237005577332262213973186563042994240857116359379907606001950938285454250989 order_zero h1 h2 h
end Go.Proofs.YthdfifcgobfgdaaGreat
end

section
set_option linter.unusedVariables false
set_option linter.unusedSimpArgs false
namespace Go.Proofs.YthdfifcgobfgdaaGreat
open Go Go.Ev BJ
theorem okV {n : Nat} : ∀ {v : Vec Int n}, OkB v → AllBy v.toList ∧ vd 256 v.toList = valB v := by
  induction n with
  | zero => exact fun {v} _ => ⟨(fun z hz => by cases hz), rfl⟩
  | succ n ih =>
    intro v h
    obtain ⟨h1, h2⟩ := ih h.2
    refine ⟨fun z hz => ?_, ?_⟩
    · rcases List.mem_cons.1 hz with rfl | hz
      · exact h.1
      · exact h1 z hz
    · show v.1 + 256 * vd 256 v.2.toList = v.1 + 256 * valB v.2
      rw [h2]
theorem okB_v32 {l : List Int} (h : okB l) : OkB (v32 l) ∧ valB (v32 l) = vd 256 l := by
  have h1 : OkB (v32 l) := OkB_ofFn fun i _ => InB.getD (by decide) h.2 i
  have := (okV h1).2
  rw [v32_toList h.1] at this
  exact ⟨h1, this.symm⟩
noncomputable def sc (n : List Int) : Nat := (vd 256 n).toNat
theorem rep_multL {n : List Int} (hn : okB n) {p : Pt} {P : BJ.Pt} (hp : Rep p P) : Rep (multL n p) (nsm (sc n) P) := by
  obtain ⟨h1, h2⟩ := okB_v32 hn
  rw [multL_eq, sc, ← h2]; exact rep_mult h1 hp
theorem rep_mbaseL {n : List Int} (hn : okB n) : Rep (mbaseL n) (nsm (sc n) baseP) := rep_multL hn rep_base
theorem rep_twoL {n m : List Int} (hn : okB n) (hm : okB m) {p : Pt} {P : BJ.Pt} (hp : Rep p P) : Rep (twoL n p m) ((nsm (sc n) P).add (nsm (sc m) baseP)) := by
  obtain ⟨h1, h2⟩ := okB_v32 hn
  obtain ⟨h3, h4⟩ := okB_v32 hm
  rw [twoL_eq, sc, sc, ← h2, ← h4]; exact two_rep h1 h3 hp
noncomputable def encQ (P : BJ.Pt) : List Int := (encP P).toList
theorem encQ_ok (P : BJ.Pt) : okB (encQ P) := ⟨Vec.toList_length _, (okV (dec_encP P).1).1⟩
theorem encQ_inj {P Q : BJ.Pt} (h : encQ P = encQ Q) : P = Q := encP_inj (Vec.toList_inj h)
theorem enc_of {p : Pt} {P : BJ.Pt} (h : Rep p P) : encodeL p = encQ P := by unfold encodeL encQ; rw [rep_enc h]
theorem dec_of (P : BJ.Pt) : (decodeL (encQ P)).2 = true ∧ Rep (decodeL (encQ P)).1 P := by
  obtain ⟨h1, h2⟩ := dec_encP P
  obtain ⟨d1, d2, d3⟩ := decode_pt h1
  unfold decodeL encQ
  rw [v32_of]
  refine ⟨by rw [d3, h2], d1, ?_⟩
  rw [d2, h2]; exact isP_aff P
theorem sc_dg {x : Int} (h : 0 ≤ x ∧ x < ll) : sc (dg 256 32 x) = x.toNat := by
  have e : ll < 256 ^ 32 := by decide +kernel
  unfold sc
  rw [vd_dg (by decide), Int.emod_eq_of_lt h.1 (by omega)]
theorem llN_eq : ((llN : Nat) : Int) = ll := rfl
theorem sc_mulB {a b c : List Int} (ha : okB a) (hb : okB b) (hc : okB c) : sc (mulB a b c) = (sc a * sc b + sc c) % llN := by
  unfold mulB
  rw [sc_dg ⟨Int.emod_nonneg _ (by have := ll_pos; omega), Int.emod_lt_of_pos _ ll_pos⟩]
  have h1 := ha.range.1
  have h2 := hb.range.1
  have h3 := hc.range.1
  unfold sc
  obtain ⟨x, hx⟩ := Int.eq_ofNat_of_zero_le h1
  obtain ⟨y, hy⟩ := Int.eq_ofNat_of_zero_le h2
  obtain ⟨z, hz⟩ := Int.eq_ofNat_of_zero_le h3
  rw [hx, hy, hz, ← llN_eq]
  simp only [Int.toNat_natCast]
  rw [← Int.natCast_mul, ← Int.natCast_add, ← Int.natCast_emod, Int.toNat_natCast]
theorem mulB_lt (a b c : List Int) : okB (mulB a b c) ∧ sc (mulB a b c) < llN := by
  refine ⟨⟨dg_length _ _, dg_in (by decide) _ _⟩, ?_⟩
  unfold mulB
  have h1 := Int.emod_nonneg (vd 256 a * vd 256 b + vd 256 c) (show ll ≠ 0 by have := ll_pos; omega)
  have h2 := Int.emod_lt_of_pos (vd 256 a * vd 256 b + vd 256 c) ll_pos
  rw [sc_dg ⟨h1, h2⟩]
  have := llN_eq
  omega
theorem canB_iff {s : List Int} (h : okB s) : canB s = true ↔ sc s < llN := by
  unfold canB sc
  have h1 := h.range.1
  have := llN_eq
  rw [decide_eq_true_iff]
  omega
theorem okB_ext {a b : List Int} (ha : okB a) (hb : okB b) (h : sc a = sc b) : a = b := by
  refine vd_inj (B := 256) (by decide) ha.2 hb.2 (by rw [ha.1, hb.1]) ?_
  unfold sc at h
  have h1 := ha.range.1
  have h2 := hb.range.1
  omega
theorem add_neg_self (P : BJ.Pt) : P.neg.add P = BJ.Pt.zero := by rw [BJ.Pt.add_comm]; exact BJ.Pt.add_neg P
/-- of a signature's first half: a second half is verified just if it is the one that was signed -/
theorem ver_iff {s c m t : List Int} (hc : c.length ≤ 255) (ht : okB t) (hs : s.length = 32) :
    verL (pubL s) c m (encodeL (mbaseL (nonL s c m)) ++ t) = decide (t = mulB (chalL c (encodeL (mbaseL (nonL s c m))) (pubL s) m) (secL s) (nonL s c m)) := by
  have hn : okB (nonL s c m) := redB_ok _
  have hr := rep_mbaseL hn
  have er := enc_of hr
  have ha := rep_mbaseL (secL_ok s)
  have ep : pubL s = encQ (nsm (sc (secL s)) baseP) := enc_of ha
  obtain ⟨d1, d2⟩ := dec_of (nsm (sc (secL s)) baseP)
  rw [← ep] at d1 d2
  have hk : okB (chalL c (encodeL (mbaseL (nonL s c m))) (pubL s) m) := chalL_ok _ _ _ _
  have hrl : (encodeL (mbaseL (nonL s c m))).length = 32 := encodeL_len _
  have t1 : (encodeL (mbaseL (nonL s c m)) ++ t).take 32 = encodeL (mbaseL (nonL s c m)) := by rw [List.take_left' hrl]
  have t2 : (encodeL (mbaseL (nonL s c m)) ++ t).drop 32 = t := by rw [List.drop_left' hrl]
  rw [verL_eq, t1, t2, d1, decide_eq_true hc, Bool.true_and, Bool.true_and]
  have h2 := rep_twoL hk ht (rep_neg d2)
  have e2 := enc_of h2
  rw [e2]
  have hmul := sc_mulB hk (secL_ok s) hn
  obtain ⟨hm1, hm2⟩ := mulB_lt (chalL c (encodeL (mbaseL (nonL s c m))) (pubL s) m) (secL s) (nonL s c m)
  generalize mulB (chalL c (encodeL (mbaseL (nonL s c m))) (pubL s) m) (secL s) (nonL s c m) = z at *
  generalize chalL c (encodeL (mbaseL (nonL s c m))) (pubL s) m = k at *
  rw [er]
  generalize nonL s c m = n at *
  generalize secL s = a at *
  have key : (nsm (sc k) (nsm (sc a) baseP).neg).add (nsm (sc t) baseP) = nsm (sc n) baseP ↔ nsm (sc t) baseP = nsm (sc z) baseP := by
    have e3 : nsm (sc z) baseP = (nsm (sc k) (nsm (sc a) baseP)).add (nsm (sc n) baseP) := by
      rw [hmul, nsm_mod, nsm_add, nsm_mul]
    rw [e3, nsm_neg]
    generalize nsm (sc k) (nsm (sc a) baseP) = X
    constructor
    · intro h
      rw [← h, ← BJ.Pt.add_assoc, BJ.Pt.add_neg, BJ.Pt.zero_add]
    · intro h
      rw [h, ← BJ.Pt.add_assoc, add_neg_self, BJ.Pt.zero_add]
  by_cases h : t = z
  · subst h
    rw [decide_eq_true rfl, (canB_iff ht).2 hm2, key.2 rfl]
    simp
  · rw [decide_eq_false h]
    cases hcan : canB t with
    | false => rfl
    | true =>
      rw [Bool.true_and]
      refine decide_eq_false fun h' => h ?_
      exact okB_ext ht hm1 (nsm_inj ((canB_iff ht).1 hcan) hm2 (key.1 (encQ_inj h')))
theorem sig_half (s c m : List Int) : okB ((sigL s c m).drop 32) ∧ (sigL s c m).length = 64 ∧ AllBy (sigL s c m) := by
  unfold sigL
  have e := rep_mbaseL (show okB (nonL s c m) from redB_ok _)
  have h1 := encQ_ok (nsm (sc (nonL s c m)) baseP)
  rw [← enc_of e] at h1
  have h2 := (mulB_lt (chalL c (encodeL (mbaseL (nonL s c m))) (pubL s) m) (secL s) (nonL s c m)).1
  rw [List.drop_left' h1.1]
  exact ⟨h2, by rw [List.length_append, h1.1, h2.1], h1.2.append h2.2⟩
/-- of what was signed: another second half -/
theorem ver_half {s c m t : List Int} (hc : c.length ≤ 255) (ht : okB t) (hs : s.length = 32) : verL (pubL s) c m ((sigL s c m).take 32 ++ t) = decide (t = (sigL s c m).drop 32) := by
  unfold sigL
  have hrl : (encodeL (mbaseL (nonL s c m))).length = 32 := encodeL_len _
  rw [List.take_left' hrl, List.drop_left' hrl]
  exact ver_iff hc ht hs
theorem ver_sig {s c m : List Int} (hc : c.length ≤ 255) (hs : s.length = 32) : verL (pubL s) c m (sigL s c m) = true := by
  have := ver_half (m := m) hc (sig_half s c m).1 hs
  rw [List.take_append_drop] at this
  rw [this]; exact decide_eq_true rfl
theorem ver_long {p c m g : List Int} (hc : ¬ c.length ≤ 255) : verL p c m g = false := by
  rw [verL_eq, decide_eq_false hc, Bool.false_and, Bool.and_false]
end Go.Proofs.YthdfifcgobfgdaaGreat
end

section
set_option linter.unusedVariables false
set_option linter.unusedSimpArgs false
namespace Go.Proofs.YthdfifcgobfgdaaGreat
open Go Go.Ev BJ
set_option maxRecDepth 1000000
def eRo (g : List Int → List Int) : Ent := Ent.ofS [some u8] bA lNil fun x _ => .leaf (some (x.1.length ≤ 17592186044416)) (nRow .u8 64 (g x.1)) []
theorem rof_as : rofE = eRo rshaF := by kernel_rfl
theorem rof'_ok : (eRo rshaF).Ok Tryz.prog 36 := rof_as ▸ rof_ok
noncomputable abbrev rpreE : Ent := ePre preL
theorem rpre_tree (c : List Int) : fnT Tryz.prog [] [] Tryz.f11 (bA.wr (c, ())) [] [.ownF 0 u8, .auto, .vers] =
  End.ite (decide ((255 : Int) < (↑c.length : Int))) (End.leaf (LV.one (VV.sc (SV.sl (0 : Nat) (0 : Nat)))) [some (Item.own (0 : Nat) (Ty.int IntKind.u8)
  [])]) (End.need ((34 : Nat) ≤ (70368744177664 : Nat) ∧ (34 : Nat) ≤ (70368744177664 : Nat)) (End.need (((34 : Nat) + c.length) * (1 : Nat) ≤
  (70368744177664 : Nat) ∧ (34 : Nat) + c.length ≤ (70368744177664 : Nat)) (End.leaf (LV.one (VV.sc (SV.sl (0 : Nat) (0 : Nat)))) [some (Item.own (0 :
  Nat) (Ty.int IntKind.u8) ([(83 : Int), (105 : Int), (103 : Int), (69 : Int), (100 : Int), (50 : Int), (53 : Int), (53 : Int), (49 : Int), (57 : Int),
  (32 : Int), (110 : Int), (111 : Int), (32 : Int), (69 : Int), (100 : Int), (50 : Int), (53 : Int), (53 : Int), (49 : Int), (57 : Int), (32 : Int), (99
  : Int), (111 : Int), (108 : Int), (108 : Int), (105 : Int), (115 : Int), (105 : Int), (111 : Int), (110 : Int), (115 : Int)] ++ [(1 : Int),
  IntKind.u8.wrap (↑c.length : Int)] ++ c))]))) := by kernel_rfl
def ePa9 (sec salt : List Int → List Int) : Ent := Ent.ofS [] bA32 lNil fun x _ => .leaf (some (x.1.length = 32)) (.tup [.agg [.arr (.int .u8) 32 (sec x.1)], .sc (.sl 0 0)]) [(0, .own 0 u8 (salt x.1))]
def sec9 (h : List Int) : List Int := (((List.range 32).map fun i => h.getD i 0).set 0 (bitAnd .u8 (h.getD 0 0) 248)).set 31 (IntKind.u8.wrap (bitAnd .u8 (h.getD 31 0) 63 + 64))
theorem rparts_tree (sha : List Int → List Int) (s : List Int) : fnT Tryz.prog [(36, eRo sha)] [] Tryz.f34 (bA32.wr (s, ())) [] [.rowF 0 0 32 .u8, .auto, .vers] =
  .need ((0 : Int) ≤ 0 ∧ (0 : Int) ≤ 32 ∧ (32 : Int) ≤ 32) (.need ((List.take 32 (List.drop 0 s)).length ≤ 17592186044416) (.need ((0 : Int) ≤ 32 ∧ (32 : Int) ≤ 64 ∧ (64 : Int) ≤ 64) (.need ((List.take 32 (List.drop 32 (sha (List.take 32 (List.drop 0 s))))).length * 1 ≤ 70368744177664 ∧ (List.take 32 (List.drop 32 (sha (List.take 32 (List.drop 0 s))))).length ≤ 70368744177664)
    (.leaf (.tup [.agg [.arr (.int .u8) 32 (sec9 (sha (List.take 32 (List.drop 0 s))))], .sc (.sl 0 0)]) [some (.own 0 u8 (List.take 32 (List.drop 32 (sha (List.take 32 (List.drop 0 s))))))])))) := by kernel_rfl
theorem rpre_ok : rpreE.Ok Tryz.prog 11 := by
  refine (Ent.ofOk Tryz.call11 fun x_ y_ Q H_ => ?_).sym
  obtain ⟨c, _⟩ := x_
  refine (fnT_ok mixed tab0 Tryz.func11 rfl (LT := []) (ks := [.ownF 0 u8, .auto, .vers]) (LOk.nil _)).use (D := [(0, .own 0 u8 (preL c))]) ?_ H_.2
  show (fnT _ _ _ _ (bA.wr (c, ())) [] _).sat _
  rw [rpre_tree]
  refine ⟨fun h => ?_, fun h => ?_⟩
  · have h := of_decide_eq_true h
    have e : preL c = [] := if_neg (by omega)
    rw [e]; exact ⟨rfl, rfl⟩
  · have h := of_decide_eq_false h
    have e : preL c = domL ++ ([1, (c.length : Int)] ++ c) := if_pos (by omega)
    have ew : IntKind.u8.wrap (c.length : Int) = c.length := by rw [wrap_u8]; omega
    rw [e, ew]
    exact ⟨by decide, ⟨by omega, by omega⟩, rfl, rfl⟩
theorem byte_of {P : Int → Prop} (h : ∀ x : Fin 256, P (x.val : Int)) {x : Int} (hx : By x) : P x := by
  obtain ⟨n, rfl⟩ := Int.eq_ofNat_of_zero_le hx.1
  exact h ⟨n, by have := hx.2; omega⟩
theorem sec_low {x : Int} (hx : By x) : bitAnd .u8 x 248 = bitAndNot .u8 x 7 := byte_of (P := fun x => bitAnd .u8 x 248 = bitAndNot .u8 x 7) (by decide +kernel) hx
theorem sec_high {x : Int} (hx : By x) : IntKind.u8.wrap (bitAnd .u8 x 63 + 64) = bitOr .u8 (bitAndNot .u8 x 128) 64 := byte_of (P := fun x => IntKind.u8.wrap (bitAnd .u8 x 63 + 64) = bitOr .u8 (bitAndNot .u8 x 128) 64) (by decide +kernel) hx
theorem sec9_eq {h : List Int} (hb : AllBy h) (hl : h.length = 64) : sec9 h = secF h := by
  have e : (List.range 32).map (fun i => h.getD i 0) = h.take 32 := by
    have := map_getD_drop (l := h) (j := 0) (n := 32) (by omega)
    simp only [Nat.zero_add, List.drop_zero] at this
    exact this
  have g : ∀ k, k < 32 → (h.take 32).getD k 0 = h.getD k 0 := fun k hk => by
    rw [List.getD_eq_getElem?_getD, List.getElem?_take, if_pos hk, ← List.getD_eq_getElem?_getD]
  have lt : (h.take 32).length = 32 := by rw [List.length_take, hl]; decide
  unfold sec9 secF
  rw [e, getD_set (l := h.take 32) (i := 0) (by omega) _ 31, if_neg (by decide), g 0 (by decide), g 31 (by decide), sec_low (InB.getD (by decide) (show InB 256 h from hb) 0), sec_high (InB.getD (by decide) (show InB 256 h from hb) 31)]
noncomputable def salL (s : List Int) : List Int := (shaF s).drop 32
noncomputable abbrev rpartsE : Ent := ePa9 secL salL
theorem rparts_ok : rpartsE.Ok Tryz.prog 34 := by
  refine (Ent.ofOk Tryz.call34 fun x_ y_ Q H_ => ?_).sym
  obtain ⟨s, _⟩ := x_
  obtain ⟨hn, hq⟩ := H_
  have hn : s.length = 32 := hn
  refine (fnT_ok mixed (tabC rof'_ok tab0) Tryz.func34 rfl (LT := []) (ks := [.rowF 0 0 32 .u8, .auto, .vers]) (LOk.nil _)).use (D := [(0, .own 0 u8 (salL s))]) ?_ hq
  show (fnT _ _ _ _ (bA32.wr (s, ())) [] _).sat _
  rw [rparts_tree, take_all hn, ← sha_eq (by rw [hn]; decide)]
  have e1 : List.take 32 (List.drop 32 (shaF s)) = salL s := by unfold salL; exact List.take_of_length_le (by rw [List.length_drop, sha_length]; decide)
  have e2 : (salL s).length = 32 := by unfold salL; rw [List.length_drop, sha_length]
  rw [e1, sec9_eq (sha_by s) (sha_length s), e2]
  exact ⟨by decide, by rw [hn]; decide, by decide, by decide, rfl, rfl⟩
abbrev b4A : Cod (List LV) (List Int × List Int × List Int × List Int × Unit) := lCons (vOne (sRd false false u8)) (lCons (vOne (sRd false false u8)) (lCons (vOne (sRd false false u8)) (lCons (vOne (sRd false false u8)) lNil)))
def joinL (a b c d : List Int) : List Int := a ++ b ++ c ++ d
def small4 (a b c d : List Int) : Prop := a.length + b.length + c.length + d.length < 1000000
def eJo (g : List Int → List Int → List Int → List Int → List Int) : Ent := Ent.ofS [some u8, some u8, some u8, some u8] b4A lNil fun x _ => .leaf (some (small4 x.1 x.2.1 x.2.2.1 x.2.2.2.1)) (.one (.sc (.sl 0 0))) [(0, .own 0 u8 (g x.1 x.2.1 x.2.2.1 x.2.2.2.1))]
theorem rjoin_tree (a b c d : List Int) : fnT Tryz.prog [] [] Tryz.f37 (b4A.wr (a, b, c, d, ())) [] [.ownF 0 u8, .auto, .vers] =
  End.need (a.length * (1 : Nat) ≤ (70368744177664 : Nat) ∧ a.length ≤ (70368744177664 : Nat)) (End.need ((a.length + b.length) * (1 : Nat) ≤
  (70368744177664 : Nat) ∧ a.length + b.length ≤ (70368744177664 : Nat)) (End.need (((a ++ b).length + c.length) * (1 : Nat) ≤ (70368744177664 : Nat) ∧
  (a ++ b).length + c.length ≤ (70368744177664 : Nat)) (End.need (((a ++ b ++ c).length + d.length) * (1 : Nat) ≤ (70368744177664 : Nat) ∧ (a ++ b ++
  c).length + d.length ≤ (70368744177664 : Nat)) (End.leaf (LV.one (VV.sc (SV.sl (0 : Nat) (0 : Nat)))) [some (Item.own (0 : Nat) (Ty.int IntKind.u8) (a
  ++ b ++ c ++ d))])))) := by kernel_rfl
noncomputable abbrev rjoinE : Ent := eJo joinL
theorem rjoin_ok : rjoinE.Ok Tryz.prog 37 := by
  refine (Ent.ofOk Tryz.call37 fun x_ y_ Q H_ => ?_).sym
  obtain ⟨a, b, c, d, _⟩ := x_
  obtain ⟨hn, hq⟩ := H_
  have hn : a.length + b.length + c.length + d.length < 1000000 := hn
  refine (fnT_ok mixed tab0 Tryz.func37 rfl (LT := []) (ks := [.ownF 0 u8, .auto, .vers]) (LOk.nil _)).use (D := [(0, .own 0 u8 (joinL a b c d))]) ?_ hq
  show (fnT _ _ _ _ (b4A.wr (a, b, c, d, ())) [] _).sat _
  rw [rjoin_tree]
  refine ⟨⟨by omega, by omega⟩, ⟨by omega, by omega⟩, ⟨?_, ?_⟩, ⟨?_, ?_⟩, rfl, rfl⟩ <;> simp only [List.length_append] <;> omega
noncomputable def pub9L (s : List Int) : List Int := encode9L (mult9L (secL s) base9C)
noncomputable abbrev rpubE : Ent := ePub pub9L
theorem rpub_tree (sec salt : List Int → List Int) (en : Pn → List Int) (mu : List Int → Pn → Pn) (b : Pn) (s : List Int) : fnT Tryz.prog [(34, ePa9 sec salt), (38, eNE en), (39, eNM mu), (40, e0P b)] [] Tryz.f13 ((bA32).wr (s, ())) [] kR = .need (s.length = 32) (.need ((sec s).length = 32) (.leaf (nRow .u8 32 (en (mu (sec s) b))) [])) := by kernel_rfl
theorem rpub_tab_ : ∀ p_ ∈ ([(34, ePa9 secL salL), (38, eNE encode9L), (39, eNM mult9L), (40, e0P base9C)] : List (FuncId × Ent)), p_.2.Ok Tryz.prog p_.1 := (tabC rparts_ok (tabC nencode_ok (tabC nmult_ok (tabC nbase_ok tab0))))
theorem rpub_ok : rpubE.Ok Tryz.prog 13 := by
  refine (Ent.ofOk Tryz.call13 fun x_ y_ Q H_ => ?_).sym
  obtain ⟨s, _⟩ := x_
  obtain ⟨hn, hq⟩ := H_
  have hn : s.length = 32 := hn
  refine (fnT_ok (tab := [(34, ePa9 secL salL), (38, eNE encode9L), (39, eNM mult9L), (40, e0P base9C)]) mixed rpub_tab_ Tryz.func13 rfl (LT := []) (ks := kR) (LOk.nil _)).use (D := []) ?_ hq
  show (fnT _ _ _ _ ((bA32).wr (s, ())) [] _).sat _
  rw [rpub_tree secL salL encode9L mult9L base9C]
  exact ⟨hn, secL_len s, rfl, rfl⟩
noncomputable abbrev s9Fn : Func := Tryz.f9
abbrev s9C : Cod (List LV) (Int × Unit) := (jk 6 (lSkip (vOne (sPtr 0 0)) (jk 5 (lSkip (vOne (sPtr 1 0)) (jk 1 (lSkip (vOne (sPtr 2 0)) (lSkip (vOne (sPtr 3 0)) (lCons (vOne (sInt .i64)) (jk 51 lNil)))))))))
abbrev s9Cf : Wk := .fr (fmS 68 [(6, .keep), (12, .keep), (14, .keep), (15, .keep), (16, .sym)])
abbrev s9X : Cod (List LV) (Unit) := (jk 6 (lSkip (vOne (sPtr 0 0)) (jk 8 (lSkip (vOne (sPtr 1 0)) (jk 52 lNil)))))
abbrev s9Xf : Wk := .fr (fmS 68 [(6, .keep), (15, .keep)])
abbrev r32' : Cod (Option Ev.Item) (List Int) := iRow 22 .u8 32
abbrev r64' : Cod (Option Ev.Item) (List Int) := iRow 24 .u8 64
abbrev s9H : Cod Hp (List Int × List Int × List Int × List Int × Unit) := lCons r64' (lCons r32' (lCons r32' (lCons r64' lNil)))
abbrev s9HX : Cod Hp (List Int × List Int × Unit) := lCons r64' (lCons r64' lNil)
def s9W : Exit → List Wk
  | .normal => [s9Cf, .auto]
  | .exit 0 => [s9Xf, .auto]
  | _ => []
theorem s9_rnd (r a b o : List Int) (i : Int) : rndT Tryz.prog [] [] s9Fn 0 [] s9W ((stC s9C s9H).wr ((i, ()), (r, a, b, o, ()))) =
  Res.ite (decide (i < (32 : Int))) (Res.need ((0 : Int) ≤ i ∧ i < (32 : Int)) (Res.need ((0 : Int) ≤ i ∧ i < (64 : Int)) (Res.need ((0 : Int) ≤ i ∧ i <
  (32 : Int)) (Res.need ((0 : Int) ≤ IntKind.i64.wrap ((32 : Int) + i) ∧ IntKind.i64.wrap ((32 : Int) + i) < (64 : Int)) (Res.leaf Exit.normal ((stC s9C
  s9H).wr ((IntKind.i64.wrap (i + (1 : Int)), PUnit.unit), r, a, b, (o.set ((0 : Nat) + i.toNat) ((List.take (32 : Nat) (List.drop (0 : Nat) a)).getD
  i.toNat (0 : Int))).set ((0 : Nat) + (IntKind.i64.wrap ((32 : Int) + i)).toNat) ((List.take (32 : Nat) (List.drop (0 : Nat) b)).getD i.toNat (0 :
  Int)), PUnit.unit))))))) (Res.leaf (Exit.exit (0 : Nat)) ((stC s9X s9HX).wr (PUnit.unit, r, o, PUnit.unit))) := by kernel_rfl
noncomputable abbrev v9Fn : Func := Tryz.f16
abbrev v9C : Cod (List LV) (List Int × Bool × Int × Unit) := (jk 1 (lCons (vOne (sRd false false u8)) (jk 2 (lSkip (vOne (sPtr 0 0)) (jk 1 (lSkip (vOne (sPtr 1 0)) (lSkip (vOne (sPtr 2 0)) (jk 1 (lSkip (vOne (sPtr 3 0)) (lCons (vOne sBool) (lSkip (vOne (sPtr 4 0)) (lSkip (vOne (sPtr 5 0)) (lCons (vOne (sInt .i64)) (jk 54 lNil))))))))))))))
abbrev v9Cf : Wk := .fr (fmS 68 [(1, .keep), (4, .keep), (6, .keep), (7, .keep), (9, .keep), (10, .sym), (11, .keep), (12, .keep), (13, .sym)])
abbrev v9X : Cod (List LV) (List Int × Bool × Unit) := (jk 1 (lCons (vOne (sRd false false u8)) (jk 2 (lSkip (vOne (sPtr 0 0)) (jk 1 (lSkip (vOne (sPtr 1 0)) (jk 2 (lSkip (vOne (sPtr 2 0)) (lCons (vOne sBool) (lSkip (vOne (sPtr 3 0)) (lSkip (vOne (sPtr 4 0)) (jk 55 lNil))))))))))))
abbrev v9Xf : Wk := .fr (fmS 68 [(1, .keep), (4, .keep), (6, .keep), (9, .keep), (10, .sym), (11, .keep), (12, .keep)])
abbrev v9H : Cod Hp (List Int × List Int × List Int × Pn × List Int × List Int × Unit) := lCons r32' (lCons r64' (lCons r64' (lCons iPn (lCons r32' (lCons r32' lNil)))))
abbrev v9HX : Cod Hp (List Int × List Int × Pn × List Int × List Int × Unit) := lCons r32' (lCons r64' (lCons iPn (lCons r32' (lCons r32' lNil))))
def v9W : Exit → List Wk
  | .normal => [v9Cf, .auto]
  | .exit 0 => [v9Xf, .auto]
  | _ => []
theorem v9_rnd (c p m g : List Int) (a : Pn) (ok : Bool) (r s : List Int) (i : Int) : rndT Tryz.prog [] [] v9Fn 0 [] v9W ((stC v9C v9H).wr ((c, ok, i, ()), (p, m, g, a, r, s, ()))) =
  .ite (decide (i < 32)) (.need (0 ≤ i ∧ i < 64) (.need (0 ≤ i ∧ i < 32) (.need (0 ≤ IntKind.i64.wrap (32 + i) ∧ IntKind.i64.wrap (32 + i) < 64) (.need (0 ≤ i ∧ i < 32) (.leaf .normal ((stC v9C v9H).wr ((c, ok, IntKind.i64.wrap (i + 1), ()), (p, m, g, a, r.set (0 + i.toNat) ((List.take 64 (List.drop 0 g)).getD i.toNat 0), s.set (0 + i.toNat) ((List.take 64 (List.drop 0 g)).getD (IntKind.i64.wrap (32 + i)).toNat 0), ()))))))))
    (.leaf (.exit 0) ((stC v9X v9HX).wr ((c, ok, ()), (p, m, a, r, s, ())))) := by kernel_rfl
def SiI (a b : List Int) (k : Nat) (o : List Int) : Prop := o.length = 64 ∧ ∀ j, j < 64 → o.getD j 0 = if j < 32 then (if j < k then a.getD j 0 else 0) else (if j - 32 < k then b.getD (j - 32) 0 else 0)
def siS (a b : List Int) (k : Nat) (o : List Int) : List Int := (o.set k (a.getD k 0)).set (32 + k) (b.getD k 0)
theorem si_step {a b o : List Int} {k : Nat} (hk : k < 32) (h : SiI a b k o) : SiI a b (k + 1) (siS a b k o) := by
  obtain ⟨h1, h2⟩ := h
  unfold siS
  have l1 : (o.set k (a.getD k 0)).length = 64 := by rw [List.length_set, h1]
  refine ⟨by rw [List.length_set, l1], fun j hj => ?_⟩
  rw [getD_set (l := o.set k (a.getD k 0)) (i := 32 + k) (by omega) _ j, getD_set (l := o) (i := k) (by omega) _ j]
  by_cases e1 : 32 + k = j
  · subst e1
    rw [if_pos rfl, if_neg (by omega), if_pos (by omega), show 32 + k - 32 = k from by omega]
  · rw [if_neg e1]
    by_cases e2 : k = j
    · subst e2
      rw [if_pos rfl, if_pos hk, if_pos (by omega)]
    · rw [if_neg e2, h2 j hj]
      by_cases e3 : j < 32
      · rw [if_pos e3, if_pos e3]
        by_cases e4 : j < k
        · rw [if_pos e4, if_pos (by omega)]
        · rw [if_neg e4, if_neg (by omega)]
      · rw [if_neg e3, if_neg e3]
        by_cases e4 : j - 32 < k
        · rw [if_pos e4, if_pos (by omega)]
        · rw [if_neg e4, if_neg (by omega)]
theorem si_start (a b : List Int) : SiI a b 0 (List.replicate 64 0) := ⟨List.length_replicate, fun j hj => by
  rw [List.getD_eq_getElem?_getD, List.getElem?_replicate, if_pos hj]
  split <;> rfl⟩
theorem si_end {a b o : List Int} (ha : a.length = 32) (hb : b.length = 32) (h : SiI a b 32 o) : o = a ++ b := by
  obtain ⟨h1, h2⟩ := h
  refine list_getD (by rw [h1, List.length_append, ha, hb]) fun j hj => ?_
  rw [h1] at hj
  rw [h2 j hj]
  by_cases e : j < 32
  · rw [if_pos e, if_pos e, List.getD_eq_getElem?_getD, List.getD_eq_getElem?_getD, List.getElem?_append_left (by omega)]
  · rw [if_neg e, if_pos (by omega), List.getD_eq_getElem?_getD, List.getD_eq_getElem?_getD, List.getElem?_append_right (by omega), ha]
abbrev s9T : Type := (Int × Unit) × List Int × List Int × List Int × List Int × Unit
def s9LF (g : List Int → List Int → List Int) (x : s9T) : Res := .need (x.1.1 = 0 ∧ x.2.2.1.length = 32 ∧ x.2.2.2.1.length = 32 ∧ x.2.2.2.2.1 = List.replicate 64 0) (.leaf (.exit 0) ((stC s9X s9HX).wr ((), (x.2.1, g x.2.2.1 x.2.2.2.1, ()))))
theorem s9_loop (x : s9T) : Ex Tryz.prog [] (.loop (loopAt s9Fn 0)) ((stC s9C s9H).wr x) (s9LF (· ++ ·) x) := by
  obtain ⟨⟨i, _⟩, r, a, b, o, _⟩ := x
  refine Ex.need fun ⟨h1, h2, h3, h4⟩ => ?_
  simp only at h1 h2 h3 h4
  subst h1 h4
  have key := loopUp (fn := s9Fn) (id := 0) (j := 0) (ws := s9W) (hp := []) mixed tab0 (LOk.nil _) 32 (fun k (o : List Int) => (stC s9C s9H).wr (((k : Int), ()), (r, a, b, o, ()))) (fun (o : List Int) => (stC s9X s9HX).wr ((), (r, o, ()))) (siS a b) (SiI a b)
    (fun k o R hk ho hn hx => ?_) (fun k o hk ho => si_step hk ho) 0 (List.replicate 64 0) (by omega) (si_start a b)
  · rw [Nat.sub_zero, si_end h2 h3 (upto_inv (f := siS a b) (n := 32) (SiI a b) (fun k s hk hs => si_step hk hs) 32 0 _ (by omega) (si_start a b))] at key
    exact key
  rw [s9_rnd]
  refine ⟨fun hb => ?_, fun hb => ?_⟩
  · have hk' : k < 32 := by have := of_decide_eq_true hb; omega
    have e1 : IntKind.i64.wrap (32 + (k : Int)) = ((32 + k : Nat) : Int) := by rw [wrap_ok (by omega) (by omega)]; omega
    have hn' := hn hk'
    rw [e1, take_all h2, take_all h3, Int.toNat_natCast, Int.toNat_natCast, Nat.zero_add, Nat.zero_add, wrap_succ k (by omega)]
    exact ⟨by omega, by omega, by omega, by omega, hn'⟩
  · have : k = 32 := by have := of_decide_eq_false hb; omega
    exact hx this
noncomputable abbrev s9LT (g : List Int → List Int → List Int) : LTab := [(0, loopF (stC s9C s9H) 0 [s9Cf, .auto, .rowB 1 0 32 .u8, .rowB 2 0 32 .u8] (s9LF g))]
abbrev v9T : Type := (List Int × Bool × Int × Unit) × List Int × List Int × List Int × Pn × List Int × List Int × Unit
def v9LF (x : v9T) : Res := .need (x.1.2.2.1 = 0 ∧ x.2.2.2.1.length = 64 ∧ x.2.2.2.2.2.1.length = 32 ∧ x.2.2.2.2.2.2.1.length = 32) (.leaf (.exit 0) ((stC v9X v9HX).wr ((x.1.1, x.1.2.1, ()), (x.2.1, x.2.2.1, x.2.2.2.2.1, x.2.2.2.1.take 32, x.2.2.2.1.drop 32, ()))))
theorem v9_loop (x : v9T) : Ex Tryz.prog [] (.loop (loopAt v9Fn 0)) ((stC v9C v9H).wr x) (v9LF x) := by
  obtain ⟨⟨c, ok, i, _⟩, p, m, g, a, r, s, _⟩ := x
  refine Ex.need fun ⟨h1, h2, h3, h4⟩ => ?_
  simp only at h1 h2 h3 h4
  subst h1
  have key := loopUp (fn := v9Fn) (id := 0) (j := 0) (ws := v9W) (hp := []) mixed tab0 (LOk.nil _) 32 (fun k (o : List Int × List Int) => (stC v9C v9H).wr ((c, ok, (k : Int), ()), (p, m, g, a, o.1, o.2, ()))) (fun o => (stC v9X v9HX).wr ((c, ok, ()), (p, m, a, o.1, o.2, ())))
    (fun k (o : List Int × List Int) => (o.1.set k (g.getD (0 + k) 0), o.2.set k (g.getD (32 + k) 0))) (fun _ o => o.1.length = 32 ∧ o.2.length = 32)
    (fun k o R hk ho hn hx => ?_) (fun k o hk hh => by simpa using hh) 0 (r, s) (by omega) ⟨h3, h4⟩
  · rw [Nat.sub_zero, upto_pair (fun k (o : List Int) => o.set k (g.getD (0 + k) 0)) (fun k (o : List Int) => o.set k (g.getD (32 + k) 0)), upto_fill (fun k => g.getD (0 + k) 0) h3, upto_fill (fun k => g.getD (32 + k) 0) h4, map_getD_drop (by omega), map_getD_drop (by omega)] at key
    rw [List.drop_zero, List.take_of_length_le (l := g.drop 32) (by rw [List.length_drop]; omega)] at key
    exact key
  rw [v9_rnd]
  refine ⟨fun hb => ?_, fun hb => ?_⟩
  · have hk' : k < 32 := by have := of_decide_eq_true hb; omega
    have e1 : IntKind.i64.wrap (32 + (k : Int)) = ((32 + k : Nat) : Int) := by rw [wrap_ok (by omega) (by omega)]; omega
    have hn' := hn hk'
    rw [Nat.zero_add] at hn'
    rw [e1, take_all h2, Int.toNat_natCast, Int.toNat_natCast, Nat.zero_add, wrap_succ k (by omega)]
    exact ⟨by omega, by omega, by omega, by omega, hn'⟩
  · have : k = 32 := by have := of_decide_eq_false hb; omega
    exact hx this
noncomputable abbrev v9LT : LTab := [(0, loopF (stC v9C v9H) 0 [v9Cf, .auto, .rowB 4 0 32 .u8, .rowB 5 0 32 .u8] v9LF)]
noncomputable abbrev s9Tab (sec salt pre sha red pub : List Int → List Int) (jo : List Int → List Int → List Int → List Int → List Int) (en : Pn → List Int) (mu : List Int → Pn → Pn) (b0 : Pn) (ma : List Int → List Int → List Int → List Int) : List (FuncId × Ent) :=
  [(34, ePa9 sec salt), (13, ePub pub), (11, ePre pre), (37, eJo jo), (36, eRo sha), (35, e64B red), (38, eNE en), (39, eNM mu), (40, e0P b0), (41, eB3 ma)]
theorem rsign_tree (f : List Int → List Int → List Int) (sec salt pre sha red pub : List Int → List Int) (jo : List Int → List Int → List Int → List Int → List Int) (en : Pn → List Int) (mu : List Int → Pn → Pn) (b0 : Pn) (ma : List Int → List Int → List Int → List Int) (s c m : List Int) : fnT Tryz.prog (s9Tab sec salt pre sha red pub jo en mu b0 ma) (s9LT f) s9Fn (siA.wr (s, c, m, ())) [] [.fr [.sym], .auto] =
  End.ite (decide ((255 : Int) < (↑c.length : Int))) (End.leaf (LV.tup [VV.agg [SV.arr (Ty.int IntKind.u8) (64 : Nat) (List.replicate (64 : Nat) (0 :
  Int))], VV.sc (SV.bool (SB.sym false))]) []) (End.need (s.length = (32 : Nat)) (End.need (s.length = (32 : Nat)) (End.need ((0 : Int) ≤ (0 : Int) ∧ (0
  : Int) ≤ (64 : Int) ∧ (64 : Int) ≤ (64 : Int)) (End.need (small4 (pre c) (salt s) (List.take (64 : Nat) (List.drop (0 : Nat) m)) []) (End.need ((jo
  (pre c) (salt s) (List.take (64 : Nat) (List.drop (0 : Nat) m)) []).length ≤ (17592186044416 : Nat)) (End.need ((sha (jo (pre c) (salt s) (List.take
  (64 : Nat) (List.drop (0 : Nat) m)) [])).length = (64 : Nat) ∧ AllBy (sha (jo (pre c) (salt s) (List.take (64 : Nat) (List.drop (0 : Nat) m)) [])))
  (End.need ((red (sha (jo (pre c) (salt s) (List.take (64 : Nat) (List.drop (0 : Nat) m)) []))).length = (32 : Nat)) (End.need ((0 : Int) ≤ (0 : Int) ∧
  (0 : Int) ≤ (32 : Int) ∧ (32 : Int) ≤ (32 : Int)) (End.need ((0 : Int) ≤ (0 : Int) ∧ (0 : Int) ≤ (32 : Int) ∧ (32 : Int) ≤ (32 : Int)) (End.need ((0 :
  Int) ≤ (0 : Int) ∧ (0 : Int) ≤ (64 : Int) ∧ (64 : Int) ≤ (64 : Int)) (End.need (small4 (pre c) (List.take (32 : Nat) (List.drop (0 : Nat) (en (mu (red
  (sha (jo (pre c) (salt s) (List.take (64 : Nat) (List.drop (0 : Nat) m)) []))) b0)))) (List.take (32 : Nat) (List.drop (0 : Nat) (pub s))) (List.take
  (64 : Nat) (List.drop (0 : Nat) m))) (End.need ((jo (pre c) (List.take (32 : Nat) (List.drop (0 : Nat) (en (mu (red (sha (jo (pre c) (salt s)
  (List.take (64 : Nat) (List.drop (0 : Nat) m)) []))) b0)))) (List.take (32 : Nat) (List.drop (0 : Nat) (pub s))) (List.take (64 : Nat) (List.drop (0 :
  Nat) m))).length ≤ (17592186044416 : Nat)) (End.need ((sha (jo (pre c) (List.take (32 : Nat) (List.drop (0 : Nat) (en (mu (red (sha (jo (pre c) (salt
  s) (List.take (64 : Nat) (List.drop (0 : Nat) m)) []))) b0)))) (List.take (32 : Nat) (List.drop (0 : Nat) (pub s))) (List.take (64 : Nat) (List.drop (0
  : Nat) m)))).length = (64 : Nat) ∧ AllBy (sha (jo (pre c) (List.take (32 : Nat) (List.drop (0 : Nat) (en (mu (red (sha (jo (pre c) (salt s) (List.take
  (64 : Nat) (List.drop (0 : Nat) m)) []))) b0)))) (List.take (32 : Nat) (List.drop (0 : Nat) (pub s))) (List.take (64 : Nat) (List.drop (0 : Nat) m)))))
  (End.need (okB (red (sha (jo (pre c) (List.take (32 : Nat) (List.drop (0 : Nat) (en (mu (red (sha (jo (pre c) (salt s) (List.take (64 : Nat) (List.drop
  (0 : Nat) m)) []))) b0)))) (List.take (32 : Nat) (List.drop (0 : Nat) (pub s))) (List.take (64 : Nat) (List.drop (0 : Nat) m))))) ∧ okB (sec s) ∧ okB
  (red (sha (jo (pre c) (salt s) (List.take (64 : Nat) (List.drop (0 : Nat) m)) [])))) (End.need ((0 : Int) = (0 : Int) ∧ (en (mu (red (sha (jo (pre c)
  (salt s) (List.take (64 : Nat) (List.drop (0 : Nat) m)) []))) b0)).length = (32 : Nat) ∧ (ma (red (sha (jo (pre c) (List.take (32 : Nat) (List.drop (0
  : Nat) (en (mu (red (sha (jo (pre c) (salt s) (List.take (64 : Nat) (List.drop (0 : Nat) m)) []))) b0)))) (List.take (32 : Nat) (List.drop (0 : Nat)
  (pub s))) (List.take (64 : Nat) (List.drop (0 : Nat) m))))) (sec s) (red (sha (jo (pre c) (salt s) (List.take (64 : Nat) (List.drop (0 : Nat) m))
  [])))).length = (32 : Nat) ∧ List.replicate (64 : Nat) (0 : Int) = List.replicate (64 : Nat) (0 : Int)) (End.leaf (LV.tup [VV.agg [SV.arr (Ty.int
  IntKind.u8) (64 : Nat) (f (en (mu (red (sha (jo (pre c) (salt s) (List.take (64 : Nat) (List.drop (0 : Nat) m)) []))) b0)) (ma (red (sha (jo (pre c)
  (List.take (32 : Nat) (List.drop (0 : Nat) (en (mu (red (sha (jo (pre c) (salt s) (List.take (64 : Nat) (List.drop (0 : Nat) m)) []))) b0))))
  (List.take (32 : Nat) (List.drop (0 : Nat) (pub s))) (List.take (64 : Nat) (List.drop (0 : Nat) m))))) (sec s) (red (sha (jo (pre c) (salt s)
  (List.take (64 : Nat) (List.drop (0 : Nat) m)) [])))))], VV.sc (SV.bool (SB.sym true))]) [])))))))))))))))) := by kernel_rfl
noncomputable abbrev v9Tab (de : List Int → Pn × Bool) (can : List Int → Bool) (pre sha red : List Int → List Int) (jo : List Int → List Int → List Int → List Int → List Int) (en : Pn → List Int) (mu : List Int → Pn → Pn) (b0 : Pn) (pl : Pn → Pn → Pn) (tu : Pn → Pn) : List (FuncId × Ent) :=
  [(46, eND de), (47, eBB can), (11, ePre pre), (37, eJo jo), (36, eRo sha), (35, e64B red), (38, eNE en), (39, eNM mu), (40, e0P b0), (48, e2Pn pl), (49, e1Pn tu)]
abbrev jk9 (pre : List Int → List Int) (jo : List Int → List Int → List Int → List Int → List Int) (p c m g : List Int) : List Int := jo (pre c) (List.take 32 (List.drop 0 (List.take 32 g))) (List.take 32 (List.drop 0 p)) (List.take 64 (List.drop 0 m))
theorem rver_tree (de : List Int → Pn × Bool) (can : List Int → Bool) (pre sha red : List Int → List Int) (jo : List Int → List Int → List Int → List Int → List Int) (en : Pn → List Int) (mu : List Int → Pn → Pn) (b0 : Pn) (pl : Pn → Pn → Pn) (tu : Pn → Pn) (p c m g : List Int) : fnT Tryz.prog (v9Tab de can pre sha red jo en mu b0 pl tu) v9LT v9Fn (veA.wr (p, c, m, g, ())) [] kK =
  .need (p.length = 32) (.need ((0 : Int) = 0 ∧ g.length = 64 ∧ (List.replicate 32 (0 : Int)).length = 32 ∧ (List.replicate 32 (0 : Int)).length = 32) (.ite (decide (255 < (c.length : Int)) == false) (.ite ((!(de p).2) == false) (.need (okB (g.drop 32)) (.ite (!(can (g.drop 32))) (.leaf (nB false) [])
    (.need ((0 : Int) ≤ 0 ∧ (0 : Int) ≤ 32 ∧ (32 : Int) ≤ 32) (.need ((0 : Int) ≤ 0 ∧ (0 : Int) ≤ 32 ∧ (32 : Int) ≤ 32) (.need ((0 : Int) ≤ 0 ∧ (0 : Int) ≤ 64 ∧ (64 : Int) ≤ 64) (.need (small4 (pre c) (List.take 32 (List.drop 0 (List.take 32 g))) (List.take 32 (List.drop 0 p)) (List.take 64 (List.drop 0 m))) (.need ((jk9 pre jo p c m g).length ≤ 17592186044416)
      (.need ((sha (jk9 pre jo p c m g)).length = 64 ∧ AllBy (sha (jk9 pre jo p c m g))) (.need ((g.drop 32).length = 32) (.need ((red (sha (jk9 pre jo p c m g))).length = 32) (.leaf (nB (decide (en (pl (mu (g.drop 32) b0) (tu (mu (red (sha (jk9 pre jo p c m g))) (de p).1))) = g.take 32))) []))))))))))) (.leaf (nB false) [])) (.leaf (nB false) []))) := by kernel_rfl
end Go.Proofs.YthdfifcgobfgdaaGreat
end

section
set_option linter.unusedVariables false
set_option linter.unusedSimpArgs false
namespace Go.Proofs.YthdfifcgobfgdaaGreat
open Go Go.Ev BJ
set_option maxRecDepth 1000000
def Rep9 (q : Pn) (P : BJ.Pt) : Prop := ∃ p : E4, q = pn p ∧ IsP p P
theorem rep9_enc {q : Pn} {P : BJ.Pt} (h : Rep9 q P) : encode9L q = encQ P := by
  obtain ⟨p, rfl, hp⟩ := h
  unfold encode9L encQ
  rw [encode9_pn]
  unfold encE encP
  rw [isP_x hp, isP_y hp]
theorem rep9_base : Rep9 base9C baseP := ⟨baseE, base9_pn, base_isP⟩
theorem rep9_mult {n : List Int} (hn : okB n) {q : Pn} {P : BJ.Pt} (h : Rep9 q P) : Rep9 (mult9L n q) (nsm (sc n) P) := by
  obtain ⟨p, rfl, hp⟩ := h
  obtain ⟨h1, h2⟩ := okB_v32 hn
  refine ⟨multE (valB (v32 n)).toNat p, by rw [mult9L_eq, mult9_pn h1], ?_⟩
  have := mult_isP (val_lt h1) hp
  unfold sc
  rw [← h2]; exact this
theorem rep9_plus {q r : Pn} {P Q : BJ.Pt} (h : Rep9 q P) (h' : Rep9 r Q) : Rep9 (plus9C q r) (P.add Q) := by
  obtain ⟨p, rfl, hp⟩ := h
  obtain ⟨p', rfl, hp'⟩ := h'
  exact ⟨addE p p', plus9_pn p p', isP_add hp hp'⟩
theorem rep9_turn {q : Pn} {P : BJ.Pt} (h : Rep9 q P) : Rep9 (turn9C q) P.neg := by
  obtain ⟨p, rfl, hp⟩ := h
  exact ⟨negE p, turn9_pn p, isP_neg hp⟩
theorem dec9_of {b : List Int} (hb : okB b) : (decode9L b).2 = (decodeL b).2 ∧ ∃ P, Rep9 (decode9L b).1 P ∧ Rep (decodeL b).1 P := by
  obtain ⟨h1, _⟩ := okB_v32 hb
  obtain ⟨d1, d2, d3⟩ := decode_pt h1
  have e := decode9_pn h1
  obtain ⟨P, hP⟩ := dec_is (v32 b)
  unfold decode9L
  rw [e]
  exact ⟨d3.symm, P, ⟨_, rfl, hP⟩, ⟨d1, by rw [show (decodeL b).1 = (decodeC (v32 b)).1 from rfl, d2]; exact hP⟩⟩
theorem encM {n : List Int} (hn : okB n) : encode9L (mult9L n base9C) = encodeL (mbaseL n) := by
  rw [rep9_enc (rep9_mult hn rep9_base), enc_of (rep_mbaseL hn)]
theorem pub9_eq (s : List Int) : pub9L s = pubL s := by unfold pub9L pubL; exact encM (secL_ok s)
theorem encode9_len (q : Pn) : (encode9L q).length = 32 := Vec.toList_length _
theorem pub9_len (s : List Int) : (pub9L s).length = 32 := encode9_len _
theorem rsha_len (b : List Int) : (rshaF b).length = 64 := numbers_length _
theorem rsha_by (b : List Int) : AllBy (rshaF b) := by
  have key : ∀ (l : List Nat) (s a : List Int), AllBy a → AllBy (l.foldl (fun a i => a ++ eightF (s.getD i 0)) a) := by
    intro l s
    induction l with
    | nil => exact fun a h => h
    | cons i l ih => exact fun a h => ih _ (h.append (eight_by _))
  exact key _ _ [] (fun z hz => by cases hz)
theorem join_len (a b c d : List Int) : (joinL a b c d).length = a.length + b.length + c.length + d.length := by unfold joinL; simp only [List.length_append]
abbrev nSB (r : List Int × Bool) : LV := .tup [.agg [.arr (.int .u8) 64 r.1], .sc (.bool (.sym r.2))]
def eSi9 (g : List Int → List Int → List Int → List Int × Bool) : Ent := Ent.ofS [none, some u8, none] siA lNil fun x _ => .leaf (some (x.1.length = 32 ∧ x.2.2.1.length = 64)) (nSB (g x.1 x.2.1 x.2.2.1)) []
abbrev non9 (salt pre sha red : List Int → List Int) (jo : List Int → List Int → List Int → List Int → List Int) (s c m : List Int) : List Int := red (sha (jo (pre c) (salt s) m []))
abbrev cha9 (pre sha red : List Int → List Int) (jo : List Int → List Int → List Int → List Int → List Int) (r p c m : List Int) : List Int := red (sha (jo (pre c) r p m))
theorem rsign_sat (f : List Int → List Int → List Int) (sec salt pre sha red pub : List Int → List Int) (jo : List Int → List Int → List Int → List Int → List Int) (en : Pn → List Int) (mu : List Int → Pn → Pn) (b0 : Pn) (ma : List Int → List Int → List Int → List Int) {s c m : List Int} (hs : s.length = 32) (hm : m.length = 64) (h1 : ∀ b, (sha b).length = 64) (h2 : ∀ b, AllBy (sha b)) (h3 : ∀ b, okB (red b)) (h4 : ∀ q, (en q).length = 32) (h5 : (pub s).length = 32) (h7 : okB (sec s)) (h8 : ∀ a b c, (ma a b c).length = 32) (h9 : (pre c).length ≤ 289) (h10 : (salt s).length = 32) (hj : ∀ a b c d, (jo a b c d).length = a.length + b.length + c.length + d.length) :
    ∃ t_ : Ev.End, fnT Tryz.prog (s9Tab sec salt pre sha red pub jo en mu b0 ma) (s9LT f) s9Fn (siA.wr (s, c, m, ())) [] [.fr [.sym], .auto] = t_ ∧ t_.sat fun v hp' => v = nSB (if c.length ≤ 255 then (f (en (mu (non9 salt pre sha red jo s c m) b0)) (ma (cha9 pre sha red jo (en (mu (non9 salt pre sha red jo s c m) b0)) (pub s) c m) (sec s) (non9 salt pre sha red jo s c m)), true) else (List.replicate 64 0, false)) ∧ hp' = [] := by
  refine ⟨_, rsign_tree .., ?_⟩
  unfold non9 cha9
  rw [take_all hm, take_all h5]
  have l2 := h3 (sha (jo (pre c) (salt s) m []))
  generalize hN : red (sha (jo (pre c) (salt s) m [])) = N at *
  have l3 := h4 (mu N b0)
  rw [take_all l3]
  generalize hR : en (mu N b0) = R at *
  have j1 := hj (pre c) (salt s) m []
  have j2 := hj (pre c) R (pub s) m
  have l4 := h3 (sha (jo (pre c) R (pub s) m))
  refine ⟨fun h => ?_, fun h => ?_⟩
  · have h := of_decide_eq_true h
    rw [if_neg (by omega)]; exact ⟨rfl, rfl⟩
  · have h := of_decide_eq_false h
    rw [if_pos (by omega)]
    refine ⟨hs, hs, by decide, ?_, ?_, ⟨h1 _, h2 _⟩, l2.1, by decide, by decide, by decide, ?_, ?_, ⟨h1 _, h2 _⟩, ⟨l4, h7, l2⟩, ⟨rfl, l3, h8 _ _ _, rfl⟩, rfl, rfl⟩
    · show (pre c).length + (salt s).length + m.length + 0 < 1000000; omega
    · rw [j1, List.length_nil]; omega
    · show (pre c).length + R.length + (pub s).length + m.length < 1000000; omega
    · rw [j2]; omega
noncomputable def sign9L (s c m : List Int) : List Int × Bool := ((signL s c m).1, decide (c.length ≤ 255))
theorem sha_j {b : List Int} (h : b.length ≤ 17592186044416) : rshaF b = shaF b := (sha_eq h).symm
theorem non9_eq (s : List Int) {c m : List Int} (hm : m.length = 64) : non9 salL preL rshaF redB joinL s c m = nonL s c m := by
  have hp := pre_len c
  have hl : (salL s).length = 32 := by unfold salL; rw [List.length_drop, sha_length]
  have e : joinL (preL c) (salL s) m [] = preL c ++ ((shaF s).drop 32 ++ m) := by unfold joinL salL; rw [List.append_nil, List.append_assoc]
  show redB (rshaF (joinL (preL c) (salL s) m [])) = nonL s c m
  rw [sha_j (by rw [join_len, hl, hm, List.length_nil]; omega), e]
  unfold nonL; rfl
theorem cha9_eq {r p c m : List Int} (hr : r.length = 32) (hp' : p.length = 32) (hm : m.length = 64) : cha9 preL rshaF redB joinL r p c m = chalL c r p m := by
  have hp := pre_len c
  have e : joinL (preL c) r p m = preL c ++ (r ++ (p ++ m)) := by unfold joinL; rw [List.append_assoc, List.append_assoc]
  show redB (rshaF (joinL (preL c) r p m)) = chalL c r p m
  rw [sha_j (by rw [join_len, hr, hp', hm]; omega), e]
  unfold chalL; rfl
theorem sign9_eq {s c m : List Int} (hm : m.length = 64) :
    (if c.length ≤ 255 then (encode9L (mult9L (non9 salL preL rshaF redB joinL s c m) base9C) ++ mulB (cha9 preL rshaF redB joinL (encode9L (mult9L (non9 salL preL rshaF redB joinL s c m) base9C)) (pub9L s) c m) (secL s) (non9 salL preL rshaF redB joinL s c m), true) else (List.replicate 64 0, false)) = sign9L s c m := by
  unfold sign9L
  rw [signL_eq, non9_eq s hm, encM (show okB (nonL s c m) from redB_ok _), pub9_eq, cha9_eq (encodeL_len _) (pubL_len s) hm]
  by_cases h : c.length ≤ 255
  · rw [if_pos h, if_pos h, decide_eq_true h]; unfold sigL; rfl
  · rw [if_neg h, if_neg h, decide_eq_false h]
theorem s9Tab_ok : ∀ p ∈ s9Tab secL salL preL rshaF redB pub9L joinL encode9L mult9L base9C mulB, p.2.Ok Tryz.prog p.1 := tabC rparts_ok (tabC rpub_ok (tabC rpre_ok (tabC rjoin_ok (tabC rof'_ok (tabC rreduce_ok (tabC nencode_ok (tabC nmult_ok (tabC nbase_ok (tabC rMulAdd_ok tab0)))))))))
noncomputable abbrev rsignE : Ent := eSi9 sign9L
theorem rsign_ok : rsignE.Ok Tryz.prog 9 := by
  refine (Ent.ofOk Tryz.call9 fun x_ y_ Q H_ => ?_).sym
  obtain ⟨s, c, m, _⟩ := x_
  obtain ⟨hn, hq⟩ := H_
  have hn : s.length = 32 ∧ m.length = 64 := hn
  have hc : CallsT Tryz.prog 9 (siA.wr (s, c, m, ())) [] (fnT Tryz.prog (s9Tab secL salL preL rshaF redB pub9L joinL encode9L mult9L base9C mulB) (s9LT (· ++ ·)) s9Fn (siA.wr (s, c, m, ())) [] [.fr [.sym], .auto]) := fnT_ok mixed s9Tab_ok Tryz.func9 rfl (LOk.ofTab (LTC rfl (loopF_ok (hp := []) s9_loop) LT0))
  obtain ⟨t_, ht, hs⟩ := rsign_sat (· ++ ·) secL salL preL rshaF redB pub9L joinL encode9L mult9L base9C mulB (c := c) hn.1 hn.2 rsha_len rsha_by redB_ok encode9_len (pub9_len s) (secL_ok s) mulB_len (pre_len c) (by unfold salL; rw [List.length_drop, sha_length]) join_len
  rw [sign9_eq hn.2] at hs
  rw [ht] at hc
  exact hc.use (D := []) hs hq
theorem rver_sat (de : List Int → Pn × Bool) (can : List Int → Bool) (pre sha red : List Int → List Int) (jo : List Int → List Int → List Int → List Int → List Int) (en : Pn → List Int) (mu : List Int → Pn → Pn) (b0 : Pn) (pl : Pn → Pn → Pn) (tu : Pn → Pn) {p c m g : List Int} (hp : p.length = 32) (hm : m.length = 64) (hg : g.length = 64) (hb : AllBy g) (h1 : ∀ b, (sha b).length = 64) (h2 : ∀ b, AllBy (sha b)) (h3 : ∀ b, okB (red b)) (h9 : (pre c).length ≤ 289) (hj : ∀ a b c d, (jo a b c d).length = a.length + b.length + c.length + d.length) :
    ∃ t_ : Ev.End, fnT Tryz.prog (v9Tab de can pre sha red jo en mu b0 pl tu) v9LT v9Fn (veA.wr (p, c, m, g, ())) [] kK = t_ ∧ t_.sat fun v hp' => v = nB ((de p).2 && (decide (c.length ≤ 255) && (can (g.drop 32) && decide (en (pl (mu (g.drop 32) b0) (tu (mu (cha9 pre sha red jo (g.take 32) p c m) (de p).1))) = g.take 32)))) ∧ hp' = [] := by
  refine ⟨_, rver_tree .., ?_⟩
  have l1 : (g.take 32).length = 32 := by rw [List.length_take, hg]; decide
  have l2 : (g.drop 32).length = 32 := by rw [List.length_drop, hg]
  have ej : jk9 pre jo p c m g = jo (pre c) (g.take 32) p m := by show jo _ _ _ _ = _; rw [take_all l1, take_all hp, take_all hm]
  rw [ej, take_all l1, take_all hp, take_all hm]
  have hbd : AllBy (g.drop 32) := hb.drop 32
  have j1 := hj (pre c) (g.take 32) p m
  have l3 := h3 (sha (jo (pre c) (g.take 32) p m))
  generalize de p = d at *
  generalize g.take 32 = r at *
  generalize g.drop 32 = s at *
  obtain ⟨a, ok⟩ := d
  refine ⟨hp, ⟨rfl, hg, rfl, rfl⟩, fun h => ?_, fun h => ?_⟩
  · have h : c.length ≤ 255 := by simp at h; omega
    rw [decide_eq_true h]
    cases ok
    · exact ⟨fun h => (by cases h), fun _ => ⟨rfl, rfl⟩⟩
    · refine ⟨fun _ => ⟨⟨l2, hbd⟩, fun h' => ?_, fun h' => ⟨by decide, by decide, by decide, ?_, by rw [j1]; omega, ⟨h1 _, h2 _⟩, l2, l3.1, ?_, rfl⟩⟩, fun h => (by cases h)⟩
      · have h' : can s = false := by simpa using h'
        rw [h']; exact ⟨rfl, rfl⟩
      · show (pre c).length + r.length + p.length + m.length < 1000000; omega
      · have h' : can s = true := by simpa using h'
        rw [h']; rfl
  · have h : ¬ c.length ≤ 255 := by simp at h; omega
    rw [decide_eq_false h]
    cases ok <;> exact ⟨rfl, rfl⟩
theorem ver9_eq {p c m g : List Int} (hp : okB p) (hm : m.length = 64) (hg : g.length = 64) (hb : AllBy g) :
    ((decode9L p).2 && (decide (c.length ≤ 255) && (canB (g.drop 32) && decide (encode9L (plus9C (mult9L (g.drop 32) base9C) (turn9C (mult9L (cha9 preL rshaF redB joinL (g.take 32) p c m) (decode9L p).1))) = g.take 32)))) = verL p c m g := by
  obtain ⟨e1, P, r9, r⟩ := dec9_of hp
  have l1 : (g.take 32).length = 32 := by rw [List.length_take, hg]; decide
  have os : okB (g.drop 32) := ⟨by rw [List.length_drop, hg], hb.drop 32⟩
  have ok := chalL_ok c (g.take 32) p m
  rw [verL_eq, e1, cha9_eq l1 hp.1 hm, rep9_enc (rep9_plus (rep9_mult os rep9_base) (rep9_turn (rep9_mult ok r9))), enc_of (rep_twoL ok os (rep_neg r)), nsm_neg, BJ.Pt.add_comm]
def eVe9 (g : List Int → List Int → List Int → List Int → Bool) : Ent := Ent.ofS [none, some u8, none, none] veA lNil fun x _ => .leaf (some (okB x.1 ∧ x.2.2.1.length = 64 ∧ x.2.2.2.1.length = 64 ∧ AllBy x.2.2.2.1)) (nB (g x.1 x.2.1 x.2.2.1 x.2.2.2.1)) []
theorem v9Tab_ok : ∀ p ∈ v9Tab decode9L canB preL rshaF redB joinL encode9L mult9L base9C plus9C turn9C, p.2.Ok Tryz.prog p.1 := tabC ndecode_ok (tabC risS_ok (tabC rpre_ok (tabC rjoin_ok (tabC rof'_ok (tabC rreduce_ok (tabC nencode_ok (tabC nmult_ok (tabC nbase_ok (tabC nplus_ok (tabC nturn_ok tab0))))))))))
noncomputable abbrev rverE : Ent := eVe9 verL
theorem rver_ok : rverE.Ok Tryz.prog 16 := by
  refine (Ent.ofOk Tryz.call16 fun x_ y_ Q H_ => ?_).sym
  obtain ⟨p, c, m, g, _⟩ := x_
  obtain ⟨hn, hq⟩ := H_
  have hn : okB p ∧ m.length = 64 ∧ g.length = 64 ∧ AllBy g := hn
  have hc : CallsT Tryz.prog 16 (veA.wr (p, c, m, g, ())) [] (fnT Tryz.prog (v9Tab decode9L canB preL rshaF redB joinL encode9L mult9L base9C plus9C turn9C) v9LT v9Fn (veA.wr (p, c, m, g, ())) [] kK) := fnT_ok mixed v9Tab_ok Tryz.func16 rfl (LOk.ofTab (LTC rfl (loopF_ok (hp := []) v9_loop) LT0))
  obtain ⟨t_, ht, hs⟩ := rver_sat decode9L canB preL rshaF redB joinL encode9L mult9L base9C plus9C turn9C (c := c) hn.1.1 hn.2.1 hn.2.2.1 hn.2.2.2 rsha_len rsha_by redB_ok (pre_len c) join_len
  rw [ver9_eq hn.1 hn.2.1 hn.2.2.1 hn.2.2.2] at hs
  rw [ht] at hc
  exact hc.use (D := []) hs hq
end Go.Proofs.YthdfifcgobfgdaaGreat
end

section
set_option linter.unusedVariables false
set_option linter.unusedSimpArgs false
namespace Go.Proofs.YthdfifcgobfgdaaGreat
open Go Go.Ev BJ
set_option maxRecDepth 1000000
abbrev iA : Cod (List LV) (Int × Unit) := lCons (vOne (sInt .i64)) lNil
noncomputable def num14E : Ent := Ent.ofS [] (iA) (lNil) fun x_ y_ => (fun (x : Int) => .leaf none (nI x) []) x_.1
theorem num14_tree (x : Int) : fnT Tryz.prog [] [] Tryz.f14 ((iA).wr (x, ())) ((lNil).wr ()) [.fr [.sym], .auto] = .leaf (nI x) ([]) := by kernel_rfl
theorem num14_ok : num14E.Ok Tryz.prog 14 := by
  refine (Ent.ofOk Tryz.call14 fun x_ y_ Q H_ => ?_).sym
  obtain ⟨x, _⟩ := x_
  have hq := H_.2
  refine (fnT_ok mixed tab0 Tryz.func14 rfl (LT := []) (ks := [.fr [.sym], .auto]) (LOk.nil _)).use (D := []) ?_ hq
  show (fnT _ _ _ _ ((iA).wr (x, ())) ((lNil).wr ()) _).sat _
  rw [num14_tree]
  exact ⟨rfl, rfl⟩
abbrev trueE : Ent := Ent.of [] lNil lNil fun _ _ => .leaf none (.one (.sc (.bool (.lit true)))) []
noncomputable abbrev edTab (sign : List Int → List Int → List Int → List Int × Int) (ver : List Int → List Int → List Int → List Int → Bool) (pub pre : List Int → List Int) : List (FuncId × Ent) := [(8, eSi sign), (15, eVe ver), (12, ePub pub), (14, num14E), (10, ePre pre)]
theorem edTab_ok : ∀ p ∈ edTab signL verL pubL preL, p.2.Ok Tryz.prog p.1 := tabC sign_ok (tabC verify_ok (tabC pub_ok (tabC num14_ok (tabC pre_ok tab0))))
/-- what is known of signatures -/
structure EdH (sign : List Int → List Int → List Int → List Int × Int) (ver : List Int → List Int → List Int → List Int → Bool) (pub pre : List Int → List Int) : Prop where
  ok : ∀ s c m, c.length ≤ 255 → (sign s c m).2 = 0
  long : ∀ s c m, ¬ c.length ≤ 255 → sign s c m = (List.replicate 64 0, 1)
  len : ∀ s c m, (sign s c m).1.length = 64
  by_ : ∀ s c m, AllBy (sign s c m).1
  publ : ∀ s, (pub s).length = 32
  back : ∀ s c m, c.length ≤ 255 → s.length = 32 → ver (pub s) c m (sign s c m).1 = true
  no : ∀ p c m g, ¬ c.length ≤ 255 → ver p c m g = false
  prel : ∀ c, (pre c).length = if c.length ≤ 255 then 34 + c.length else 0
theorem edH : EdH signL verL pubL preL where
  ok s c m h := by rw [signL_eq, if_pos h]
  long s c m h := by rw [signL_eq, if_neg h]
  len s c m := by rw [signL_eq]; split; exact (sig_half s c m).2.1; simp
  by_ s c m := by rw [signL_eq]; split; exact (sig_half s c m).2.2; exact InB.zeros (by decide) 64
  publ s := pubL_len s
  back s c m h hs := by rw [signL_eq, if_pos h]; exact ver_sig h hs
  no p c m g h := ver_long h
  prel c := by unfold preL domL; split <;> simp; omega
theorem ealive_tree0 (sign : List Int → List Int → List Int → List Int × Int) (ver : List Int → List Int → List Int → List Int → Bool) (pub pre : List Int → List Int) : fnT Tryz.prog (edTab sign ver pub pre) [] Tryz.f7 [] [] [.auto] =
  End.need ((32 : Nat) = (32 : Nat) ∧ (64 : Nat) = (64 : Nat)) (End.ite (((sign [(1 : Int), (0 : Int), (0 : Int), (0 : Int), (0 : Int), (0 : Int), (0 :
  Int), (0 : Int), (0 : Int), (0 : Int), (0 : Int), (0 : Int), (0 : Int), (0 : Int), (0 : Int), (0 : Int), (0 : Int), (0 : Int), (0 : Int), (0 : Int), (0
  : Int), (0 : Int), (0 : Int), (0 : Int), (0 : Int), (0 : Int), (0 : Int), (0 : Int), (0 : Int), (0 : Int), (0 : Int), (0 : Int)] [] ((List.replicate
  (64 : Nat) (0 : Int)).set (0 : Nat) (2 : Int))).snd == (0 : Int)) == true) (End.need ((32 : Nat) = (32 : Nat)) (End.need ((pub [(1 : Int), (0 : Int),
  (0 : Int), (0 : Int), (0 : Int), (0 : Int), (0 : Int), (0 : Int), (0 : Int), (0 : Int), (0 : Int), (0 : Int), (0 : Int), (0 : Int), (0 : Int), (0 :
  Int), (0 : Int), (0 : Int), (0 : Int), (0 : Int), (0 : Int), (0 : Int), (0 : Int), (0 : Int), (0 : Int), (0 : Int), (0 : Int), (0 : Int), (0 : Int), (0
  : Int), (0 : Int), (0 : Int)]).length = (32 : Nat) ∧ (64 : Nat) = (64 : Nat) ∧ (sign [(1 : Int), (0 : Int), (0 : Int), (0 : Int), (0 : Int), (0 : Int),
  (0 : Int), (0 : Int), (0 : Int), (0 : Int), (0 : Int), (0 : Int), (0 : Int), (0 : Int), (0 : Int), (0 : Int), (0 : Int), (0 : Int), (0 : Int), (0 :
  Int), (0 : Int), (0 : Int), (0 : Int), (0 : Int), (0 : Int), (0 : Int), (0 : Int), (0 : Int), (0 : Int), (0 : Int), (0 : Int), (0 : Int)] []
  ((List.replicate (64 : Nat) (0 : Int)).set (0 : Nat) (2 : Int))).fst.length = (64 : Nat) ∧ AllBy (sign [(1 : Int), (0 : Int), (0 : Int), (0 : Int), (0
  : Int), (0 : Int), (0 : Int), (0 : Int), (0 : Int), (0 : Int), (0 : Int), (0 : Int), (0 : Int), (0 : Int), (0 : Int), (0 : Int), (0 : Int), (0 : Int),
  (0 : Int), (0 : Int), (0 : Int), (0 : Int), (0 : Int), (0 : Int), (0 : Int), (0 : Int), (0 : Int), (0 : Int), (0 : Int), (0 : Int), (0 : Int), (0 :
  Int)] [] ((List.replicate (64 : Nat) (0 : Int)).set (0 : Nat) (2 : Int))).fst) (End.leaf (LV.one (VV.sc (SV.bool (SB.sym (ver (pub [(1 : Int), (0 :
  Int), (0 : Int), (0 : Int), (0 : Int), (0 : Int), (0 : Int), (0 : Int), (0 : Int), (0 : Int), (0 : Int), (0 : Int), (0 : Int), (0 : Int), (0 : Int), (0
  : Int), (0 : Int), (0 : Int), (0 : Int), (0 : Int), (0 : Int), (0 : Int), (0 : Int), (0 : Int), (0 : Int), (0 : Int), (0 : Int), (0 : Int), (0 : Int),
  (0 : Int), (0 : Int), (0 : Int)]) [] ((List.replicate (64 : Nat) (0 : Int)).set (0 : Nat) (2 : Int)) (sign [(1 : Int), (0 : Int), (0 : Int), (0 : Int),
  (0 : Int), (0 : Int), (0 : Int), (0 : Int), (0 : Int), (0 : Int), (0 : Int), (0 : Int), (0 : Int), (0 : Int), (0 : Int), (0 : Int), (0 : Int), (0 :
  Int), (0 : Int), (0 : Int), (0 : Int), (0 : Int), (0 : Int), (0 : Int), (0 : Int), (0 : Int), (0 : Int), (0 : Int), (0 : Int), (0 : Int), (0 : Int), (0
  : Int)] [] ((List.replicate (64 : Nat) (0 : Int)).set (0 : Nat) (2 : Int))).fst))))) []))) (End.leaf (LV.one (VV.sc (SV.bool (SB.lit false)))) [])) := by kernel_rfl
theorem ealive_sat {sign : List Int → List Int → List Int → List Int × Int} {ver : List Int → List Int → List Int → List Int → Bool} {pub pre : List Int → List Int} (h : EdH sign ver pub pre) :
    ∃ t_ : Ev.End, fnT Tryz.prog (edTab sign ver pub pre) [] Tryz.f7 [] [] [.auto] = t_ ∧ t_.sat fun v hp' => (∀ β L val, v.den β L val → (LV.one (.sc (.bool (.lit true)))).den β L val) ∧ hp' = applyD [] [] := by
  refine ⟨_, ealive_tree0 .., ?_⟩
  rw [h.ok _ _ _ (by decide), h.back _ _ _ (by decide) rfl]
  exact ⟨⟨rfl, rfl⟩, fun _ => ⟨rfl, ⟨h.publ _, rfl, h.len _ _ _, h.by_ _ _ _⟩, fun β L val hv => hv, rfl⟩, fun h => absurd h (by decide)⟩
theorem ealive_ok : trueE.Ok Tryz.prog 7 := by
  refine Ent.ofOk Tryz.call7 fun x y Q h => ?_
  have hc : CallsT Tryz.prog 7 [] [] (fnT Tryz.prog (edTab signL verL pubL preL) [] Tryz.f7 [] [] [.auto]) := fnT_ok mixed edTab_ok Tryz.func7 rfl (LOk.nil _)
  obtain ⟨t, ht, hs⟩ := ealive_sat edH
  rw [ht] at hc
  exact hc.useD (D := []) hs h.2
end Go.Proofs.YthdfifcgobfgdaaGreat
end

section
set_option linter.unusedVariables false
set_option linter.unusedSimpArgs false
namespace Go.Proofs.YthdfifcgobfgdaaGreat
open Go Go.Ev BJ
set_option maxRecDepth 1000000
noncomputable abbrev etTab (sign : List Int → List Int → List Int → List Int × Int) (sig9 : List Int → List Int → List Int → List Int × Bool) (pub pub9 pre : List Int → List Int) : List (FuncId × Ent) := [(7, trueE), (8, eSi sign), (9, eSi9 sig9), (12, ePub pub), (13, ePub pub9), (14, num14E), (10, ePre pre), (11, ePre pre)]
theorem etells_tree (sign : List Int → List Int → List Int → List Int × Int) (sig9 : List Int → List Int → List Int → List Int × Bool) (pub pub9 pre : List Int → List Int) (s c m : List Int) : fnT Tryz.prog (etTab sign sig9 pub pub9 pre) [] Tryz.f3 (siA.wr (s, c, m, ())) [] [.fr [.sym], .auto] =
  End.ite (decide ((300 : Int) < (↑c.length : Int))) (End.leaf (LV.one (VV.sc (SV.bool (SB.sym true)))) []) (End.need (c.length * (1 : Nat) ≤
  (70368744177664 : Nat) ∧ c.length ≤ (70368744177664 : Nat)) (End.need (s.length = (32 : Nat) ∧ m.length = (64 : Nat)) (End.need (s.length = (32 : Nat)
  ∧ m.length = (64 : Nat)) (End.ite (strEq (pre c) (pre c) == true) (End.need (s.length = (32 : Nat)) (End.need (s.length = (32 : Nat)) (End.ite (decide
  (pub s = pub9 s) == true) (End.ite (decide ((sign s c m).fst = (sig9 s c m).fst) == true) (End.ite ((((sign s c m).snd == (0 : Int)) == (sig9 s c
  m).snd) == true) (End.ite ((sig9 s c m).snd == false) (End.leaf (LV.one (VV.sc (SV.bool (SB.sym ((sign s c m).snd == (1 : Int)))))) []) (End.leaf
  (LV.one (VV.sc (SV.bool (SB.sym true)))) [])) (End.leaf (LV.one (VV.sc (SV.bool (SB.sym false)))) [])) (End.leaf (LV.one (VV.sc (SV.bool (SB.sym
  false)))) [])) (End.leaf (LV.one (VV.sc (SV.bool (SB.sym false)))) [])))) (End.leaf (LV.one (VV.sc (SV.bool (SB.sym false)))) []))))) := by kernel_rfl
noncomputable abbrev evTab (ver ver9 : List Int → List Int → List Int → List Int → Bool) : List (FuncId × Ent) := [(7, trueE), (15, eVe ver), (16, eVe9 ver9)]
theorem everi_tree (ver ver9 : List Int → List Int → List Int → List Int → Bool) (p c m g : List Int) : fnT Tryz.prog (evTab ver ver9) [] Tryz.f4 (veA.wr (p, c, m, g, ())) [] [.fr [.sym], .auto] =
  End.ite (decide ((300 : Int) < (↑c.length : Int))) (End.leaf (LV.one (VV.sc (SV.bool (SB.sym true)))) []) (End.need (c.length * (1 : Nat) ≤
  (70368744177664 : Nat) ∧ c.length ≤ (70368744177664 : Nat)) (End.need (p.length = (32 : Nat) ∧ m.length = (64 : Nat) ∧ g.length = (64 : Nat) ∧ AllBy g)
  (End.need (okB p ∧ m.length = (64 : Nat) ∧ g.length = (64 : Nat) ∧ AllBy g) (End.leaf (LV.one (VV.sc (SV.bool (SB.sym (ver p c m g == ver9 p c m g)))))
  [])))) := by kernel_rfl
structure EtH (sign : List Int → List Int → List Int → List Int × Int) (sig9 : List Int → List Int → List Int → List Int × Bool) (pub pub9 : List Int → List Int) (s c m : List Int) : Prop where
  key : pub s = pub9 s
  sig : (sign s c m).1 = (sig9 s c m).1
  ok : (sig9 s c m).2 = true → (sign s c m).2 = 0
  no : (sig9 s c m).2 = false → (sign s c m).2 = 1
theorem etells_sat {sign : List Int → List Int → List Int → List Int × Int} {sig9 : List Int → List Int → List Int → List Int × Bool} {pub pub9 : List Int → List Int} (pre : List Int → List Int) {s c m : List Int} (hs : s.length = 32) (hm : m.length = 64) (H : EtH sign sig9 pub pub9 s c m) :
    ∃ t_ : Ev.End, fnT Tryz.prog (etTab sign sig9 pub pub9 pre) [] Tryz.f3 (siA.wr (s, c, m, ())) [] [.fr [.sym], .auto] = t_ ∧ t_.sat fun v hp' => v = nB true ∧ hp' = applyD [] [] := by
  refine ⟨_, etells_tree .., ?_⟩
  obtain ⟨h1, h2, h3, h4⟩ := H
  rw [strEq_self, decide_eq_true h1, decide_eq_true h2]
  refine ⟨fun _ => ⟨rfl, rfl⟩, fun h => ?_⟩
  have h := of_decide_eq_false h
  refine ⟨by omega, ⟨hs, hm⟩, ⟨hs, hm⟩, fun _ => ⟨hs, hs, fun _ => ⟨fun _ => ?_, fun h => absurd h (by decide)⟩, fun h => absurd h (by decide)⟩, fun h => absurd h (by decide)⟩
  cases e : (sig9 s c m).2
  · rw [h4 e]
    exact ⟨fun _ => ⟨fun _ => ⟨rfl, rfl⟩, fun h => absurd h (by decide)⟩, fun h => absurd h (by decide)⟩
  · rw [h3 e]
    exact ⟨fun _ => ⟨fun h => absurd h (by decide), fun _ => ⟨rfl, rfl⟩⟩, fun h => absurd h (by decide)⟩
theorem etH (s c m : List Int) : EtH signL sign9L pubL pub9L s c m where
  key := (pub9_eq s).symm
  sig := rfl
  ok h := by
    have h : c.length ≤ 255 := of_decide_eq_true h
    rw [signL_eq, if_pos h]
  no h := by
    have h : ¬ c.length ≤ 255 := of_decide_eq_false h
    rw [signL_eq, if_neg h]
theorem etTab_ok : ∀ p ∈ etTab signL sign9L pubL pub9L preL, p.2.Ok Tryz.prog p.1 := tabC ealive_ok (tabC sign_ok (tabC rsign_ok (tabC pub_ok (tabC rpub_ok (tabC num14_ok (tabC pre_ok (tabC rpre_ok tab0)))))))
noncomputable abbrev etellsE : Ent := Ent.ofS [none, some u8, none] siA lNil fun x _ => .leaf (some (x.1.length = 32 ∧ x.2.2.1.length = 64)) (nB true) []
theorem etells_ok : etellsE.Ok Tryz.prog 3 := by
  refine (Ent.ofOk Tryz.call3 fun x_ y_ Q h => ?_).sym
  obtain ⟨s, c, m, _⟩ := x_
  obtain ⟨hn, hq⟩ := h
  have hn : s.length = 32 ∧ m.length = 64 := hn
  have hc : CallsT Tryz.prog 3 (siA.wr (s, c, m, ())) [] (fnT Tryz.prog (etTab signL sign9L pubL pub9L preL) [] Tryz.f3 (siA.wr (s, c, m, ())) [] [.fr [.sym], .auto]) := fnT_ok mixed etTab_ok Tryz.func3 rfl (LOk.nil _)
  obtain ⟨t, ht, hs⟩ := etells_sat preL hn.1 hn.2 (etH s c m)
  rw [ht] at hc
  exact hc.use (D := []) hs hq
theorem everi_sat {ver ver9 : List Int → List Int → List Int → List Int → Bool} {p c m g : List Int} (hp : okB p) (hm : m.length = 64) (hg : g.length = 64) (hb : AllBy g) (H : ver p c m g = ver9 p c m g) :
    ∃ t_ : Ev.End, fnT Tryz.prog (evTab ver ver9) [] Tryz.f4 (veA.wr (p, c, m, g, ())) [] [.fr [.sym], .auto] = t_ ∧ t_.sat fun v hp' => v = nB true ∧ hp' = applyD [] [] := by
  refine ⟨_, everi_tree .., ?_⟩
  refine ⟨fun _ => ⟨rfl, rfl⟩, fun h => ?_⟩
  have h := of_decide_eq_false h
  exact ⟨by omega, ⟨hp.1, hm, hg, hb⟩, ⟨hp, hm, hg, hb⟩, nB_eq (by rw [H]; simp), rfl⟩
theorem evTab_ok : ∀ p ∈ evTab verL verL, p.2.Ok Tryz.prog p.1 := tabC ealive_ok (tabC verify_ok (tabC rver_ok tab0))
noncomputable abbrev everiE : Ent := Ent.ofS [none, some u8, none, none] veA lNil fun x _ => .leaf (some (okB x.1 ∧ x.2.2.1.length = 64 ∧ x.2.2.2.1.length = 64 ∧ AllBy x.2.2.2.1)) (nB true) []
theorem everi_ok : everiE.Ok Tryz.prog 4 := by
  refine (Ent.ofOk Tryz.call4 fun x_ y_ Q h => ?_).sym
  obtain ⟨p, c, m, g, _⟩ := x_
  obtain ⟨hn, hq⟩ := h
  have hn : okB p ∧ m.length = 64 ∧ g.length = 64 ∧ AllBy g := hn
  have hc : CallsT Tryz.prog 4 (veA.wr (p, c, m, g, ())) [] (fnT Tryz.prog (evTab verL verL) [] Tryz.f4 (veA.wr (p, c, m, g, ())) [] [.fr [.sym], .auto]) := fnT_ok mixed evTab_ok Tryz.func4 rfl (LOk.nil _)
  obtain ⟨t, ht, hs⟩ := everi_sat (c := c) hn.1 hn.2.1 hn.2.2.1 hn.2.2.2 rfl
  rw [ht] at hc
  exact hc.use (D := []) hs hq
end Go.Proofs.YthdfifcgobfgdaaGreat
end
