/- SHA-512: the document's step. -/
import Derived.Test.YtdpbkfmjknmmnaaS1
set_option linter.unusedVariables false
set_option linter.unusedSimpArgs false
namespace Go.Proofs.Ytdpbkfmjknmmnaa
open Go Go.Ev
set_option maxRecDepth 100000
noncomputable def rbeginE : Ent := Ent.ofS [] lNil lNil fun _ _ => .leaf none (nRow .u64 8 beginK) []
noncomputable def rroundsE : Ent := Ent.ofS [] lNil lNil fun _ _ => .leaf none (nRow .u64 80 roundsK) []
--use rbegin bootjackref6.Begin
--use rrounds bootjackref6.Rounds
theorem rbegin_tree : fnT Try.prog [] [] Try.f66 (lNil.wr ()) (lNil.wr ()) [.fr [.sym], .rowF 0 0 8 .u64, .auto] = .leaf (nRow .u64 8 beginK) [] := by kernel_rfl
theorem rrounds_tree : fnT Try.prog [] [] Try.f78 (lNil.wr ()) (lNil.wr ()) [.fr [.sym], .auto] = .leaf (nRow .u64 80 roundsK) [] := by kernel_rfl
theorem rbegin_ok : rbeginE.Ok Try.prog 66 := by
  refine (Ent.ofOk Try.call66 fun x_ y_ Q h => ?_).sym
  refine (fnT_ok mixed tab0 Try.func66 rfl (LT := []) (ks := [.fr [.sym], .rowF 0 0 8 .u64, .auto]) (LOk.nil _)).use (D := []) ?_ h.2
  show (fnT _ _ _ _ (lNil.wr ()) (lNil.wr ()) _).sat _
  rw [rbegin_tree]
  exact ⟨rfl, rfl⟩
theorem rrounds_ok : rroundsE.Ok Try.prog 78 := by
  refine (Ent.ofOk Try.call78 fun x_ y_ Q h => ?_).sym
  refine (fnT_ok mixed tab0 Try.func78 rfl (LT := []) (ks := [.fr [.sym], .auto]) (LOk.nil _)).use (D := []) ?_ h.2
  show (fnT _ _ _ _ (lNil.wr ()) (lNil.wr ()) _).sat _
  rw [rrounds_tree]
  exact ⟨rfl, rfl⟩
noncomputable def rrotrE : Ent := Ent.ofS [] (uiC) (lNil) fun x_ y_ => (fun (x n : Int) => .leaf (some (0 < n ∧ n < 64)) (nU (rotr x n)) []) x_.1 x_.2.1 
theorem rrotr_tree (x n : Int) : fnT Try.prog [] [] Try.f79 ((uiC).wr (x, n, ())) ((lNil).wr ()) [.fr [.sym], .auto] =
    End.ite (IntKind.u64.wrap ((IntKind.i64.wrap (n.tmod (64 : Int) + (64 : Int))).tmod (64 : Int)) == (0 : Int))
      (End.leaf (LV.one (VV.sc (SV.int IntKind.u64 (SI.sym x)))) [])
      (End.need ((0 : Int) ≤ IntKind.u64.wrap ((IntKind.i64.wrap (n.tmod (64 : Int) + (64 : Int))).tmod (64 : Int)))
        (End.need
          ((0 : Int) ≤
            IntKind.u64.wrap
              ((64 : Int) - IntKind.u64.wrap ((IntKind.i64.wrap (n.tmod (64 : Int) + (64 : Int))).tmod (64 : Int))))
          (End.leaf
            (LV.one
              (VV.sc
                (SV.int IntKind.u64
                  (SI.sym
                    (bitOr IntKind.u64
                      (shr IntKind.u64 x
                        (IntKind.u64.wrap ((IntKind.i64.wrap (n.tmod (64 : Int) + (64 : Int))).tmod (64 : Int))))
                      (shl IntKind.u64 x
                        (IntKind.u64.wrap
                          ((64 : Int) -
                            IntKind.u64.wrap ((IntKind.i64.wrap (n.tmod (64 : Int) + (64 : Int))).tmod (64 : Int))))))))))
            []))) := by kernel_rfl
theorem rrotr_ok : rrotrE.Ok Try.prog 79 := by
  refine (Ent.ofOk Try.call79 fun x_ y_ Q h => ?_).sym
  obtain ⟨x, n, _⟩ := x_
  obtain ⟨hn, hq⟩ := h
  have hn : 0 < n ∧ n < 64 := hn
  refine (fnT_ok mixed tab0 Try.func79 rfl (LT := []) (ks := [.fr [.sym], .auto]) (LOk.nil _)).use (D := []) ?_ hq
  show (fnT _ _ _ _ ((uiC).wr (x, n, ())) ((lNil).wr ()) _).sat _
  rw [rrotr_tree]
  obtain ⟨h0, h1⟩ := hn
  have e : IntKind.u64.wrap ((IntKind.i64.wrap (n.tmod 64 + 64)).tmod 64) = n := by
    have a1 : n.tmod 64 = n := by rw [Int.tmod_eq_emod_of_nonneg (by omega)]; omega
    rw [a1, wrap_i64 (by omega) (by omega)]
    have a2 : (n + 64).tmod 64 = n := by rw [Int.tmod_eq_emod_of_nonneg (by omega)]; omega
    rw [a2, wrap_u64 (by omega) (by omega)]
  have e2 : IntKind.u64.wrap (64 - n) = 64 - n := wrap_u64 (by omega) (by omega)
  rw [e, e2, or_comm']
  exact ⟨fun h => by simp at h; omega, fun _ => ⟨by omega, by omega, rfl, rfl⟩⟩
theorem ofInt_wrap (b : BitVec 64) : BitVec.ofInt 64 (IntKind.u64.wrap (b.toNat : Int)) = b := by
  have h := b.isLt
  rw [wrap_u64 (by omega) (by omega)]
  simp
theorem maj_or (x y z : Int) : bitOr .u64 (bitOr .u64 (bitAnd .u64 x y) (bitAnd .u64 x z)) (bitAnd .u64 y z) = majF x y z := by
  unfold majF bitOr bitXor bitAnd
  show IntKind.u64.wrap ((BitVec.ofInt 64 (IntKind.u64.wrap ((BitVec.ofInt 64 (IntKind.u64.wrap ((BitVec.ofInt 64 x &&& BitVec.ofInt 64 y).toNat : Int)) ||| BitVec.ofInt 64 (IntKind.u64.wrap ((BitVec.ofInt 64 x &&& BitVec.ofInt 64 z).toNat : Int))).toNat : Int)) ||| BitVec.ofInt 64 (IntKind.u64.wrap ((BitVec.ofInt 64 y &&& BitVec.ofInt 64 z).toNat : Int))).toNat : Int) =
    IntKind.u64.wrap ((BitVec.ofInt 64 (IntKind.u64.wrap ((BitVec.ofInt 64 (IntKind.u64.wrap ((BitVec.ofInt 64 x &&& BitVec.ofInt 64 y).toNat : Int)) ^^^ BitVec.ofInt 64 (IntKind.u64.wrap ((BitVec.ofInt 64 x &&& BitVec.ofInt 64 z).toNat : Int))).toNat : Int)) ^^^ BitVec.ofInt 64 (IntKind.u64.wrap ((BitVec.ofInt 64 y &&& BitVec.ofInt 64 z).toNat : Int))).toNat : Int)
  simp only [ofInt_wrap]
  congr 3
  apply BitVec.eq_of_getLsbD_eq
  intro i _
  simp only [BitVec.getLsbD_or, BitVec.getLsbD_and, BitVec.getLsbD_xor]
  cases (BitVec.ofInt 64 x).getLsbD i <;> cases (BitVec.ofInt 64 y).getLsbD i <;> cases (BitVec.ofInt 64 z).getLsbD i <;> rfl
noncomputable abbrev rwFn : Func := Try.f70
abbrev rwC : Cod (List LV) (List Int × Int × Unit) := (lCons (vOne (sRd false false u8)) (jk 1 (lSkip (vOne (sPtr 0 0)) (jk 1 (lSkip (vOne (sPtr 1 0)) (lCons (vOne (sInt .i64)) (jk 24 lNil)))))))
abbrev rwCf : Wk := .fr (fmS 30 [(0, .keep), (2, .keep), (4, .keep), (5, .sym)])
abbrev rwX : Cod (List LV) (Unit) := (jk 2 (lSkip (vOne (sPtr 0 0)) (jk 1 (lSkip (vOne (sPtr 1 0)) (jk 25 lNil)))))
abbrev rwXf : Wk := .fr (fmS 30 [(2, .keep), (4, .keep)])
def rwW : Exit → List Wk
  | .normal => [rwCf, .rowB 0 0 16 .u64, .rowB 1 0 16 .u64, .auto]
  | .exit 0 => [rwXf, .auto]
  | _ => []
theorem rw_rnd (b : List Int) (i : Int) (r m : List Int) : rndT Try.prog [] [] rwFn 0 [] rwW ((stC rwC woH).wr ((b, i, ()), (r, m, ()))) =
    Res.ite (decide (i < (128 : Int)))
      (Res.need ((0 : Int) ≤ IntKind.i64.wrap (i.tdiv (8 : Int)) ∧ IntKind.i64.wrap (i.tdiv (8 : Int)) < (16 : Int))
        (Res.need ((0 : Int) ≤ i ∧ i < ↑b.length)
          (Res.need ((0 : Int) ≤ IntKind.i64.wrap (i.tdiv (8 : Int)) ∧ IntKind.i64.wrap (i.tdiv (8 : Int)) < (16 : Int))
            (Res.leaf Exit.normal
              ((stC rwC woH).wr
                ((b, IntKind.i64.wrap (i + (1 : Int)), PUnit.unit), r,
                  m.set ((0 : Nat) + (IntKind.i64.wrap (i.tdiv (8 : Int))).toNat)
                    (bitOr IntKind.u64
                      (shl IntKind.u64
                        ((List.take (16 : Nat) (List.drop (0 : Nat) m)).getD (IntKind.i64.wrap (i.tdiv (8 : Int))).toNat
                          (0 : Int))
                        (8 : Int))
                      (IntKind.u64.wrap (b.getD i.toNat (0 : Int)))),
                  PUnit.unit))))))
      (Res.leaf (Exit.exit (0 : Nat)) ((stC rwX woH).wr (PUnit.unit, r, m, PUnit.unit))) := by kernel_rfl
noncomputable def rwF (x : (List Int × Int × Unit) × List Int × List Int × Unit) : Res :=
  .need (x.1.1.length = 128 ∧ x.1.2.1 = 0 ∧ x.2.2.1 = List.replicate 16 0) (.leaf (.exit 0) ((stC rwX woH).wr ((), (x.2.1, wordsF x.1.1, ()))))
theorem rw_loop (x) : Ex Try.prog [] (.loop (loopAt rwFn 0)) ((stC rwC woH).wr x) (rwF x) := by
  obtain ⟨⟨b, i, _⟩, r, m, _⟩ := x
  refine Ex.need fun ⟨h1, h3, h4⟩ => ?_
  simp only at h1 h3 h4
  subst h3 h4
  refine loopUp (ws := rwW) (hp := []) mixed tab0 (LOk.nil _) 128 (fun k m => (stC rwC woH).wr ((b, (k : Int), ()), (r, m, ()))) (fun m => (stC rwX woH).wr ((), (r, m, ()))) (wordF b) (fun _ m => m.length = 16)
    (fun k m R hk hm hn hx => ?_) (fun k m _ hm => by rw [wordF_length]; exact hm) 0 (List.replicate 16 0) (by omega) (by simp)
  rw [rw_rnd]
  refine ⟨fun hb => ?_, fun hb => ?_⟩
  · have hlt : k < 128 := by have := of_decide_eq_true hb; omega
    have e : IntKind.i64.wrap ((k : Int).tdiv 8) = ((k / 8 : Nat) : Int) := tdiv_nat k 8 (by omega)
    rw [e, take_all hm, wrap_succ k (by omega)]
    simp only [Int.toNat_natCast, Nat.zero_add]
    exact ⟨by omega, by omega, by omega, hn hlt⟩
  · have : k = 128 := by have := of_decide_eq_false hb; omega
    exact hx this
noncomputable abbrev rwLT : LTab := [(0, loopF (stC rwC woH) 0 [rwCf, .auto, .rowB 0 0 16 .u64, .rowB 1 0 16 .u64] rwF)]
noncomputable def rwordsE : Ent := Ent.ofS [some u8] (bA) (lNil) fun x_ y_ => (fun (b : List Int) => .leaf (some (b.length = 128)) (.tup [.agg [.arr (.int .u64) 16 (wordsF b)], .sc (.bool (.sym true))]) []) x_.1 
theorem rwords_tree (b : List Int) : fnT Try.prog [] rwLT Try.f70 ((bA).wr (b, ())) ((lNil).wr ()) [.fr [.sym], .rowF 0 0 16 .u64, .auto] =
    End.ite (↑b.length != (128 : Int))
      (End.leaf
        (LV.tup
          [VV.agg
              [SV.arr (Ty.int IntKind.u64) (16 : Nat)
                  [(0 : Int), (0 : Int), (0 : Int), (0 : Int), (0 : Int), (0 : Int), (0 : Int), (0 : Int), (0 : Int),
                    (0 : Int), (0 : Int), (0 : Int), (0 : Int), (0 : Int), (0 : Int), (0 : Int)]],
            VV.sc (SV.bool (SB.sym false))])
        [])
      (End.need
        (b.length = (128 : Nat) ∧
          (0 : Int) = (0 : Int) ∧
            [(0 : Int), (0 : Int), (0 : Int), (0 : Int), (0 : Int), (0 : Int), (0 : Int), (0 : Int), (0 : Int), (0 : Int),
                (0 : Int), (0 : Int), (0 : Int), (0 : Int), (0 : Int), (0 : Int)] =
              List.replicate (16 : Nat) (0 : Int))
        (End.leaf (LV.tup [VV.agg [SV.arr (Ty.int IntKind.u64) (16 : Nat) (wordsF b)], VV.sc (SV.bool (SB.sym true))]) [])) := by kernel_rfl
theorem rwords_ok : rwordsE.Ok Try.prog 70 := by
  refine (Ent.ofOk Try.call70 fun x_ y_ Q h => ?_).sym
  obtain ⟨b, _⟩ := x_
  obtain ⟨hn, hq⟩ := h
  have hn : b.length = 128 := hn
  refine (fnT_ok mixed tab0 Try.func70 rfl (LT := rwLT) (ks := [.fr [.sym], .rowF 0 0 16 .u64, .auto]) (LOk.ofTab (LTC rfl (loopF_ok (hp := []) rw_loop) LT0))).use (D := []) ?_ hq
  show (fnT _ _ _ _ ((bA).wr (b, ())) ((lNil).wr ()) _).sat _
  rw [rwords_tree]
  refine ⟨fun h => ?_, fun h => ⟨⟨hn, rfl, rfl⟩, rfl, rfl⟩⟩
  simp [hn] at h
/-! ### Schedule -/
def rschF (m : List Int) (t : Nat) (w : List Int) : List Int := if t < 16 then w.set t (m.getD t 0) else schF t w
theorem rschF_length (m : List Int) (t : Nat) (w : List Int) : (rschF m t w).length = w.length := by unfold rschF; split <;> simp [schF]
theorem rsch_first (m : List Int) : ∀ (j k : Nat), k + j ≤ 16 → m.length = 16 → upto (rschF m) k j (m.take k ++ List.replicate (80 - k) 0) = m.take (k + j) ++ List.replicate (80 - (k + j)) 0
  | 0, _, _, _ => rfl
  | j + 1, k, h, hm => by
    have e : rschF m k (m.take k ++ List.replicate (80 - k) 0) = m.take (k + 1) ++ List.replicate (80 - (k + 1)) 0 := by
      unfold rschF
      have hl : (m.take k).length = k := by simp; omega
      rw [if_pos (by omega), List.set_append_right _ _ (by omega), hl, Nat.sub_self, show 80 - k = (80 - (k + 1)) + 1 from by omega, List.replicate_succ, List.set_cons_zero, ← List.take_append_getElem (by omega : k < m.length), List.append_assoc]
      simp [List.getD_eq_getElem?_getD, List.getElem?_eq_getElem (show k < m.length by omega)]
    show upto (rschF m) (k + 1) j (rschF m k _) = _
    rw [e, rsch_first m j (k + 1) (by omega) hm, show k + 1 + j = k + (j + 1) from by omega]
theorem rsched_eq {m : List Int} (hm : m.length = 16) : upto (rschF m) 0 80 (List.replicate 80 0) = schedF m := by
  have h := rsch_first m 16 0 (by omega) hm
  rw [show (80 : Nat) = 16 + 64 from rfl, upto_add]
  simp only [List.take_zero, List.nil_append, Nat.zero_add, Nat.sub_zero] at h
  rw [Nat.zero_add, show List.replicate (16 + 64) (0 : Int) = List.replicate 80 0 from rfl, h, List.take_of_length_le (by omega)]
  exact upto_congr (n := 80) (fun k (_ : List Int) => 16 ≤ k) (fun k _ _ h => by omega) (fun k w _ h => by unfold rschF; rw [if_neg (by omega)]) 64 16 _ (by omega) (by omega)
noncomputable abbrev rscFn : Func := Try.f77
abbrev rsC : Cod (List LV) (Int × Unit) := (jk 1 (lSkip (vOne (sPtr 0 0)) (lSkip (vOne (sPtr 1 0)) (lSkip (vOne (sPtr 2 0)) (lCons (vOne (sInt .i64)) (jk 52 lNil))))))
abbrev rsCf : Wk := .fr (fmS 57 [(1, .keep), (2, .keep), (3, .keep), (4, .sym)])
abbrev rsX : Cod (List LV) (Unit) := (jk 2 (lSkip (vOne (sPtr 0 0)) (lSkip (vOne (sPtr 1 0)) (jk 53 lNil))))
abbrev rsXf : Wk := .fr (fmS 57 [(2, .keep), (3, .keep)])
abbrev rsH : Cod Hp (List Int × List Int × List Int × Unit) := lCons (iRow 96 .u64 16) (lCons (iRow 101 .u64 80) (lCons (iRow 101 .u64 80) lNil))
noncomputable abbrev rsTab : List (FuncId × Ent) := [(79, rrotrE)]
theorem rsTab_ok : ∀ p ∈ rsTab, p.2.Ok Try.prog p.1 := tabC rrotr_ok tab0
def rsW : Exit → List Wk
  | .normal => [rsCf, .auto]
  | .exit 0 => [rsXf, .auto]
  | _ => []
theorem rs_rnd (t : Int) (m r w : List Int) : rndT Try.prog rsTab [] rscFn 0 [] rsW ((stC rsC rsH).wr ((t, ()), (m, r, w, ()))) =
    Res.ite (decide (t < (80 : Int)))
      (Res.ite (decide (t < (16 : Int)))
        (Res.need ((0 : Int) ≤ t ∧ t < (16 : Int))
          (Res.need ((0 : Int) ≤ t ∧ t < (80 : Int))
            (Res.leaf Exit.normal
              ((stC rsC rsH).wr
                ((IntKind.i64.wrap (t + (1 : Int)), PUnit.unit), m, r,
                  w.set ((0 : Nat) + t.toNat) ((List.take (16 : Nat) (List.drop (0 : Nat) m)).getD t.toNat (0 : Int)),
                  PUnit.unit)))))
        (Res.need ((0 : Int) ≤ IntKind.i64.wrap (t - (15 : Int)) ∧ IntKind.i64.wrap (t - (15 : Int)) < (80 : Int))
          (Res.need ((0 : Int) ≤ IntKind.i64.wrap (t - (2 : Int)) ∧ IntKind.i64.wrap (t - (2 : Int)) < (80 : Int))
            (Res.need ((0 : Int) < (19 : Int) ∧ (19 : Int) < (64 : Int))
              (Res.need ((0 : Int) < (61 : Int) ∧ (61 : Int) < (64 : Int))
                (Res.need ((0 : Int) ≤ IntKind.i64.wrap (t - (7 : Int)) ∧ IntKind.i64.wrap (t - (7 : Int)) < (80 : Int))
                  (Res.need ((0 : Int) < (1 : Int) ∧ (1 : Int) < (64 : Int))
                    (Res.need ((0 : Int) < (8 : Int) ∧ (8 : Int) < (64 : Int))
                      (Res.need
                        ((0 : Int) ≤ IntKind.i64.wrap (t - (16 : Int)) ∧ IntKind.i64.wrap (t - (16 : Int)) < (80 : Int))
                        (Res.need ((0 : Int) ≤ t ∧ t < (80 : Int))
                          (Res.leaf Exit.normal
                            ((stC rsC rsH).wr
                              ((IntKind.i64.wrap (t + (1 : Int)), PUnit.unit), m, r,
                                w.set ((0 : Nat) + t.toNat)
                                  (IntKind.u64.wrap
                                    (IntKind.u64.wrap
                                        (IntKind.u64.wrap
                                            (bitXor IntKind.u64
                                                (bitXor IntKind.u64
                                                  (rotr
                                                    ((List.take (80 : Nat) (List.drop (0 : Nat) w)).getD
                                                      (IntKind.i64.wrap (t - (2 : Int))).toNat (0 : Int))
                                                    (19 : Int))
                                                  (rotr
                                                    ((List.take (80 : Nat) (List.drop (0 : Nat) w)).getD
                                                      (IntKind.i64.wrap (t - (2 : Int))).toNat (0 : Int))
                                                    (61 : Int)))
                                                (shr IntKind.u64
                                                  ((List.take (80 : Nat) (List.drop (0 : Nat) w)).getD
                                                    (IntKind.i64.wrap (t - (2 : Int))).toNat (0 : Int))
                                                  (6 : Int)) +
                                              (List.take (80 : Nat) (List.drop (0 : Nat) w)).getD
                                                (IntKind.i64.wrap (t - (7 : Int))).toNat (0 : Int)) +
                                          bitXor IntKind.u64
                                            (bitXor IntKind.u64
                                              (rotr
                                                ((List.take (80 : Nat) (List.drop (0 : Nat) w)).getD
                                                  (IntKind.i64.wrap (t - (15 : Int))).toNat (0 : Int))
                                                (1 : Int))
                                              (rotr
                                                ((List.take (80 : Nat) (List.drop (0 : Nat) w)).getD
                                                  (IntKind.i64.wrap (t - (15 : Int))).toNat (0 : Int))
                                                (8 : Int)))
                                            (shr IntKind.u64
                                              ((List.take (80 : Nat) (List.drop (0 : Nat) w)).getD
                                                (IntKind.i64.wrap (t - (15 : Int))).toNat (0 : Int))
                                              (7 : Int))) +
                                      (List.take (80 : Nat) (List.drop (0 : Nat) w)).getD
                                        (IntKind.i64.wrap (t - (16 : Int))).toNat (0 : Int))),
                                PUnit.unit)))))))))))))
      (Res.leaf (Exit.exit (0 : Nat)) ((stC rsX scH).wr (PUnit.unit, r, w, PUnit.unit))) := by kernel_rfl
noncomputable def rsF (x : (Int × Unit) × List Int × List Int × List Int × Unit) : Res :=
  .need (x.1.1 = 0 ∧ x.2.1.length = 16 ∧ x.2.2.2.1 = List.replicate 80 0) (.leaf (.exit 0) ((stC rsX scH).wr ((), (x.2.2.1, schedF x.2.1, ()))))
theorem rs_loop (x) : Ex Try.prog [] (.loop (loopAt rscFn 0)) ((stC rsC rsH).wr x) (rsF x) := by
  obtain ⟨⟨i, _⟩, m, r, w, _⟩ := x
  refine Ex.need fun ⟨h1, h2, h3⟩ => ?_
  simp only at h1 h2 h3
  subst h1 h3
  have key := loopUp (fn := rscFn) (id := 0) (j := 0) (ws := rsW) (hp := []) mixed rsTab_ok (LOk.nil _) 80 (fun k w => (stC rsC rsH).wr (((k : Int), ()), (m, r, w, ()))) (fun w => (stC rsX scH).wr ((), (r, w, ()))) (rschF m) (fun _ w => w.length = 80)
    (fun k w R hk hm hn hx => ?_) (fun k w _ hw => by rw [rschF_length]; exact hw) 0 (List.replicate 80 0) (by omega) (by simp)
  · rw [rsched_eq h2] at key; exact key
  rw [rs_rnd]
  refine ⟨fun hb => ?_, fun hb => ?_⟩
  · have hlt : k < 80 := by have := of_decide_eq_true hb; omega
    rw [take_all hm, take_all h2, wrap_succ k (by omega)]
    refine ⟨fun h16 => ?_, fun h16 => ?_⟩
    · have h16 : k < 16 := by have := of_decide_eq_true h16; omega
      have := hn hlt
      unfold rschF at this
      rw [if_pos h16] at this
      simp only [Int.toNat_natCast, Nat.zero_add]
      exact ⟨by omega, by omega, this⟩
    · have h16 : 16 ≤ k := by have := of_decide_eq_false h16; omega
      have := hn hlt
      unfold rschF at this
      rw [if_neg (by omega)] at this
      have e2 : IntKind.i64.wrap ((k : Int) - 2) = ((k - 2 : Nat) : Int) := wrap_sub k 2 (by omega) (by omega)
      have e7 : IntKind.i64.wrap ((k : Int) - 7) = ((k - 7 : Nat) : Int) := wrap_sub k 7 (by omega) (by omega)
      have e15 : IntKind.i64.wrap ((k : Int) - 15) = ((k - 15 : Nat) : Int) := wrap_sub k 15 (by omega) (by omega)
      have e16 : IntKind.i64.wrap ((k : Int) - 16) = ((k - 16 : Nat) : Int) := wrap_sub k 16 (by omega) (by omega)
      rw [e2, e7, e15, e16]
      simp only [Int.toNat_natCast, Nat.zero_add]
      exact ⟨by omega, by omega, by decide, by decide, by omega, by decide, by decide, by omega, by omega, this⟩
  · have : k = 80 := by have := of_decide_eq_false hb; omega
    exact hx this
noncomputable abbrev rsLT : LTab := [(0, loopF (stC rsC rsH) 0 [rsCf, .auto] rsF)]
noncomputable def rschedE : Ent := Ent.ofS [] (scA) (lNil) fun x_ y_ => (fun (m : List Int) => .leaf (some (m.length = 16)) (nRow .u64 80 (schedF m)) []) x_.1 
theorem rsched_tree (m : List Int) : fnT Try.prog rsTab rsLT Try.f77 ((scA).wr (m, ())) ((lNil).wr ()) [.fr [.sym], .auto] =
    End.need
      ((0 : Int) = (0 : Int) ∧
        m.length = (16 : Nat) ∧ List.replicate (80 : Nat) (0 : Int) = List.replicate (80 : Nat) (0 : Int))
      (End.leaf (LV.one (VV.agg [SV.arr (Ty.int IntKind.u64) (80 : Nat) (schedF m)])) []) := by kernel_rfl
theorem rsched_ok : rschedE.Ok Try.prog 77 := by
  refine (Ent.ofOk Try.call77 fun x_ y_ Q h => ?_).sym
  obtain ⟨m, _⟩ := x_
  obtain ⟨hn, hq⟩ := h
  have hn : m.length = 16 := hn
  refine (fnT_ok mixed rsTab_ok Try.func77 rfl (LT := rsLT) (ks := [.fr [.sym], .auto]) (LOk.ofTab (LTC rfl (loopF_ok (hp := []) rs_loop) LT0))).use (D := []) ?_ hq
  show (fnT _ _ _ _ ((scA).wr (m, ())) ((lNil).wr ()) _).sat _
  rw [rsched_tree]
  exact ⟨⟨rfl, hn, rfl⟩, rfl, rfl⟩
/-! ### The step -/
noncomputable abbrev rstFn : Func := Try.f71
abbrev rpC : Cod (List LV) (Int × Unit) := (jk 2 (lSkip (vOne (sPtr 0 0)) (jk 1 (lSkip (vOne (sPtr 1 0)) (lSkip (vOne (sPtr 2 0)) (lSkip (vOne (sPtr 3 0)) (lSkip (vOne (sPtr 4 0)) (lCons (vOne (sInt .i64)) (jk 105 lNil)))))))))
abbrev rpCf : Wk := .fr (fmS 114 [(2, .keep), (4, .keep), (5, .keep), (6, .keep), (7, .keep), (8, .sym)])
abbrev rpX : Cod (List LV) (Unit) := (jk 2 (lSkip (vOne (sPtr 0 0)) (jk 1 (lSkip (vOne (sPtr 1 0)) (jk 2 (lSkip (vOne (sPtr 2 0)) (jk 106 lNil)))))))
abbrev rpXf : Wk := .fr (fmS 114 [(2, .keep), (4, .keep), (7, .keep)])
noncomputable abbrev rpTab : List (FuncId × Ent) := [(78, rroundsE), (79, rrotrE), (77, rschedE)]
theorem rpTab_ok : ∀ p ∈ rpTab, p.2.Ok Try.prog p.1 := tabC rrounds_ok (tabC rrotr_ok (tabC rsched_ok tab0))
def rpW : Exit → List Wk
  | .normal => [rpCf, .rowB 4 0 8 .u64, .auto]
  | .exit 0 => [rpXf, .auto, .cellB 1, .cellB 2]
  | _ => []
theorem rp_rnd (t : Int) (s r w k x : List Int) : rndT Try.prog rpTab [] rstFn 0 [] rpW ((stC rpC spH).wr ((t, ()), (s, r, w, k, x, ()))) =
    Res.ite (decide (t < (80 : Int)))
      (Res.need ((0 : Int) < (14 : Int) ∧ (14 : Int) < (64 : Int))
        (Res.need ((0 : Int) < (18 : Int) ∧ (18 : Int) < (64 : Int))
          (Res.need ((0 : Int) < (41 : Int) ∧ (41 : Int) < (64 : Int))
            (Res.need ((0 : Int) ≤ t ∧ t < (80 : Int))
              (Res.need ((0 : Int) ≤ t ∧ t < (80 : Int))
                (Res.need ((0 : Int) < (28 : Int) ∧ (28 : Int) < (64 : Int))
                  (Res.need ((0 : Int) < (34 : Int) ∧ (34 : Int) < (64 : Int))
                    (Res.need ((0 : Int) < (39 : Int) ∧ (39 : Int) < (64 : Int))
                      (Res.leaf Exit.normal
                        ((stC rpC spH).wr
                          ((IntKind.i64.wrap (t + (1 : Int)), PUnit.unit), s, r, w, k,
                            [IntKind.u64.wrap
                                (IntKind.u64.wrap
                                    (IntKind.u64.wrap
                                        (IntKind.u64.wrap
                                            (IntKind.u64.wrap
                                                (x.getD (7 : Nat) (0 : Int) +
                                                  bitXor IntKind.u64
                                                    (bitXor IntKind.u64 (rotr (x.getD (4 : Nat) (0 : Int)) (14 : Int))
                                                      (rotr (x.getD (4 : Nat) (0 : Int)) (18 : Int)))
                                                    (rotr (x.getD (4 : Nat) (0 : Int)) (41 : Int))) +
                                              bitXor IntKind.u64
                                                (bitAnd IntKind.u64 (x.getD (4 : Nat) (0 : Int))
                                                  (x.getD (5 : Nat) (0 : Int)))
                                                (bitAnd IntKind.u64
                                                  (bitXor IntKind.u64 (18446744073709551615 : Int)
                                                    (x.getD (4 : Nat) (0 : Int)))
                                                  (x.getD (6 : Nat) (0 : Int)))) +
                                          (List.take (80 : Nat) (List.drop (0 : Nat) k)).getD t.toNat (0 : Int)) +
                                      (List.take (80 : Nat) (List.drop (0 : Nat) w)).getD t.toNat (0 : Int)) +
                                  IntKind.u64.wrap
                                    (bitXor IntKind.u64
                                        (bitXor IntKind.u64 (rotr (x.getD (0 : Nat) (0 : Int)) (28 : Int))
                                          (rotr (x.getD (0 : Nat) (0 : Int)) (34 : Int)))
                                        (rotr (x.getD (0 : Nat) (0 : Int)) (39 : Int)) +
                                      bitOr IntKind.u64
                                        (bitOr IntKind.u64
                                          (bitAnd IntKind.u64 (x.getD (0 : Nat) (0 : Int)) (x.getD (1 : Nat) (0 : Int)))
                                          (bitAnd IntKind.u64 (x.getD (0 : Nat) (0 : Int)) (x.getD (2 : Nat) (0 : Int))))
                                        (bitAnd IntKind.u64 (x.getD (1 : Nat) (0 : Int)) (x.getD (2 : Nat) (0 : Int))))),
                              x.getD (0 : Nat) (0 : Int), x.getD (1 : Nat) (0 : Int), x.getD (2 : Nat) (0 : Int),
                              IntKind.u64.wrap
                                (x.getD (3 : Nat) (0 : Int) +
                                  IntKind.u64.wrap
                                    (IntKind.u64.wrap
                                        (IntKind.u64.wrap
                                            (IntKind.u64.wrap
                                                (x.getD (7 : Nat) (0 : Int) +
                                                  bitXor IntKind.u64
                                                    (bitXor IntKind.u64 (rotr (x.getD (4 : Nat) (0 : Int)) (14 : Int))
                                                      (rotr (x.getD (4 : Nat) (0 : Int)) (18 : Int)))
                                                    (rotr (x.getD (4 : Nat) (0 : Int)) (41 : Int))) +
                                              bitXor IntKind.u64
                                                (bitAnd IntKind.u64 (x.getD (4 : Nat) (0 : Int))
                                                  (x.getD (5 : Nat) (0 : Int)))
                                                (bitAnd IntKind.u64
                                                  (bitXor IntKind.u64 (18446744073709551615 : Int)
                                                    (x.getD (4 : Nat) (0 : Int)))
                                                  (x.getD (6 : Nat) (0 : Int)))) +
                                          (List.take (80 : Nat) (List.drop (0 : Nat) k)).getD t.toNat (0 : Int)) +
                                      (List.take (80 : Nat) (List.drop (0 : Nat) w)).getD t.toNat (0 : Int))),
                              x.getD (4 : Nat) (0 : Int), x.getD (5 : Nat) (0 : Int), x.getD (6 : Nat) (0 : Int)],
                            PUnit.unit)))))))))))
      (Res.leaf (Exit.exit (0 : Nat))
        ((stC rpX spHX).wr
          (PUnit.unit, s,
            [r.getD (nat_lit 0) (0 : Int), r.getD (nat_lit 1) (0 : Int), r.getD (nat_lit 2) (0 : Int),
              r.getD (nat_lit 3) (0 : Int), r.getD (nat_lit 4) (0 : Int), r.getD (nat_lit 5) (0 : Int),
              r.getD (nat_lit 6) (0 : Int), r.getD (nat_lit 7) (0 : Int)],
            [x.getD (nat_lit 0) (0 : Int), x.getD (nat_lit 1) (0 : Int), x.getD (nat_lit 2) (0 : Int),
              x.getD (nat_lit 3) (0 : Int), x.getD (nat_lit 4) (0 : Int), x.getD (nat_lit 5) (0 : Int),
              x.getD (nat_lit 6) (0 : Int), x.getD (nat_lit 7) (0 : Int)],
            PUnit.unit))) := by kernel_rfl
noncomputable def rpF (x : (Int × Unit) × List Int × List Int × List Int × List Int × List Int × Unit) : Res :=
  .need (x.1.1 = 0 ∧ x.2.2.2.2.1 = roundsK ∧ x.2.2.2.1.length = 80 ∧ x.2.2.2.2.2.1.length = 8) (.leaf (.exit 0) ((stC rpX spHX).wr ((), (x.2.1, x.2.2.1, allF x.2.2.2.1 x.2.2.2.2.2.1, ()))))
theorem rp_loop (x) : Ex Try.prog [] (.loop (loopAt rstFn 0)) ((stC rpC spH).wr x) (rpF x) := by
  obtain ⟨⟨i, _⟩, s, r, w, k, x, _⟩ := x
  refine Ex.need fun ⟨h1, h2, h3, h4⟩ => ?_
  simp only at h1 h2 h3 h4
  subst h1 h2
  refine loopUp (ws := rpW) (hp := []) mixed rpTab_ok (LOk.nil _) 80 (fun j x => (stC rpC spH).wr (((j : Int), ()), (s, r, w, roundsK, x, ()))) (fun x => (stC rpX spHX).wr ((), (s, r, x, ()))) (rndF w) (fun _ x => x.length = 8)
    (fun j x R hk hm hn hx => ?_) (fun k m _ hm => rfl) 0 x (by omega) h4
  rw [rp_rnd]
  refine ⟨fun hb => ?_, fun hb => ?_⟩
  · have hlt : j < 80 := by have := of_decide_eq_true hb; omega
    rw [take_all h3, take_all (l := roundsK) (n := 80) rfl, wrap_succ j (by omega), maj_or]
    simp only [Int.toNat_natCast]
    exact ⟨by decide, by decide, by decide, by omega, by omega, by decide, by decide, by decide, hn hlt⟩
  · have : j = 80 := by have := of_decide_eq_false hb; omega
    exact hx this
noncomputable abbrev rpLT : LTab := [(0, loopF (stC rpC spH) 0 [rpCf, .auto, .rowB 1 0 8 .u64, .rowB 4 0 8 .u64] rpF)]
noncomputable def rstepE : Ent := Ent.ofS [] (stA) (lNil) fun x_ y_ => (fun (s m : List Int) => .leaf (some (s.length = 8 ∧ m.length = 16)) (nRow .u64 8 (stepF s m)) []) x_.1 x_.2.1 
theorem rstep_tree (s m : List Int) : fnT Try.prog rpTab rpLT Try.f71 ((stA).wr (s, m, ())) ((lNil).wr ()) [.fr [.sym], .rowF 0 0 8 .u64, .auto] =
    End.need (m.length = (16 : Nat))
      (End.need ((0 : Int) = (0 : Int) ∧ roundsK = roundsK ∧ (schedF m).length = (80 : Nat) ∧ s.length = (8 : Nat))
        (End.leaf
          (LV.one
            (VV.agg
              [SV.arr (Ty.int IntKind.u64) (8 : Nat)
                  [IntKind.u64.wrap ((allF (schedF m) s).getD (nat_lit 0) (0 : Int) + s.getD (0 : Nat) (0 : Int)),
                    IntKind.u64.wrap ((allF (schedF m) s).getD (nat_lit 1) (0 : Int) + s.getD (1 : Nat) (0 : Int)),
                    IntKind.u64.wrap ((allF (schedF m) s).getD (nat_lit 2) (0 : Int) + s.getD (2 : Nat) (0 : Int)),
                    IntKind.u64.wrap ((allF (schedF m) s).getD (nat_lit 3) (0 : Int) + s.getD (3 : Nat) (0 : Int)),
                    IntKind.u64.wrap ((allF (schedF m) s).getD (nat_lit 4) (0 : Int) + s.getD (4 : Nat) (0 : Int)),
                    IntKind.u64.wrap ((allF (schedF m) s).getD (nat_lit 5) (0 : Int) + s.getD (5 : Nat) (0 : Int)),
                    IntKind.u64.wrap ((allF (schedF m) s).getD (nat_lit 6) (0 : Int) + s.getD (6 : Nat) (0 : Int)),
                    IntKind.u64.wrap ((allF (schedF m) s).getD (nat_lit 7) (0 : Int) + s.getD (7 : Nat) (0 : Int))]]))
          [])) := by kernel_rfl
theorem rstep_ok : rstepE.Ok Try.prog 71 := by
  refine (Ent.ofOk Try.call71 fun x_ y_ Q h => ?_).sym
  obtain ⟨s, m, _⟩ := x_
  obtain ⟨hn, hq⟩ := h
  have hn : s.length = 8 ∧ m.length = 16 := hn
  refine (fnT_ok mixed rpTab_ok Try.func71 rfl (LT := rpLT) (ks := [.fr [.sym], .rowF 0 0 8 .u64, .auto]) (LOk.ofTab (LTC rfl (loopF_ok (hp := []) rp_loop) LT0))).use (D := []) ?_ hq
  show (fnT _ _ _ _ ((stA).wr (s, m, ())) ((lNil).wr ()) _).sat _
  rw [rstep_tree]
  exact ⟨hn.2, ⟨rfl, rfl, sched_length hn.2, hn.1⟩, rfl, rfl⟩
end Go.Proofs.Ytdpbkfmjknmmnaa
