/- What the laws lean on, part 6: a reader of code, plain facts, and what each function gives; no conditions. -/
import Derived.Test.YthdfifcgobfgdaaA5
section
set_option linter.unusedVariables false
set_option linter.unusedSimpArgs false
namespace Go.Proofs.Ythdfifcgobfgdaa
open Go Go.Ev BJ
set_option maxRecDepth 1000000
abbrev iA24 : Cod (List LV) (Int × Unit) := lCons (vOne (sInt .i64)) lNil
noncomputable def num24E : Ent := Ent.ofS [] (iA24) (lNil) fun x_ y_ => (fun (x : Int) => .leaf none (nI x) []) x_.1
theorem num24_tree (x : Int) : fnT Try.prog [] [] Try.f36 ((iA24).wr (x, ())) ((lNil).wr ()) [.fr [.sym], .auto] = .leaf (nI x) ([]) := by kernel_rfl
theorem num24_ok : num24E.Ok Try.prog 36 := by
  refine (Ent.ofOk Try.call36 fun x_ y_ Q H_ => ?_).sym
  obtain ⟨x, _⟩ := x_
  have hq := H_.2
  refine (fnT_ok mixed tab0 Try.func36 rfl (LT := []) (ks := [.fr [.sym], .auto]) (LOk.nil _)).use (D := []) ?_ hq
  show (fnT _ _ _ _ ((iA24).wr (x, ())) ((lNil).wr ()) _).sat _
  rw [num24_tree]
  exact ⟨rfl, rfl⟩
noncomputable abbrev orFn : Func := Try.f9
abbrev orC : Cod (List LV) (Bool × Bool × Bool × Bool × Int × Unit) := (jk 2 (lCons (vOne sBool) (lCons (vOne sBool) (lCons (vOne sBool) (lCons (vOne sBool) (lSkip (vOne (sPtr 0 0)) (lSkip (vOne (sPtr 1 0)) (jk 7 (lSkip (vOne (sSl 2 0)) (jk 2 (lSkip (vOne (sSl 3 0)) (lCons (vOne (sInt .i64)) (jk 78 lNil)))))))))))))
abbrev orCf : Wk := .fr (fmS 98 [(2, .sym), (3, .sym), (4, .sym), (5, .sym), (6, .keep), (7, .keep), (15, .keep), (18, .keep), (19, .sym)])
abbrev orH : Cod Hp (List Int × (Int × Int × Unit) × List Int × List (List Int) × Unit) := lCons (iRow 23 .u8 32) (lCons (iBlk 62 (rowsHead lNil)) (lCons (iOwn 0 u8) (lCons (iOwn 0 (.arr u8 32)) lNil)))
def orW : Exit → List Wk
  | .normal => [orCf, .auto, .vers]
  | .exit 0 => [orCf, .auto, .vers]
  | _ => []
theorem or_rnd (x y z w : Bool) (i : Int) (s : List Int) (a b : Int) (l : List Int) (k : List (List Int)) : rndT Try.prog [] [] orFn 0 [] orW ((stC orC orH).wr ((x, y, z, w, i, ()), (s, (a, b, ()), l, k, ()))) =
    Res.ite (decide (i < a))
      (Res.need ((0 : Int) ≤ i ∧ i < (↑k.length : Int))
        (Res.leaf Exit.normal
          ((stC orC orH).wr
            ((x, y, z, w, IntKind.i64.wrap (i + (1 : Int)), PUnit.unit), s, (a, b, PUnit.unit), l,
              k.set i.toNat
                [(9 : Int), (0 : Int), (0 : Int), (0 : Int), (0 : Int), (0 : Int), (0 : Int), (0 : Int), (0 : Int),
                  (0 : Int), (0 : Int), (0 : Int), (0 : Int), (0 : Int), (0 : Int), (0 : Int), (0 : Int), (0 : Int),
                  (0 : Int), (0 : Int), (0 : Int), (0 : Int), (0 : Int), (0 : Int), (0 : Int), (0 : Int), (0 : Int),
                  (0 : Int), (0 : Int), (0 : Int), (0 : Int), (0 : Int)],
              PUnit.unit))))
      (Res.leaf (Exit.exit (0 : Nat))
        ((stC orC orH).wr ((x, y, z, w, i, PUnit.unit), s, (a, b, PUnit.unit), l, k, PUnit.unit))) := by kernel_rfl
def nineL : List Int := 9 :: List.replicate 31 0
def orLF (L : Bool → List Int) (K : List (List Int)) (x : (Bool × Bool × Bool × Bool × Int × Unit) × List Int × (Int × Int × Unit) × List Int × List (List Int) × Unit) : Res :=
  .need (x.1.2.2.2.2.1 = 0 ∧ 0 ≤ x.2.2.1.1 ∧ x.2.2.1.1 ≤ 8 ∧ x.2.2.2.2.1.length = x.2.2.1.1.toNat ∧ x.2.2.2.1 = L x.1.2.2.2.1 ∧ K = List.replicate x.2.2.1.1.toNat nineL)
    (.leaf (.exit 0) ((stC orC orH).wr ((x.1.1, x.1.2.1, x.1.2.2.1, x.1.2.2.2.1, x.2.2.1.1, ()), (x.2.1, x.2.2.1, L x.1.2.2.2.1, K, ()))))
theorem fill_all {α : Type} (c : α) {n : Nat} {o : List α} (h : o.length = n) : upto (fun k (o : List α) => o.set k c) 0 n o = List.replicate n c := by
  have key : ∀ k, k ≤ n → upto (fun k (o : List α) => o.set k c) 0 k o = List.replicate k c ++ o.drop k := by
    intro k
    induction k with
    | zero => intro _; rfl
    | succ k ih =>
      intro hk
      rw [upto_succ, ih (by omega), Nat.zero_add, List.set_append_right _ _ (by simp), List.length_replicate, Nat.sub_self, List.drop_eq_getElem_cons (by omega : k < o.length), List.set_cons_zero, List.replicate_succ', List.append_assoc]
      rfl
  rw [key n (Nat.le_refl n), List.drop_eq_nil_of_le (by omega), List.append_nil]
theorem or_loop (L : Bool → List Int) (K : List (List Int)) (x) : Ex Try.prog [] (.loop (loopAt orFn 0)) ((stC orC orH).wr x) (orLF L K x) := by
  obtain ⟨⟨x, y, z, w, i, _⟩, s, ⟨a, b, _⟩, l, o, _⟩ := x
  refine Ex.need fun ⟨h1, h2, h3, h4, h5, h6⟩ => ?_
  simp only at h1 h2 h3 h4 h5 h6
  subst h1 h6
  rw [← h5]
  have key := loopUp (fn := orFn) (id := 0) (j := 0) (ws := orW) (hp := []) mixed tab0 (LOk.nil _) a.toNat (fun k (o : List (List Int)) => (stC orC orH).wr ((x, y, z, w, (k : Int), ()), (s, (a, b, ()), l, o, ()))) (fun o => (stC orC orH).wr ((x, y, z, w, a, ()), (s, (a, b, ()), l, o, ()))) (fun k o => o.set k nineL) (fun _ o => o.length = a.toNat)
    (fun k o R hk ho hn hx => ?_) (fun _ _ _ h => by simpa using h) 0 o (by omega) h4
  · rw [Nat.sub_zero, fill_all nineL h4] at key
    exact key
  rw [or_rnd]
  refine ⟨fun hb => ?_, fun hb => ?_⟩
  · have hk' : k < a.toNat := by have := of_decide_eq_true hb; omega
    rw [Int.toNat_natCast, wrap_succ k (by omega)]
    exact ⟨by omega, hn hk'⟩
  · have : (k : Int) = a := by have := of_decide_eq_false hb; omega
    rw [this]
    exact hx (by omega)
noncomputable abbrev orLT (L : Bool → List Int) (K : List (List Int)) : LTab := [(0, loopF (stC orC orH) 0 [orCf, .auto, .vers] (orLF L K))]
theorem orL_ok (L : Bool → List Int) (K : List (List Int)) : LOk Try.prog [] (orLT L K) (bodyOf orFn) := LOk.ofTab (LTC rfl (loopF_ok (hp := []) (or_loop L K)) LT0)
noncomputable abbrev orTab (sign : List Int → List Int → List Int → List Int × Int) (pub : List Int → List Int) (ck : List (List Int) → List Int → Lab × Int) : List (FuncId × Ent) := [(31, aliveE), (32, headE), (24, eSi sign), (27, ePub pub), (33, ctxE), (34, signedE), (35, eCk ck), (36, num24E)]
abbrev orA : Cod (List LV) (List Int × (Int × Int × Unit) × Bool × Bool × Bool × Bool × Unit) := lCons cB (lCons (vAgg (rowsHead lNil)) (lCons (vOne sBool) (lCons (vOne sBool) (lCons (vOne sBool) (lCons (vOne sBool) lNil)))))
theorem order_tree (L : Bool → List Int) (K : List (List Int)) (sign : List Int → List Int → List Int → List Int × Int) (pub : List Int → List Int) (ck : List (List Int) → List Int → Lab × Int) (s : List Int) (a b : Int) (x y z w : Bool) : fnT Try.prog (orTab sign pub ck) (orLT L K) orFn (orA.wr (s, (a, b, ()), x, y, z, w, ())) [] [.fr [.sym, .sym], .auto] =
    End.ite ((↑(headF a b).length : Int) == (0 : Int)) (End.leaf (LV.one (VV.sc (SV.bool (SB.sym true)))) [])
      (End.need ((headF a b).length * (1 : Nat) ≤ (70368744177664 : Nat) ∧ (headF a b).length ≤ (70368744177664 : Nat))
        (End.need
          ((0 : Int) ≤ (152 : Int) ∧
            ((headF a b).length + (152 : Nat)) * (1 : Nat) ≤ (70368744177664 : Nat) ∧
              (headF a b).length + (152 : Nat) ≤ (70368744177664 : Nat))
          (End.need ((headF a b ++ List.replicate (152 : Nat) (0 : Int)).length < (1152921504606846976 : Nat))
            (End.need (s.length = (32 : Nat) ∧ (64 : Nat) = (64 : Nat))
              (End.ite w
                (End.need ((0 : Int) ≤ (0 : Int) ∧ (0 : Int) ≤ (64 : Int) ∧ (64 : Int) ≤ (64 : Int))
                  (End.need
                    (((headF a b ++ List.replicate (152 : Nat) (0 : Int)).length +
                            (List.take (64 : Nat)
                                (List.drop (0 : Nat)
                                  ((sign s
                                          [(98 : Int), (111 : Int), (111 : Int), (116 : Int), (106 : Int), (97 : Int),
                                            (99 : Int), (107 : Int)]
                                          (signedF (headF a b ++ List.replicate (152 : Nat) (0 : Int)))).fst.set
                                    (63 : Nat)
                                    (bitXor IntKind.u8
                                      ((sign s
                                              [(98 : Int), (111 : Int), (111 : Int), (116 : Int), (106 : Int), (97 : Int),
                                                (99 : Int), (107 : Int)]
                                              (signedF (headF a b ++ List.replicate (152 : Nat) (0 : Int)))).fst.getD
                                        (63 : Nat) (0 : Int))
                                      (128 : Int))))).length) *
                          (1 : Nat) ≤
                        (70368744177664 : Nat) ∧
                      (headF a b ++ List.replicate (152 : Nat) (0 : Int)).length +
                          (List.take (64 : Nat)
                              (List.drop (0 : Nat)
                                ((sign s
                                        [(98 : Int), (111 : Int), (111 : Int), (116 : Int), (106 : Int), (97 : Int),
                                          (99 : Int), (107 : Int)]
                                        (signedF (headF a b ++ List.replicate (152 : Nat) (0 : Int)))).fst.set
                                  (63 : Nat)
                                  (bitXor IntKind.u8
                                    ((sign s
                                            [(98 : Int), (111 : Int), (111 : Int), (116 : Int), (106 : Int), (97 : Int),
                                              (99 : Int), (107 : Int)]
                                            (signedF (headF a b ++ List.replicate (152 : Nat) (0 : Int)))).fst.getD
                                      (63 : Nat) (0 : Int))
                                    (128 : Int))))).length ≤
                        (70368744177664 : Nat))
                    (End.need (a = a ∧ (0 : Int) ≤ a ∧ (32 : Int) * a ≤ (70368744177664 : Int) ∧ a ≤ (70368744177664 : Int))
                      (End.need
                        ((0 : Int) = (0 : Int) ∧
                          (0 : Int) ≤ a ∧
                            a ≤ (8 : Int) ∧
                              (List.replicate a.toNat
                                      [(0 : Int), (0 : Int), (0 : Int), (0 : Int), (0 : Int), (0 : Int), (0 : Int),
                                        (0 : Int), (0 : Int), (0 : Int), (0 : Int), (0 : Int), (0 : Int), (0 : Int),
                                        (0 : Int), (0 : Int), (0 : Int), (0 : Int), (0 : Int), (0 : Int), (0 : Int),
                                        (0 : Int), (0 : Int), (0 : Int), (0 : Int), (0 : Int), (0 : Int), (0 : Int),
                                        (0 : Int), (0 : Int), (0 : Int), (0 : Int)]).length =
                                  a.toNat ∧
                                headF a b ++ List.replicate (152 : Nat) (0 : Int) ++
                                      List.take (64 : Nat)
                                        (List.drop (0 : Nat)
                                          ((sign s
                                                  [(98 : Int), (111 : Int), (111 : Int), (116 : Int), (106 : Int),
                                                    (97 : Int), (99 : Int), (107 : Int)]
                                                  (signedF (headF a b ++ List.replicate (152 : Nat) (0 : Int)))).fst.set
                                            (63 : Nat)
                                            (bitXor IntKind.u8
                                              ((sign s
                                                      [(98 : Int), (111 : Int), (111 : Int), (116 : Int), (106 : Int),
                                                        (97 : Int), (99 : Int), (107 : Int)]
                                                      (signedF
                                                        (headF a b ++ List.replicate (152 : Nat) (0 : Int)))).fst.getD
                                                (63 : Nat) (0 : Int))
                                              (128 : Int)))) =
                                    L w ∧
                                  K = List.replicate a.toNat nineL)
                        (End.ite (!z)
                          (End.need (s.length = (32 : Nat))
                            (End.need
                              ((K.length + (1 : Nat)) * (32 : Nat) ≤ (70368744177664 : Nat) ∧
                                K.length + (1 : Nat) ≤ (70368744177664 : Nat))
                              (End.ite w
                                (End.ite y
                                  (End.need ((0 : Int) ≤ (0 : Int) ∧ (0 : Int) < (↑(L w).length : Int))
                                    (End.ite x
                                      (End.need
                                        ((0 : Int) ≤ (0 : Int) ∧
                                          (0 : Int) ≤
                                              IntKind.i64.wrap
                                                ((↑((L w).set (0 : Nat) (88 : Int)).length : Int) - (1 : Int)) ∧
                                            IntKind.i64.wrap
                                                ((↑((L w).set (0 : Nat) (88 : Int)).length : Int) - (1 : Int)) ≤
                                              (↑((L w).set (0 : Nat) (88 : Int)).length : Int))
                                        (End.need
                                          (AllBy
                                              (List.take
                                                (IntKind.i64.wrap
                                                      ((↑((L w).set (0 : Nat) (88 : Int)).length : Int) - (1 : Int)) -
                                                    (0 : Int)).toNat
                                                (List.drop (0 : Nat) ((L w).set (0 : Nat) (88 : Int)))) ∧
                                            (List.take
                                                    (IntKind.i64.wrap
                                                          ((↑((L w).set (0 : Nat) (88 : Int)).length : Int) - (1 : Int)) -
                                                        (0 : Int)).toNat
                                                    (List.drop (0 : Nat) ((L w).set (0 : Nat) (88 : Int)))).length <
                                                (1152921504606846976 : Nat) ∧
                                              okKs (K ++ [pub s]))
                                          (End.ite
                                            (((ck (K ++ [pub s])
                                                    (List.take
                                                      (IntKind.i64.wrap
                                                            ((↑((L w).set (0 : Nat) (88 : Int)).length : Int) - (1 : Int)) -
                                                          (0 : Int)).toNat
                                                      (List.drop (0 : Nat) ((L w).set (0 : Nat) (88 : Int))))).snd ==
                                                (6 : Int)) ==
                                              true)
                                            (End.leaf
                                              (LV.one
                                                (VV.sc
                                                  (SV.bool
                                                    (SB.sym
                                                      ((ck (K ++ [pub s])
                                                                  (List.take
                                                                    (IntKind.i64.wrap
                                                                          ((↑((L w).set (0 : Nat) (88 : Int)).length :
                                                                              Int) -
                                                                            (1 : Int)) -
                                                                        (0 : Int)).toNat
                                                                    (List.drop (0 : Nat)
                                                                      ((L w).set (0 : Nat) (88 : Int))))).fst.key ==
                                                            (0 : Int) &&
                                                          ((ck (K ++ [pub s])
                                                                    (List.take
                                                                      (IntKind.i64.wrap
                                                                            ((↑((L w).set (0 : Nat) (88 : Int)).length :
                                                                                Int) -
                                                                              (1 : Int)) -
                                                                          (0 : Int)).toNat
                                                                      (List.drop (0 : Nat)
                                                                        ((L w).set (0 : Nat) (88 : Int))))).fst.blocks ==
                                                              (0 : Int) &&
                                                            true) &&
                                                        ((ck (K ++ [pub s])
                                                                      (List.take
                                                                        (IntKind.i64.wrap
                                                                              ((↑((L w).set (0 : Nat) (88 : Int)).length :
                                                                                  Int) -
                                                                                (1 : Int)) -
                                                                            (0 : Int)).toNat
                                                                        (List.drop (0 : Nat)
                                                                          ((L w).set (0 : Nat) (88 : Int))))).fst.man.ver ==
                                                              (0 : Int) &&
                                                            ((ck (K ++ [pub s])
                                                                        (List.take
                                                                          (IntKind.i64.wrap
                                                                                ((↑((L w).set (0 : Nat) (88 : Int)).length :
                                                                                    Int) -
                                                                                  (1 : Int)) -
                                                                              (0 : Int)).toNat
                                                                          (List.drop (0 : Nat)
                                                                            ((L w).set (0 : Nat)
                                                                              (88 : Int))))).fst.man.flo ==
                                                                (0 : Int) &&
                                                              ((ck (K ++ [pub s])
                                                                          (List.take
                                                                            (IntKind.i64.wrap
                                                                                  ((↑((L w).set (0 : Nat)
                                                                                            (88 : Int)).length :
                                                                                      Int) -
                                                                                    (1 : Int)) -
                                                                                (0 : Int)).toNat
                                                                            (List.drop (0 : Nat)
                                                                              ((L w).set (0 : Nat)
                                                                                (88 : Int))))).fst.man.len ==
                                                                  (0 : Int) &&
                                                                (decide
                                                                    ((ck (K ++ [pub s])
                                                                              (List.take
                                                                                (IntKind.i64.wrap
                                                                                      ((↑((L w).set (0 : Nat)
                                                                                                (88 : Int)).length :
                                                                                          Int) -
                                                                                        (1 : Int)) -
                                                                                    (0 : Int)).toNat
                                                                                (List.drop (0 : Nat)
                                                                                  ((L w).set (0 : Nat)
                                                                                    (88 : Int))))).fst.man.list =
                                                                      List.replicate (64 : Nat) (0 : Int)) &&
                                                                  (decide
                                                                      ((ck (K ++ [pub s])
                                                                                (List.take
                                                                                  (IntKind.i64.wrap
                                                                                        ((↑((L w).set (0 : Nat)
                                                                                                  (88 : Int)).length :
                                                                                            Int) -
                                                                                          (1 : Int)) -
                                                                                      (0 : Int)).toNat
                                                                                  (List.drop (0 : Nat)
                                                                                    ((L w).set (0 : Nat)
                                                                                      (88 : Int))))).fst.man.plain =
                                                                        List.replicate (64 : Nat) (0 : Int)) &&
                                                                    true)))) &&
                                                          (decide
                                                              ((ck (K ++ [pub s])
                                                                      (List.take
                                                                        (IntKind.i64.wrap
                                                                              ((↑((L w).set (0 : Nat) (88 : Int)).length :
                                                                                  Int) -
                                                                                (1 : Int)) -
                                                                            (0 : Int)).toNat
                                                                        (List.drop (0 : Nat)
                                                                          ((L w).set (0 : Nat) (88 : Int))))).fst.sign =
                                                                List.replicate (64 : Nat) (0 : Int)) &&
                                                            true)))))))
                                              [])
                                            (End.leaf (LV.one (VV.sc (SV.bool (SB.sym false)))) []))))
                                      (End.need
                                        (AllBy ((L w).set (0 : Nat) (88 : Int)) ∧
                                          ((L w).set (0 : Nat) (88 : Int)).length < (1152921504606846976 : Nat) ∧
                                            okKs (K ++ [pub s]))
                                        (End.ite
                                          (((ck (K ++ [pub s]) ((L w).set (0 : Nat) (88 : Int))).snd == (6 : Int)) == true)
                                          (End.leaf
                                            (LV.one
                                              (VV.sc
                                                (SV.bool
                                                  (SB.sym
                                                    ((ck (K ++ [pub s]) ((L w).set (0 : Nat) (88 : Int))).fst.key ==
                                                          (0 : Int) &&
                                                        ((ck (K ++ [pub s]) ((L w).set (0 : Nat) (88 : Int))).fst.blocks ==
                                                            (0 : Int) &&
                                                          true) &&
                                                      ((ck (K ++ [pub s]) ((L w).set (0 : Nat) (88 : Int))).fst.man.ver ==
                                                            (0 : Int) &&
                                                          ((ck (K ++ [pub s])
                                                                      ((L w).set (0 : Nat) (88 : Int))).fst.man.flo ==
                                                              (0 : Int) &&
                                                            ((ck (K ++ [pub s])
                                                                        ((L w).set (0 : Nat) (88 : Int))).fst.man.len ==
                                                                (0 : Int) &&
                                                              (decide
                                                                  ((ck (K ++ [pub s])
                                                                            ((L w).set (0 : Nat) (88 : Int))).fst.man.list =
                                                                    List.replicate (64 : Nat) (0 : Int)) &&
                                                                (decide
                                                                    ((ck (K ++ [pub s])
                                                                              ((L w).set (0 : Nat)
                                                                                (88 : Int))).fst.man.plain =
                                                                      List.replicate (64 : Nat) (0 : Int)) &&
                                                                  true)))) &&
                                                        (decide
                                                            ((ck (K ++ [pub s]) ((L w).set (0 : Nat) (88 : Int))).fst.sign =
                                                              List.replicate (64 : Nat) (0 : Int)) &&
                                                          true)))))))
                                            [])
                                          (End.leaf (LV.one (VV.sc (SV.bool (SB.sym false)))) [])))))
                                  (End.ite x
                                    (End.need
                                      ((0 : Int) ≤ (0 : Int) ∧
                                        (0 : Int) ≤ IntKind.i64.wrap ((↑(L w).length : Int) - (1 : Int)) ∧
                                          IntKind.i64.wrap ((↑(L w).length : Int) - (1 : Int)) ≤ (↑(L w).length : Int))
                                      (End.need
                                        (AllBy
                                            (List.take
                                              (IntKind.i64.wrap ((↑(L w).length : Int) - (1 : Int)) - (0 : Int)).toNat
                                              (List.drop (0 : Nat) (L w))) ∧
                                          (List.take
                                                  (IntKind.i64.wrap ((↑(L w).length : Int) - (1 : Int)) - (0 : Int)).toNat
                                                  (List.drop (0 : Nat) (L w))).length <
                                              (1152921504606846976 : Nat) ∧
                                            okKs (K ++ [pub s]))
                                        (End.ite
                                          (((ck (K ++ [pub s])
                                                  (List.take
                                                    (IntKind.i64.wrap ((↑(L w).length : Int) - (1 : Int)) - (0 : Int)).toNat
                                                    (List.drop (0 : Nat) (L w)))).snd ==
                                              (6 : Int)) ==
                                            true)
                                          (End.leaf
                                            (LV.one
                                              (VV.sc
                                                (SV.bool
                                                  (SB.sym
                                                    ((ck (K ++ [pub s])
                                                                (List.take
                                                                  (IntKind.i64.wrap ((↑(L w).length : Int) - (1 : Int)) -
                                                                      (0 : Int)).toNat
                                                                  (List.drop (0 : Nat) (L w)))).fst.key ==
                                                          (0 : Int) &&
                                                        ((ck (K ++ [pub s])
                                                                  (List.take
                                                                    (IntKind.i64.wrap ((↑(L w).length : Int) - (1 : Int)) -
                                                                        (0 : Int)).toNat
                                                                    (List.drop (0 : Nat) (L w)))).fst.blocks ==
                                                            (0 : Int) &&
                                                          true) &&
                                                      ((ck (K ++ [pub s])
                                                                    (List.take
                                                                      (IntKind.i64.wrap
                                                                            ((↑(L w).length : Int) - (1 : Int)) -
                                                                          (0 : Int)).toNat
                                                                      (List.drop (0 : Nat) (L w)))).fst.man.ver ==
                                                            (0 : Int) &&
                                                          ((ck (K ++ [pub s])
                                                                      (List.take
                                                                        (IntKind.i64.wrap
                                                                              ((↑(L w).length : Int) - (1 : Int)) -
                                                                            (0 : Int)).toNat
                                                                        (List.drop (0 : Nat) (L w)))).fst.man.flo ==
                                                              (0 : Int) &&
                                                            ((ck (K ++ [pub s])
                                                                        (List.take
                                                                          (IntKind.i64.wrap
                                                                                ((↑(L w).length : Int) - (1 : Int)) -
                                                                              (0 : Int)).toNat
                                                                          (List.drop (0 : Nat) (L w)))).fst.man.len ==
                                                                (0 : Int) &&
                                                              (decide
                                                                  ((ck (K ++ [pub s])
                                                                            (List.take
                                                                              (IntKind.i64.wrap
                                                                                    ((↑(L w).length : Int) - (1 : Int)) -
                                                                                  (0 : Int)).toNat
                                                                              (List.drop (0 : Nat) (L w)))).fst.man.list =
                                                                    List.replicate (64 : Nat) (0 : Int)) &&
                                                                (decide
                                                                    ((ck (K ++ [pub s])
                                                                              (List.take
                                                                                (IntKind.i64.wrap
                                                                                      ((↑(L w).length : Int) - (1 : Int)) -
                                                                                    (0 : Int)).toNat
                                                                                (List.drop (0 : Nat)
                                                                                  (L w)))).fst.man.plain =
                                                                      List.replicate (64 : Nat) (0 : Int)) &&
                                                                  true)))) &&
                                                        (decide
                                                            ((ck (K ++ [pub s])
                                                                    (List.take
                                                                      (IntKind.i64.wrap
                                                                            ((↑(L w).length : Int) - (1 : Int)) -
                                                                          (0 : Int)).toNat
                                                                      (List.drop (0 : Nat) (L w)))).fst.sign =
                                                              List.replicate (64 : Nat) (0 : Int)) &&
                                                          true)))))))
                                            [])
                                          (End.leaf (LV.one (VV.sc (SV.bool (SB.sym false)))) []))))
                                    (End.need
                                      (AllBy (L w) ∧ (L w).length < (1152921504606846976 : Nat) ∧ okKs (K ++ [pub s]))
                                      (End.ite (((ck (K ++ [pub s]) (L w)).snd == (8 : Int)) == true)
                                        (End.leaf
                                          (LV.one
                                            (VV.sc
                                              (SV.bool
                                                (SB.sym
                                                  ((ck (K ++ [pub s]) (L w)).fst.key == (0 : Int) &&
                                                      ((ck (K ++ [pub s]) (L w)).fst.blocks == (0 : Int) && true) &&
                                                    ((ck (K ++ [pub s]) (L w)).fst.man.ver == (0 : Int) &&
                                                        ((ck (K ++ [pub s]) (L w)).fst.man.flo == (0 : Int) &&
                                                          ((ck (K ++ [pub s]) (L w)).fst.man.len == (0 : Int) &&
                                                            (decide
                                                                ((ck (K ++ [pub s]) (L w)).fst.man.list =
                                                                  List.replicate (64 : Nat) (0 : Int)) &&
                                                              (decide
                                                                  ((ck (K ++ [pub s]) (L w)).fst.man.plain =
                                                                    List.replicate (64 : Nat) (0 : Int)) &&
                                                                true)))) &&
                                                      (decide
                                                          ((ck (K ++ [pub s]) (L w)).fst.sign =
                                                            List.replicate (64 : Nat) (0 : Int)) &&
                                                        true)))))))
                                          [])
                                        (End.leaf (LV.one (VV.sc (SV.bool (SB.sym false)))) [])))))
                                (End.ite y
                                  (End.need ((0 : Int) ≤ (0 : Int) ∧ (0 : Int) < (↑(L w).length : Int))
                                    (End.ite x
                                      (End.need
                                        ((0 : Int) ≤ (0 : Int) ∧
                                          (0 : Int) ≤
                                              IntKind.i64.wrap
                                                ((↑((L w).set (0 : Nat) (88 : Int)).length : Int) - (1 : Int)) ∧
                                            IntKind.i64.wrap
                                                ((↑((L w).set (0 : Nat) (88 : Int)).length : Int) - (1 : Int)) ≤
                                              (↑((L w).set (0 : Nat) (88 : Int)).length : Int))
                                        (End.need
                                          (AllBy
                                              (List.take
                                                (IntKind.i64.wrap
                                                      ((↑((L w).set (0 : Nat) (88 : Int)).length : Int) - (1 : Int)) -
                                                    (0 : Int)).toNat
                                                (List.drop (0 : Nat) ((L w).set (0 : Nat) (88 : Int)))) ∧
                                            (List.take
                                                    (IntKind.i64.wrap
                                                          ((↑((L w).set (0 : Nat) (88 : Int)).length : Int) - (1 : Int)) -
                                                        (0 : Int)).toNat
                                                    (List.drop (0 : Nat) ((L w).set (0 : Nat) (88 : Int)))).length <
                                                (1152921504606846976 : Nat) ∧
                                              okKs (K ++ [pub s]))
                                          (End.ite
                                            (((ck (K ++ [pub s])
                                                    (List.take
                                                      (IntKind.i64.wrap
                                                            ((↑((L w).set (0 : Nat) (88 : Int)).length : Int) - (1 : Int)) -
                                                          (0 : Int)).toNat
                                                      (List.drop (0 : Nat) ((L w).set (0 : Nat) (88 : Int))))).snd ==
                                                (6 : Int)) ==
                                              true)
                                            (End.leaf
                                              (LV.one
                                                (VV.sc
                                                  (SV.bool
                                                    (SB.sym
                                                      ((ck (K ++ [pub s])
                                                                  (List.take
                                                                    (IntKind.i64.wrap
                                                                          ((↑((L w).set (0 : Nat) (88 : Int)).length :
                                                                              Int) -
                                                                            (1 : Int)) -
                                                                        (0 : Int)).toNat
                                                                    (List.drop (0 : Nat)
                                                                      ((L w).set (0 : Nat) (88 : Int))))).fst.key ==
                                                            (0 : Int) &&
                                                          ((ck (K ++ [pub s])
                                                                    (List.take
                                                                      (IntKind.i64.wrap
                                                                            ((↑((L w).set (0 : Nat) (88 : Int)).length :
                                                                                Int) -
                                                                              (1 : Int)) -
                                                                          (0 : Int)).toNat
                                                                      (List.drop (0 : Nat)
                                                                        ((L w).set (0 : Nat) (88 : Int))))).fst.blocks ==
                                                              (0 : Int) &&
                                                            true) &&
                                                        ((ck (K ++ [pub s])
                                                                      (List.take
                                                                        (IntKind.i64.wrap
                                                                              ((↑((L w).set (0 : Nat) (88 : Int)).length :
                                                                                  Int) -
                                                                                (1 : Int)) -
                                                                            (0 : Int)).toNat
                                                                        (List.drop (0 : Nat)
                                                                          ((L w).set (0 : Nat) (88 : Int))))).fst.man.ver ==
                                                              (0 : Int) &&
                                                            ((ck (K ++ [pub s])
                                                                        (List.take
                                                                          (IntKind.i64.wrap
                                                                                ((↑((L w).set (0 : Nat) (88 : Int)).length :
                                                                                    Int) -
                                                                                  (1 : Int)) -
                                                                              (0 : Int)).toNat
                                                                          (List.drop (0 : Nat)
                                                                            ((L w).set (0 : Nat)
                                                                              (88 : Int))))).fst.man.flo ==
                                                                (0 : Int) &&
                                                              ((ck (K ++ [pub s])
                                                                          (List.take
                                                                            (IntKind.i64.wrap
                                                                                  ((↑((L w).set (0 : Nat)
                                                                                            (88 : Int)).length :
                                                                                      Int) -
                                                                                    (1 : Int)) -
                                                                                (0 : Int)).toNat
                                                                            (List.drop (0 : Nat)
                                                                              ((L w).set (0 : Nat)
                                                                                (88 : Int))))).fst.man.len ==
                                                                  (0 : Int) &&
                                                                (decide
                                                                    ((ck (K ++ [pub s])
                                                                              (List.take
                                                                                (IntKind.i64.wrap
                                                                                      ((↑((L w).set (0 : Nat)
                                                                                                (88 : Int)).length :
                                                                                          Int) -
                                                                                        (1 : Int)) -
                                                                                    (0 : Int)).toNat
                                                                                (List.drop (0 : Nat)
                                                                                  ((L w).set (0 : Nat)
                                                                                    (88 : Int))))).fst.man.list =
                                                                      List.replicate (64 : Nat) (0 : Int)) &&
                                                                  (decide
                                                                      ((ck (K ++ [pub s])
                                                                                (List.take
                                                                                  (IntKind.i64.wrap
                                                                                        ((↑((L w).set (0 : Nat)
                                                                                                  (88 : Int)).length :
                                                                                            Int) -
                                                                                          (1 : Int)) -
                                                                                      (0 : Int)).toNat
                                                                                  (List.drop (0 : Nat)
                                                                                    ((L w).set (0 : Nat)
                                                                                      (88 : Int))))).fst.man.plain =
                                                                        List.replicate (64 : Nat) (0 : Int)) &&
                                                                    true)))) &&
                                                          (decide
                                                              ((ck (K ++ [pub s])
                                                                      (List.take
                                                                        (IntKind.i64.wrap
                                                                              ((↑((L w).set (0 : Nat) (88 : Int)).length :
                                                                                  Int) -
                                                                                (1 : Int)) -
                                                                            (0 : Int)).toNat
                                                                        (List.drop (0 : Nat)
                                                                          ((L w).set (0 : Nat) (88 : Int))))).fst.sign =
                                                                List.replicate (64 : Nat) (0 : Int)) &&
                                                            true)))))))
                                              [])
                                            (End.leaf (LV.one (VV.sc (SV.bool (SB.sym false)))) []))))
                                      (End.need
                                        (AllBy ((L w).set (0 : Nat) (88 : Int)) ∧
                                          ((L w).set (0 : Nat) (88 : Int)).length < (1152921504606846976 : Nat) ∧
                                            okKs (K ++ [pub s]))
                                        (End.ite
                                          (((ck (K ++ [pub s]) ((L w).set (0 : Nat) (88 : Int))).snd == (6 : Int)) == true)
                                          (End.leaf
                                            (LV.one
                                              (VV.sc
                                                (SV.bool
                                                  (SB.sym
                                                    ((ck (K ++ [pub s]) ((L w).set (0 : Nat) (88 : Int))).fst.key ==
                                                          (0 : Int) &&
                                                        ((ck (K ++ [pub s]) ((L w).set (0 : Nat) (88 : Int))).fst.blocks ==
                                                            (0 : Int) &&
                                                          true) &&
                                                      ((ck (K ++ [pub s]) ((L w).set (0 : Nat) (88 : Int))).fst.man.ver ==
                                                            (0 : Int) &&
                                                          ((ck (K ++ [pub s])
                                                                      ((L w).set (0 : Nat) (88 : Int))).fst.man.flo ==
                                                              (0 : Int) &&
                                                            ((ck (K ++ [pub s])
                                                                        ((L w).set (0 : Nat) (88 : Int))).fst.man.len ==
                                                                (0 : Int) &&
                                                              (decide
                                                                  ((ck (K ++ [pub s])
                                                                            ((L w).set (0 : Nat) (88 : Int))).fst.man.list =
                                                                    List.replicate (64 : Nat) (0 : Int)) &&
                                                                (decide
                                                                    ((ck (K ++ [pub s])
                                                                              ((L w).set (0 : Nat)
                                                                                (88 : Int))).fst.man.plain =
                                                                      List.replicate (64 : Nat) (0 : Int)) &&
                                                                  true)))) &&
                                                        (decide
                                                            ((ck (K ++ [pub s]) ((L w).set (0 : Nat) (88 : Int))).fst.sign =
                                                              List.replicate (64 : Nat) (0 : Int)) &&
                                                          true)))))))
                                            [])
                                          (End.leaf (LV.one (VV.sc (SV.bool (SB.sym false)))) [])))))
                                  (End.ite x
                                    (End.need
                                      ((0 : Int) ≤ (0 : Int) ∧
                                        (0 : Int) ≤ IntKind.i64.wrap ((↑(L w).length : Int) - (1 : Int)) ∧
                                          IntKind.i64.wrap ((↑(L w).length : Int) - (1 : Int)) ≤ (↑(L w).length : Int))
                                      (End.need
                                        (AllBy
                                            (List.take
                                              (IntKind.i64.wrap ((↑(L w).length : Int) - (1 : Int)) - (0 : Int)).toNat
                                              (List.drop (0 : Nat) (L w))) ∧
                                          (List.take
                                                  (IntKind.i64.wrap ((↑(L w).length : Int) - (1 : Int)) - (0 : Int)).toNat
                                                  (List.drop (0 : Nat) (L w))).length <
                                              (1152921504606846976 : Nat) ∧
                                            okKs (K ++ [pub s]))
                                        (End.ite
                                          (((ck (K ++ [pub s])
                                                  (List.take
                                                    (IntKind.i64.wrap ((↑(L w).length : Int) - (1 : Int)) - (0 : Int)).toNat
                                                    (List.drop (0 : Nat) (L w)))).snd ==
                                              (6 : Int)) ==
                                            true)
                                          (End.leaf
                                            (LV.one
                                              (VV.sc
                                                (SV.bool
                                                  (SB.sym
                                                    ((ck (K ++ [pub s])
                                                                (List.take
                                                                  (IntKind.i64.wrap ((↑(L w).length : Int) - (1 : Int)) -
                                                                      (0 : Int)).toNat
                                                                  (List.drop (0 : Nat) (L w)))).fst.key ==
                                                          (0 : Int) &&
                                                        ((ck (K ++ [pub s])
                                                                  (List.take
                                                                    (IntKind.i64.wrap ((↑(L w).length : Int) - (1 : Int)) -
                                                                        (0 : Int)).toNat
                                                                    (List.drop (0 : Nat) (L w)))).fst.blocks ==
                                                            (0 : Int) &&
                                                          true) &&
                                                      ((ck (K ++ [pub s])
                                                                    (List.take
                                                                      (IntKind.i64.wrap
                                                                            ((↑(L w).length : Int) - (1 : Int)) -
                                                                          (0 : Int)).toNat
                                                                      (List.drop (0 : Nat) (L w)))).fst.man.ver ==
                                                            (0 : Int) &&
                                                          ((ck (K ++ [pub s])
                                                                      (List.take
                                                                        (IntKind.i64.wrap
                                                                              ((↑(L w).length : Int) - (1 : Int)) -
                                                                            (0 : Int)).toNat
                                                                        (List.drop (0 : Nat) (L w)))).fst.man.flo ==
                                                              (0 : Int) &&
                                                            ((ck (K ++ [pub s])
                                                                        (List.take
                                                                          (IntKind.i64.wrap
                                                                                ((↑(L w).length : Int) - (1 : Int)) -
                                                                              (0 : Int)).toNat
                                                                          (List.drop (0 : Nat) (L w)))).fst.man.len ==
                                                                (0 : Int) &&
                                                              (decide
                                                                  ((ck (K ++ [pub s])
                                                                            (List.take
                                                                              (IntKind.i64.wrap
                                                                                    ((↑(L w).length : Int) - (1 : Int)) -
                                                                                  (0 : Int)).toNat
                                                                              (List.drop (0 : Nat) (L w)))).fst.man.list =
                                                                    List.replicate (64 : Nat) (0 : Int)) &&
                                                                (decide
                                                                    ((ck (K ++ [pub s])
                                                                              (List.take
                                                                                (IntKind.i64.wrap
                                                                                      ((↑(L w).length : Int) - (1 : Int)) -
                                                                                    (0 : Int)).toNat
                                                                                (List.drop (0 : Nat)
                                                                                  (L w)))).fst.man.plain =
                                                                      List.replicate (64 : Nat) (0 : Int)) &&
                                                                  true)))) &&
                                                        (decide
                                                            ((ck (K ++ [pub s])
                                                                    (List.take
                                                                      (IntKind.i64.wrap
                                                                            ((↑(L w).length : Int) - (1 : Int)) -
                                                                          (0 : Int)).toNat
                                                                      (List.drop (0 : Nat) (L w)))).fst.sign =
                                                              List.replicate (64 : Nat) (0 : Int)) &&
                                                          true)))))))
                                            [])
                                          (End.leaf (LV.one (VV.sc (SV.bool (SB.sym false)))) []))))
                                    (End.need
                                      (AllBy (L w) ∧ (L w).length < (1152921504606846976 : Nat) ∧ okKs (K ++ [pub s]))
                                      (End.ite (((ck (K ++ [pub s]) (L w)).snd == (6 : Int)) == true)
                                        (End.leaf
                                          (LV.one
                                            (VV.sc
                                              (SV.bool
                                                (SB.sym
                                                  ((ck (K ++ [pub s]) (L w)).fst.key == (0 : Int) &&
                                                      ((ck (K ++ [pub s]) (L w)).fst.blocks == (0 : Int) && true) &&
                                                    ((ck (K ++ [pub s]) (L w)).fst.man.ver == (0 : Int) &&
                                                        ((ck (K ++ [pub s]) (L w)).fst.man.flo == (0 : Int) &&
                                                          ((ck (K ++ [pub s]) (L w)).fst.man.len == (0 : Int) &&
                                                            (decide
                                                                ((ck (K ++ [pub s]) (L w)).fst.man.list =
                                                                  List.replicate (64 : Nat) (0 : Int)) &&
                                                              (decide
                                                                  ((ck (K ++ [pub s]) (L w)).fst.man.plain =
                                                                    List.replicate (64 : Nat) (0 : Int)) &&
                                                                true)))) &&
                                                      (decide
                                                          ((ck (K ++ [pub s]) (L w)).fst.sign =
                                                            List.replicate (64 : Nat) (0 : Int)) &&
                                                        true)))))))
                                          [])
                                        (End.leaf (LV.one (VV.sc (SV.bool (SB.sym false)))) []))))))))
                          (End.ite y
                            (End.need ((0 : Int) ≤ (0 : Int) ∧ (0 : Int) < (↑(L w).length : Int))
                              (End.ite x
                                (End.need
                                  ((0 : Int) ≤ (0 : Int) ∧
                                    (0 : Int) ≤
                                        IntKind.i64.wrap ((↑((L w).set (0 : Nat) (88 : Int)).length : Int) - (1 : Int)) ∧
                                      IntKind.i64.wrap ((↑((L w).set (0 : Nat) (88 : Int)).length : Int) - (1 : Int)) ≤
                                        (↑((L w).set (0 : Nat) (88 : Int)).length : Int))
                                  (End.need
                                    (AllBy
                                        (List.take
                                          (IntKind.i64.wrap ((↑((L w).set (0 : Nat) (88 : Int)).length : Int) - (1 : Int)) -
                                              (0 : Int)).toNat
                                          (List.drop (0 : Nat) ((L w).set (0 : Nat) (88 : Int)))) ∧
                                      (List.take
                                              (IntKind.i64.wrap
                                                    ((↑((L w).set (0 : Nat) (88 : Int)).length : Int) - (1 : Int)) -
                                                  (0 : Int)).toNat
                                              (List.drop (0 : Nat) ((L w).set (0 : Nat) (88 : Int)))).length <
                                          (1152921504606846976 : Nat) ∧
                                        okKs K)
                                    (End.ite
                                      (((ck K
                                              (List.take
                                                (IntKind.i64.wrap
                                                      ((↑((L w).set (0 : Nat) (88 : Int)).length : Int) - (1 : Int)) -
                                                    (0 : Int)).toNat
                                                (List.drop (0 : Nat) ((L w).set (0 : Nat) (88 : Int))))).snd ==
                                          (6 : Int)) ==
                                        true)
                                      (End.leaf
                                        (LV.one
                                          (VV.sc
                                            (SV.bool
                                              (SB.sym
                                                ((ck K
                                                            (List.take
                                                              (IntKind.i64.wrap
                                                                    ((↑((L w).set (0 : Nat) (88 : Int)).length : Int) -
                                                                      (1 : Int)) -
                                                                  (0 : Int)).toNat
                                                              (List.drop (0 : Nat)
                                                                ((L w).set (0 : Nat) (88 : Int))))).fst.key ==
                                                      (0 : Int) &&
                                                    ((ck K
                                                              (List.take
                                                                (IntKind.i64.wrap
                                                                      ((↑((L w).set (0 : Nat) (88 : Int)).length : Int) -
                                                                        (1 : Int)) -
                                                                    (0 : Int)).toNat
                                                                (List.drop (0 : Nat)
                                                                  ((L w).set (0 : Nat) (88 : Int))))).fst.blocks ==
                                                        (0 : Int) &&
                                                      true) &&
                                                  ((ck K
                                                                (List.take
                                                                  (IntKind.i64.wrap
                                                                        ((↑((L w).set (0 : Nat) (88 : Int)).length : Int) -
                                                                          (1 : Int)) -
                                                                      (0 : Int)).toNat
                                                                  (List.drop (0 : Nat)
                                                                    ((L w).set (0 : Nat) (88 : Int))))).fst.man.ver ==
                                                        (0 : Int) &&
                                                      ((ck K
                                                                  (List.take
                                                                    (IntKind.i64.wrap
                                                                          ((↑((L w).set (0 : Nat) (88 : Int)).length :
                                                                              Int) -
                                                                            (1 : Int)) -
                                                                        (0 : Int)).toNat
                                                                    (List.drop (0 : Nat)
                                                                      ((L w).set (0 : Nat) (88 : Int))))).fst.man.flo ==
                                                          (0 : Int) &&
                                                        ((ck K
                                                                    (List.take
                                                                      (IntKind.i64.wrap
                                                                            ((↑((L w).set (0 : Nat) (88 : Int)).length :
                                                                                Int) -
                                                                              (1 : Int)) -
                                                                          (0 : Int)).toNat
                                                                      (List.drop (0 : Nat)
                                                                        ((L w).set (0 : Nat) (88 : Int))))).fst.man.len ==
                                                            (0 : Int) &&
                                                          (decide
                                                              ((ck K
                                                                        (List.take
                                                                          (IntKind.i64.wrap
                                                                                ((↑((L w).set (0 : Nat) (88 : Int)).length :
                                                                                    Int) -
                                                                                  (1 : Int)) -
                                                                              (0 : Int)).toNat
                                                                          (List.drop (0 : Nat)
                                                                            ((L w).set (0 : Nat)
                                                                              (88 : Int))))).fst.man.list =
                                                                List.replicate (64 : Nat) (0 : Int)) &&
                                                            (decide
                                                                ((ck K
                                                                          (List.take
                                                                            (IntKind.i64.wrap
                                                                                  ((↑((L w).set (0 : Nat)
                                                                                            (88 : Int)).length :
                                                                                      Int) -
                                                                                    (1 : Int)) -
                                                                                (0 : Int)).toNat
                                                                            (List.drop (0 : Nat)
                                                                              ((L w).set (0 : Nat)
                                                                                (88 : Int))))).fst.man.plain =
                                                                  List.replicate (64 : Nat) (0 : Int)) &&
                                                              true)))) &&
                                                    (decide
                                                        ((ck K
                                                                (List.take
                                                                  (IntKind.i64.wrap
                                                                        ((↑((L w).set (0 : Nat) (88 : Int)).length : Int) -
                                                                          (1 : Int)) -
                                                                      (0 : Int)).toNat
                                                                  (List.drop (0 : Nat)
                                                                    ((L w).set (0 : Nat) (88 : Int))))).fst.sign =
                                                          List.replicate (64 : Nat) (0 : Int)) &&
                                                      true)))))))
                                        [])
                                      (End.leaf (LV.one (VV.sc (SV.bool (SB.sym false)))) []))))
                                (End.need
                                  (AllBy ((L w).set (0 : Nat) (88 : Int)) ∧
                                    ((L w).set (0 : Nat) (88 : Int)).length < (1152921504606846976 : Nat) ∧ okKs K)
                                  (End.ite (((ck K ((L w).set (0 : Nat) (88 : Int))).snd == (6 : Int)) == true)
                                    (End.leaf
                                      (LV.one
                                        (VV.sc
                                          (SV.bool
                                            (SB.sym
                                              ((ck K ((L w).set (0 : Nat) (88 : Int))).fst.key == (0 : Int) &&
                                                  ((ck K ((L w).set (0 : Nat) (88 : Int))).fst.blocks == (0 : Int) &&
                                                    true) &&
                                                ((ck K ((L w).set (0 : Nat) (88 : Int))).fst.man.ver == (0 : Int) &&
                                                    ((ck K ((L w).set (0 : Nat) (88 : Int))).fst.man.flo == (0 : Int) &&
                                                      ((ck K ((L w).set (0 : Nat) (88 : Int))).fst.man.len == (0 : Int) &&
                                                        (decide
                                                            ((ck K ((L w).set (0 : Nat) (88 : Int))).fst.man.list =
                                                              List.replicate (64 : Nat) (0 : Int)) &&
                                                          (decide
                                                              ((ck K ((L w).set (0 : Nat) (88 : Int))).fst.man.plain =
                                                                List.replicate (64 : Nat) (0 : Int)) &&
                                                            true)))) &&
                                                  (decide
                                                      ((ck K ((L w).set (0 : Nat) (88 : Int))).fst.sign =
                                                        List.replicate (64 : Nat) (0 : Int)) &&
                                                    true)))))))
                                      [])
                                    (End.leaf (LV.one (VV.sc (SV.bool (SB.sym false)))) [])))))
                            (End.ite x
                              (End.need
                                ((0 : Int) ≤ (0 : Int) ∧
                                  (0 : Int) ≤ IntKind.i64.wrap ((↑(L w).length : Int) - (1 : Int)) ∧
                                    IntKind.i64.wrap ((↑(L w).length : Int) - (1 : Int)) ≤ (↑(L w).length : Int))
                                (End.need
                                  (AllBy
                                      (List.take (IntKind.i64.wrap ((↑(L w).length : Int) - (1 : Int)) - (0 : Int)).toNat
                                        (List.drop (0 : Nat) (L w))) ∧
                                    (List.take (IntKind.i64.wrap ((↑(L w).length : Int) - (1 : Int)) - (0 : Int)).toNat
                                            (List.drop (0 : Nat) (L w))).length <
                                        (1152921504606846976 : Nat) ∧
                                      okKs K)
                                  (End.ite
                                    (((ck K
                                            (List.take
                                              (IntKind.i64.wrap ((↑(L w).length : Int) - (1 : Int)) - (0 : Int)).toNat
                                              (List.drop (0 : Nat) (L w)))).snd ==
                                        (6 : Int)) ==
                                      true)
                                    (End.leaf
                                      (LV.one
                                        (VV.sc
                                          (SV.bool
                                            (SB.sym
                                              ((ck K
                                                          (List.take
                                                            (IntKind.i64.wrap ((↑(L w).length : Int) - (1 : Int)) -
                                                                (0 : Int)).toNat
                                                            (List.drop (0 : Nat) (L w)))).fst.key ==
                                                    (0 : Int) &&
                                                  ((ck K
                                                            (List.take
                                                              (IntKind.i64.wrap ((↑(L w).length : Int) - (1 : Int)) -
                                                                  (0 : Int)).toNat
                                                              (List.drop (0 : Nat) (L w)))).fst.blocks ==
                                                      (0 : Int) &&
                                                    true) &&
                                                ((ck K
                                                              (List.take
                                                                (IntKind.i64.wrap ((↑(L w).length : Int) - (1 : Int)) -
                                                                    (0 : Int)).toNat
                                                                (List.drop (0 : Nat) (L w)))).fst.man.ver ==
                                                      (0 : Int) &&
                                                    ((ck K
                                                                (List.take
                                                                  (IntKind.i64.wrap ((↑(L w).length : Int) - (1 : Int)) -
                                                                      (0 : Int)).toNat
                                                                  (List.drop (0 : Nat) (L w)))).fst.man.flo ==
                                                        (0 : Int) &&
                                                      ((ck K
                                                                  (List.take
                                                                    (IntKind.i64.wrap ((↑(L w).length : Int) - (1 : Int)) -
                                                                        (0 : Int)).toNat
                                                                    (List.drop (0 : Nat) (L w)))).fst.man.len ==
                                                          (0 : Int) &&
                                                        (decide
                                                            ((ck K
                                                                      (List.take
                                                                        (IntKind.i64.wrap
                                                                              ((↑(L w).length : Int) - (1 : Int)) -
                                                                            (0 : Int)).toNat
                                                                        (List.drop (0 : Nat) (L w)))).fst.man.list =
                                                              List.replicate (64 : Nat) (0 : Int)) &&
                                                          (decide
                                                              ((ck K
                                                                        (List.take
                                                                          (IntKind.i64.wrap
                                                                                ((↑(L w).length : Int) - (1 : Int)) -
                                                                              (0 : Int)).toNat
                                                                          (List.drop (0 : Nat) (L w)))).fst.man.plain =
                                                                List.replicate (64 : Nat) (0 : Int)) &&
                                                            true)))) &&
                                                  (decide
                                                      ((ck K
                                                              (List.take
                                                                (IntKind.i64.wrap ((↑(L w).length : Int) - (1 : Int)) -
                                                                    (0 : Int)).toNat
                                                                (List.drop (0 : Nat) (L w)))).fst.sign =
                                                        List.replicate (64 : Nat) (0 : Int)) &&
                                                    true)))))))
                                      [])
                                    (End.leaf (LV.one (VV.sc (SV.bool (SB.sym false)))) []))))
                              (End.need (AllBy (L w) ∧ (L w).length < (1152921504606846976 : Nat) ∧ okKs K)
                                (End.ite (((ck K (L w)).snd == (15 : Int)) == true)
                                  (End.leaf
                                    (LV.one
                                      (VV.sc
                                        (SV.bool
                                          (SB.sym
                                            ((ck K (L w)).fst.key == (0 : Int) &&
                                                ((ck K (L w)).fst.blocks == (0 : Int) && true) &&
                                              ((ck K (L w)).fst.man.ver == (0 : Int) &&
                                                  ((ck K (L w)).fst.man.flo == (0 : Int) &&
                                                    ((ck K (L w)).fst.man.len == (0 : Int) &&
                                                      (decide
                                                          ((ck K (L w)).fst.man.list =
                                                            List.replicate (64 : Nat) (0 : Int)) &&
                                                        (decide
                                                            ((ck K (L w)).fst.man.plain =
                                                              List.replicate (64 : Nat) (0 : Int)) &&
                                                          true)))) &&
                                                (decide ((ck K (L w)).fst.sign = List.replicate (64 : Nat) (0 : Int)) &&
                                                  true)))))))
                                    [])
                                  (End.leaf (LV.one (VV.sc (SV.bool (SB.sym false)))) []))))))))))
                (End.need ((0 : Int) ≤ (0 : Int) ∧ (0 : Int) ≤ (64 : Int) ∧ (64 : Int) ≤ (64 : Int))
                  (End.need
                    (((headF a b ++ List.replicate (152 : Nat) (0 : Int)).length +
                            (List.take (64 : Nat)
                                (List.drop (0 : Nat)
                                  (sign s
                                      [(98 : Int), (111 : Int), (111 : Int), (116 : Int), (106 : Int), (97 : Int),
                                        (99 : Int), (107 : Int)]
                                      (signedF (headF a b ++ List.replicate (152 : Nat) (0 : Int)))).fst)).length) *
                          (1 : Nat) ≤
                        (70368744177664 : Nat) ∧
                      (headF a b ++ List.replicate (152 : Nat) (0 : Int)).length +
                          (List.take (64 : Nat)
                              (List.drop (0 : Nat)
                                (sign s
                                    [(98 : Int), (111 : Int), (111 : Int), (116 : Int), (106 : Int), (97 : Int), (99 : Int),
                                      (107 : Int)]
                                    (signedF (headF a b ++ List.replicate (152 : Nat) (0 : Int)))).fst)).length ≤
                        (70368744177664 : Nat))
                    (End.need (a = a ∧ (0 : Int) ≤ a ∧ (32 : Int) * a ≤ (70368744177664 : Int) ∧ a ≤ (70368744177664 : Int))
                      (End.need
                        ((0 : Int) = (0 : Int) ∧
                          (0 : Int) ≤ a ∧
                            a ≤ (8 : Int) ∧
                              (List.replicate a.toNat
                                      [(0 : Int), (0 : Int), (0 : Int), (0 : Int), (0 : Int), (0 : Int), (0 : Int),
                                        (0 : Int), (0 : Int), (0 : Int), (0 : Int), (0 : Int), (0 : Int), (0 : Int),
                                        (0 : Int), (0 : Int), (0 : Int), (0 : Int), (0 : Int), (0 : Int), (0 : Int),
                                        (0 : Int), (0 : Int), (0 : Int), (0 : Int), (0 : Int), (0 : Int), (0 : Int),
                                        (0 : Int), (0 : Int), (0 : Int), (0 : Int)]).length =
                                  a.toNat ∧
                                headF a b ++ List.replicate (152 : Nat) (0 : Int) ++
                                      List.take (64 : Nat)
                                        (List.drop (0 : Nat)
                                          (sign s
                                              [(98 : Int), (111 : Int), (111 : Int), (116 : Int), (106 : Int), (97 : Int),
                                                (99 : Int), (107 : Int)]
                                              (signedF (headF a b ++ List.replicate (152 : Nat) (0 : Int)))).fst) =
                                    L w ∧
                                  K = List.replicate a.toNat nineL)
                        (End.ite (!z)
                          (End.need (s.length = (32 : Nat))
                            (End.need
                              ((K.length + (1 : Nat)) * (32 : Nat) ≤ (70368744177664 : Nat) ∧
                                K.length + (1 : Nat) ≤ (70368744177664 : Nat))
                              (End.ite w
                                (End.ite y
                                  (End.need ((0 : Int) ≤ (0 : Int) ∧ (0 : Int) < (↑(L w).length : Int))
                                    (End.ite x
                                      (End.need
                                        ((0 : Int) ≤ (0 : Int) ∧
                                          (0 : Int) ≤
                                              IntKind.i64.wrap
                                                ((↑((L w).set (0 : Nat) (88 : Int)).length : Int) - (1 : Int)) ∧
                                            IntKind.i64.wrap
                                                ((↑((L w).set (0 : Nat) (88 : Int)).length : Int) - (1 : Int)) ≤
                                              (↑((L w).set (0 : Nat) (88 : Int)).length : Int))
                                        (End.need
                                          (AllBy
                                              (List.take
                                                (IntKind.i64.wrap
                                                      ((↑((L w).set (0 : Nat) (88 : Int)).length : Int) - (1 : Int)) -
                                                    (0 : Int)).toNat
                                                (List.drop (0 : Nat) ((L w).set (0 : Nat) (88 : Int)))) ∧
                                            (List.take
                                                    (IntKind.i64.wrap
                                                          ((↑((L w).set (0 : Nat) (88 : Int)).length : Int) - (1 : Int)) -
                                                        (0 : Int)).toNat
                                                    (List.drop (0 : Nat) ((L w).set (0 : Nat) (88 : Int)))).length <
                                                (1152921504606846976 : Nat) ∧
                                              okKs (K ++ [pub s]))
                                          (End.ite
                                            (((ck (K ++ [pub s])
                                                    (List.take
                                                      (IntKind.i64.wrap
                                                            ((↑((L w).set (0 : Nat) (88 : Int)).length : Int) - (1 : Int)) -
                                                          (0 : Int)).toNat
                                                      (List.drop (0 : Nat) ((L w).set (0 : Nat) (88 : Int))))).snd ==
                                                (6 : Int)) ==
                                              true)
                                            (End.leaf
                                              (LV.one
                                                (VV.sc
                                                  (SV.bool
                                                    (SB.sym
                                                      ((ck (K ++ [pub s])
                                                                  (List.take
                                                                    (IntKind.i64.wrap
                                                                          ((↑((L w).set (0 : Nat) (88 : Int)).length :
                                                                              Int) -
                                                                            (1 : Int)) -
                                                                        (0 : Int)).toNat
                                                                    (List.drop (0 : Nat)
                                                                      ((L w).set (0 : Nat) (88 : Int))))).fst.key ==
                                                            (0 : Int) &&
                                                          ((ck (K ++ [pub s])
                                                                    (List.take
                                                                      (IntKind.i64.wrap
                                                                            ((↑((L w).set (0 : Nat) (88 : Int)).length :
                                                                                Int) -
                                                                              (1 : Int)) -
                                                                          (0 : Int)).toNat
                                                                      (List.drop (0 : Nat)
                                                                        ((L w).set (0 : Nat) (88 : Int))))).fst.blocks ==
                                                              (0 : Int) &&
                                                            true) &&
                                                        ((ck (K ++ [pub s])
                                                                      (List.take
                                                                        (IntKind.i64.wrap
                                                                              ((↑((L w).set (0 : Nat) (88 : Int)).length :
                                                                                  Int) -
                                                                                (1 : Int)) -
                                                                            (0 : Int)).toNat
                                                                        (List.drop (0 : Nat)
                                                                          ((L w).set (0 : Nat) (88 : Int))))).fst.man.ver ==
                                                              (0 : Int) &&
                                                            ((ck (K ++ [pub s])
                                                                        (List.take
                                                                          (IntKind.i64.wrap
                                                                                ((↑((L w).set (0 : Nat) (88 : Int)).length :
                                                                                    Int) -
                                                                                  (1 : Int)) -
                                                                              (0 : Int)).toNat
                                                                          (List.drop (0 : Nat)
                                                                            ((L w).set (0 : Nat)
                                                                              (88 : Int))))).fst.man.flo ==
                                                                (0 : Int) &&
                                                              ((ck (K ++ [pub s])
                                                                          (List.take
                                                                            (IntKind.i64.wrap
                                                                                  ((↑((L w).set (0 : Nat)
                                                                                            (88 : Int)).length :
                                                                                      Int) -
                                                                                    (1 : Int)) -
                                                                                (0 : Int)).toNat
                                                                            (List.drop (0 : Nat)
                                                                              ((L w).set (0 : Nat)
                                                                                (88 : Int))))).fst.man.len ==
                                                                  (0 : Int) &&
                                                                (decide
                                                                    ((ck (K ++ [pub s])
                                                                              (List.take
                                                                                (IntKind.i64.wrap
                                                                                      ((↑((L w).set (0 : Nat)
                                                                                                (88 : Int)).length :
                                                                                          Int) -
                                                                                        (1 : Int)) -
                                                                                    (0 : Int)).toNat
                                                                                (List.drop (0 : Nat)
                                                                                  ((L w).set (0 : Nat)
                                                                                    (88 : Int))))).fst.man.list =
                                                                      List.replicate (64 : Nat) (0 : Int)) &&
                                                                  (decide
                                                                      ((ck (K ++ [pub s])
                                                                                (List.take
                                                                                  (IntKind.i64.wrap
                                                                                        ((↑((L w).set (0 : Nat)
                                                                                                  (88 : Int)).length :
                                                                                            Int) -
                                                                                          (1 : Int)) -
                                                                                      (0 : Int)).toNat
                                                                                  (List.drop (0 : Nat)
                                                                                    ((L w).set (0 : Nat)
                                                                                      (88 : Int))))).fst.man.plain =
                                                                        List.replicate (64 : Nat) (0 : Int)) &&
                                                                    true)))) &&
                                                          (decide
                                                              ((ck (K ++ [pub s])
                                                                      (List.take
                                                                        (IntKind.i64.wrap
                                                                              ((↑((L w).set (0 : Nat) (88 : Int)).length :
                                                                                  Int) -
                                                                                (1 : Int)) -
                                                                            (0 : Int)).toNat
                                                                        (List.drop (0 : Nat)
                                                                          ((L w).set (0 : Nat) (88 : Int))))).fst.sign =
                                                                List.replicate (64 : Nat) (0 : Int)) &&
                                                            true)))))))
                                              [])
                                            (End.leaf (LV.one (VV.sc (SV.bool (SB.sym false)))) []))))
                                      (End.need
                                        (AllBy ((L w).set (0 : Nat) (88 : Int)) ∧
                                          ((L w).set (0 : Nat) (88 : Int)).length < (1152921504606846976 : Nat) ∧
                                            okKs (K ++ [pub s]))
                                        (End.ite
                                          (((ck (K ++ [pub s]) ((L w).set (0 : Nat) (88 : Int))).snd == (6 : Int)) == true)
                                          (End.leaf
                                            (LV.one
                                              (VV.sc
                                                (SV.bool
                                                  (SB.sym
                                                    ((ck (K ++ [pub s]) ((L w).set (0 : Nat) (88 : Int))).fst.key ==
                                                          (0 : Int) &&
                                                        ((ck (K ++ [pub s]) ((L w).set (0 : Nat) (88 : Int))).fst.blocks ==
                                                            (0 : Int) &&
                                                          true) &&
                                                      ((ck (K ++ [pub s]) ((L w).set (0 : Nat) (88 : Int))).fst.man.ver ==
                                                            (0 : Int) &&
                                                          ((ck (K ++ [pub s])
                                                                      ((L w).set (0 : Nat) (88 : Int))).fst.man.flo ==
                                                              (0 : Int) &&
                                                            ((ck (K ++ [pub s])
                                                                        ((L w).set (0 : Nat) (88 : Int))).fst.man.len ==
                                                                (0 : Int) &&
                                                              (decide
                                                                  ((ck (K ++ [pub s])
                                                                            ((L w).set (0 : Nat) (88 : Int))).fst.man.list =
                                                                    List.replicate (64 : Nat) (0 : Int)) &&
                                                                (decide
                                                                    ((ck (K ++ [pub s])
                                                                              ((L w).set (0 : Nat)
                                                                                (88 : Int))).fst.man.plain =
                                                                      List.replicate (64 : Nat) (0 : Int)) &&
                                                                  true)))) &&
                                                        (decide
                                                            ((ck (K ++ [pub s]) ((L w).set (0 : Nat) (88 : Int))).fst.sign =
                                                              List.replicate (64 : Nat) (0 : Int)) &&
                                                          true)))))))
                                            [])
                                          (End.leaf (LV.one (VV.sc (SV.bool (SB.sym false)))) [])))))
                                  (End.ite x
                                    (End.need
                                      ((0 : Int) ≤ (0 : Int) ∧
                                        (0 : Int) ≤ IntKind.i64.wrap ((↑(L w).length : Int) - (1 : Int)) ∧
                                          IntKind.i64.wrap ((↑(L w).length : Int) - (1 : Int)) ≤ (↑(L w).length : Int))
                                      (End.need
                                        (AllBy
                                            (List.take
                                              (IntKind.i64.wrap ((↑(L w).length : Int) - (1 : Int)) - (0 : Int)).toNat
                                              (List.drop (0 : Nat) (L w))) ∧
                                          (List.take
                                                  (IntKind.i64.wrap ((↑(L w).length : Int) - (1 : Int)) - (0 : Int)).toNat
                                                  (List.drop (0 : Nat) (L w))).length <
                                              (1152921504606846976 : Nat) ∧
                                            okKs (K ++ [pub s]))
                                        (End.ite
                                          (((ck (K ++ [pub s])
                                                  (List.take
                                                    (IntKind.i64.wrap ((↑(L w).length : Int) - (1 : Int)) - (0 : Int)).toNat
                                                    (List.drop (0 : Nat) (L w)))).snd ==
                                              (6 : Int)) ==
                                            true)
                                          (End.leaf
                                            (LV.one
                                              (VV.sc
                                                (SV.bool
                                                  (SB.sym
                                                    ((ck (K ++ [pub s])
                                                                (List.take
                                                                  (IntKind.i64.wrap ((↑(L w).length : Int) - (1 : Int)) -
                                                                      (0 : Int)).toNat
                                                                  (List.drop (0 : Nat) (L w)))).fst.key ==
                                                          (0 : Int) &&
                                                        ((ck (K ++ [pub s])
                                                                  (List.take
                                                                    (IntKind.i64.wrap ((↑(L w).length : Int) - (1 : Int)) -
                                                                        (0 : Int)).toNat
                                                                    (List.drop (0 : Nat) (L w)))).fst.blocks ==
                                                            (0 : Int) &&
                                                          true) &&
                                                      ((ck (K ++ [pub s])
                                                                    (List.take
                                                                      (IntKind.i64.wrap
                                                                            ((↑(L w).length : Int) - (1 : Int)) -
                                                                          (0 : Int)).toNat
                                                                      (List.drop (0 : Nat) (L w)))).fst.man.ver ==
                                                            (0 : Int) &&
                                                          ((ck (K ++ [pub s])
                                                                      (List.take
                                                                        (IntKind.i64.wrap
                                                                              ((↑(L w).length : Int) - (1 : Int)) -
                                                                            (0 : Int)).toNat
                                                                        (List.drop (0 : Nat) (L w)))).fst.man.flo ==
                                                              (0 : Int) &&
                                                            ((ck (K ++ [pub s])
                                                                        (List.take
                                                                          (IntKind.i64.wrap
                                                                                ((↑(L w).length : Int) - (1 : Int)) -
                                                                              (0 : Int)).toNat
                                                                          (List.drop (0 : Nat) (L w)))).fst.man.len ==
                                                                (0 : Int) &&
                                                              (decide
                                                                  ((ck (K ++ [pub s])
                                                                            (List.take
                                                                              (IntKind.i64.wrap
                                                                                    ((↑(L w).length : Int) - (1 : Int)) -
                                                                                  (0 : Int)).toNat
                                                                              (List.drop (0 : Nat) (L w)))).fst.man.list =
                                                                    List.replicate (64 : Nat) (0 : Int)) &&
                                                                (decide
                                                                    ((ck (K ++ [pub s])
                                                                              (List.take
                                                                                (IntKind.i64.wrap
                                                                                      ((↑(L w).length : Int) - (1 : Int)) -
                                                                                    (0 : Int)).toNat
                                                                                (List.drop (0 : Nat)
                                                                                  (L w)))).fst.man.plain =
                                                                      List.replicate (64 : Nat) (0 : Int)) &&
                                                                  true)))) &&
                                                        (decide
                                                            ((ck (K ++ [pub s])
                                                                    (List.take
                                                                      (IntKind.i64.wrap
                                                                            ((↑(L w).length : Int) - (1 : Int)) -
                                                                          (0 : Int)).toNat
                                                                      (List.drop (0 : Nat) (L w)))).fst.sign =
                                                              List.replicate (64 : Nat) (0 : Int)) &&
                                                          true)))))))
                                            [])
                                          (End.leaf (LV.one (VV.sc (SV.bool (SB.sym false)))) []))))
                                    (End.need
                                      (AllBy (L w) ∧ (L w).length < (1152921504606846976 : Nat) ∧ okKs (K ++ [pub s]))
                                      (End.ite (((ck (K ++ [pub s]) (L w)).snd == (8 : Int)) == true)
                                        (End.leaf
                                          (LV.one
                                            (VV.sc
                                              (SV.bool
                                                (SB.sym
                                                  ((ck (K ++ [pub s]) (L w)).fst.key == (0 : Int) &&
                                                      ((ck (K ++ [pub s]) (L w)).fst.blocks == (0 : Int) && true) &&
                                                    ((ck (K ++ [pub s]) (L w)).fst.man.ver == (0 : Int) &&
                                                        ((ck (K ++ [pub s]) (L w)).fst.man.flo == (0 : Int) &&
                                                          ((ck (K ++ [pub s]) (L w)).fst.man.len == (0 : Int) &&
                                                            (decide
                                                                ((ck (K ++ [pub s]) (L w)).fst.man.list =
                                                                  List.replicate (64 : Nat) (0 : Int)) &&
                                                              (decide
                                                                  ((ck (K ++ [pub s]) (L w)).fst.man.plain =
                                                                    List.replicate (64 : Nat) (0 : Int)) &&
                                                                true)))) &&
                                                      (decide
                                                          ((ck (K ++ [pub s]) (L w)).fst.sign =
                                                            List.replicate (64 : Nat) (0 : Int)) &&
                                                        true)))))))
                                          [])
                                        (End.leaf (LV.one (VV.sc (SV.bool (SB.sym false)))) [])))))
                                (End.ite y
                                  (End.need ((0 : Int) ≤ (0 : Int) ∧ (0 : Int) < (↑(L w).length : Int))
                                    (End.ite x
                                      (End.need
                                        ((0 : Int) ≤ (0 : Int) ∧
                                          (0 : Int) ≤
                                              IntKind.i64.wrap
                                                ((↑((L w).set (0 : Nat) (88 : Int)).length : Int) - (1 : Int)) ∧
                                            IntKind.i64.wrap
                                                ((↑((L w).set (0 : Nat) (88 : Int)).length : Int) - (1 : Int)) ≤
                                              (↑((L w).set (0 : Nat) (88 : Int)).length : Int))
                                        (End.need
                                          (AllBy
                                              (List.take
                                                (IntKind.i64.wrap
                                                      ((↑((L w).set (0 : Nat) (88 : Int)).length : Int) - (1 : Int)) -
                                                    (0 : Int)).toNat
                                                (List.drop (0 : Nat) ((L w).set (0 : Nat) (88 : Int)))) ∧
                                            (List.take
                                                    (IntKind.i64.wrap
                                                          ((↑((L w).set (0 : Nat) (88 : Int)).length : Int) - (1 : Int)) -
                                                        (0 : Int)).toNat
                                                    (List.drop (0 : Nat) ((L w).set (0 : Nat) (88 : Int)))).length <
                                                (1152921504606846976 : Nat) ∧
                                              okKs (K ++ [pub s]))
                                          (End.ite
                                            (((ck (K ++ [pub s])
                                                    (List.take
                                                      (IntKind.i64.wrap
                                                            ((↑((L w).set (0 : Nat) (88 : Int)).length : Int) - (1 : Int)) -
                                                          (0 : Int)).toNat
                                                      (List.drop (0 : Nat) ((L w).set (0 : Nat) (88 : Int))))).snd ==
                                                (6 : Int)) ==
                                              true)
                                            (End.leaf
                                              (LV.one
                                                (VV.sc
                                                  (SV.bool
                                                    (SB.sym
                                                      ((ck (K ++ [pub s])
                                                                  (List.take
                                                                    (IntKind.i64.wrap
                                                                          ((↑((L w).set (0 : Nat) (88 : Int)).length :
                                                                              Int) -
                                                                            (1 : Int)) -
                                                                        (0 : Int)).toNat
                                                                    (List.drop (0 : Nat)
                                                                      ((L w).set (0 : Nat) (88 : Int))))).fst.key ==
                                                            (0 : Int) &&
                                                          ((ck (K ++ [pub s])
                                                                    (List.take
                                                                      (IntKind.i64.wrap
                                                                            ((↑((L w).set (0 : Nat) (88 : Int)).length :
                                                                                Int) -
                                                                              (1 : Int)) -
                                                                          (0 : Int)).toNat
                                                                      (List.drop (0 : Nat)
                                                                        ((L w).set (0 : Nat) (88 : Int))))).fst.blocks ==
                                                              (0 : Int) &&
                                                            true) &&
                                                        ((ck (K ++ [pub s])
                                                                      (List.take
                                                                        (IntKind.i64.wrap
                                                                              ((↑((L w).set (0 : Nat) (88 : Int)).length :
                                                                                  Int) -
                                                                                (1 : Int)) -
                                                                            (0 : Int)).toNat
                                                                        (List.drop (0 : Nat)
                                                                          ((L w).set (0 : Nat) (88 : Int))))).fst.man.ver ==
                                                              (0 : Int) &&
                                                            ((ck (K ++ [pub s])
                                                                        (List.take
                                                                          (IntKind.i64.wrap
                                                                                ((↑((L w).set (0 : Nat) (88 : Int)).length :
                                                                                    Int) -
                                                                                  (1 : Int)) -
                                                                              (0 : Int)).toNat
                                                                          (List.drop (0 : Nat)
                                                                            ((L w).set (0 : Nat)
                                                                              (88 : Int))))).fst.man.flo ==
                                                                (0 : Int) &&
                                                              ((ck (K ++ [pub s])
                                                                          (List.take
                                                                            (IntKind.i64.wrap
                                                                                  ((↑((L w).set (0 : Nat)
                                                                                            (88 : Int)).length :
                                                                                      Int) -
                                                                                    (1 : Int)) -
                                                                                (0 : Int)).toNat
                                                                            (List.drop (0 : Nat)
                                                                              ((L w).set (0 : Nat)
                                                                                (88 : Int))))).fst.man.len ==
                                                                  (0 : Int) &&
                                                                (decide
                                                                    ((ck (K ++ [pub s])
                                                                              (List.take
                                                                                (IntKind.i64.wrap
                                                                                      ((↑((L w).set (0 : Nat)
                                                                                                (88 : Int)).length :
                                                                                          Int) -
                                                                                        (1 : Int)) -
                                                                                    (0 : Int)).toNat
                                                                                (List.drop (0 : Nat)
                                                                                  ((L w).set (0 : Nat)
                                                                                    (88 : Int))))).fst.man.list =
                                                                      List.replicate (64 : Nat) (0 : Int)) &&
                                                                  (decide
                                                                      ((ck (K ++ [pub s])
                                                                                (List.take
                                                                                  (IntKind.i64.wrap
                                                                                        ((↑((L w).set (0 : Nat)
                                                                                                  (88 : Int)).length :
                                                                                            Int) -
                                                                                          (1 : Int)) -
                                                                                      (0 : Int)).toNat
                                                                                  (List.drop (0 : Nat)
                                                                                    ((L w).set (0 : Nat)
                                                                                      (88 : Int))))).fst.man.plain =
                                                                        List.replicate (64 : Nat) (0 : Int)) &&
                                                                    true)))) &&
                                                          (decide
                                                              ((ck (K ++ [pub s])
                                                                      (List.take
                                                                        (IntKind.i64.wrap
                                                                              ((↑((L w).set (0 : Nat) (88 : Int)).length :
                                                                                  Int) -
                                                                                (1 : Int)) -
                                                                            (0 : Int)).toNat
                                                                        (List.drop (0 : Nat)
                                                                          ((L w).set (0 : Nat) (88 : Int))))).fst.sign =
                                                                List.replicate (64 : Nat) (0 : Int)) &&
                                                            true)))))))
                                              [])
                                            (End.leaf (LV.one (VV.sc (SV.bool (SB.sym false)))) []))))
                                      (End.need
                                        (AllBy ((L w).set (0 : Nat) (88 : Int)) ∧
                                          ((L w).set (0 : Nat) (88 : Int)).length < (1152921504606846976 : Nat) ∧
                                            okKs (K ++ [pub s]))
                                        (End.ite
                                          (((ck (K ++ [pub s]) ((L w).set (0 : Nat) (88 : Int))).snd == (6 : Int)) == true)
                                          (End.leaf
                                            (LV.one
                                              (VV.sc
                                                (SV.bool
                                                  (SB.sym
                                                    ((ck (K ++ [pub s]) ((L w).set (0 : Nat) (88 : Int))).fst.key ==
                                                          (0 : Int) &&
                                                        ((ck (K ++ [pub s]) ((L w).set (0 : Nat) (88 : Int))).fst.blocks ==
                                                            (0 : Int) &&
                                                          true) &&
                                                      ((ck (K ++ [pub s]) ((L w).set (0 : Nat) (88 : Int))).fst.man.ver ==
                                                            (0 : Int) &&
                                                          ((ck (K ++ [pub s])
                                                                      ((L w).set (0 : Nat) (88 : Int))).fst.man.flo ==
                                                              (0 : Int) &&
                                                            ((ck (K ++ [pub s])
                                                                        ((L w).set (0 : Nat) (88 : Int))).fst.man.len ==
                                                                (0 : Int) &&
                                                              (decide
                                                                  ((ck (K ++ [pub s])
                                                                            ((L w).set (0 : Nat) (88 : Int))).fst.man.list =
                                                                    List.replicate (64 : Nat) (0 : Int)) &&
                                                                (decide
                                                                    ((ck (K ++ [pub s])
                                                                              ((L w).set (0 : Nat)
                                                                                (88 : Int))).fst.man.plain =
                                                                      List.replicate (64 : Nat) (0 : Int)) &&
                                                                  true)))) &&
                                                        (decide
                                                            ((ck (K ++ [pub s]) ((L w).set (0 : Nat) (88 : Int))).fst.sign =
                                                              List.replicate (64 : Nat) (0 : Int)) &&
                                                          true)))))))
                                            [])
                                          (End.leaf (LV.one (VV.sc (SV.bool (SB.sym false)))) [])))))
                                  (End.ite x
                                    (End.need
                                      ((0 : Int) ≤ (0 : Int) ∧
                                        (0 : Int) ≤ IntKind.i64.wrap ((↑(L w).length : Int) - (1 : Int)) ∧
                                          IntKind.i64.wrap ((↑(L w).length : Int) - (1 : Int)) ≤ (↑(L w).length : Int))
                                      (End.need
                                        (AllBy
                                            (List.take
                                              (IntKind.i64.wrap ((↑(L w).length : Int) - (1 : Int)) - (0 : Int)).toNat
                                              (List.drop (0 : Nat) (L w))) ∧
                                          (List.take
                                                  (IntKind.i64.wrap ((↑(L w).length : Int) - (1 : Int)) - (0 : Int)).toNat
                                                  (List.drop (0 : Nat) (L w))).length <
                                              (1152921504606846976 : Nat) ∧
                                            okKs (K ++ [pub s]))
                                        (End.ite
                                          (((ck (K ++ [pub s])
                                                  (List.take
                                                    (IntKind.i64.wrap ((↑(L w).length : Int) - (1 : Int)) - (0 : Int)).toNat
                                                    (List.drop (0 : Nat) (L w)))).snd ==
                                              (6 : Int)) ==
                                            true)
                                          (End.leaf
                                            (LV.one
                                              (VV.sc
                                                (SV.bool
                                                  (SB.sym
                                                    ((ck (K ++ [pub s])
                                                                (List.take
                                                                  (IntKind.i64.wrap ((↑(L w).length : Int) - (1 : Int)) -
                                                                      (0 : Int)).toNat
                                                                  (List.drop (0 : Nat) (L w)))).fst.key ==
                                                          (0 : Int) &&
                                                        ((ck (K ++ [pub s])
                                                                  (List.take
                                                                    (IntKind.i64.wrap ((↑(L w).length : Int) - (1 : Int)) -
                                                                        (0 : Int)).toNat
                                                                    (List.drop (0 : Nat) (L w)))).fst.blocks ==
                                                            (0 : Int) &&
                                                          true) &&
                                                      ((ck (K ++ [pub s])
                                                                    (List.take
                                                                      (IntKind.i64.wrap
                                                                            ((↑(L w).length : Int) - (1 : Int)) -
                                                                          (0 : Int)).toNat
                                                                      (List.drop (0 : Nat) (L w)))).fst.man.ver ==
                                                            (0 : Int) &&
                                                          ((ck (K ++ [pub s])
                                                                      (List.take
                                                                        (IntKind.i64.wrap
                                                                              ((↑(L w).length : Int) - (1 : Int)) -
                                                                            (0 : Int)).toNat
                                                                        (List.drop (0 : Nat) (L w)))).fst.man.flo ==
                                                              (0 : Int) &&
                                                            ((ck (K ++ [pub s])
                                                                        (List.take
                                                                          (IntKind.i64.wrap
                                                                                ((↑(L w).length : Int) - (1 : Int)) -
                                                                              (0 : Int)).toNat
                                                                          (List.drop (0 : Nat) (L w)))).fst.man.len ==
                                                                (0 : Int) &&
                                                              (decide
                                                                  ((ck (K ++ [pub s])
                                                                            (List.take
                                                                              (IntKind.i64.wrap
                                                                                    ((↑(L w).length : Int) - (1 : Int)) -
                                                                                  (0 : Int)).toNat
                                                                              (List.drop (0 : Nat) (L w)))).fst.man.list =
                                                                    List.replicate (64 : Nat) (0 : Int)) &&
                                                                (decide
                                                                    ((ck (K ++ [pub s])
                                                                              (List.take
                                                                                (IntKind.i64.wrap
                                                                                      ((↑(L w).length : Int) - (1 : Int)) -
                                                                                    (0 : Int)).toNat
                                                                                (List.drop (0 : Nat)
                                                                                  (L w)))).fst.man.plain =
                                                                      List.replicate (64 : Nat) (0 : Int)) &&
                                                                  true)))) &&
                                                        (decide
                                                            ((ck (K ++ [pub s])
                                                                    (List.take
                                                                      (IntKind.i64.wrap
                                                                            ((↑(L w).length : Int) - (1 : Int)) -
                                                                          (0 : Int)).toNat
                                                                      (List.drop (0 : Nat) (L w)))).fst.sign =
                                                              List.replicate (64 : Nat) (0 : Int)) &&
                                                          true)))))))
                                            [])
                                          (End.leaf (LV.one (VV.sc (SV.bool (SB.sym false)))) []))))
                                    (End.need
                                      (AllBy (L w) ∧ (L w).length < (1152921504606846976 : Nat) ∧ okKs (K ++ [pub s]))
                                      (End.ite (((ck (K ++ [pub s]) (L w)).snd == (6 : Int)) == true)
                                        (End.leaf
                                          (LV.one
                                            (VV.sc
                                              (SV.bool
                                                (SB.sym
                                                  ((ck (K ++ [pub s]) (L w)).fst.key == (0 : Int) &&
                                                      ((ck (K ++ [pub s]) (L w)).fst.blocks == (0 : Int) && true) &&
                                                    ((ck (K ++ [pub s]) (L w)).fst.man.ver == (0 : Int) &&
                                                        ((ck (K ++ [pub s]) (L w)).fst.man.flo == (0 : Int) &&
                                                          ((ck (K ++ [pub s]) (L w)).fst.man.len == (0 : Int) &&
                                                            (decide
                                                                ((ck (K ++ [pub s]) (L w)).fst.man.list =
                                                                  List.replicate (64 : Nat) (0 : Int)) &&
                                                              (decide
                                                                  ((ck (K ++ [pub s]) (L w)).fst.man.plain =
                                                                    List.replicate (64 : Nat) (0 : Int)) &&
                                                                true)))) &&
                                                      (decide
                                                          ((ck (K ++ [pub s]) (L w)).fst.sign =
                                                            List.replicate (64 : Nat) (0 : Int)) &&
                                                        true)))))))
                                          [])
                                        (End.leaf (LV.one (VV.sc (SV.bool (SB.sym false)))) []))))))))
                          (End.ite y
                            (End.need ((0 : Int) ≤ (0 : Int) ∧ (0 : Int) < (↑(L w).length : Int))
                              (End.ite x
                                (End.need
                                  ((0 : Int) ≤ (0 : Int) ∧
                                    (0 : Int) ≤
                                        IntKind.i64.wrap ((↑((L w).set (0 : Nat) (88 : Int)).length : Int) - (1 : Int)) ∧
                                      IntKind.i64.wrap ((↑((L w).set (0 : Nat) (88 : Int)).length : Int) - (1 : Int)) ≤
                                        (↑((L w).set (0 : Nat) (88 : Int)).length : Int))
                                  (End.need
                                    (AllBy
                                        (List.take
                                          (IntKind.i64.wrap ((↑((L w).set (0 : Nat) (88 : Int)).length : Int) - (1 : Int)) -
                                              (0 : Int)).toNat
                                          (List.drop (0 : Nat) ((L w).set (0 : Nat) (88 : Int)))) ∧
                                      (List.take
                                              (IntKind.i64.wrap
                                                    ((↑((L w).set (0 : Nat) (88 : Int)).length : Int) - (1 : Int)) -
                                                  (0 : Int)).toNat
                                              (List.drop (0 : Nat) ((L w).set (0 : Nat) (88 : Int)))).length <
                                          (1152921504606846976 : Nat) ∧
                                        okKs K)
                                    (End.ite
                                      (((ck K
                                              (List.take
                                                (IntKind.i64.wrap
                                                      ((↑((L w).set (0 : Nat) (88 : Int)).length : Int) - (1 : Int)) -
                                                    (0 : Int)).toNat
                                                (List.drop (0 : Nat) ((L w).set (0 : Nat) (88 : Int))))).snd ==
                                          (6 : Int)) ==
                                        true)
                                      (End.leaf
                                        (LV.one
                                          (VV.sc
                                            (SV.bool
                                              (SB.sym
                                                ((ck K
                                                            (List.take
                                                              (IntKind.i64.wrap
                                                                    ((↑((L w).set (0 : Nat) (88 : Int)).length : Int) -
                                                                      (1 : Int)) -
                                                                  (0 : Int)).toNat
                                                              (List.drop (0 : Nat)
                                                                ((L w).set (0 : Nat) (88 : Int))))).fst.key ==
                                                      (0 : Int) &&
                                                    ((ck K
                                                              (List.take
                                                                (IntKind.i64.wrap
                                                                      ((↑((L w).set (0 : Nat) (88 : Int)).length : Int) -
                                                                        (1 : Int)) -
                                                                    (0 : Int)).toNat
                                                                (List.drop (0 : Nat)
                                                                  ((L w).set (0 : Nat) (88 : Int))))).fst.blocks ==
                                                        (0 : Int) &&
                                                      true) &&
                                                  ((ck K
                                                                (List.take
                                                                  (IntKind.i64.wrap
                                                                        ((↑((L w).set (0 : Nat) (88 : Int)).length : Int) -
                                                                          (1 : Int)) -
                                                                      (0 : Int)).toNat
                                                                  (List.drop (0 : Nat)
                                                                    ((L w).set (0 : Nat) (88 : Int))))).fst.man.ver ==
                                                        (0 : Int) &&
                                                      ((ck K
                                                                  (List.take
                                                                    (IntKind.i64.wrap
                                                                          ((↑((L w).set (0 : Nat) (88 : Int)).length :
                                                                              Int) -
                                                                            (1 : Int)) -
                                                                        (0 : Int)).toNat
                                                                    (List.drop (0 : Nat)
                                                                      ((L w).set (0 : Nat) (88 : Int))))).fst.man.flo ==
                                                          (0 : Int) &&
                                                        ((ck K
                                                                    (List.take
                                                                      (IntKind.i64.wrap
                                                                            ((↑((L w).set (0 : Nat) (88 : Int)).length :
                                                                                Int) -
                                                                              (1 : Int)) -
                                                                          (0 : Int)).toNat
                                                                      (List.drop (0 : Nat)
                                                                        ((L w).set (0 : Nat) (88 : Int))))).fst.man.len ==
                                                            (0 : Int) &&
                                                          (decide
                                                              ((ck K
                                                                        (List.take
                                                                          (IntKind.i64.wrap
                                                                                ((↑((L w).set (0 : Nat) (88 : Int)).length :
                                                                                    Int) -
                                                                                  (1 : Int)) -
                                                                              (0 : Int)).toNat
                                                                          (List.drop (0 : Nat)
                                                                            ((L w).set (0 : Nat)
                                                                              (88 : Int))))).fst.man.list =
                                                                List.replicate (64 : Nat) (0 : Int)) &&
                                                            (decide
                                                                ((ck K
                                                                          (List.take
                                                                            (IntKind.i64.wrap
                                                                                  ((↑((L w).set (0 : Nat)
                                                                                            (88 : Int)).length :
                                                                                      Int) -
                                                                                    (1 : Int)) -
                                                                                (0 : Int)).toNat
                                                                            (List.drop (0 : Nat)
                                                                              ((L w).set (0 : Nat)
                                                                                (88 : Int))))).fst.man.plain =
                                                                  List.replicate (64 : Nat) (0 : Int)) &&
                                                              true)))) &&
                                                    (decide
                                                        ((ck K
                                                                (List.take
                                                                  (IntKind.i64.wrap
                                                                        ((↑((L w).set (0 : Nat) (88 : Int)).length : Int) -
                                                                          (1 : Int)) -
                                                                      (0 : Int)).toNat
                                                                  (List.drop (0 : Nat)
                                                                    ((L w).set (0 : Nat) (88 : Int))))).fst.sign =
                                                          List.replicate (64 : Nat) (0 : Int)) &&
                                                      true)))))))
                                        [])
                                      (End.leaf (LV.one (VV.sc (SV.bool (SB.sym false)))) []))))
                                (End.need
                                  (AllBy ((L w).set (0 : Nat) (88 : Int)) ∧
                                    ((L w).set (0 : Nat) (88 : Int)).length < (1152921504606846976 : Nat) ∧ okKs K)
                                  (End.ite (((ck K ((L w).set (0 : Nat) (88 : Int))).snd == (6 : Int)) == true)
                                    (End.leaf
                                      (LV.one
                                        (VV.sc
                                          (SV.bool
                                            (SB.sym
                                              ((ck K ((L w).set (0 : Nat) (88 : Int))).fst.key == (0 : Int) &&
                                                  ((ck K ((L w).set (0 : Nat) (88 : Int))).fst.blocks == (0 : Int) &&
                                                    true) &&
                                                ((ck K ((L w).set (0 : Nat) (88 : Int))).fst.man.ver == (0 : Int) &&
                                                    ((ck K ((L w).set (0 : Nat) (88 : Int))).fst.man.flo == (0 : Int) &&
                                                      ((ck K ((L w).set (0 : Nat) (88 : Int))).fst.man.len == (0 : Int) &&
                                                        (decide
                                                            ((ck K ((L w).set (0 : Nat) (88 : Int))).fst.man.list =
                                                              List.replicate (64 : Nat) (0 : Int)) &&
                                                          (decide
                                                              ((ck K ((L w).set (0 : Nat) (88 : Int))).fst.man.plain =
                                                                List.replicate (64 : Nat) (0 : Int)) &&
                                                            true)))) &&
                                                  (decide
                                                      ((ck K ((L w).set (0 : Nat) (88 : Int))).fst.sign =
                                                        List.replicate (64 : Nat) (0 : Int)) &&
                                                    true)))))))
                                      [])
                                    (End.leaf (LV.one (VV.sc (SV.bool (SB.sym false)))) [])))))
                            (End.ite x
                              (End.need
                                ((0 : Int) ≤ (0 : Int) ∧
                                  (0 : Int) ≤ IntKind.i64.wrap ((↑(L w).length : Int) - (1 : Int)) ∧
                                    IntKind.i64.wrap ((↑(L w).length : Int) - (1 : Int)) ≤ (↑(L w).length : Int))
                                (End.need
                                  (AllBy
                                      (List.take (IntKind.i64.wrap ((↑(L w).length : Int) - (1 : Int)) - (0 : Int)).toNat
                                        (List.drop (0 : Nat) (L w))) ∧
                                    (List.take (IntKind.i64.wrap ((↑(L w).length : Int) - (1 : Int)) - (0 : Int)).toNat
                                            (List.drop (0 : Nat) (L w))).length <
                                        (1152921504606846976 : Nat) ∧
                                      okKs K)
                                  (End.ite
                                    (((ck K
                                            (List.take
                                              (IntKind.i64.wrap ((↑(L w).length : Int) - (1 : Int)) - (0 : Int)).toNat
                                              (List.drop (0 : Nat) (L w)))).snd ==
                                        (6 : Int)) ==
                                      true)
                                    (End.leaf
                                      (LV.one
                                        (VV.sc
                                          (SV.bool
                                            (SB.sym
                                              ((ck K
                                                          (List.take
                                                            (IntKind.i64.wrap ((↑(L w).length : Int) - (1 : Int)) -
                                                                (0 : Int)).toNat
                                                            (List.drop (0 : Nat) (L w)))).fst.key ==
                                                    (0 : Int) &&
                                                  ((ck K
                                                            (List.take
                                                              (IntKind.i64.wrap ((↑(L w).length : Int) - (1 : Int)) -
                                                                  (0 : Int)).toNat
                                                              (List.drop (0 : Nat) (L w)))).fst.blocks ==
                                                      (0 : Int) &&
                                                    true) &&
                                                ((ck K
                                                              (List.take
                                                                (IntKind.i64.wrap ((↑(L w).length : Int) - (1 : Int)) -
                                                                    (0 : Int)).toNat
                                                                (List.drop (0 : Nat) (L w)))).fst.man.ver ==
                                                      (0 : Int) &&
                                                    ((ck K
                                                                (List.take
                                                                  (IntKind.i64.wrap ((↑(L w).length : Int) - (1 : Int)) -
                                                                      (0 : Int)).toNat
                                                                  (List.drop (0 : Nat) (L w)))).fst.man.flo ==
                                                        (0 : Int) &&
                                                      ((ck K
                                                                  (List.take
                                                                    (IntKind.i64.wrap ((↑(L w).length : Int) - (1 : Int)) -
                                                                        (0 : Int)).toNat
                                                                    (List.drop (0 : Nat) (L w)))).fst.man.len ==
                                                          (0 : Int) &&
                                                        (decide
                                                            ((ck K
                                                                      (List.take
                                                                        (IntKind.i64.wrap
                                                                              ((↑(L w).length : Int) - (1 : Int)) -
                                                                            (0 : Int)).toNat
                                                                        (List.drop (0 : Nat) (L w)))).fst.man.list =
                                                              List.replicate (64 : Nat) (0 : Int)) &&
                                                          (decide
                                                              ((ck K
                                                                        (List.take
                                                                          (IntKind.i64.wrap
                                                                                ((↑(L w).length : Int) - (1 : Int)) -
                                                                              (0 : Int)).toNat
                                                                          (List.drop (0 : Nat) (L w)))).fst.man.plain =
                                                                List.replicate (64 : Nat) (0 : Int)) &&
                                                            true)))) &&
                                                  (decide
                                                      ((ck K
                                                              (List.take
                                                                (IntKind.i64.wrap ((↑(L w).length : Int) - (1 : Int)) -
                                                                    (0 : Int)).toNat
                                                                (List.drop (0 : Nat) (L w)))).fst.sign =
                                                        List.replicate (64 : Nat) (0 : Int)) &&
                                                    true)))))))
                                      [])
                                    (End.leaf (LV.one (VV.sc (SV.bool (SB.sym false)))) []))))
                              (End.need (AllBy (L w) ∧ (L w).length < (1152921504606846976 : Nat) ∧ okKs K)
                                (End.ite (((ck K (L w)).snd == (15 : Int)) == true)
                                  (End.leaf
                                    (LV.one
                                      (VV.sc
                                        (SV.bool
                                          (SB.sym
                                            ((ck K (L w)).fst.key == (0 : Int) &&
                                                ((ck K (L w)).fst.blocks == (0 : Int) && true) &&
                                              ((ck K (L w)).fst.man.ver == (0 : Int) &&
                                                  ((ck K (L w)).fst.man.flo == (0 : Int) &&
                                                    ((ck K (L w)).fst.man.len == (0 : Int) &&
                                                      (decide
                                                          ((ck K (L w)).fst.man.list =
                                                            List.replicate (64 : Nat) (0 : Int)) &&
                                                        (decide
                                                            ((ck K (L w)).fst.man.plain =
                                                              List.replicate (64 : Nat) (0 : Int)) &&
                                                          true)))) &&
                                                (decide ((ck K (L w)).fst.sign = List.replicate (64 : Nat) (0 : Int)) &&
                                                  true)))))))
                                    [])
                                  (End.leaf (LV.one (VV.sc (SV.bool (SB.sym false)))) []))))))))))))))) := by kernel_rfl
def sigO (sign : List Int → List Int → List Int → List Int × Int) (s : List Int) (a b : Int) : List Int := (sign s ctxL (signedF (headF a b ++ List.replicate 152 0))).1
structure OrH (L : Bool → List Int) (K : List (List Int)) (sign : List Int → List Int → List Int → List Int × Int) (pub : List Int → List Int) (ck : List (List Int) → List Int → Lab × Int) (s : List Int) (a b : Int) : Prop where
  a0 : 0 ≤ a
  a8 : a < 8
  hl : (headF a b).length = 8
  sl : (sigO sign s a b).length = 64
  lt : headF a b ++ List.replicate 152 0 ++ List.take 64 (List.drop 0 ((sigO sign s a b).set 63 (bitXor .u8 ((sigO sign s a b).getD 63 0) 128))) = L true
  lf : headF a b ++ List.replicate 152 0 ++ List.take 64 (List.drop 0 (sigO sign s a b)) = L false
  hk : K = List.replicate a.toNat nineL
  pl : (pub s).length = 32
  ll : ∀ w, (L w).length = 224
  lb : ∀ w, AllBy (L w)
  h1 : ∀ ks b, b.length = 223 → ck ks b = (lab0, 6)
  h2 : ∀ ks w, ck ks ((L w).set 0 88) = (lab0, 6)
  h3 : ∀ w, ck K (L w) = (lab0, 15)
  h4 : ck (K ++ [pub s]) (L true) = (lab0, 8)
  h5 : ck (K ++ [pub s]) (L false) = (lab0, 6)
theorem iteT {A B : Ev.End} {Q : LV → Hp → Prop} (h : A.sat Q) : (Ev.End.ite true A B).sat Q := ⟨fun _ => h, fun e => by cases e⟩
theorem iteF {A B : Ev.End} {Q : LV → Hp → Prop} (h : B.sat Q) : (Ev.End.ite false A B).sat Q := ⟨fun e => (by cases e), fun _ => h⟩
theorem okKs_rep (n : Nat) : okKs (List.replicate n nineL) := fun k hk => by
  rw [List.length_replicate] at hk
  rw [List.getD_eq_getElem?_getD, List.getElem?_replicate, if_pos hk]; rfl
theorem okKs_snoc {ks : List (List Int)} {p : List Int} (h : okKs ks) (hp : p.length = 32) : okKs (ks ++ [p]) := fun k hk => by
  rw [List.length_append, List.length_singleton] at hk
  by_cases hk' : k < ks.length
  · have := h k hk'
    rw [List.getD_eq_getElem?_getD] at this ⊢
    rw [List.getElem?_append_left hk']; exact this
  · have e : k = ks.length := by omega
    subst e
    rw [List.getD_eq_getElem?_getD, List.getElem?_append_right (Nat.le_refl _), Nat.sub_self]; exact hp
theorem short_eq {l : List Int} (h : l.length = 224) : List.take (IntKind.i64.wrap ((l.length : Int) - 1) - 0).toNat (List.drop 0 l) = l.take 223 := by rw [h]; rfl
theorem short_need {l : List Int} (h : l.length = 224) : (0 : Int) ≤ 0 ∧ 0 ≤ IntKind.i64.wrap ((l.length : Int) - 1) ∧ IntKind.i64.wrap ((l.length : Int) - 1) ≤ (l.length : Int) := by rw [h]; decide
theorem order_sat {L : Bool → List Int} {K : List (List Int)} {sign : List Int → List Int → List Int → List Int × Int} {pub : List Int → List Int} {ck : List (List Int) → List Int → Lab × Int} {s : List Int} {a b : Int} (x y z w : Bool) (hs : s.length = 32) (H : (headF a b).length ≠ 0 → OrH L K sign pub ck s a b) :
    ∃ t_ : Ev.End, fnT Try.prog (orTab sign pub ck) (orLT L K) orFn (orA.wr (s, (a, b, ()), x, y, z, w, ())) [] [.fr [.sym, .sym], .auto] = t_ ∧ t_.sat fun v hp' => v = nB true ∧ hp' = applyD [] [] := by
  refine ⟨_, order_tree .., ?_⟩
  refine ⟨fun _ => ⟨rfl, rfl⟩, fun h0 => ?_⟩
  have h0 : (headF a b).length ≠ 0 := fun e => by rw [e] at h0; simp at h0
  have H := H h0
  have hl := H.hl
  have a0 := H.a0
  have a8 := H.a8
  have b1 : (headF a b ++ List.replicate 152 (0 : Int)).length = 160 := by rw [List.length_append, hl, List.length_replicate]
  have kl : K.length = a.toNat := by rw [H.hk, List.length_replicate]
  have k1 : okKs K := H.hk ▸ okKs_rep _
  have k2 : okKs (K ++ [pub s]) := okKs_snoc k1 H.pl
  have sl : ∀ l : List Int, l.length = 64 → (List.take 64 (List.drop 0 l)).length = 64 := fun l h => by rw [take_all h, h]
  have s2 := sl _ H.sl
  have s1 := sl ((sigO sign s a b).set 63 (bitXor .u8 ((sigO sign s a b).getD 63 0) 128)) (by rw [List.length_set]; exact H.sl)
  have L0 : ∀ w, ((L w).set 0 88).length = 224 := fun w => by rw [List.length_set]; exact H.ll w
  have B0 : ∀ w, AllBy ((L w).set 0 88) := fun w => allBy_set (H.lb w) (by unfold By; decide)
  have B1 : ∀ l : List Int, AllBy l → AllBy (l.take 223) := fun l h => h.take 223
  have n1 : ∀ l : List Int, l.length = 224 → (l.take 223).length = 223 := fun l h => by rw [List.length_take, h]; rfl
  have n2 : ∀ l : List Int, l.length = 224 → (l.take 223).length < 1152921504606846976 := fun l h => by rw [n1 l h]; decide
  have n3 : ∀ l : List Int, l.length = 224 → l.length < 1152921504606846976 := fun l h => by rw [h]; decide
  have p0 : ∀ w, (0 : Int) ≤ 0 ∧ (0 : Int) < ((L w).length : Int) := fun w => by rw [H.ll w]; decide
  refine ⟨⟨by omega, by omega⟩, ⟨by decide, by omega, by omega⟩, by omega, ⟨hs, rfl⟩, ?_⟩
  have tl : ∀ {ks : List (List Int)} {l : List Int} {n : Int} {v w : LV} {Q : LV → Hp → Prop}, ck ks l = (lab0, n) → Q v [] → (Ev.End.ite (((ck ks l).2 == n) == true) (.leaf v []) (.leaf w [])).sat Q := fun {ks l n v w Q} h hv => by
    rw [h]
    have e : ((n == n) == true) = true := by simp
    show (Ev.End.ite ((n == n) == true) _ _).sat Q
    rw [e]; exact iteT hv
  cases w
  · refine iteF ⟨by decide, ⟨?_, ?_⟩, ⟨rfl, by omega, by omega, by omega⟩, ⟨rfl, a0, by omega, List.length_replicate, H.lf, H.hk⟩, ?_⟩
    · have : (List.take 64 (List.drop 0 (sigO sign s a b))).length = 64 := s2
      show ((headF a b ++ List.replicate 152 (0 : Int)).length + (List.take 64 (List.drop 0 (sigO sign s a b))).length) * 1 ≤ _
      omega
    · have : (List.take 64 (List.drop 0 (sigO sign s a b))).length = 64 := s2
      show (headF a b ++ List.replicate 152 (0 : Int)).length + (List.take 64 (List.drop 0 (sigO sign s a b))).length ≤ _
      omega
    cases z
    · refine iteT ⟨hs, ⟨by omega, by omega⟩, iteF ?_⟩
      cases y
      · cases x
        · refine iteF (iteF ⟨⟨H.lb false, n3 _ (H.ll _), k2⟩, tl H.h5 ⟨?_, rfl⟩⟩)
          rw [H.h5]; exact nB_eq (by decide)
        · refine iteF (iteT ⟨short_need (H.ll _), ?_⟩)
          rw [short_eq (H.ll _)]
          have hc := H.h1 (K ++ [pub s]) _ (n1 _ (H.ll false))
          refine ⟨⟨B1 _ (H.lb _), n2 _ (H.ll _), k2⟩, tl hc ⟨?_, rfl⟩⟩
          rw [hc]; exact nB_eq (by decide)
      · cases x
        · refine iteT ⟨p0 _, iteF ⟨⟨B0 _, n3 _ (L0 _), k2⟩, tl (H.h2 _ _) ⟨?_, rfl⟩⟩⟩
          rw [H.h2]; exact nB_eq (by decide)
        · refine iteT ⟨p0 _, iteT ⟨short_need (L0 _), ?_⟩⟩
          rw [short_eq (L0 _)]
          have hc := H.h1 (K ++ [pub s]) _ (n1 _ (L0 false))
          refine ⟨⟨B1 _ (B0 _), n2 _ (L0 _), k2⟩, tl hc ⟨?_, rfl⟩⟩
          rw [hc]; exact nB_eq (by decide)
    · refine iteF ?_
      cases y
      · cases x
        · refine iteF (iteF ⟨⟨H.lb false, n3 _ (H.ll _), k1⟩, tl (H.h3 _) ⟨?_, rfl⟩⟩)
          rw [H.h3]; exact nB_eq (by decide)
        · refine iteF (iteT ⟨short_need (H.ll _), ?_⟩)
          rw [short_eq (H.ll _)]
          have hc := H.h1 K _ (n1 _ (H.ll false))
          refine ⟨⟨B1 _ (H.lb _), n2 _ (H.ll _), k1⟩, tl hc ⟨?_, rfl⟩⟩
          rw [hc]; exact nB_eq (by decide)
      · cases x
        · refine iteT ⟨p0 _, iteF ⟨⟨B0 _, n3 _ (L0 _), k1⟩, tl (H.h2 _ _) ⟨?_, rfl⟩⟩⟩
          rw [H.h2]; exact nB_eq (by decide)
        · refine iteT ⟨p0 _, iteT ⟨short_need (L0 _), ?_⟩⟩
          rw [short_eq (L0 _)]
          have hc := H.h1 K _ (n1 _ (L0 false))
          refine ⟨⟨B1 _ (B0 _), n2 _ (L0 _), k1⟩, tl hc ⟨?_, rfl⟩⟩
          rw [hc]; exact nB_eq (by decide)
  · refine iteT ⟨by decide, ⟨?_, ?_⟩, ⟨rfl, by omega, by omega, by omega⟩, ⟨rfl, a0, by omega, List.length_replicate, H.lt, H.hk⟩, ?_⟩
    · show ((headF a b ++ List.replicate 152 (0 : Int)).length + (List.take 64 (List.drop 0 ((sigO sign s a b).set 63 (bitXor .u8 ((sigO sign s a b).getD 63 0) 128)))).length) * 1 ≤ _
      omega
    · show (headF a b ++ List.replicate 152 (0 : Int)).length + (List.take 64 (List.drop 0 ((sigO sign s a b).set 63 (bitXor .u8 ((sigO sign s a b).getD 63 0) 128)))).length ≤ _
      omega
    cases z
    · refine iteT ⟨hs, ⟨by omega, by omega⟩, iteT ?_⟩
      cases y
      · cases x
        · refine iteF (iteF ⟨⟨H.lb true, n3 _ (H.ll _), k2⟩, tl H.h4 ⟨?_, rfl⟩⟩)
          rw [H.h4]; exact nB_eq (by decide)
        · refine iteF (iteT ⟨short_need (H.ll _), ?_⟩)
          rw [short_eq (H.ll _)]
          have hc := H.h1 (K ++ [pub s]) _ (n1 _ (H.ll true))
          refine ⟨⟨B1 _ (H.lb _), n2 _ (H.ll _), k2⟩, tl hc ⟨?_, rfl⟩⟩
          rw [hc]; exact nB_eq (by decide)
      · cases x
        · refine iteT ⟨p0 _, iteF ⟨⟨B0 _, n3 _ (L0 _), k2⟩, tl (H.h2 _ _) ⟨?_, rfl⟩⟩⟩
          rw [H.h2]; exact nB_eq (by decide)
        · refine iteT ⟨p0 _, iteT ⟨short_need (L0 _), ?_⟩⟩
          rw [short_eq (L0 _)]
          have hc := H.h1 (K ++ [pub s]) _ (n1 _ (L0 true))
          refine ⟨⟨B1 _ (B0 _), n2 _ (L0 _), k2⟩, tl hc ⟨?_, rfl⟩⟩
          rw [hc]; exact nB_eq (by decide)
    · refine iteF ?_
      cases y
      · cases x
        · refine iteF (iteF ⟨⟨H.lb true, n3 _ (H.ll _), k1⟩, tl (H.h3 _) ⟨?_, rfl⟩⟩)
          rw [H.h3]; exact nB_eq (by decide)
        · refine iteF (iteT ⟨short_need (H.ll _), ?_⟩)
          rw [short_eq (H.ll _)]
          have hc := H.h1 K _ (n1 _ (H.ll true))
          refine ⟨⟨B1 _ (H.lb _), n2 _ (H.ll _), k1⟩, tl hc ⟨?_, rfl⟩⟩
          rw [hc]; exact nB_eq (by decide)
      · cases x
        · refine iteT ⟨p0 _, iteF ⟨⟨B0 _, n3 _ (L0 _), k1⟩, tl (H.h2 _ _) ⟨?_, rfl⟩⟩⟩
          rw [H.h2]; exact nB_eq (by decide)
        · refine iteT ⟨p0 _, iteT ⟨short_need (L0 _), ?_⟩⟩
          rw [short_eq (L0 _)]
          have hc := H.h1 K _ (n1 _ (L0 true))
          refine ⟨⟨B1 _ (B0 _), n2 _ (L0 _), k1⟩, tl hc ⟨?_, rfl⟩⟩
          rw [hc]; exact nB_eq (by decide)
end Go.Proofs.Ythdfifcgobfgdaa
end

section
set_option linter.unusedVariables false
set_option linter.unusedSimpArgs false
namespace Go.Proofs.Ythdfifcgobfgdaa
open Go Go.Ev BJ
set_option maxRecDepth 1000000
theorem headF_some {a b : Int} (h : (headF a b).length ≠ 0) : 0 ≤ a ∧ a < 8 ∧ 1 ≤ b ∧ b ≤ 16 ∧ headF a b = [66, 74, 75, 49, a, b, 0, 0] := by
  unfold headF at *
  split at h
  · rename_i hh; exact ⟨hh.1, hh.2.1, hh.2.2.1, hh.2.2.2, by rw [if_pos hh]⟩
  · exact absurd rfl h
theorem getHead_head {a b : Int} (h : (headF a b).length ≠ 0) : getHeadF (headF a b) = ((a, b), true) := by
  obtain ⟨h1, h2, h3, h4, e⟩ := headF_some h
  have e4 : (headF a b).getD 4 0 = a := by rw [e]; rfl
  have e5 : (headF a b).getD 5 0 = b := by rw [e]; rfl
  have w4 : IntKind.i64.wrap a = a := wrap_ok (by omega) (by omega)
  have w5 : IntKind.i64.wrap b = b := wrap_ok (by omega) (by omega)
  unfold getHeadF
  rw [e4, e5, w4, w5, if_pos ⟨by rw [e]; rfl, strEq_self _⟩]
theorem strEq_head {x y : Int} {l m : List Int} (hx : By x) (hy : By y) (h : strEq (x :: l) (y :: m) = true) : x = y := by
  unfold strEq at h
  have h := beq_iff_eq.1 h
  have e : ∀ (z : Int) (r : List Int), (strOf (z :: r)).toList.head? = some (UInt8.ofNat z.toNat) := fun z r => by
    rw [show (strOf (z :: r)).toList = (z :: r).map fun n => UInt8.ofNat n.toNat from by simp [strOf, ByteArray.toList_eq]]
    rfl
  have h1 := congrArg List.head? h
  rw [e, e] at h1
  have h2 := congrArg UInt8.toNat (Option.some.inj h1)
  unfold By at hx hy
  rw [UInt8.toNat_ofNat', UInt8.toNat_ofNat'] at h2
  omega
theorem getHead_bad {l : List Int} (h : l.getD 0 0 = 88) : (getHeadF l).2 = false := by
  unfold getHeadF
  split
  · rename_i hh
    exfalso
    obtain ⟨h1, h2⟩ := hh
    have hl := strEq_len h2
    cases l with
    | nil => simp at h1
    | cons y m =>
      have hy : y = 88 := h
      subst hy
      have hn : (headF (IntKind.i64.wrap ((88 :: m).getD 4 0)) (IntKind.i64.wrap ((88 :: m).getD 5 0))).length ≠ 0 := by rw [hl, h1]; decide
      obtain ⟨_, _, _, _, e⟩ := headF_some hn
      rw [e] at h2
      have := strEq_head (by unfold By; decide) (by unfold By; decide) h2
      omega
  · rfl
theorem getF_zero : (getF (List.replicate 152 0)).2 = false := by decide +kernel
theorem xor128_ne {x : Int} (hx : By x) : bitXor .u8 x 128 ≠ x := by
  have key : ∀ x : Fin 256, bitXor .u8 (x.val : Int) 128 ≠ (x.val : Int) := by decide +kernel
  obtain ⟨n, rfl⟩ := Int.eq_ofNat_of_zero_le hx.1
  exact key ⟨n, by have := hx.2; omega⟩
theorem xor_by2 (x y : Int) : By (bitXor .u8 x y) := by
  unfold bitXor By
  show 0 ≤ IntKind.u8.wrap _ ∧ IntKind.u8.wrap _ < 256
  rw [wrap_u8]; omega
noncomputable def orL (s : List Int) (a b : Int) (w : Bool) : List Int := headF a b ++ List.replicate 152 0 ++ List.take 64 (List.drop 0 (if w = true then (sigO signL s a b).set 63 (bitXor .u8 ((sigO signL s a b).getD 63 0) 128) else sigO signL s a b))
theorem orH_true {s : List Int} {a b : Int} (hs : s.length = 32) (h0 : (headF a b).length ≠ 0) : OrH (orL s a b) (List.replicate a.toNat nineL) signL pubL (checkF verL) s a b := by
  obtain ⟨a0, a8, b1, b16, eh⟩ := headF_some h0
  have hl : (headF a b).length = 8 := by rw [eh]; rfl
  have hb : AllBy (headF a b) := by
    rw [eh]; intro z hz
    simp only [List.mem_cons, List.not_mem_nil, or_false] at hz
    unfold By; omega
  have e0 : sigO signL s a b = sigL s ctxL (signedF (headF a b ++ List.replicate 152 0)) := by unfold sigO; rw [signL_eq, if_pos (by decide)]
  obtain ⟨g1, g2, g3⟩ := sig_half s ctxL (signedF (headF a b ++ List.replicate 152 0))
  rw [← e0] at g1 g2 g3
  have gx : By ((sigO signL s a b).getD 63 0) := InB.getD (by decide) (show InB 256 _ from g3) 63
  have hw : ∀ w, (if w = true then (sigO signL s a b).set 63 (bitXor .u8 ((sigO signL s a b).getD 63 0) 128) else sigO signL s a b).length = 64 ∧ AllBy (if w = true then (sigO signL s a b).set 63 (bitXor .u8 ((sigO signL s a b).getD 63 0) 128) else sigO signL s a b) := fun w => by
    split
    · exact ⟨by rw [List.length_set]; exact g2, allBy_set g3 (xor_by2 _ _)⟩
    · exact ⟨g2, g3⟩
  have eL : ∀ w, orL s a b w = headF a b ++ (List.replicate 152 0 ++ (if w = true then (sigO signL s a b).set 63 (bitXor .u8 ((sigO signL s a b).getD 63 0) 128) else sigO signL s a b)) := fun w => by unfold orL; rw [take_all (hw w).1, List.append_assoc]
  have lL : ∀ w, (orL s a b w).length = 224 := fun w => by rw [eL, List.length_append, List.length_append, hl, (hw w).1, List.length_replicate]
  have bL : ∀ w, AllBy (orL s a b w) := fun w => by rw [eL]; exact hb.append ((InB.zeros (by decide) 152 : InB 256 _).append (hw w).2)
  have t8 : ∀ w, (orL s a b w).take 8 = headF a b := fun w => by rw [eL, List.take_left' hl]
  have d8 : ∀ w, ((orL s a b w).drop 8).take 152 = List.replicate 152 0 := fun w => by rw [eL, List.drop_left' hl, List.take_left' (List.length_replicate)]
  have d160 : ∀ w, (orL s a b w).drop 160 = if w = true then (sigO signL s a b).set 63 (bitXor .u8 ((sigO signL s a b).getD 63 0) 128) else sigO signL s a b := fun w => by
    rw [eL, ← List.append_assoc, List.drop_left' (by rw [List.length_append, hl, List.length_replicate])]
  have sg : ∀ w, signedF (orL s a b w) = signedF (headF a b ++ List.replicate 152 0) := fun w => by
    unfold signedF
    rw [eL, ← List.append_assoc, List.take_left' (by rw [List.length_append, hl, List.length_replicate]), List.take_of_length_le (by rw [List.length_append, hl, List.length_replicate]; decide)]
  have gh : ∀ w, getHeadF ((orL s a b w).take 8) = ((a, b), true) := fun w => by rw [t8]; exact getHead_head h0
  have kk : ((List.replicate a.toNat nineL ++ [pubL s]).getD a.toNat k0) = pubL s := by
    rw [List.getD_eq_getElem?_getD, List.getElem?_append_right (by rw [List.length_replicate]; exact Nat.le_refl _), List.length_replicate, Nat.sub_self]; rfl
  have c15 : ∀ w, checkF verL (List.replicate a.toNat nineL) (orL s a b w) = (lab0, 15) := fun w => by
    unfold checkF
    rw [if_pos ⟨lL w, by rw [gh]⟩, if_pos (by rw [gh, List.length_replicate]; simp only; omega)]
  have cv : ∀ w, checkF verL (List.replicate a.toNat nineL ++ [pubL s]) (orL s a b w) = if verL (pubL s) ctxL (signedF (headF a b ++ List.replicate 152 0)) ((orL s a b w).drop 160) = true then (lab0, 6) else (lab0, 8) := fun w => by
    unfold checkF
    rw [if_pos ⟨lL w, by rw [gh]⟩, if_neg (by rw [gh, List.length_append, List.length_replicate, List.length_singleton]; simp only; omega), gh, kk, sg, d8, getF_zero]
    rfl
  have v0 : verL (pubL s) ctxL (signedF (headF a b ++ List.replicate 152 0)) ((orL s a b false).drop 160) = true := by
    rw [d160, if_neg (by decide), e0]; exact ver_sig (by decide) hs
  have v1 : verL (pubL s) ctxL (signedF (headF a b ++ List.replicate 152 0)) ((orL s a b true).drop 160) = false := by
    rw [d160, if_pos rfl]
    have ea : (sigO signL s a b).set 63 (bitXor .u8 ((sigO signL s a b).getD 63 0) 128) = (sigO signL s a b).take 32 ++ ((sigO signL s a b).drop 32).set 31 (bitXor .u8 ((sigO signL s a b).getD 63 0) 128) := by
      conv => lhs; arg 1; rw [← List.take_append_drop 32 (sigO signL s a b)]
      rw [List.set_append_right _ _ (by simp [g2])]
      simp [g2]
    have ht : okB (((sigO signL s a b).drop 32).set 31 (bitXor .u8 ((sigO signL s a b).getD 63 0) 128)) := ⟨by rw [List.length_set]; exact g1.1, allBy_set g1.2 (xor_by2 _ _)⟩
    have key := ver_half (m := signedF (headF a b ++ List.replicate 152 0)) (c := ctxL) (s := s) (by decide) ht hs
    rw [← e0] at key
    rw [ea, key]
    refine decide_eq_false fun h => xor128_ne gx ?_
    have := congrArg (fun l => l.getD 31 0) h
    simp only [List.getD_eq_getElem?_getD, List.getElem?_drop] at this
    rw [List.getElem?_set_self (by rw [g1.1]; decide)] at this
    rw [List.getD_eq_getElem?_getD]
    exact this
  have c6 : ∀ ks l, l.length = 223 → checkF verL ks l = (lab0, 6) := fun ks l h => by
    unfold checkF; rw [if_neg (fun ⟨h', _⟩ => by omega)]
  have c88 : ∀ ks w, checkF verL ks ((orL s a b w).set 0 88) = (lab0, 6) := fun ks w => by
    unfold checkF
    rw [if_neg]
    rintro ⟨_, h'⟩
    rw [getHead_bad] at h'
    · cases h'
    · rw [eL, eh]; rfl
  exact ⟨a0, a8, hl, g2, by unfold orL; rw [if_pos rfl], by unfold orL; rw [if_neg (by decide)], rfl, pubL_len s, lL, bL, c6, c88, c15, by rw [cv, if_neg (by rw [v1]; decide)], by rw [cv, if_pos v0]⟩
theorem orTab_ok : ∀ p ∈ orTab signL pubL (checkF verL), p.2.Ok Try.prog p.1 := tabC alive_ok (tabC head_ok (tabC sign_ok (tabC pub_ok (tabC ctx_ok (tabC signed_ok (tabC check_ok (tabC num24_ok tab0)))))))
noncomputable abbrev orderE : Ent := Ent.ofS [] orA lNil fun x _ => .leaf (some (x.1.length = 32)) (nB true) []
theorem order_ok : orderE.Ok Try.prog 9 := by
  refine (Ent.ofOk Try.call9 fun x_ y_ Q h => ?_).sym
  obtain ⟨s, ⟨a, b, _⟩, x, y, z, w, _⟩ := x_
  obtain ⟨hn, hq⟩ := h
  have hn : s.length = 32 := hn
  have hc : CallsT Try.prog 9 (orA.wr (s, (a, b, ()), x, y, z, w, ())) [] (fnT Try.prog (orTab signL pubL (checkF verL)) (orLT (orL s a b) (List.replicate a.toNat nineL)) orFn (orA.wr (s, (a, b, ()), x, y, z, w, ())) [] [.fr [.sym, .sym], .auto]) := fnT_ok mixed orTab_ok Try.func9 rfl (orL_ok _ _)
  obtain ⟨t', ht, hs⟩ := order_sat x y z w hn (orH_true hn)
  rw [ht] at hc
  exact hc.use (D := []) hs hq
end Go.Proofs.Ythdfifcgobfgdaa
end
