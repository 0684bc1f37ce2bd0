/- Manifests, read by both. -/
import Derived.Test.YtdpbkfmjknmmnaaS5
import Derived.Test.YtdpbkfmjknmmnaaS7
import Derived.Test.YtdpbkfmjknmmnaaNb
set_option linter.unusedVariables false
set_option linter.unusedSimpArgs false
namespace Go.Proofs.Ytdpbkfmjknmmnaa
open Go Go.Ev
set_option maxRecDepth 100000
noncomputable abbrev vaFn : Func := Try.f51
abbrev vaC : Cod (List LV) (Int × List Int × Int × Int × Unit) := (jk 3 (lCons (vOne (sInt .u64)) (jk 3 (lCons (vOne (sRd false false u8)) (lCons (vOne (sInt .i64)) (lCons (vOne (sInt .i64)) (jk 13 lNil)))))))
abbrev vaCf : Wk := .fr (fmS 23 [(3, .sym), (7, .keep), (8, .sym), (9, .sym)])
abbrev vaX : Cod (List LV) (Int × Unit) := (jk 3 (lCons (vOne (sInt .u64)) (jk 19 lNil)))
abbrev vaXf : Wk := .fr (fmS 23 [(3, .sym)])
def vaW : Exit → List Wk
  | .normal => [vaCf, .auto]
  | .exit 0 => [vaXf, .auto]
  | _ => []
theorem va_rnd (x : Int) (l : List Int) (n i : Int) : rndT Try.prog [] [] vaFn 0 [] vaW ((stC vaC lNil).wr ((x, l, n, i, ()), ())) =
    Res.ite (decide (i < n))
      (Res.need ((0 : Int) ≤ i ∧ i < (↑l.length : Int))
        (Res.need ((0 : Int) ≤ IntKind.i64.wrap ((8 : Int) * i))
          (Res.leaf Exit.normal
            ((stC vaC lNil).wr
              ((bitOr IntKind.u64 x
                    (shl IntKind.u64 (IntKind.u64.wrap (l.getD i.toNat (0 : Int))) (IntKind.i64.wrap ((8 : Int) * i))),
                  l, n, IntKind.i64.wrap (i + (1 : Int)), PUnit.unit),
                PUnit.unit)))))
      (Res.leaf (Exit.exit (0 : Nat)) ((stC vaX lNil).wr ((x, PUnit.unit), PUnit.unit))) := by kernel_rfl
noncomputable def vaF (x : (Int × List Int × Int × Int × Unit) × Unit) : Res :=
  .need (x.1.1 = 0 ∧ x.1.2.1.length = 8 ∧ AllBy x.1.2.1 ∧ x.1.2.2.1 = x.1.2.1.length ∧ x.1.2.2.2.1 = 0) (.leaf (.exit 0) ((stC vaX lNil).wr ((numW x.1.2.1, ()), ())))
theorem va_or {l : List Int} {k : Nat} (hl : AllBy l) (h8 : l.length = 8) (hk : k < 8) :
    bitOr .u64 (numW (l.take k)) (shl .u64 (IntKind.u64.wrap (l.getD k 0)) (IntKind.i64.wrap (8 * (k : Int)))) = numW (l.take (k + 1)) := by
  have hc : By (l.getD k 0) := by_getD hl k
  have e0 : l.take (k + 1) = l.take k ++ [l.getD k 0] := by
    rw [List.take_add_one]
    simp [List.getD_eq_getElem?_getD, List.getElem?_eq_getElem (show k < l.length by omega)]
  have hlen : (l.take k).length = k := by rw [List.length_take]; omega
  obtain ⟨r1, r2, _⟩ := numW_range (hl.take k) (by omega)
  rw [hlen] at r2
  obtain ⟨hc0, hc1⟩ := hc
  have e1 : IntKind.i64.wrap (8 * (k : Int)) = ((8 * k : Nat) : Int) := by rw [wrap_ok (by omega) (by omega)]; omega
  have hpw : ((2 ^ (8 * k) : Nat) : Int) = 256 ^ k := by rw [Nat.pow_mul, Int.natCast_pow]; rfl
  have hle : (256 : Int) ^ k ≤ 256 ^ 7 := by
    have : (256 : Nat) ^ k ≤ 256 ^ 7 := Nat.pow_le_pow_right (by omega) (by omega)
    exact_mod_cast this
  have h7 : (256 : Int) ^ 7 = 72057594037927936 := by decide
  have hpos : (0 : Int) < 256 ^ k := Int.pow_pos (by omega)
  have hmul : l.getD k 0 * 256 ^ k ≤ 255 * 256 ^ k := Int.mul_le_mul_of_nonneg_right (by omega) (by omega)
  have hmul0 : 0 ≤ l.getD k 0 * 256 ^ k := Int.mul_nonneg hc0 (by omega)
  rw [e0, numW_snoc (hl.take k) ⟨hc0, hc1⟩ (by omega), hlen, e1, wrap_u64 hc0 (by omega), shl_mul .u64 _ _ (by show 8 * k ≤ 64; omega), hpw, wrap_u64 (by omega) (by omega), or_comm',
    or_u64 (m := 8 * k) hmul0 (by rw [hpw]; exact Int.mul_emod_left _ _) r1 (by rw [hpw]; exact r2) (by omega)]
  omega
theorem va_loop (x) : Ex Try.prog [] (.loop (loopAt vaFn 0)) ((stC vaC lNil).wr x) (vaF x) := by
  obtain ⟨⟨y, l, n, i, _⟩, _⟩ := x
  refine Ex.need fun ⟨h1, h2, h3, h4, h5⟩ => ?_
  simp only at h1 h2 h3 h4 h5
  subst h1 h4 h5
  have key := loopUp (fn := vaFn) (id := 0) (j := 0) (ws := vaW) (hp := []) mixed tab0 (LOk.nil _) 8 (fun k (_ : Unit) => (stC vaC lNil).wr ((numW (l.take k), l, (l.length : Int), (k : Int), ()), ())) (fun _ => (stC vaX lNil).wr ((numW (l.take 8), ()), ())) (fun _ u => u) (fun _ _ => True)
    (fun k u R hk _ hn hx => ?_) (fun _ _ _ _ => trivial) 0 () (by omega) trivial
  · rw [List.take_of_length_le (show l.length ≤ 8 by omega)] at key; exact key
  rw [va_rnd]
  refine ⟨fun hb => ?_, fun hb => ?_⟩
  · have hk' : k < 8 := by have := of_decide_eq_true hb; omega
    have e := va_or h3 h2 hk'
    rw [Int.toNat_natCast, e, wrap_succ k (by omega)]
    refine ⟨by omega, ?_, hn hk'⟩
    rw [wrap_ok (by omega) (by omega)]; omega
  · have : k = 8 := by have := of_decide_eq_false hb; omega
    subst this
    exact hx rfl
noncomputable abbrev vaLT : LTab := [(0, loopF (stC vaC lNil) 0 [vaCf, .auto] vaF)]
noncomputable def valueE : Ent := Ent.ofS [some u8] (bA) (lNil) fun x_ y_ => (fun (l : List Int) => .leaf (some (8 ≤ l.length ∧ AllBy l)) (nU (numW (l.take 8))) []) x_.1 
theorem value_tree (l : List Int) : fnT Try.prog [] vaLT Try.f51 ((bA).wr (l, ())) ((lNil).wr ()) [.fr [.sym], .auto] =
    End.need ((0 : Int) ≤ (0 : Int) ∧ (0 : Int) ≤ (8 : Int) ∧ (8 : Int) ≤ (↑l.length : Int))
      (End.need
        ((0 : Int) = (0 : Int) ∧
          (List.take (8 : Nat) (List.drop (0 : Nat) l)).length = (8 : Nat) ∧
            AllBy (List.take (8 : Nat) (List.drop (0 : Nat) l)) ∧
              (↑(List.take (8 : Nat) (List.drop (0 : Nat) l)).length : Int) =
                  (↑(List.take (8 : Nat) (List.drop (0 : Nat) l)).length : Int) ∧
                (0 : Int) = (0 : Int))
        (End.leaf (LV.one (VV.sc (SV.int IntKind.u64 (SI.sym (numW (List.take (8 : Nat) (List.drop (0 : Nat) l))))))) [])) := by kernel_rfl
theorem value_ok : valueE.Ok Try.prog 51 := by
  refine (Ent.ofOk Try.call51 fun x_ y_ Q H_ => ?_).sym
  obtain ⟨l, _⟩ := x_
  obtain ⟨hn, hq⟩ := H_
  have hn : 8 ≤ l.length ∧ AllBy l := hn
  refine (fnT_ok mixed tab0 Try.func51 rfl (LT := vaLT) (ks := [.fr [.sym], .auto]) (LOk.ofTab (LTC rfl (loopF_ok (hp := []) va_loop) LT0))).use (D := []) ?_ hq
  show (fnT _ _ _ _ ((bA).wr (l, ())) ((lNil).wr ()) _).sat _
  rw [value_tree]
  obtain ⟨h1, h2⟩ := hn
  rw [List.drop_zero]
  exact ⟨by omega, ⟨rfl, by simp; omega, h2.take 8, rfl, rfl⟩, rfl, rfl⟩
structure MM where
  ver : Int
  flo : Int
  len : Int
  list : List Int
  plain : List Int
abbrev cMM : Cod (List SV) MM := (rowsMan lNil).iso (fun x => ⟨x.1, x.2.1, x.2.2.1, x.2.2.2.1, x.2.2.2.2.1⟩) (fun m => (m.ver, m.flo, m.len, m.list, m.plain, ())) (fun _ => rfl)
def mm0 : MM := ⟨0, 0, 0, List.replicate 64 0, List.replicate 64 0⟩
abbrev getV (r : MM × Bool) : LV := .tup [.agg (cMM.wr r.1), .sc (.bool (.sym r.2))]
def mmOf (b : List Int) : MM := ⟨numW (b.take 8), numW ((b.drop 8).take 8), numW ((b.drop 16).take 8), (b.drop 24).take 64, (b.drop 88).take 64⟩
def getF (b : List Int) : MM × Bool :=
  if b.length = 152 ∧ rightF (mmOf b).ver (mmOf b).flo (mmOf b).len = true then (mmOf b, true) else (mm0, false)
--use right manifest.Right
--use getHead manifest.GetHead
--use man' bootjackref22.PutManifest
noncomputable def getE : Ent := Ent.ofS [some u8] (bA) (lNil) fun x_ y_ => (fun (b : List Int) => .leaf (some (AllBy b)) (getV (getF b)) []) x_.1 
theorem get_tree (b : List Int) : fnT Try.prog [(51, valueE), (17, rightE)] [] Try.f34 ((bA).wr (b, ())) ((lNil).wr ()) [.fr [.sym], .auto] =
    End.ite (((↑b.length : Int) != (152 : Int)) == false)
      (End.need ((0 : Int) ≤ (16 : Int) ∧ (16 : Int) ≤ (↑b.length : Int) ∧ (↑b.length : Int) ≤ (↑b.length : Int))
        (End.need
          ((8 : Nat) ≤ (List.take ((↑b.length : Int) - (16 : Int)).toNat (List.drop (16 : Nat) b)).length ∧
            AllBy (List.take ((↑b.length : Int) - (16 : Int)).toNat (List.drop (16 : Nat) b)))
          (End.ite
            (decide
              ((131072 : Int) <
                numW (List.take (8 : Nat) (List.take ((↑b.length : Int) - (16 : Int)).toNat (List.drop (16 : Nat) b)))))
            (End.leaf
              (LV.tup
                [VV.agg
                    [SV.int IntKind.u64 (SI.sym (0 : Int)), SV.int IntKind.u64 (SI.sym (0 : Int)),
                      SV.int IntKind.i64 (SI.sym (0 : Int)),
                      SV.arr (Ty.int IntKind.u8) (64 : Nat) (List.replicate (64 : Nat) (0 : Int)),
                      SV.arr (Ty.int IntKind.u8) (64 : Nat) (List.replicate (64 : Nat) (0 : Int))],
                  VV.sc (SV.bool (SB.sym false))])
              [])
            (End.need ((8 : Nat) ≤ b.length ∧ AllBy b)
              (End.need ((0 : Int) ≤ (8 : Int) ∧ (8 : Int) ≤ (↑b.length : Int) ∧ (↑b.length : Int) ≤ (↑b.length : Int))
                (End.need
                  ((8 : Nat) ≤ (List.take ((↑b.length : Int) - (8 : Int)).toNat (List.drop (8 : Nat) b)).length ∧
                    AllBy (List.take ((↑b.length : Int) - (8 : Int)).toNat (List.drop (8 : Nat) b)))
                  (End.need
                    ((0 : Int) ≤ (16 : Int) ∧ (16 : Int) ≤ (↑b.length : Int) ∧ (↑b.length : Int) ≤ (↑b.length : Int))
                    (End.need
                      ((8 : Nat) ≤ (List.take ((↑b.length : Int) - (16 : Int)).toNat (List.drop (16 : Nat) b)).length ∧
                        AllBy (List.take ((↑b.length : Int) - (16 : Int)).toNat (List.drop (16 : Nat) b)))
                      (End.need
                        ((0 : Int) ≤ (24 : Int) ∧ (24 : Int) ≤ (↑b.length : Int) ∧ (↑b.length : Int) ≤ (↑b.length : Int))
                        (End.need
                          ((64 : Nat) ≤ (List.take ((↑b.length : Int) - (24 : Int)).toNat (List.drop (24 : Nat) b)).length)
                          (End.need
                            ((64 : Nat) ≤
                              (List.take ((↑b.length : Int) - (24 : Int)).toNat (List.drop (24 : Nat) b)).length)
                            (End.need
                              ((0 : Int) ≤ (88 : Int) ∧
                                (88 : Int) ≤ (↑b.length : Int) ∧ (↑b.length : Int) ≤ (↑b.length : Int))
                              (End.need
                                ((64 : Nat) ≤
                                  (List.take ((↑b.length : Int) - (88 : Int)).toNat (List.drop (88 : Nat) b)).length)
                                (End.need
                                  ((64 : Nat) ≤
                                    (List.take ((↑b.length : Int) - (88 : Int)).toNat (List.drop (88 : Nat) b)).length)
                                  (End.ite
                                    (!rightF (numW (List.take (8 : Nat) b))
                                        (numW
                                          (List.take (8 : Nat)
                                            (List.take ((↑b.length : Int) - (8 : Int)).toNat (List.drop (8 : Nat) b))))
                                        (IntKind.i64.wrap
                                          (numW
                                            (List.take (8 : Nat)
                                              (List.take ((↑b.length : Int) - (16 : Int)).toNat
                                                (List.drop (16 : Nat) b))))))
                                    (End.leaf
                                      (LV.tup
                                        [VV.agg
                                            [SV.int IntKind.u64 (SI.sym (0 : Int)), SV.int IntKind.u64 (SI.sym (0 : Int)),
                                              SV.int IntKind.i64 (SI.sym (0 : Int)),
                                              SV.arr (Ty.int IntKind.u8) (64 : Nat) (List.replicate (64 : Nat) (0 : Int)),
                                              SV.arr (Ty.int IntKind.u8) (64 : Nat) (List.replicate (64 : Nat) (0 : Int))],
                                          VV.sc (SV.bool (SB.sym false))])
                                      [])
                                    (End.leaf
                                      (LV.tup
                                        [VV.agg
                                            [SV.int IntKind.u64 (SI.sym (numW (List.take (8 : Nat) b))),
                                              SV.int IntKind.u64
                                                (SI.sym
                                                  (numW
                                                    (List.take (8 : Nat)
                                                      (List.take ((↑b.length : Int) - (8 : Int)).toNat
                                                        (List.drop (8 : Nat) b))))),
                                              SV.int IntKind.i64
                                                (SI.sym
                                                  (IntKind.i64.wrap
                                                    (numW
                                                      (List.take (8 : Nat)
                                                        (List.take ((↑b.length : Int) - (16 : Int)).toNat
                                                          (List.drop (16 : Nat) b)))))),
                                              SV.arr (Ty.int IntKind.u8) (64 : Nat)
                                                (List.take (64 : Nat)
                                                  (List.drop (0 : Nat)
                                                    (List.take ((↑b.length : Int) - (24 : Int)).toNat
                                                      (List.drop (24 : Nat) b)))),
                                              SV.arr (Ty.int IntKind.u8) (64 : Nat)
                                                (List.take (64 : Nat)
                                                  (List.drop (0 : Nat)
                                                    (List.take ((↑b.length : Int) - (88 : Int)).toNat
                                                      (List.drop (88 : Nat) b))))],
                                          VV.sc (SV.bool (SB.sym true))])
                                      []))))))))))))))))
      (End.leaf
        (LV.tup
          [VV.agg
              [SV.int IntKind.u64 (SI.sym (0 : Int)), SV.int IntKind.u64 (SI.sym (0 : Int)),
                SV.int IntKind.i64 (SI.sym (0 : Int)),
                SV.arr (Ty.int IntKind.u8) (64 : Nat) (List.replicate (64 : Nat) (0 : Int)),
                SV.arr (Ty.int IntKind.u8) (64 : Nat) (List.replicate (64 : Nat) (0 : Int))],
            VV.sc (SV.bool (SB.sym false))])
        []) := by kernel_rfl
theorem get_ok : getE.Ok Try.prog 34 := by
  refine (Ent.ofOk Try.call34 fun x_ y_ Q H_ => ?_).sym
  obtain ⟨b, _⟩ := x_
  obtain ⟨hn, hq⟩ := H_
  have hn : AllBy b := hn
  refine (fnT_ok mixed ((tabC value_ok (tabC right_ok tab0))) Try.func34 rfl (LT := []) (ks := [.fr [.sym], .auto]) (LOk.nil _)).use (D := []) ?_ hq
  show (fnT _ _ _ _ ((bA).wr (b, ())) ((lNil).wr ()) _).sat _
  rw [get_tree]
  refine ⟨fun h0 => ?_, fun h0 => ?_⟩
  · have hl : b.length = 152 := by have : ((b.length : Int) != 152) = false := by simpa using h0
                                   simp at this; omega
    have e : ∀ k : Nat, k ≤ 152 → List.take ((b.length : Int) - (k : Int)).toNat (List.drop k b) = b.drop k := fun k hk => by rw [List.take_of_length_le (by rw [List.length_drop]; omega)]
    have e8 : List.take ((b.length : Int) - 8).toNat (List.drop 8 b) = b.drop 8 := e 8 (by omega)
    have e16 : List.take ((b.length : Int) - 16).toNat (List.drop 16 b) = b.drop 16 := e 16 (by omega)
    have e24 : List.take ((b.length : Int) - 24).toNat (List.drop 24 b) = b.drop 24 := e 24 (by omega)
    have e88 : List.take ((b.length : Int) - 88).toNat (List.drop 88 b) = b.drop 88 := e 88 (by omega)
    rw [e8, e16, e24, e88]
    obtain ⟨r1, r2, _⟩ := numW_range ((hn.drop 16).take 8) (by rw [List.length_take]; omega)
    refine ⟨by omega, ⟨by simp; omega, hn.drop 16⟩, fun h1 => ?_, fun h1 => ?_⟩
    · have h1 := of_decide_eq_true h1
      have eg : getF b = (mm0, false) := if_neg fun ⟨_, hr⟩ => by
        have := (rightF_range hr).2
        simp only [mmOf] at this
        omega
      rw [eg]; exact ⟨rfl, rfl⟩
    · have h1 := of_decide_eq_false h1
      have ew : IntKind.i64.wrap (numW ((b.drop 16).take 8)) = numW ((b.drop 16).take 8) := wrap_ok (by omega) (by omega)
      rw [ew]
      refine ⟨⟨by omega, hn⟩, by omega, ⟨by simp; omega, hn.drop 8⟩, by omega, ⟨by simp; omega, hn.drop 16⟩, by omega, by simp; omega, by simp; omega, by omega, by simp; omega, by simp; omega, fun h2 => ?_, fun h2 => ?_⟩
      · have eg : getF b = (mm0, false) := if_neg fun ⟨_, hr⟩ => by
          have hr' : rightF (numW (b.take 8)) (numW ((b.drop 8).take 8)) (numW ((b.drop 16).take 8)) = true := hr
          rw [hr'] at h2; cases h2
        rw [eg]; exact ⟨rfl, rfl⟩
      · have h2' : rightF (numW (b.take 8)) (numW ((b.drop 8).take 8)) (numW ((b.drop 16).take 8)) = true := by simpa using h2
        have eg : getF b = (mmOf b, true) := if_pos ⟨hl, h2'⟩
        rw [eg]; exact ⟨rfl, rfl⟩
  · have hl : ¬ b.length = 152 := fun e => by rw [e] at h0; simp at h0
    have eg : getF b = (mm0, false) := if_neg fun ⟨h, _⟩ => hl h
    rw [eg]; exact ⟨rfl, rfl⟩
/-! ### The document's -/
noncomputable abbrev rgFn : Func := Try.f35
abbrev rgC : Cod (List LV) (List Int × Int × Unit) := (lCons (vOne (sRd false false u8)) (jk 1 (lSkip (vOne (sPtr 0 0)) (jk 1 (lSkip (vOne (sPtr 1 0)) (lCons (vOne (sInt .i64)) (jk 43 lNil)))))))
abbrev rgCf : Wk := .fr (fmS 49 [(0, .keep), (2, .keep), (4, .keep), (5, .sym)])
abbrev rgX : Cod (List LV) (List Int × Unit) := (lCons (vOne (sRd false false u8)) (jk 1 (lSkip (vOne (sPtr 0 0)) (jk 1 (lSkip (vOne (sPtr 1 0)) (jk 44 lNil))))))
abbrev rgXf : Wk := .fr (fmS 49 [(0, .keep), (2, .keep), (4, .keep)])
abbrev rgH : Cod Hp (MM × MM × Unit) := lCons (iBlk 27 cMM) (lCons (iBlk 27 cMM) lNil)
abbrev symM (i : Nat) : Wk := .blk i [.sym, .sym, .sym, .keep, .keep]
def rgW : Exit → List Wk
  | .normal => [rgCf, symM 0, symM 1, .auto]
  | .exit 0 => [rgXf, symM 0, symM 1, .auto]
  | _ => []
theorem rg_rnd (b : List Int) (i : Int) (r m : MM) : rndT Try.prog [] [] rgFn 0 [] rgW ((stC rgC rgH).wr ((b, i, ()), (r, m, ()))) =
    Res.ite (decide (i < (64 : Int)))
      (Res.need ((0 : Int) ≤ IntKind.i64.wrap ((24 : Int) + i) ∧ IntKind.i64.wrap ((24 : Int) + i) < (↑b.length : Int))
        (Res.need ((0 : Int) ≤ i ∧ i < (64 : Int))
          (Res.need ((0 : Int) ≤ IntKind.i64.wrap ((88 : Int) + i) ∧ IntKind.i64.wrap ((88 : Int) + i) < (↑b.length : Int))
            (Res.need ((0 : Int) ≤ i ∧ i < (64 : Int))
              (Res.leaf Exit.normal
                ((stC rgC rgH).wr
                  ((b, IntKind.i64.wrap (i + (1 : Int)), PUnit.unit), r,
                    { ver := m.ver, flo := m.flo, len := m.len,
                      list := m.list.set ((0 : Nat) + i.toNat) (b.getD (IntKind.i64.wrap ((24 : Int) + i)).toNat (0 : Int)),
                      plain :=
                        m.plain.set ((0 : Nat) + i.toNat) (b.getD (IntKind.i64.wrap ((88 : Int) + i)).toNat (0 : Int)) },
                    PUnit.unit)))))))
      (Res.leaf (Exit.exit (0 : Nat)) ((stC rgX rgH).wr ((b, PUnit.unit), r, m, PUnit.unit))) := by kernel_rfl
def rgS (b : List Int) (m : MM) : MM := { m with list := (b.drop 24).take 64, plain := (b.drop 88).take 64 }
noncomputable def rgF (x : (List Int × Int × Unit) × MM × MM × Unit) : Res :=
  .need (x.1.1.length = 152 ∧ x.1.2.1 = 0 ∧ x.2.2.1.list.length = 64 ∧ x.2.2.1.plain.length = 64) (.leaf (.exit 0) ((stC rgX rgH).wr ((x.1.1, ()), (x.2.1, rgS x.1.1 x.2.2.1, ()))))
theorem rg_loop (x) : Ex Try.prog [] (.loop (loopAt rgFn 0)) ((stC rgC rgH).wr x) (rgF x) := by
  obtain ⟨⟨b, i, _⟩, r, m, _⟩ := x
  refine Ex.need fun ⟨h1, h2, h3, h4⟩ => ?_
  simp only at h1 h2 h3 h4
  subst h2
  have key := loopUp (fn := rgFn) (id := 0) (j := 0) (ws := rgW) (hp := []) mixed tab0 (LOk.nil _) 64 (fun k (o : List Int × List Int) => (stC rgC rgH).wr ((b, (k : Int), ()), (r, { m with list := o.1, plain := o.2 }, ()))) (fun (o : List Int × List Int) => (stC rgX rgH).wr ((b, ()), (r, { m with list := o.1, plain := o.2 }, ())))
    (fun k (o : List Int × List Int) => (o.1.set k (b.getD (24 + k) 0), o.2.set k (b.getD (88 + k) 0))) (fun _ o => o.1.length = 64 ∧ o.2.length = 64)
    (fun k o R hk hm hn hx => ?_) (fun k o hk hh => by simpa using hh) 0 (m.list, m.plain) (by omega) ⟨h3, h4⟩
  · rw [Nat.sub_zero, upto_pair (fun k (o : List Int) => o.set k (b.getD (24 + k) 0)) (fun k (o : List Int) => o.set k (b.getD (88 + k) 0)), upto_fill (fun k => b.getD (24 + k) 0) h3, upto_fill (fun k => b.getD (88 + k) 0) h4, map_getD_drop (by omega), map_getD_drop (by omega)] at key
    exact key
  rw [rg_rnd]
  refine ⟨fun hb => ?_, fun hb => ?_⟩
  · have hk' : k < 64 := by have := of_decide_eq_true hb; omega
    have e1 : IntKind.i64.wrap (24 + (k : Int)) = ((24 + k : Nat) : Int) := by rw [wrap_ok (by omega) (by omega)]; omega
    have e2 : IntKind.i64.wrap (88 + (k : Int)) = ((88 + k : Nat) : Int) := by rw [wrap_ok (by omega) (by omega)]; omega
    rw [e1, e2, wrap_succ k (by omega)]
    simp only [Int.toNat_natCast, Nat.zero_add]
    exact ⟨by omega, by omega, by omega, by omega, hn hk'⟩
  · have : k = 64 := by have := of_decide_eq_false hb; omega
    exact hx this
noncomputable abbrev rgLT : LTab := [(0, loopF (stC rgC rgH) 0 [rgCf, symM 0, symM 1, .auto] rgF)]
noncomputable abbrev man'E : Ent := manE
noncomputable abbrev rgTab : List (FuncId × Ent) := [(52, rnumE), (14, manE)]
theorem rgTab_ok : ∀ p ∈ rgTab, p.2.Ok Try.prog p.1 := tabC rnum_ok (tabC man'_ok tab0)
theorem lowL_num : ∀ {l : List Int}, AllBy l → l.length ≤ 8 → lowL l.length (numW l) = l
  | [], _, _ => rfl
  | x :: l, hb, hl => by
    simp only [List.length_cons] at hl
    have hb' : AllBy l := fun z hz => hb z (by simp [hz])
    obtain ⟨h1, h2, h3⟩ := numW_range hb' (by omega)
    have hx : By x := hb x (by simp)
    have e := h3 x hx (by omega)
    obtain ⟨x0, x1⟩ := hx
    show numW (x :: l) % 256 :: lowL l.length (numW (x :: l) / 256) = x :: l
    rw [show numW (x :: l) % 256 = x from by omega, show numW (x :: l) / 256 = numW l from by omega, lowL_num hb' (by omega)]
theorem manF_mm {b : List Int} (hb : AllBy b) (hl : b.length = 152) : manF (mmOf b).ver (mmOf b).flo (mmOf b).len (mmOf b).list (mmOf b).plain = if rightF (mmOf b).ver (mmOf b).flo (mmOf b).len = true then b else [] := by
  unfold manF
  split
  · have k : ∀ n, n + 8 ≤ 152 → lowL 8 (numW ((b.drop n).take 8)) = (b.drop n).take 8 := fun n hn => by
      have := lowL_num ((hb.drop n).take 8) (by rw [List.length_take]; omega)
      rwa [show ((b.drop n).take 8).length = 8 from by rw [List.length_take, List.length_drop]; omega] at this
    have k0 := k 0 (by omega)
    rw [List.drop_zero] at k0
    simp only [mmOf]
    rw [k0, k 8 (by omega), k 16 (by omega), List.take_take, List.take_take, Nat.min_self]
    have e1 : b = b.take 8 ++ b.drop 8 := (List.take_append_drop 8 b).symm
    have e2 : b.drop 8 = (b.drop 8).take 8 ++ b.drop 16 := by
      have := (List.take_append_drop 8 (b.drop 8)).symm; rwa [List.drop_drop] at this
    have e3 : b.drop 16 = (b.drop 16).take 8 ++ b.drop 24 := by
      have := (List.take_append_drop 8 (b.drop 16)).symm; rwa [List.drop_drop] at this
    have e4 : b.drop 24 = (b.drop 24).take 64 ++ b.drop 88 := by
      have := (List.take_append_drop 64 (b.drop 24)).symm; rwa [List.drop_drop] at this
    have e5 : (b.drop 88).take 64 = b.drop 88 := List.take_of_length_le (by rw [List.length_drop]; omega)
    rw [e5, List.append_assoc, List.append_assoc, List.append_assoc, ← e4, ← e3, ← e2, ← e1]
  · rfl
theorem pow256_le {n : Nat} (h : n ≤ 8) : (256 : Int) ^ n ≤ 18446744073709551616 := by
  rcases (show n = 0 ∨ n = 1 ∨ n = 2 ∨ n = 3 ∨ n = 4 ∨ n = 5 ∨ n = 6 ∨ n = 7 ∨ n = 8 by omega) with rfl | rfl | rfl | rfl | rfl | rfl | rfl | rfl | rfl <;> decide
theorem strEq_nil {b : List Int} (h : 0 < b.length) : strEq [] b = false := by
  cases e : strEq [] b with
  | false => rfl
  | true => have := strEq_len e; simp at this; omega
theorem man_str {b : List Int} (hb : AllBy b) (hl : b.length = 152) :
    strEq (manF (mmOf b).ver (mmOf b).flo (IntKind.i64.wrap (mmOf b).len) (mmOf b).list (mmOf b).plain) b = rightF (mmOf b).ver (mmOf b).flo (mmOf b).len ∧ (rightF (mmOf b).ver (mmOf b).flo (mmOf b).len = true → IntKind.i64.wrap (mmOf b).len = (mmOf b).len) := by
  have hln : ((b.drop 16).take 8).length = 8 := by rw [List.length_take, List.length_drop]; omega
  obtain ⟨r1, r2, _⟩ := numW_range ((hb.drop 16).take 8) (by omega)
  rw [hln] at r2
  have h8 : (256 : Int) ^ 8 = 18446744073709551616 := by decide
  have hlen : (mmOf b).len = numW ((b.drop 16).take 8) := rfl
  rw [← hlen] at r1 r2
  by_cases h : (mmOf b).len < 9223372036854775808
  · have e : IntKind.i64.wrap (mmOf b).len = (mmOf b).len := wrap_ok (by omega) (by omega)
    rw [e, manF_mm hb hl]
    refine ⟨?_, fun _ => rfl⟩
    cases rightF (mmOf b).ver (mmOf b).flo (mmOf b).len with
    | true => exact strEq_self b
    | false => exact strEq_nil (by omega)
  · have e : rightF (mmOf b).ver (mmOf b).flo (mmOf b).len = false := by simp only [rightF]; exact decide_eq_false (by omega)
    have ew : IntKind.i64.wrap (mmOf b).len < 0 := by rw [IntKind.wrap_i64]; omega
    have e2 : rightF (mmOf b).ver (mmOf b).flo (IntKind.i64.wrap (mmOf b).len) = false := by simp only [rightF]; exact decide_eq_false (by omega)
    have e3 : manF (mmOf b).ver (mmOf b).flo (IntKind.i64.wrap (mmOf b).len) (mmOf b).list (mmOf b).plain = [] := by unfold manF; rw [e2]; rfl
    rw [e3, e]
    exact ⟨strEq_nil (by omega), fun h => (by cases h)⟩
noncomputable def rgetE : Ent := Ent.ofS [some u8] (bA) (lNil) fun x_ y_ => (fun (b : List Int) => .leaf (some (AllBy b)) (getV (getF b)) []) x_.1 
theorem rget_tree (b : List Int) : fnT Try.prog rgTab rgLT Try.f35 ((bA).wr (b, ())) ((lNil).wr ()) [.fr [.sym], .auto] =
    End.ite ((↑b.length : Int) != (152 : Int))
      (End.leaf
        (LV.tup
          [VV.agg
              [SV.int IntKind.u64 (SI.sym (0 : Int)), SV.int IntKind.u64 (SI.sym (0 : Int)),
                SV.int IntKind.i64 (SI.sym (0 : Int)),
                SV.arr (Ty.int IntKind.u8) (64 : Nat) (List.replicate (64 : Nat) (0 : Int)),
                SV.arr (Ty.int IntKind.u8) (64 : Nat) (List.replicate (64 : Nat) (0 : Int))],
            VV.sc (SV.bool (SB.sym false))])
        [])
      (End.need ((0 : Int) ≤ (0 : Int) ∧ (0 : Int) ≤ (8 : Int) ∧ (8 : Int) ≤ (↑b.length : Int))
        (End.need ((List.take (8 : Nat) (List.drop (0 : Nat) b)).length ≤ (70368744177664 : Nat))
          (End.need ((0 : Int) ≤ (8 : Int) ∧ (8 : Int) ≤ (16 : Int) ∧ (16 : Int) ≤ (↑b.length : Int))
            (End.need ((List.take (8 : Nat) (List.drop (8 : Nat) b)).length ≤ (70368744177664 : Nat))
              (End.need ((0 : Int) ≤ (16 : Int) ∧ (16 : Int) ≤ (24 : Int) ∧ (24 : Int) ≤ (↑b.length : Int))
                (End.need ((List.take (8 : Nat) (List.drop (16 : Nat) b)).length ≤ (70368744177664 : Nat))
                  (End.need
                    (b.length = (152 : Nat) ∧ (0 : Int) = (0 : Int) ∧ (64 : Nat) = (64 : Nat) ∧ (64 : Nat) = (64 : Nat))
                    (End.need
                      ((0 : Int) ≤ numW (List.take (8 : Nat) (List.drop (0 : Nat) b)) ∧
                        numW (List.take (8 : Nat) (List.drop (0 : Nat) b)) < (18446744073709551616 : Int) ∧
                          (0 : Int) ≤ numW (List.take (8 : Nat) (List.drop (8 : Nat) b)) ∧
                            numW (List.take (8 : Nat) (List.drop (8 : Nat) b)) < (18446744073709551616 : Int))
                      (End.ite
                        (!strEq
                            (manF (numW (List.take (8 : Nat) (List.drop (0 : Nat) b)))
                              (numW (List.take (8 : Nat) (List.drop (8 : Nat) b)))
                              (IntKind.i64.wrap (numW (List.take (8 : Nat) (List.drop (16 : Nat) b))))
                              (List.take (64 : Nat) (List.drop (24 : Nat) b))
                              (List.take (64 : Nat) (List.drop (88 : Nat) b)))
                            b)
                        (End.leaf
                          (LV.tup
                            [VV.agg
                                [SV.int IntKind.u64 (SI.sym (0 : Int)), SV.int IntKind.u64 (SI.sym (0 : Int)),
                                  SV.int IntKind.i64 (SI.sym (0 : Int)),
                                  SV.arr (Ty.int IntKind.u8) (64 : Nat) (List.replicate (64 : Nat) (0 : Int)),
                                  SV.arr (Ty.int IntKind.u8) (64 : Nat) (List.replicate (64 : Nat) (0 : Int))],
                              VV.sc (SV.bool (SB.sym false))])
                          [])
                        (End.leaf
                          (LV.tup
                            [VV.agg
                                [SV.int IntKind.u64 (SI.sym (numW (List.take (8 : Nat) (List.drop (0 : Nat) b)))),
                                  SV.int IntKind.u64 (SI.sym (numW (List.take (8 : Nat) (List.drop (8 : Nat) b)))),
                                  SV.int IntKind.i64
                                    (SI.sym (IntKind.i64.wrap (numW (List.take (8 : Nat) (List.drop (16 : Nat) b))))),
                                  SV.arr (Ty.int IntKind.u8) (64 : Nat) (List.take (64 : Nat) (List.drop (24 : Nat) b)),
                                  SV.arr (Ty.int IntKind.u8) (64 : Nat) (List.take (64 : Nat) (List.drop (88 : Nat) b))],
                              VV.sc (SV.bool (SB.sym true))])
                          [])))))))))) := by kernel_rfl
theorem rget_ok : rgetE.Ok Try.prog 35 := by
  refine (Ent.ofOk Try.call35 fun x_ y_ Q H_ => ?_).sym
  obtain ⟨b, _⟩ := x_
  obtain ⟨hn, hq⟩ := H_
  have hn : AllBy b := hn
  refine (fnT_ok mixed rgTab_ok Try.func35 rfl (LT := rgLT) (ks := [.fr [.sym], .auto]) (LOk.ofTab (LTC rfl (loopF_ok (hp := []) rg_loop) LT0))).use (D := []) ?_ hq
  show (fnT _ _ _ _ ((bA).wr (b, ())) ((lNil).wr ()) _).sat _
  rw [rget_tree]
  refine ⟨fun h0 => ?_, fun h0 => ?_⟩
  · have hl : ¬ b.length = 152 := fun e => by rw [e] at h0; simp at h0
    have eg : getF b = (mm0, false) := if_neg fun ⟨h, _⟩ => hl h
    rw [eg]; exact ⟨rfl, rfl⟩
  · have hl : b.length = 152 := by have : ((b.length : Int) != 152) = false := by simpa using h0
                                   simp at this; omega
    have hr : ∀ k : Nat, 0 ≤ numW ((b.drop k).take 8) ∧ numW ((b.drop k).take 8) < 18446744073709551616 := fun k => by
      obtain ⟨r1, r2, _⟩ := numW_range ((hn.drop k).take 8) (by rw [List.length_take]; omega)
      exact ⟨r1, Int.lt_of_lt_of_le r2 (pow256_le (by rw [List.length_take]; omega))⟩
    obtain ⟨m1, m2⟩ := man_str hn hl
    have m1' : strEq (manF (numW (b.take 8)) (numW ((b.drop 8).take 8)) (IntKind.i64.wrap (numW ((b.drop 16).take 8))) ((b.drop 24).take 64) ((b.drop 88).take 64)) b = rightF (mmOf b).ver (mmOf b).flo (mmOf b).len := m1
    have h0' := hr 0
    rw [List.drop_zero] at h0' ⊢
    rw [m1']
    refine ⟨by omega, by simp; omega, by omega, by simp; omega, by omega, by simp; omega, ⟨hl, rfl, rfl, rfl⟩, ⟨h0'.1, h0'.2, (hr 8).1, (hr 8).2⟩, fun h2 => ?_, fun h2 => ?_⟩
    · have eg : getF b = (mm0, false) := if_neg fun ⟨_, hr⟩ => by rw [hr] at h2; cases h2
      rw [eg]; exact ⟨rfl, rfl⟩
    · have h2' : rightF (mmOf b).ver (mmOf b).flo (mmOf b).len = true := by simpa using h2
      have eg : getF b = (mmOf b, true) := if_pos ⟨hl, h2'⟩
      have ew : IntKind.i64.wrap (numW ((b.drop 16).take 8)) = numW ((b.drop 16).take 8) := m2 h2'
      rw [eg, ew]; exact ⟨rfl, rfl⟩
noncomputable def rsignedE : Ent := Ent.ofS [some u8] (bA) (lNil) fun x_ y_ => (fun (b : List Int) => .leaf (some (b.length < 4294967296)) (nRow .u8 64 (signedF b)) []) x_.1 
theorem rsigned_tree (b : List Int) : fnT Try.prog [(53, rofE)] [] Try.f36 ((bA).wr (b, ())) ((lNil).wr ()) [.fr [.sym], .auto] =
    End.ite (decide ((160 : Int) < (↑b.length : Int)))
      (End.need ((0 : Int) ≤ (0 : Int) ∧ (0 : Int) ≤ (160 : Int) ∧ (160 : Int) ≤ (↑b.length : Int))
        (End.need ((List.take (160 : Nat) (List.drop (0 : Nat) b)).length ≤ (17592186044416 : Nat))
          (End.leaf
            (LV.one
              (VV.agg [SV.arr (Ty.int IntKind.u8) (64 : Nat) (rshaF (List.take (160 : Nat) (List.drop (0 : Nat) b)))]))
            [])))
      (End.need (b.length ≤ (17592186044416 : Nat))
        (End.leaf (LV.one (VV.agg [SV.arr (Ty.int IntKind.u8) (64 : Nat) (rshaF b)])) [])) := by kernel_rfl
theorem rsigned_ok : rsignedE.Ok Try.prog 36 := by
  refine (Ent.ofOk Try.call36 fun x_ y_ Q H_ => ?_).sym
  obtain ⟨b, _⟩ := x_
  obtain ⟨hn, hq⟩ := H_
  have hn : b.length < 4294967296 := hn
  refine (fnT_ok mixed ((tabC rof_ok tab0)) Try.func36 rfl (LT := []) (ks := [.fr [.sym], .auto]) (LOk.nil _)).use (D := []) ?_ hq
  show (fnT _ _ _ _ ((bA).wr (b, ())) ((lNil).wr ()) _).sat _
  rw [rsigned_tree]
  rw [List.drop_zero]
  refine ⟨fun h => ?_, fun h => ?_⟩
  · have h := of_decide_eq_true h
    rw [← sha_eq (by simp; omega)]
    exact ⟨by omega, by simp; omega, rfl, rfl⟩
  · have h := of_decide_eq_false h
    rw [← sha_eq (by omega)]
    have e : signedF b = shaF b := by unfold signedF; rw [List.take_of_length_le (by omega)]
    rw [e]
    exact ⟨by omega, rfl, rfl⟩
noncomputable def ridE : Ent := Ent.ofS [some u8] (bA) (lNil) fun x_ y_ => (fun (b : List Int) => .leaf (some (b.length < 4294967296)) (nRow .u8 8 (idF b)) []) x_.1 
theorem rid_tree (b : List Int) : fnT Try.prog [(53, rofE)] [] Try.f37 ((bA).wr (b, ())) ((lNil).wr ()) [.fr [.sym], .rowF 0 0 8 .u8, .auto] =
    End.need (b.length ≤ (17592186044416 : Nat))
      (End.leaf
        (LV.one
          (VV.agg
            [SV.arr (Ty.int IntKind.u8) (8 : Nat)
                [(rshaF b).getD (0 : Nat) (0 : Int), (rshaF b).getD (1 : Nat) (0 : Int), (rshaF b).getD (2 : Nat) (0 : Int),
                  (rshaF b).getD (3 : Nat) (0 : Int), (rshaF b).getD (4 : Nat) (0 : Int),
                  (rshaF b).getD (5 : Nat) (0 : Int), (rshaF b).getD (6 : Nat) (0 : Int),
                  (rshaF b).getD (7 : Nat) (0 : Int)]]))
        []) := by kernel_rfl
theorem rid_ok : ridE.Ok Try.prog 37 := by
  refine (Ent.ofOk Try.call37 fun x_ y_ Q H_ => ?_).sym
  obtain ⟨b, _⟩ := x_
  obtain ⟨hn, hq⟩ := H_
  have hn : b.length < 4294967296 := hn
  refine (fnT_ok mixed ((tabC rof_ok tab0)) Try.func37 rfl (LT := []) (ks := [.fr [.sym], .rowF 0 0 8 .u8, .auto]) (LOk.nil _)).use (D := []) ?_ hq
  show (fnT _ _ _ _ ((bA).wr (b, ())) ((lNil).wr ()) _).sat _
  rw [rid_tree]
  rw [← sha_eq (by omega)]
  have e : idF b = (List.range 8).map fun i => (shaF b).getD i 0 := by
    have h := map_getD_drop (l := shaF b) (j := 0) (n := 8) (by rw [sha_length]; omega)
    simp only [Nat.zero_add, List.drop_zero] at h
    exact h.symm
  rw [e]
  exact ⟨by omega, rfl, rfl⟩
--use getHead' bootjackref22.GetHead
noncomputable abbrev getHead'E : Ent := getHeadE
noncomputable def readsE : Ent := Ent.ofS [some u8] (bA) (lNil) fun x_ y_ => (fun (b : List Int) => .leaf (some (AllBy b)) (nB true) []) x_.1 
theorem reads_tree (b : List Int) : fnT Try.prog [(10, aliveE), (32, getHeadE), (33, getHead'E), (34, getE), (35, rgetE), (31, signedE), (36, rsignedE), (30, idE), (37, ridE)] [] Try.f9 ((bA).wr (b, ())) ((lNil).wr ()) [.fr [.sym], .auto] =
    End.ite (decide ((400 : Int) < (↑b.length : Int))) (End.leaf (LV.one (VV.sc (SV.bool (SB.sym true)))) [])
      (End.need (b.length * (1 : Nat) ≤ (70368744177664 : Nat) ∧ b.length ≤ (70368744177664 : Nat))
        (End.need (AllBy b)
          (End.need (AllBy b)
            (End.ite
              (((getHeadF b).fst.fst == (getHeadF b).fst.fst && ((getHeadF b).fst.snd == (getHeadF b).fst.snd && true)) ==
                true)
              (End.ite (((getHeadF b).snd == (getHeadF b).snd) == true)
                (End.ite
                  (((getF b).fst.ver == (getF b).fst.ver &&
                      ((getF b).fst.flo == (getF b).fst.flo &&
                        ((getF b).fst.len == (getF b).fst.len &&
                          (decide ((getF b).fst.list = (getF b).fst.list) &&
                            (decide ((getF b).fst.plain = (getF b).fst.plain) && true))))) ==
                    true)
                  (End.ite (((getF b).snd == (getF b).snd) == true)
                    (End.need (b.length < (1152921504606846976 : Nat))
                      (End.need (b.length < (4294967296 : Nat))
                        (End.ite (decide (signedF b = signedF b) == true)
                          (End.need (b.length < (1152921504606846976 : Nat))
                            (End.need (b.length < (4294967296 : Nat))
                              (End.leaf (LV.one (VV.sc (SV.bool (SB.sym (decide (idF b = idF b)))))) [])))
                          (End.leaf (LV.one (VV.sc (SV.bool (SB.sym false)))) []))))
                    (End.leaf (LV.one (VV.sc (SV.bool (SB.sym false)))) []))
                  (End.leaf (LV.one (VV.sc (SV.bool (SB.sym false)))) []))
                (End.leaf (LV.one (VV.sc (SV.bool (SB.sym false)))) []))
              (End.leaf (LV.one (VV.sc (SV.bool (SB.sym false)))) []))))) := by kernel_rfl
theorem reads_ok : readsE.Ok Try.prog 9 := by
  refine (Ent.ofOk Try.call9 fun x_ y_ Q H_ => ?_).sym
  obtain ⟨b, _⟩ := x_
  obtain ⟨hn, hq⟩ := H_
  have hn : AllBy b := hn
  refine (fnT_ok mixed ((tabC alive_ok (tabC getHead_ok (tabC getHead'_ok (tabC get_ok (tabC rget_ok (tabC signed_ok (tabC rsigned_ok (tabC id_ok (tabC rid_ok tab0)))))))))) Try.func9 rfl (LT := []) (ks := [.fr [.sym], .auto]) (LOk.nil _)).use (D := []) ?_ hq
  show (fnT _ _ _ _ ((bA).wr (b, ())) ((lNil).wr ()) _).sat _
  rw [reads_tree]
  refine ⟨fun _ => ⟨rfl, rfl⟩, fun h => ?_⟩
  have h := of_decide_eq_false h
  refine ⟨by omega, hn, hn, ⟨fun _ => ⟨fun _ => ⟨fun _ => ⟨fun _ => ⟨by omega, by omega, fun _ => ⟨by omega, by omega, nB_eq (by simp), rfl⟩, fun h => ?_⟩, fun h => ?_⟩, fun h => ?_⟩, fun h => ?_⟩, fun h => ?_⟩⟩ <;> (exfalso; simp at h)
end Go.Proofs.Ytdpbkfmjknmmnaa
