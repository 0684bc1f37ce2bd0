/- SHA-512: the program's sums. -/
import Derived.Test.YtdpbkfmjknmmnaaS2
set_option linter.unusedVariables false
set_option linter.unusedSimpArgs false
namespace Go.Proofs.Ytdpbkfmjknmmnaa
open Go Go.Ev
set_option maxRecDepth 100000
structure HH where
  begun : Bool
  s : List Int
  n : Int
  wait : List Int
abbrev cHH : Cod (List SV) HH := (lCons sBool (lCons (sArr (.int .u64) 8) (lCons (sInt .i64) (lCons (sArr u8 128) lNil)))).iso (fun x => ⟨x.1, x.2.1, x.2.2.1, x.2.2.2.1⟩) (fun h => (h.begun, h.s, h.n, h.wait, ())) (fun _ => rfl)
abbrev hI (h : HH) : Ev.Item := .blk (cHH.wr h) 91
abbrev hpS : Cod Hp (HH × Unit) := lCons (iBlk 91 cHH) lNil
abbrev hV (h : HH) : LV := .one (.agg (cHH.wr h))
abbrev symH : Wk := .blk 0 [.sym, .keep, .sym, .keep]
def newH : HH := ⟨true, beginK, 0, List.replicate 128 0⟩
noncomputable def new8E : Ent := Ent.ofS [] (lNil) (lNil) fun x_ y_ => .leaf none (.one (.sc (.ptr 0 0))) [(0, hI newH)]
theorem new8_tree  : fnT Try.prog [(58, beginE)] [] Try.f47 ((lNil).wr ()) ((lNil).wr ()) [.rowB 0 1 8 .u64, symH, .auto] =
    End.leaf (LV.one (VV.sc (SV.ptr (0 : Nat) (0 : Nat))))
      [some
          (Item.blk
            [SV.bool (SB.sym true), SV.arr (Ty.int IntKind.u64) (8 : Nat) beginK, SV.int IntKind.i64 (SI.sym (0 : Int)),
              SV.arr (Ty.int IntKind.u8) (128 : Nat) (List.replicate (128 : Nat) (0 : Int))]
            (91 : Nat))] := by kernel_rfl
theorem new8_ok : new8E.Ok Try.prog 47 := by
  refine (Ent.ofOk Try.call47 fun x_ y_ Q H_ => ?_).sym
  have hq := H_.2
  refine (fnT_ok mixed ((tabC begin_ok tab0)) Try.func47 rfl (LT := []) (ks := [.rowB 0 1 8 .u64, symH, .auto]) (LOk.nil _)).use (D := [(0, hI newH)]) ?_ hq
  show (fnT _ _ _ _ ((lNil).wr ()) ((lNil).wr ()) _).sat _
  rw [new8_tree]
  exact ⟨rfl, rfl⟩
noncomputable def ownE : Ent := Ent.ofS [] ((lSkip p0 lNil)) (hpS) fun x_ y_ => (fun (h : HH) => .leaf (some (h.begun = true)) (hV h) [])  y_.1
theorem own_tree (h : HH) : fnT Try.prog [] [] Try.f59 (((lSkip p0 lNil)).wr ()) ((hpS).wr (h, ())) [.auto] =
    End.ite (!h.begun) End.fail
      (End.leaf
        (LV.one
          (VV.agg
            [SV.bool (SB.sym h.begun), SV.arr (Ty.int IntKind.u64) (8 : Nat) h.s, SV.int IntKind.i64 (SI.sym h.n),
              SV.arr (Ty.int IntKind.u8) (128 : Nat) h.wait]))
        [some
            (Item.blk
              [SV.bool (SB.sym h.begun), SV.arr (Ty.int IntKind.u64) (8 : Nat) h.s, SV.int IntKind.i64 (SI.sym h.n),
                SV.arr (Ty.int IntKind.u8) (128 : Nat) h.wait]
              (91 : Nat))]) := by kernel_rfl
theorem own_ok : ownE.Ok Try.prog 59 := by
  refine (Ent.ofOk Try.call59 fun x_ y_ Q H_ => ?_).sym
  obtain ⟨h, _⟩ := y_
  obtain ⟨hn, hq⟩ := H_
  have hn : h.begun = true := hn
  refine (fnT_ok mixed tab0 Try.func59 rfl (LT := []) (ks := [.auto]) (LOk.nil _)).use (D := []) ?_ hq
  show (fnT _ _ _ _ (((lSkip p0 lNil)).wr ()) ((hpS).wr (h, ())) _).sat _
  rw [own_tree]
  exact ⟨fun e => (by rw [hn] at e; cases e), fun _ => ⟨rfl, rfl⟩⟩
/-- a byte more -/
def hByte (h : HH) (c : Int) : HH := if (h.n + 1) % 128 = 0 then ⟨h.begun, stepF h.s (wordsF (h.wait.set (h.n % 128).toNat c)), h.n + 1, h.wait.set (h.n % 128).toNat c⟩ else ⟨h.begun, h.s, h.n + 1, h.wait.set (h.n % 128).toNat c⟩
def hPut (h : HH) (b : List Int) : HH := b.foldl hByte h
structure HOk (h : HH) : Prop where
  begun : h.begun = true
  n : 0 ≤ h.n
  s : h.s.length = 8
  wait : h.wait.length = 128
theorem hByte_n (h : HH) (c : Int) : (hByte h c).n = h.n + 1 := by unfold hByte; split <;> rfl
theorem hByte_ok {h : HH} (hh : HOk h) (c : Int) : HOk (hByte h c) := by
  obtain ⟨h1, h2, h3, h4⟩ := hh
  unfold hByte
  split
  · exact ⟨h1, by simp only; omega, step_length _ _, by simp [h4]⟩
  · exact ⟨h1, by simp only; omega, h3, by simp [h4]⟩
theorem hPut_n : ∀ (b : List Int) (h : HH), (hPut h b).n = h.n + b.length
  | [], h => by simp [hPut]
  | c :: b, h => by
    show (hPut (hByte h c) b).n = _
    rw [hPut_n b, hByte_n, List.length_cons]; omega
theorem hPut_ok : ∀ (b : List Int) {h : HH}, HOk h → HOk (hPut h b)
  | [], _, hh => hh
  | c :: b, _, hh => hPut_ok b (hByte_ok hh c)
theorem hPut_append (h : HH) (a b : List Int) : hPut h (a ++ b) = hPut (hPut h a) b := by simp [hPut]
theorem upto_foldl {σ : Type} (g : σ → Int → σ) (b : List Int) : ∀ (m k : Nat) (s : σ), k + m = b.length → upto (fun k s => g s (b.getD k 0)) k m s = (b.drop k).foldl g s
  | 0, k, s, h => by rw [List.drop_eq_nil_of_le (by omega)]; rfl
  | m + 1, k, s, h => by
    rw [drop_getD (show k < b.length by omega)]
    exact upto_foldl g b m (k + 1) _ (by omega)
noncomputable abbrev puFn : Func := Try.f60
abbrev puC : Cod (List LV) (List Int × Int × Int × Unit) := (lSkip (vOne (sPtr 0 0)) (jk 7 (lCons (vOne (sRd false false u8)) (lCons (vOne (sInt .i64)) (lCons (vOne (sInt .i64)) (jk 44 lNil))))))
abbrev puCf : Wk := .fr (fmS 55 [(0, .keep), (8, .keep), (9, .sym), (10, .sym)])
abbrev puX : Cod (List LV) (Unit) := (jk 55 lNil)
abbrev puXf : Wk := .fr (fmS 55 [])
noncomputable abbrev puTab : List (FuncId × Ent) := [(67, wordsE), (68, stepE)]
def puW : Exit → List Wk
  | .normal => [puCf, symH, .auto]
  | .exit 0 => [puXf, symH, .auto]
  | _ => []
theorem pu_rnd (h0 h : HH) (b : List Int) (n i : Int) : rndT Try.prog puTab [] puFn 0 (hpS.wr (h0, ())) puW ((stC puC hpS).wr ((b, n, i, ()), (h, ()))) =
    Res.ite (decide (i < n))
      (Res.need ((0 : Int) ≤ i ∧ i < (↑b.length : Int))
        (Res.need ((0 : Int) ≤ h.n.tmod (128 : Int) ∧ h.n.tmod (128 : Int) < (128 : Int))
          (Res.ite ((IntKind.i64.wrap (h.n + (1 : Int))).tmod (128 : Int) == (0 : Int))
            (Res.need ((0 : Int) ≤ (0 : Int) ∧ (0 : Int) ≤ (128 : Int) ∧ (128 : Int) ≤ (128 : Int))
              (Res.need
                ((List.take (128 : Nat)
                      (List.drop (0 : Nat)
                        (h.wait.set ((0 : Nat) + (h.n.tmod (128 : Int)).toNat) (b.getD i.toNat (0 : Int))))).length =
                  (128 : Nat))
                (Res.need (h.s.length = (8 : Nat) ∧ (16 : Nat) = (16 : Nat))
                  (Res.leaf Exit.normal
                    ((stC puC hpS).wr
                      ((b, n, IntKind.i64.wrap (i + (1 : Int)), PUnit.unit),
                        { begun := h.begun,
                          s :=
                            stepF h.s
                              (wordsF
                                (List.take (128 : Nat)
                                  (List.drop (0 : Nat)
                                    (h.wait.set ((0 : Nat) + (h.n.tmod (128 : Int)).toNat) (b.getD i.toNat (0 : Int)))))),
                          n := IntKind.i64.wrap (h.n + (1 : Int)),
                          wait := h.wait.set ((0 : Nat) + (h.n.tmod (128 : Int)).toNat) (b.getD i.toNat (0 : Int)) },
                        PUnit.unit))))))
            (Res.leaf Exit.normal
              ((stC puC hpS).wr
                ((b, n, IntKind.i64.wrap (i + (1 : Int)), PUnit.unit),
                  { begun := h.begun, s := h.s, n := IntKind.i64.wrap (h.n + (1 : Int)),
                    wait := h.wait.set ((0 : Nat) + (h.n.tmod (128 : Int)).toNat) (b.getD i.toNat (0 : Int)) },
                  PUnit.unit))))))
      (Res.leaf (Exit.exit (0 : Nat)) ((stC puX hpS).wr (PUnit.unit, h, PUnit.unit))) := by kernel_rfl
theorem puTab_ok : ∀ p ∈ puTab, p.2.Ok Try.prog p.1 := tabC words_ok (tabC step_ok tab0)
noncomputable def puF (x : (List Int × Int × Int × Unit) × HH × Unit) : Res :=
  .need (HOk x.2.1 ∧ x.1.2.1 = x.1.1.length ∧ x.1.2.2.1 = 0 ∧ x.2.1.n + x.1.1.length < 2305843009213693952) (.leaf (.exit 0) ((stC puX hpS).wr ((), (hPut x.2.1 x.1.1, ()))))
theorem pu_loop (h0 : HH) (x) : Ex Try.prog (hpS.wr (h0, ())) (.loop (loopAt puFn 0)) ((stC puC hpS).wr x) (puF x) := by
  obtain ⟨⟨b, n, i, _⟩, h, _⟩ := x
  refine Ex.need fun ⟨h1, h2, h3, h4⟩ => ?_
  simp only at h1 h2 h3 h4
  subst h2 h3
  have hb62 : (b.length : Int) < 2305843009213693952 := by have := h1.n; omega
  have key := loopUp (fn := puFn) (id := 0) (j := 0) (ws := puW) (hp := hpS.wr (h0, ())) mixed puTab_ok (LOk.nil _) b.length (fun k h => (stC puC hpS).wr ((b, (b.length : Int), (k : Int), ()), (h, ()))) (fun h => (stC puX hpS).wr ((), (h, ()))) (fun k h => hByte h (b.getD k 0)) (fun k h => HOk h ∧ h.n + (b.length - k : Nat) < 2305843009213693952)
    (fun k h R hk hm hn hx => ?_) (fun k h _ hh => ⟨hByte_ok hh.1 _, by rw [hByte_n]; have := hh.2; omega⟩) 0 h (by omega) ⟨h1, by simpa using h4⟩
  · rw [Nat.sub_zero, upto_foldl hByte b _ _ _ (by omega)] at key; exact key
  obtain ⟨hh, hlt⟩ := hm
  obtain ⟨g1, g2, g3, g4⟩ := hh
  rw [pu_rnd]
  refine ⟨fun hb => ?_, fun hb => ?_⟩
  · have hk' : k < b.length := by have := of_decide_eq_true hb; omega
    have e1 : IntKind.i64.wrap (h.n + 1) = h.n + 1 := wrap_ok (by omega) (by omega)
    have e2 : h.n.tmod 128 = h.n % 128 := Int.tmod_eq_emod_of_nonneg g2
    have e3 : (h.n + 1).tmod 128 = (h.n + 1) % 128 := Int.tmod_eq_emod_of_nonneg (by omega)
    have e4 : ∀ c, List.take 128 (List.drop 0 (h.wait.set (h.n % 128).toNat c)) = h.wait.set (h.n % 128).toNat c := fun c => take_all (by simp [g4])
    rw [e1, e2, e3, wrap_succ k (by omega)]
    simp only [Int.toNat_natCast, Nat.zero_add]
    rw [e4]
    have hn' := hn hk'
    refine ⟨⟨by omega, by omega⟩, by omega, fun hz => ?_, fun hz => ?_⟩
    · have hz' : (h.n + 1) % 128 = 0 := by simpa using hz
      rw [hByte, if_pos hz'] at hn'
      exact ⟨by omega, by simp [g4], ⟨g3, trivial⟩, hn'⟩
    · have hz' : ¬ (h.n + 1) % 128 = 0 := by simpa using hz
      rw [hByte, if_neg hz'] at hn'
      exact hn'
  · have : k = b.length := by have := of_decide_eq_false hb; omega
    exact hx this
noncomputable abbrev puLT : LTab := [(0, loopF (stC puC hpS) 1 [puCf, symH, .auto] puF)]
abbrev hbA : Cod (List LV) (List Int × Unit) := lSkip p0 (lCons (vOne (sRd false false u8)) lNil)
noncomputable def hputE : Ent := Ent.ofS [none, some u8] (hbA) (hpS) fun x_ y_ => (fun (b : List Int) (h : HH) => .leaf (some (HOk h ∧ h.n + b.length < 2305843009213693952)) (.tup []) [(0, hI (hPut h b))]) x_.1 y_.1
theorem hput_tree (b : List Int) (h : HH) : fnT Try.prog puTab puLT Try.f60 ((hbA).wr (b, ())) ((hpS).wr (h, ())) [symH, .auto] =
    End.need
      (HOk h ∧
        (↑b.length : Int) = (↑b.length : Int) ∧
          (0 : Int) = (0 : Int) ∧ h.n + (↑b.length : Int) < (2305843009213693952 : Int))
      (End.leaf (LV.tup [])
        [some
            (Item.blk
              [SV.bool (SB.sym (hPut h b).begun), SV.arr (Ty.int IntKind.u64) (8 : Nat) (hPut h b).s,
                SV.int IntKind.i64 (SI.sym (hPut h b).n), SV.arr (Ty.int IntKind.u8) (128 : Nat) (hPut h b).wait]
              (91 : Nat))]) := by kernel_rfl
theorem hput_ok : hputE.Ok Try.prog 60 := by
  refine (Ent.ofOk Try.call60 fun x_ y_ Q H_ => ?_).sym
  obtain ⟨b, _⟩ := x_
  obtain ⟨h, _⟩ := y_
  obtain ⟨hn, hq⟩ := H_
  have hn : HOk h ∧ h.n + b.length < 2305843009213693952 := hn
  refine (fnT_ok mixed puTab_ok Try.func60 rfl (LT := puLT) (ks := [symH, .auto]) (LOk.ofTab (LTC rfl (loopF_ok (hp := hpS.wr (h, ())) (pu_loop h)) LT0))).use (D := [(0, hI (hPut h b))]) ?_ hq
  show (fnT _ _ _ _ ((hbA).wr (b, ())) ((hpS).wr (h, ())) _).sat _
  rw [hput_tree]
  exact ⟨⟨hn.1, rfl, rfl, hn.2⟩, rfl, rfl⟩
noncomputable def writeE : Ent := Ent.ofS [none, some u8] (hbA) (hpS) fun x_ y_ => (fun (b : List Int) (h : HH) => .leaf (some (HOk h ∧ h.n + b.length < 2305843009213693952)) (.tup []) [(0, hI (hPut h b))]) x_.1 y_.1
theorem write_tree (b : List Int) (h : HH) : fnT Try.prog [(59, ownE), (60, hputE)] [] Try.f48 ((hbA).wr (b, ())) ((hpS).wr (h, ())) [symH, .auto] =
    End.need (h.begun = true)
      (End.need (HOk h ∧ h.n + (↑b.length : Int) < (2305843009213693952 : Int))
        (End.leaf (LV.tup [])
          [some
              (Item.blk
                [SV.bool (SB.sym (hPut h b).begun), SV.arr (Ty.int IntKind.u64) (8 : Nat) (hPut h b).s,
                  SV.int IntKind.i64 (SI.sym (hPut h b).n), SV.arr (Ty.int IntKind.u8) (128 : Nat) (hPut h b).wait]
                (91 : Nat))])) := by kernel_rfl
theorem write_ok : writeE.Ok Try.prog 48 := by
  refine (Ent.ofOk Try.call48 fun x_ y_ Q H_ => ?_).sym
  obtain ⟨b, _⟩ := x_
  obtain ⟨h, _⟩ := y_
  obtain ⟨hn, hq⟩ := H_
  have hn : HOk h ∧ h.n + b.length < 2305843009213693952 := hn
  refine (fnT_ok mixed ((tabC own_ok (tabC hput_ok tab0))) Try.func48 rfl (LT := []) (ks := [symH, .auto]) (LOk.nil _)).use (D := [(0, hI (hPut h b))]) ?_ hq
  show (fnT _ _ _ _ ((hbA).wr (b, ())) ((hpS).wr (h, ())) _).sat _
  rw [write_tree]
  exact ⟨hn.1.begun, hn, rfl, rfl⟩
def eightF (x : Int) : List Int := (List.range 8).map fun i => IntKind.u8.wrap (shr .u64 x ((56 - 8 * i : Nat) : Int))
noncomputable def eightE : Ent := Ent.ofS [] ((lCons (vOne (sInt .u64)) lNil)) (lNil) fun x_ y_ => (fun (x : Int) => .leaf none (.one (.sc (.sl 0 0))) [(0, .own 0 u8 (eightF x))]) x_.1 
theorem eight_tree (x : Int) : fnT Try.prog [] [] Try.f61 (((lCons (vOne (sInt .u64)) lNil)).wr (x, ())) ((lNil).wr ()) [.auto, .vers] =
    End.need ((1 : Nat) ≤ (70368744177664 : Nat) ∧ (1 : Nat) ≤ (70368744177664 : Nat))
      (End.need ((2 : Nat) ≤ (70368744177664 : Nat) ∧ (2 : Nat) ≤ (70368744177664 : Nat))
        (End.need ((3 : Nat) ≤ (70368744177664 : Nat) ∧ (3 : Nat) ≤ (70368744177664 : Nat))
          (End.need ((4 : Nat) ≤ (70368744177664 : Nat) ∧ (4 : Nat) ≤ (70368744177664 : Nat))
            (End.need ((5 : Nat) ≤ (70368744177664 : Nat) ∧ (5 : Nat) ≤ (70368744177664 : Nat))
              (End.need ((6 : Nat) ≤ (70368744177664 : Nat) ∧ (6 : Nat) ≤ (70368744177664 : Nat))
                (End.need ((7 : Nat) ≤ (70368744177664 : Nat) ∧ (7 : Nat) ≤ (70368744177664 : Nat))
                  (End.need ((8 : Nat) ≤ (70368744177664 : Nat) ∧ (8 : Nat) ≤ (70368744177664 : Nat))
                    (End.leaf (LV.one (VV.sc (SV.sl (0 : Nat) (0 : Nat))))
                      [some
                          (Item.own (0 : Nat) (Ty.int IntKind.u8)
                            ([IntKind.u8.wrap (shr IntKind.u64 x (56 : Int))] ++
                                          [IntKind.u8.wrap (shr IntKind.u64 x (48 : Int))] ++
                                        [IntKind.u8.wrap (shr IntKind.u64 x (40 : Int))] ++
                                      [IntKind.u8.wrap (shr IntKind.u64 x (32 : Int))] ++
                                    [IntKind.u8.wrap (shr IntKind.u64 x (24 : Int))] ++
                                  [IntKind.u8.wrap (shr IntKind.u64 x (16 : Int))] ++
                                [IntKind.u8.wrap (shr IntKind.u64 x (8 : Int))] ++
                              [IntKind.u8.wrap (shr IntKind.u64 x (0 : Int))]))])))))))) := by kernel_rfl
theorem eight_ok : eightE.Ok Try.prog 61 := by
  refine (Ent.ofOk Try.call61 fun x_ y_ Q H_ => ?_).sym
  obtain ⟨x, _⟩ := x_
  have hq := H_.2
  refine (fnT_ok mixed tab0 Try.func61 rfl (LT := []) (ks := [.auto, .vers]) (LOk.nil _)).use (D := [(0, .own 0 u8 (eightF x))]) ?_ hq
  show (fnT _ _ _ _ (((lCons (vOne (sInt .u64)) lNil)).wr (x, ())) ((lNil).wr ()) _).sat _
  rw [eight_tree]
  exact ⟨by omega, by omega, by omega, by omega, by omega, by omega, by omega, by omega, rfl, rfl⟩
def numbersF (s : List Int) : List Int := (List.range 8).foldl (fun a i => a ++ eightF (s.getD i 0)) []
noncomputable def numbersE : Ent := Ent.ofS [] ((lSkip p0 lNil)) (hpS) fun x_ y_ => (fun (h : HH) => .leaf none (.one (.sc (.sl 1 0))) [(1, .own 0 u8 (numbersF h.s))])  y_.1
theorem numbers_tree (h : HH) : fnT Try.prog [(61, eightE)] [] Try.f62 (((lSkip p0 lNil)).wr ()) ((hpS).wr (h, ())) [.auto, .vers] =
    End.need ((8 : Nat) ≤ (70368744177664 : Nat) ∧ (8 : Nat) ≤ (70368744177664 : Nat))
      (End.need ((16 : Nat) ≤ (70368744177664 : Nat) ∧ (16 : Nat) ≤ (70368744177664 : Nat))
        (End.need ((24 : Nat) ≤ (70368744177664 : Nat) ∧ (24 : Nat) ≤ (70368744177664 : Nat))
          (End.need ((32 : Nat) ≤ (70368744177664 : Nat) ∧ (32 : Nat) ≤ (70368744177664 : Nat))
            (End.need ((40 : Nat) ≤ (70368744177664 : Nat) ∧ (40 : Nat) ≤ (70368744177664 : Nat))
              (End.need ((48 : Nat) ≤ (70368744177664 : Nat) ∧ (48 : Nat) ≤ (70368744177664 : Nat))
                (End.need ((56 : Nat) ≤ (70368744177664 : Nat) ∧ (56 : Nat) ≤ (70368744177664 : Nat))
                  (End.need ((64 : Nat) ≤ (70368744177664 : Nat) ∧ (64 : Nat) ≤ (70368744177664 : Nat))
                    (End.leaf (LV.one (VV.sc (SV.sl (1 : Nat) (0 : Nat))))
                      [some
                          (Item.blk
                            [SV.bool (SB.sym h.begun), SV.arr (Ty.int IntKind.u64) (8 : Nat) h.s,
                              SV.int IntKind.i64 (SI.sym h.n), SV.arr (Ty.int IntKind.u8) (128 : Nat) h.wait]
                            (91 : Nat)),
                        some
                          (Item.own (0 : Nat) (Ty.int IntKind.u8)
                            (eightF (h.s.getD (0 : Nat) (0 : Int)) ++ eightF (h.s.getD (1 : Nat) (0 : Int)) ++
                                        eightF (h.s.getD (2 : Nat) (0 : Int)) ++
                                      eightF (h.s.getD (3 : Nat) (0 : Int)) ++
                                    eightF (h.s.getD (4 : Nat) (0 : Int)) ++
                                  eightF (h.s.getD (5 : Nat) (0 : Int)) ++
                                eightF (h.s.getD (6 : Nat) (0 : Int)) ++
                              eightF (h.s.getD (7 : Nat) (0 : Int))))])))))))) := by kernel_rfl
theorem numbers_ok : numbersE.Ok Try.prog 62 := by
  refine (Ent.ofOk Try.call62 fun x_ y_ Q H_ => ?_).sym
  obtain ⟨h, _⟩ := y_
  have hq := H_.2
  refine (fnT_ok mixed ((tabC eight_ok tab0)) Try.func62 rfl (LT := []) (ks := [.auto, .vers]) (LOk.nil _)).use (D := [(1, .own 0 u8 (numbersF h.s))]) ?_ hq
  show (fnT _ _ _ _ (((lSkip p0 lNil)).wr ()) ((hpS).wr (h, ())) _).sat _
  rw [numbers_tree]
  exact ⟨by omega, by omega, by omega, by omega, by omega, by omega, by omega, by omega, rfl, rfl⟩
end Go.Proofs.Ytdpbkfmjknmmnaa
