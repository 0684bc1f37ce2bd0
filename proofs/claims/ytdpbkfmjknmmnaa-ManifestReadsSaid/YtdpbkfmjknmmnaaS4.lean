/- SHA-512: the program's sums, to their end. -/
import Derived.Test.YtdpbkfmjknmmnaaS3
set_option linter.unusedVariables false
set_option linter.unusedSimpArgs false
namespace Go.Proofs.Ytdpbkfmjknmmnaa
open Go Go.Ev
set_option maxRecDepth 100000
noncomputable abbrev suFn : Func := Try.f49
noncomputable abbrev suTab : List (FuncId × Ent) := [(59, ownE), (60, hputE), (61, eightE), (62, numbersE)]
theorem suTab_ok : ∀ p ∈ suTab, p.2.Ok Try.prog p.1 := tabC own_ok (tabC hput_ok (tabC eight_ok (tabC numbers_ok tab0)))
abbrev hpS3 : Cod Hp (HH × List Int × HH × Unit) := lCons (iBlk 91 cHH) (lCons (iRow 25 .u8 64) (lCons (iBlk 91 cHH) lNil))
abbrev symH2 : Wk := .blk 2 [.sym, .keep, .sym, .keep]
abbrev suC : Cod (List LV) (Int × Unit) := (jk 2 (lSkip (vOne (sPtr 1 0)) (lSkip (vOne (sPtr 2 0)) (lCons (vOne (sInt .u64)) (jk 24 lNil)))))
abbrev suCf : Wk := .fr (fmS 29 [(2, .keep), (3, .keep), (4, .sym)])
def suW : Exit → List Wk
  | .normal => [suCf, symH2, .auto]
  | .exit 0 => [suCf, symH2, .auto]
  | _ => []
theorem su_rnd (h0 : HH) (g : HH) (r : List Int) (h : HH) (n : Int) : rndT Try.prog suTab [] suFn 0 (hpS.wr (h0, ())) suW ((stC suC hpS3).wr ((n, ()), (g, r, h, ()))) =
    Res.ite (h.n.tmod (128 : Int) != (112 : Int))
      (Res.need (HOk h ∧ h.n + (1 : Int) < (2305843009213693952 : Int))
        (Res.leaf Exit.normal ((stC suC hpS3).wr ((n, PUnit.unit), g, r, hPut h [(0 : Int)], PUnit.unit))))
      (Res.leaf (Exit.exit (0 : Nat)) ((stC suC hpS3).wr ((n, PUnit.unit), g, r, h, PUnit.unit))) := by kernel_rfl
/-- noughts, as many as are lacking -/
def padH (h : HH) : HH := hPut h (List.replicate ((112 - h.n) % 128).toNat 0)
theorem padH_step {h : HH} (hz : ¬ h.n % 128 = 112) : padH (hPut h [0]) = padH h ∧ ((112 - (hPut h [0]).n) % 128).toNat < ((112 - h.n) % 128).toNat := by
  have e1 : (hPut h [0]).n = h.n + 1 := by rw [hPut_n]; rfl
  have e2 : ((112 - h.n) % 128).toNat = ((112 - (hPut h [0]).n) % 128).toNat + 1 := by rw [e1]; omega
  refine ⟨?_, by omega⟩
  unfold padH
  rw [e2, List.replicate_succ]
  rfl
theorem padH_end {h : HH} (hz : h.n % 128 = 112) : padH h = h := by
  have e : ((112 - h.n) % 128).toNat = 0 := by omega
  unfold padH; rw [e]; rfl
noncomputable def suF (x : (Int × Unit) × HH × List Int × HH × Unit) : Res :=
  .need (HOk x.2.2.2.1 ∧ x.2.2.2.1.n + 128 < 2305843009213693952) (.leaf (.exit 0) ((stC suC hpS3).wr (x.1, (x.2.1, x.2.2.1, padH x.2.2.2.1, ()))))
theorem su_loop (h0 : HH) (x) : Ex Try.prog (hpS.wr (h0, ())) (.loop (loopAt suFn 0)) ((stC suC hpS3).wr x) (suF x) := by
  obtain ⟨⟨n, _⟩, g, r, h, _⟩ := x
  refine Ex.need fun ⟨h1, h2⟩ => ?_
  simp only at h1 h2
  refine loopR mixed suTab_ok (LT := []) (ws := suW) (hp := hpS.wr (h0, ())) (LOk.nil _) (fun h : HH => ((112 - h.n) % 128).toNat) (fun h : HH => (stC suC hpS3).wr ((n, ()), (g, r, h, ()))) (fun h => HOk h ∧ h.n + (112 - h.n) % 128 < 2305843009213693952)
    (fun h => .leaf (.exit 0) ((stC suC hpS3).wr ((n, ()), (g, r, padH h, ())))) (fun h _ => su_rnd h0 g r h n) (fun h R hh hs => ?_) h ⟨h1, by omega⟩
  obtain ⟨hh, hlt⟩ := hh
  have e : h.n.tmod 128 = h.n % 128 := Int.tmod_eq_emod_of_nonneg hh.n
  rw [e]
  refine ⟨fun hb => ?_, fun hb => ?_⟩
  · have hb' : ¬ h.n % 128 = 112 := by simpa using hb
    obtain ⟨k1, k2⟩ := padH_step hb'
    have e1 : (hPut h [0]).n = h.n + 1 := by rw [hPut_n]; rfl
    refine ⟨⟨hh, by omega⟩, .inl ⟨rfl, hPut h [0], rfl, ⟨hPut_ok _ hh, by rw [e1]; omega⟩, k2, ?_⟩⟩
    show (Res.leaf (.exit 0) ((stC suC hpS3).wr ((n, ()), (g, r, padH (hPut h [0]), ())))).sat R
    rw [k1]; exact hs
  · have hb' : h.n % 128 = 112 := by simpa using hb
    rw [padH_end hb'] at hs
    exact .inr ⟨by simp, hs⟩
noncomputable abbrev suLT : LTab := [(0, loopF (stC suC hpS3) 1 [suCf, symH2, .auto] suF)]
def lastF (h : HH) (n : Int) : HH := hPut (hPut (padH (hPut h [128])) (eightF (shr .u64 n 61))) (eightF (shl .u64 n 3))
def sumF (h : HH) : List Int := numbersF (lastF h (IntKind.u64.wrap h.n)).s
theorem eight_length (x : Int) : (eightF x).length = 8 := rfl
theorem numbers_length (s : List Int) : (numbersF s).length = 64 := rfl
noncomputable def sumE : Ent := Ent.ofS [] ((lSkip p0 lNil)) (hpS) fun x_ y_ => (fun (h : HH) => .leaf (some (HOk h ∧ h.n < 1152921504606846976)) (nRow .u8 64 (sumF h)) [])  y_.1
theorem sum_tree (h : HH) : fnT Try.prog suTab suLT Try.f49 (((lSkip p0 lNil)).wr ()) ((hpS).wr (h, ())) [.fr [.sym], symH, .auto] =
    End.need (h.begun = true)
      (End.need (HOk h ∧ h.n + (1 : Int) < (2305843009213693952 : Int))
        (End.need (HOk (hPut h [(128 : Int)]) ∧ (hPut h [(128 : Int)]).n + (128 : Int) < (2305843009213693952 : Int))
          (End.need
            (HOk (padH (hPut h [(128 : Int)])) ∧ (padH (hPut h [(128 : Int)])).n + (8 : Int) < (2305843009213693952 : Int))
            (End.need
              (HOk (hPut (padH (hPut h [(128 : Int)])) (eightF (shr IntKind.u64 (IntKind.u64.wrap h.n) (61 : Int)))) ∧
                (hPut (padH (hPut h [(128 : Int)])) (eightF (shr IntKind.u64 (IntKind.u64.wrap h.n) (61 : Int)))).n +
                    (8 : Int) <
                  (2305843009213693952 : Int))
              (End.need ((64 : Nat) ≤ (64 : Nat))
                (End.need ((64 : Nat) ≤ (64 : Nat))
                  (End.leaf
                    (LV.one
                      (VV.agg
                        [SV.arr (Ty.int IntKind.u8) (64 : Nat)
                            (List.take (64 : Nat)
                              (List.drop (0 : Nat)
                                (numbersF
                                  (hPut
                                      (hPut (padH (hPut h [(128 : Int)]))
                                        (eightF (shr IntKind.u64 (IntKind.u64.wrap h.n) (61 : Int))))
                                      (eightF (shl IntKind.u64 (IntKind.u64.wrap h.n) (3 : Int)))).s)))]))
                    [some
                        (Item.blk
                          [SV.bool (SB.sym h.begun), SV.arr (Ty.int IntKind.u64) (8 : Nat) h.s,
                            SV.int IntKind.i64 (SI.sym h.n), SV.arr (Ty.int IntKind.u8) (128 : Nat) h.wait]
                          (91 : Nat))]))))))) := by kernel_rfl
theorem sum_ok : sumE.Ok Try.prog 49 := by
  refine (Ent.ofOk Try.call49 fun x_ y_ Q H_ => ?_).sym
  obtain ⟨h, _⟩ := y_
  obtain ⟨hn, hq⟩ := H_
  have hn : HOk h ∧ h.n < 1152921504606846976 := hn
  refine (fnT_ok mixed suTab_ok Try.func49 rfl (LT := suLT) (ks := [.fr [.sym], symH, .auto]) (LOk.ofTab (LTC rfl (loopF_ok (hp := hpS.wr (h, ())) (su_loop h)) LT0))).use (D := []) ?_ hq
  show (fnT _ _ _ _ (((lSkip p0 lNil)).wr ()) ((hpS).wr (h, ())) _).sat _
  rw [sum_tree]
  obtain ⟨g1, g2⟩ := hn
  have g3 := g1.n
  have e1 : (hPut h [128]).n = h.n + 1 := by rw [hPut_n]; rfl
  have k1 : HOk (hPut h [128]) := hPut_ok _ g1
  have k2 : HOk (padH (hPut h [128])) := hPut_ok _ k1
  have e2 : (padH (hPut h [128])).n ≤ h.n + 128 := by unfold padH; rw [hPut_n, e1, List.length_replicate]; omega
  have k3 : HOk (hPut (padH (hPut h [128])) (eightF (shr .u64 (IntKind.u64.wrap h.n) 61))) := hPut_ok _ k2
  have e3 : (hPut (padH (hPut h [128])) (eightF (shr .u64 (IntKind.u64.wrap h.n) 61))).n ≤ h.n + 136 := by rw [hPut_n, eight_length]; omega
  have e4 : ∀ s, List.take 64 (List.drop 0 (numbersF s)) = numbersF s := fun s => take_all (numbers_length s)
  rw [e4]
  exact ⟨g1.begun, ⟨g1, by omega⟩, ⟨k1, by omega⟩, ⟨k2, by omega⟩, ⟨k3, by omega⟩, by omega, by omega, rfl, rfl⟩
/-! ### Of -/
noncomputable abbrev ofFn : Func := Try.f29
noncomputable abbrev ofTab : List (FuncId × Ent) := [(47, new8E), (48, writeE), (49, sumE)]
abbrev rrA : Cod (List LV) (List (List Int) × Unit) := lCons (vOne (sRd false false (.sl u8))) lNil
abbrev ofC : Cod (List LV) (List (List Int) × Int × Int × Unit) := (jk 2 (lSkip (vOne (sPtr 0 0)) (lSkip (vOne (sPtr 1 0)) (jk 3 (lCons (vOne (sRd false false (.sl u8))) (lCons (vOne (sInt .i64)) (lCons (vOne (sInt .i64)) (jk 9 lNil))))))))
abbrev ofCf : Wk := .fr (fmS 19 [(2, .keep), (3, .keep), (7, .keep), (8, .sym), (9, .sym)])
abbrev ofX : Cod (List LV) (Unit) := (jk 2 (lSkip (vOne (sPtr 0 0)) (lSkip (vOne (sPtr 1 0)) (jk 15 lNil))))
abbrev ofXf : Wk := .fr (fmS 19 [(2, .keep), (3, .keep)])
abbrev hpOf : Cod Hp (List Int × HH × Unit) := lCons (iRow 25 .u8 64) (lCons (iBlk 91 cHH) lNil)
abbrev symH1 : Wk := .blk 1 [.sym, .keep, .sym, .keep]
def ofW : Exit → List Wk
  | .normal => [ofCf, symH1, .auto]
  | .exit 0 => [ofXf, symH1, .auto]
  | _ => []
theorem of_rnd (l : List (List Int)) (n i : Int) (r : List Int) (h : HH) : rndT Try.prog ofTab [] ofFn 0 [] ofW ((stC ofC hpOf).wr ((l, n, i, ()), (r, h, ()))) =
    Res.ite (decide (i < n))
      (Res.need ((0 : Int) ≤ i ∧ i < (↑l.length : Int))
        (Res.need (HOk h ∧ h.n + (↑(List.length (l.getD i.toNat [])) : Int) < (2305843009213693952 : Int))
          (Res.leaf Exit.normal
            ((stC ofC hpOf).wr
              ((l, n, IntKind.i64.wrap (i + (1 : Int)), PUnit.unit), r, hPut h (l.getD i.toNat []), PUnit.unit)))))
      (Res.leaf (Exit.exit (0 : Nat)) ((stC ofX hpOf).wr (PUnit.unit, r, h, PUnit.unit))) := by kernel_rfl
theorem ofTab_ok : ∀ p ∈ ofTab, p.2.Ok Try.prog p.1 := tabC new8_ok (tabC write_ok (tabC sum_ok tab0))
theorem upto_rows {σ : Type} (g : σ → List Int → σ) (b : List (List Int)) : ∀ (m k : Nat) (s : σ), k + m = b.length → upto (fun k s => g s (b.getD k [])) k m s = (b.drop k).foldl g s
  | 0, k, s, h => by rw [List.drop_eq_nil_of_le (by omega)]; rfl
  | m + 1, k, s, h => by
    have e : b.drop k = b.getD k [] :: b.drop (k + 1) := by
      rw [List.drop_eq_getElem_cons (by omega : k < b.length), List.getD_eq_getElem?_getD, List.getElem?_eq_getElem (by omega : k < b.length)]; rfl
    rw [e]
    exact upto_rows g b m (k + 1) _ (by omega)
theorem hPut_rows : ∀ (l : List (List Int)) (h : HH), l.foldl hPut h = hPut h l.flatten
  | [], h => rfl
  | b :: l, h => by rw [List.foldl_cons, hPut_rows l, List.flatten_cons, hPut_append]
noncomputable def ofLF (x : (List (List Int) × Int × Int × Unit) × List Int × HH × Unit) : Res :=
  .need (HOk x.2.2.1 ∧ x.1.2.1 = x.1.1.length ∧ x.1.2.2.1 = 0 ∧ x.1.1.length < 2305843009213693952 ∧ x.2.2.1.n + x.1.1.flatten.length < 2305843009213693952) (.leaf (.exit 0) ((stC ofX hpOf).wr ((), (x.2.1, hPut x.2.2.1 x.1.1.flatten, ()))))
theorem of_loop (x) : Ex Try.prog [] (.loop (loopAt ofFn 0)) ((stC ofC hpOf).wr x) (ofLF x) := by
  obtain ⟨⟨l, n, i, _⟩, r, h, _⟩ := x
  refine Ex.need fun ⟨h1, h2, h3, h4, h5⟩ => ?_
  simp only at h1 h2 h3 h4 h5
  subst h2 h3
  have key := loopUp (fn := ofFn) (id := 0) (j := 0) (ws := ofW) (hp := []) mixed ofTab_ok (LOk.nil _) l.length (fun k h => (stC ofC hpOf).wr ((l, (l.length : Int), (k : Int), ()), (r, h, ()))) (fun h => (stC ofX hpOf).wr ((), (r, h, ()))) (fun k h => hPut h (l.getD k [])) (fun k h => HOk h ∧ h.n + (l.drop k).flatten.length < 2305843009213693952)
    (fun k h R hk hm hn hx => ?_) (fun k h hk hh => ⟨hPut_ok _ hh.1, ?_⟩) 0 h (by omega) ⟨h1, h5⟩
  · rw [Nat.sub_zero, upto_rows hPut l _ _ _ (by omega), hPut_rows] at key; exact key
  · obtain ⟨hh, hlt⟩ := hm
    rw [of_rnd]
    refine ⟨fun hb => ?_, fun hb => ?_⟩
    · have hk' : k < l.length := by have := of_decide_eq_true hb; omega
      have e : l.drop k = l.getD k [] :: l.drop (k + 1) := by
        rw [List.drop_eq_getElem_cons hk', List.getD_eq_getElem?_getD, List.getElem?_eq_getElem hk']; rfl
      rw [e, List.flatten_cons, List.length_append] at hlt
      rw [wrap_succ k (by omega)]
      simp only [Int.toNat_natCast]
      exact ⟨by omega, ⟨hh, by omega⟩, hn hk'⟩
    · have : k = l.length := by have := of_decide_eq_false hb; omega
      exact hx this
  · have e : l.drop k = l.getD k [] :: l.drop (k + 1) := by
      rw [List.drop_eq_getElem_cons hk, List.getD_eq_getElem?_getD, List.getElem?_eq_getElem hk]; rfl
    have h2 := hh.2
    rw [e, List.flatten_cons, List.length_append] at h2
    rw [hPut_n]
    omega
noncomputable abbrev ofLT : LTab := [(0, loopF (stC ofC hpOf) 0 [ofCf, symH1, .auto] ofLF)]
theorem newH_ok : HOk newH := ⟨rfl, by decide, rfl, rfl⟩
/-- the sum of bytes -/
def shaF (b : List Int) : List Int := sumF (hPut newH b)
theorem sha_length (b : List Int) : (shaF b).length = 64 := rfl
noncomputable def ofE : Ent := Ent.ofS [some (.sl u8)] (rrA) (lNil) fun x_ y_ => (fun (l : List (List Int)) => .leaf (some (l.length < 2305843009213693952 ∧ l.flatten.length < 1152921504606846976)) (nRow .u8 64 (shaF l.flatten)) []) x_.1 
theorem of_tree (l : List (List Int)) : fnT Try.prog ofTab ofLT Try.f29 ((rrA).wr (l, ())) ((lNil).wr ()) [.fr [.sym], .auto] =
    End.need
      (HOk
          { begun := true,
            s :=
              [(7640891576956012808 : Int), (13503953896175478587 : Int), (4354685564936845355 : Int),
                (11912009170470909681 : Int), (5840696475078001361 : Int), (11170449401992604703 : Int),
                (2270897969802886507 : Int), (6620516959819538809 : Int)],
            n := (0 : Int), wait := List.replicate (128 : Nat) (0 : Int) } ∧
        (↑l.length : Int) = (↑l.length : Int) ∧
          (0 : Int) = (0 : Int) ∧
            l.length < (2305843009213693952 : Nat) ∧ (0 : Int) + (↑l.flatten.length : Int) < (2305843009213693952 : Int))
      (End.need
        (HOk
            (hPut
              { begun := true,
                s :=
                  [(7640891576956012808 : Int), (13503953896175478587 : Int), (4354685564936845355 : Int),
                    (11912009170470909681 : Int), (5840696475078001361 : Int), (11170449401992604703 : Int),
                    (2270897969802886507 : Int), (6620516959819538809 : Int)],
                n := (0 : Int), wait := List.replicate (128 : Nat) (0 : Int) }
              l.flatten) ∧
          (hPut
                { begun := true,
                  s :=
                    [(7640891576956012808 : Int), (13503953896175478587 : Int), (4354685564936845355 : Int),
                      (11912009170470909681 : Int), (5840696475078001361 : Int), (11170449401992604703 : Int),
                      (2270897969802886507 : Int), (6620516959819538809 : Int)],
                  n := (0 : Int), wait := List.replicate (128 : Nat) (0 : Int) }
                l.flatten).n <
            (1152921504606846976 : Int))
        (End.leaf
          (LV.one
            (VV.agg
              [SV.arr (Ty.int IntKind.u8) (64 : Nat)
                  (sumF
                    (hPut
                      { begun := true,
                        s :=
                          [(7640891576956012808 : Int), (13503953896175478587 : Int), (4354685564936845355 : Int),
                            (11912009170470909681 : Int), (5840696475078001361 : Int), (11170449401992604703 : Int),
                            (2270897969802886507 : Int), (6620516959819538809 : Int)],
                        n := (0 : Int), wait := List.replicate (128 : Nat) (0 : Int) }
                      l.flatten))]))
          [])) := by kernel_rfl
theorem of_ok : ofE.Ok Try.prog 29 := by
  refine (Ent.ofOk Try.call29 fun x_ y_ Q H_ => ?_).sym
  obtain ⟨l, _⟩ := x_
  obtain ⟨hn, hq⟩ := H_
  have hn : l.length < 2305843009213693952 ∧ l.flatten.length < 1152921504606846976 := hn
  refine (fnT_ok mixed ofTab_ok Try.func29 rfl (LT := ofLT) (ks := [.fr [.sym], .auto]) (LOk.ofTab (LTC rfl (loopF_ok (hp := []) of_loop) LT0))).use (D := []) ?_ hq
  show (fnT _ _ _ _ ((rrA).wr (l, ())) ((lNil).wr ()) _).sat _
  rw [of_tree]
  have e : (hPut newH l.flatten).n = l.flatten.length := by rw [hPut_n]; show (0 : Int) + _ = _; omega
  exact ⟨⟨newH_ok, rfl, rfl, hn.1, by omega⟩, ⟨hPut_ok _ newH_ok, by show (hPut newH l.flatten).n < _; rw [e]; omega⟩, rfl, rfl⟩
end Go.Proofs.Ytdpbkfmjknmmnaa
