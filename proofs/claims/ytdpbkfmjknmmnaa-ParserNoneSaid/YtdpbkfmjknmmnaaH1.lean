/- Parsers: the document's. -/
import Derived.Test.YtdpbkfmjknmmnaaH0
set_option linter.unusedVariables false
set_option linter.unusedSimpArgs false
namespace Go.Proofs.Ytdpbkfmjknmmnaa
open Go Go.Ev
set_option maxRecDepth 100000

structure RR where
  part : Int
  blocks : Int
  block : Int
  want : Int
  held : List Int
  bad : Bool
  whole : Bool
abbrev cRR : Cod (List SV) RR := (lCons (sInt .i64) (lCons (sInt .i64) (lCons (sInt .i64) (lCons (sInt .i64) (lCons (sRd true false u8) (lCons sBool (lCons sBool lNil))))))).iso
  (fun x => ⟨x.1, x.2.1, x.2.2.1, x.2.2.2.1, x.2.2.2.2.1, x.2.2.2.2.2.1, x.2.2.2.2.2.2.1⟩) (fun p => (p.part, p.blocks, p.block, p.want, p.held, p.bad, p.whole, ())) (fun _ => rfl)
abbrev rI (p : RR) : Ev.Item := .blk (cRR.wr p) 69
abbrev hpR : Cod Hp (RR × Unit) := lCons (iBlk 69 cRR) lNil
abbrev symR : Wk := .blk 0 [.sym, .sym, .sym, .sym, .rd true u8, .sym, .sym]
noncomputable def rwantE : Ent := Ent.ofS [] (lSkip p0 lNil) hpR fun _ h => .leaf none (nI (if h.1.bad || h.1.whole then 0 else IntKind.i64.wrap (h.1.want - h.1.held.length))) []
theorem rwant_tree (p : RR) : fnT Try.prog [] [] Try.f42 ((lSkip p0 lNil).wr ()) (hpR.wr (p, ())) [.fr [.sym], symR, .auto] =
    End.ite (p.bad == false)
      (End.ite p.whole
        (End.leaf (LV.one (VV.sc (SV.int IntKind.i64 (SI.sym (0 : Int)))))
          [some
              (Item.blk
                [SV.int IntKind.i64 (SI.sym p.part), SV.int IntKind.i64 (SI.sym p.blocks),
                  SV.int IntKind.i64 (SI.sym p.block), SV.int IntKind.i64 (SI.sym p.want),
                  SV.rd true false (Ty.int IntKind.u8) p.held, SV.bool (SB.sym p.bad), SV.bool (SB.sym p.whole)]
                (69 : Nat))])
        (End.leaf (LV.one (VV.sc (SV.int IntKind.i64 (SI.sym (IntKind.i64.wrap (p.want - ↑p.held.length))))))
          [some
              (Item.blk
                [SV.int IntKind.i64 (SI.sym p.part), SV.int IntKind.i64 (SI.sym p.blocks),
                  SV.int IntKind.i64 (SI.sym p.block), SV.int IntKind.i64 (SI.sym p.want),
                  SV.rd true false (Ty.int IntKind.u8) p.held, SV.bool (SB.sym p.bad), SV.bool (SB.sym p.whole)]
                (69 : Nat))]))
      (End.leaf (LV.one (VV.sc (SV.int IntKind.i64 (SI.sym (0 : Int)))))
        [some
            (Item.blk
              [SV.int IntKind.i64 (SI.sym p.part), SV.int IntKind.i64 (SI.sym p.blocks),
                SV.int IntKind.i64 (SI.sym p.block), SV.int IntKind.i64 (SI.sym p.want),
                SV.rd true false (Ty.int IntKind.u8) p.held, SV.bool (SB.sym p.bad), SV.bool (SB.sym p.whole)]
              (69 : Nat))]) := by kernel_rfl
def newR : RR := ⟨1, 0, 0, 8, [], false, false⟩
noncomputable def rnewE : Ent := Ent.of [] lNil lNil fun _ _ => .leaf none (.one (.sc (.ptr 0 0))) [(0, rI newR)]
theorem rnew_tree  : fnT Try.prog [] [] Try.f22 [] [] [symR, .auto] =
    End.leaf (LV.one (VV.sc (SV.ptr (0 : Nat) (0 : Nat))))
      [some
          (Item.blk
            [SV.int IntKind.i64 (SI.sym (1 : Int)), SV.int IntKind.i64 (SI.sym (0 : Int)),
              SV.int IntKind.i64 (SI.sym (0 : Int)), SV.int IntKind.i64 (SI.sym (8 : Int)),
              SV.rd true false (Ty.int IntKind.u8) [], SV.bool (SB.sym false), SV.bool (SB.sym false)]
            (69 : Nat))] := by kernel_rfl
theorem rat_tree (a b : Int) : fnT Try.prog [] [] Try.f27 (iiA.wr (a, b, ())) [] [.fr [.sym], .auto] =
    End.ite (decide (a < (1 : Int)) == false)
      (End.ite (decide ((16 : Int) < a) == false)
        (End.ite (decide (b < (0 : Int)) == false)
          (End.ite (decide (a < b))
            (End.leaf (LV.tup [VV.sc (SV.con (Value.pointer none)), VV.sc (SV.int IntKind.i64 (SI.sym (1 : Int)))]) [])
            (End.leaf (LV.tup [VV.sc (SV.ptr (0 : Nat) (0 : Nat)), VV.sc (SV.int IntKind.i64 (SI.sym (0 : Int)))])
              [some
                  (Item.blk
                    [SV.int IntKind.i64 (SI.lit (4 : Int)), SV.int IntKind.i64 (SI.sym a), SV.int IntKind.i64 (SI.sym b),
                      SV.int IntKind.i64 (SI.lit (4 : Int)), SV.con (Value.slice none (0 : Nat) (0 : Nat)),
                      SV.bool (SB.lit false), SV.bool (SB.sym (b == a))]
                    (69 : Nat))]))
          (End.leaf (LV.tup [VV.sc (SV.con (Value.pointer none)), VV.sc (SV.int IntKind.i64 (SI.sym (1 : Int)))]) []))
        (End.leaf (LV.tup [VV.sc (SV.con (Value.pointer none)), VV.sc (SV.int IntKind.i64 (SI.sym (1 : Int)))]) []))
      (End.leaf (LV.tup [VV.sc (SV.con (Value.pointer none)), VV.sc (SV.int IntKind.i64 (SI.sym (1 : Int)))]) []) := by kernel_rfl
theorem rwant_ok : rwantE.Ok Try.prog 42 := by
  refine (Ent.ofOk Try.call42 fun x y Q h => ?_).sym
  obtain ⟨p, _⟩ := y
  refine (fnT_ok mixed tab0 Try.func42 rfl (LT := []) (ks := [.fr [.sym], symR, .auto]) (LOk.nil _)).use (D := []) ?_ h.2
  show (fnT _ _ _ _ ((lSkip p0 lNil).wr ()) (hpR.wr (p, ())) _).sat _
  rw [rwant_tree]
  exact ⟨fun h1 => ⟨fun h2 => ⟨by simp [h2], rfl⟩, fun h2 => ⟨by simp at h1; simp [h1, h2], rfl⟩⟩, fun h1 => ⟨by simp at h1; simp [h1], rfl⟩⟩
theorem rnew_ok : rnewE.Ok Try.prog 22 := by
  refine Ent.ofOk Try.call22 fun x y Q h => ?_
  refine (fnT_ok mixed tab0 Try.func22 rfl (LT := []) (ks := [symR, .auto]) (LOk.nil _)).use (D := [(0, rI newR)]) ?_ h.2
  show (fnT _ _ _ _ [] [] _).sat _
  rw [rnew_tree]
  exact ⟨rfl, rfl⟩
/-- bytes as a number, the lowest one first -/
def numW : List Int → Int
  | [] => 0
  | x :: l => IntKind.u64.wrap (IntKind.u64.wrap (numW l * 256) + IntKind.u64.wrap x)
abbrev nbC : Cod (List LV) (List Int × Int × Int × Unit) := lCons (vOne (sRd false false u8)) (jk 2 (lCons (vOne (sInt .u64)) (lCons (vOne (sInt .i64)) (jk 16 lNil))))
abbrev nbE : Cod (List LV) (Int × Unit) := jk 3 (lCons (vOne (sInt .u64)) (jk 17 lNil))
abbrev nbK : List Wk := [.fr (fmS 21 [(0, .keep), (3, .sym), (4, .sym)])]
abbrev nbX : List Wk := [.fr (fmS 21 [(3, .sym)])]
noncomputable abbrev nbFn : Func := Try.f52
theorem nb_rnd (l : List Int) (n i : Int) : rndT Try.prog [] [] nbFn 0 [] (wsE nbK 0 nbX) ((stC nbC lNil).wr ((l, n, i, ()), ())) =
    Res.ite (decide ((0 : Int) ≤ i))
      (Res.need ((0 : Int) ≤ i ∧ i < ↑l.length)
        (Res.leaf Exit.normal
          {
            fr :=
              [LV.one (VV.sc (SV.rd false false (Ty.int IntKind.u8) l)), LV.junk, LV.junk,
                LV.one
                  (VV.sc
                    (SV.int IntKind.u64
                      (SI.sym
                        (IntKind.u64.wrap
                          (IntKind.u64.wrap (n * (256 : Int)) + IntKind.u64.wrap (l.getD i.toNat (0 : Int))))))),
                LV.one (VV.sc (SV.int IntKind.i64 (SI.sym (IntKind.i64.wrap (i - (1 : Int)))))), LV.junk, LV.junk, LV.junk,
                LV.junk, LV.junk, LV.junk, LV.junk, LV.junk, LV.junk, LV.junk, LV.junk, LV.junk, LV.junk, LV.junk, LV.junk,
                LV.junk],
            hp := [] }))
      (Res.leaf (Exit.exit (0 : Nat))
        {
          fr :=
            [LV.junk, LV.junk, LV.junk, LV.one (VV.sc (SV.int IntKind.u64 (SI.sym n))), LV.junk, LV.junk, LV.junk, LV.junk,
              LV.junk, LV.junk, LV.junk, LV.junk, LV.junk, LV.junk, LV.junk, LV.junk, LV.junk, LV.junk, LV.junk, LV.junk,
              LV.junk],
          hp := [] }) := by kernel_rfl
theorem drop_getD {l : List Int} {j : Nat} (h : j < l.length) : l.drop j = l.getD j 0 :: l.drop (j + 1) := by
  rw [List.drop_eq_getElem_cons h, List.getD_eq_getElem?_getD, List.getElem?_eq_getElem h]; rfl
noncomputable def nbF (x : (List Int × Int × Int × Unit) × Unit) : Res :=
  .need (x.1.2.1 = 0 ∧ x.1.2.2.1 = IntKind.i64.wrap (x.1.1.length - 1) ∧ x.1.1.length ≤ 70368744177664) (.leaf (.exit 0) ((stC nbE lNil).wr ((numW x.1.1, ()), ())))
theorem nb_loop (x) : Ex Try.prog [] (.loop (loopAt nbFn 0)) ((stC nbC lNil).wr x) (nbF x) := by
  obtain ⟨⟨l, n, i, _⟩, _⟩ := x
  refine Ex.need fun ⟨h1, h2, h3⟩ => ?_
  simp only at h1 h2 h3
  rw [wrap_ok (by omega) (by omega)] at h2
  subst h1 h2
  have key := loopR mixed tab0 (LOk.nil _) (fun j => j) (fun j : Nat => (stC nbC lNil).wr ((l, numW (l.drop j), (j : Int) - 1, ()), ())) (fun j => j ≤ l.length)
    (fun j => .leaf (.exit 0) ((stC nbE lNil).wr ((numW l, ()), ()))) (fun j _ => nb_rnd l _ _) (fun j R hj hs => ?_) l.length (Nat.le_refl _)
  · simp only [List.drop_length] at key
    exact key
  · refine ⟨fun hb => ?_, fun hb => ?_⟩
    · have hlt : 0 < j := by simp at hb; omega
      obtain ⟨k, rfl⟩ : ∃ k, j = k + 1 := ⟨j - 1, by omega⟩
      refine ⟨⟨by omega, by omega⟩, .inl ⟨rfl, k, ?_, by omega, by omega, hs⟩⟩
      have e1 : IntKind.i64.wrap (((k + 1 : Nat) : Int) - 1 - 1) = (k : Int) - 1 := by rw [wrap_ok (by omega) (by omega)]; omega
      have e2 : (((k + 1 : Nat) : Int) - 1).toNat = k := by omega
      rw [e1, e2, drop_getD (show k < l.length by omega)]
      rfl
    · have : j = 0 := by simp at hb; omega
      subst this
      exact .inr ⟨by simp, hs⟩
noncomputable abbrev nbLT : LTab := [(0, loopF (stC nbC lNil) 0 nbK nbF)]
noncomputable def nbEnt : Ent := Ent.ofS [some u8] bA lNil fun x _ => .leaf (some (x.1.length ≤ 70368744177664)) (nU (numW x.1)) []
theorem nb_tree (l : List Int) : fnT Try.prog [] nbLT nbFn (bA.wr (l, ())) [] [.auto] =
    End.need
      ((0 : Int) = (0 : Int) ∧
        IntKind.i64.wrap (↑l.length - (1 : Int)) = IntKind.i64.wrap (↑l.length - (1 : Int)) ∧
          l.length ≤ (70368744177664 : Nat))
      (End.leaf (LV.one (VV.sc (SV.int IntKind.u64 (SI.sym (numW l))))) []) := by kernel_rfl
theorem nb_ok : nbEnt.Ok Try.prog 52 := by
  refine (Ent.ofOk Try.call52 fun x y Q h => ?_).sym
  obtain ⟨l, _⟩ := x
  obtain ⟨hl, hq⟩ := h
  have hl : l.length ≤ 70368744177664 := hl
  refine (fnT_ok mixed tab0 Try.func52 rfl (LT := nbLT) (ks := [.auto]) (LOk.ofTab (LTC rfl (loopF_ok (hp := []) nb_loop) LT0))).use (D := []) ?_ hq
  show (fnT _ _ _ _ (bA.wr (l, ())) [] _).sat _
  rw [nb_tree]
  exact ⟨⟨rfl, rfl, hl⟩, rfl, rfl⟩
/-! ### The sizes -/
def rtwo (l : List Int) (i : Nat) : Int := IntKind.i64.wrap (numW ((l.drop i).take 2))
theorem rsizes_tree (l : List Int) : fnT Try.prog [(52, nbEnt)] [] Try.f55 (bA.wr (l, ())) [] [.fr [.sym], .auto] =
    End.need ((0 : Int) ≤ (0 : Int) ∧ (0 : Int) ≤ (2 : Int) ∧ (2 : Int) ≤ ↑l.length)
      (End.need ((List.take (2 : Nat) (List.drop (0 : Nat) l)).length ≤ (70368744177664 : Nat))
        (End.need ((0 : Int) ≤ (2 : Int) ∧ (2 : Int) ≤ (4 : Int) ∧ (4 : Int) ≤ ↑l.length)
          (End.need ((List.take (2 : Nat) (List.drop (2 : Nat) l)).length ≤ (70368744177664 : Nat))
            (End.ite (decide ((1 : Int) ≤ IntKind.i64.wrap (numW (List.take (2 : Nat) (List.drop (0 : Nat) l)))) == true)
              (End.ite
                (decide (IntKind.i64.wrap (numW (List.take (2 : Nat) (List.drop (0 : Nat) l))) ≤ (4096 : Int)) == true)
                (End.ite
                  (decide ((1 : Int) ≤ IntKind.i64.wrap (numW (List.take (2 : Nat) (List.drop (2 : Nat) l)))) == true)
                  (End.leaf
                    (LV.tup
                      [VV.sc
                          (SV.int IntKind.i64
                            (SI.sym (IntKind.i64.wrap (numW (List.take (2 : Nat) (List.drop (0 : Nat) l)))))),
                        VV.sc
                          (SV.int IntKind.i64
                            (SI.sym (IntKind.i64.wrap (numW (List.take (2 : Nat) (List.drop (2 : Nat) l)))))),
                        VV.sc
                          (SV.bool
                            (SB.sym
                              (decide
                                (IntKind.i64.wrap (numW (List.take (2 : Nat) (List.drop (2 : Nat) l))) ≤ (8192 : Int)))))])
                    [])
                  (End.leaf
                    (LV.tup
                      [VV.sc
                          (SV.int IntKind.i64
                            (SI.sym (IntKind.i64.wrap (numW (List.take (2 : Nat) (List.drop (0 : Nat) l)))))),
                        VV.sc
                          (SV.int IntKind.i64
                            (SI.sym (IntKind.i64.wrap (numW (List.take (2 : Nat) (List.drop (2 : Nat) l)))))),
                        VV.sc (SV.bool (SB.sym false))])
                    []))
                (End.leaf
                  (LV.tup
                    [VV.sc
                        (SV.int IntKind.i64
                          (SI.sym (IntKind.i64.wrap (numW (List.take (2 : Nat) (List.drop (0 : Nat) l)))))),
                      VV.sc
                        (SV.int IntKind.i64
                          (SI.sym (IntKind.i64.wrap (numW (List.take (2 : Nat) (List.drop (2 : Nat) l)))))),
                      VV.sc (SV.bool (SB.sym false))])
                  []))
              (End.leaf
                (LV.tup
                  [VV.sc
                      (SV.int IntKind.i64 (SI.sym (IntKind.i64.wrap (numW (List.take (2 : Nat) (List.drop (0 : Nat) l)))))),
                    VV.sc
                      (SV.int IntKind.i64 (SI.sym (IntKind.i64.wrap (numW (List.take (2 : Nat) (List.drop (2 : Nat) l)))))),
                    VV.sc (SV.bool (SB.sym false))])
                []))))) := by kernel_rfl
def rsizeOk (l : List Int) : Bool := decide (1 ≤ rtwo l 0 ∧ rtwo l 0 ≤ 4096 ∧ 1 ≤ rtwo l 2 ∧ rtwo l 2 ≤ 8192)
noncomputable def rsizesE : Ent := Ent.ofS [some u8] bA lNil fun x _ => .leaf (some (4 ≤ x.1.length)) (.tup [.sc (.int .i64 (.sym (rtwo x.1 0))), .sc (.int .i64 (.sym (rtwo x.1 2))), .sc (.bool (.sym (rsizeOk x.1)))]) []
theorem rsizes_ok : rsizesE.Ok Try.prog 55 := by
  refine (Ent.ofOk Try.call55 fun x y Q h => ?_).sym
  obtain ⟨l, _⟩ := x
  obtain ⟨hl, hq⟩ := h
  have hl : 4 ≤ l.length := hl
  refine (fnT_ok mixed (tabC nb_ok tab0) Try.func55 rfl (LT := []) (ks := [.fr [.sym], .auto]) (LOk.nil _)).use (D := []) ?_ hq
  show (fnT _ _ _ _ (bA.wr (l, ())) [] _).sat _
  rw [rsizes_tree]
  have key : ∀ {b : Bool}, b = rsizeOk l → LV.tup [.sc (.int .i64 (.sym (rtwo l 0))), .sc (.int .i64 (.sym (rtwo l 2))), .sc (.bool (.sym b))] = LV.tup [.sc (.int .i64 (.sym (rtwo l 0))), .sc (.int .i64 (.sym (rtwo l 2))), .sc (.bool (.sym (rsizeOk l)))] := fun h => by rw [h]
  have e0 : rtwo l 0 = IntKind.i64.wrap (numW ((l.drop 0).take 2)) := rfl
  have e2 : rtwo l 2 = IntKind.i64.wrap (numW ((l.drop 2).take 2)) := rfl
  rw [← e0, ← e2]
  refine ⟨by omega, by simp; omega, by omega, by simp; omega, fun h1 => ⟨fun h2 => ⟨fun h3 => ⟨key ?_, rfl⟩, fun h3 => ⟨key ?_, rfl⟩⟩, fun h2 => ⟨key ?_, rfl⟩⟩, fun h1 => ⟨key ?_, rfl⟩⟩ <;> simp_all [rsizeOk] <;> omega

/-! ### A byte -/
def rnextF (r : RR) (l : List Int) : RR :=
  if r.part = 1 then { r with held := [], bad := !(getHeadF l).2, blocks := (getHeadF l).1.2, part := 2, want := 216 }
  else if r.part = 2 then { r with held := [], part := 3, want := IntKind.i64.wrap (64 * r.blocks) }
  else if r.part = 3 then { r with held := [], part := 4, want := 4 }
  else if r.part = 4 then { r with held := [], bad := !rsizeOk l, part := 5, want := rtwo l 0 }
  else { r with held := [], block := IntKind.i64.wrap (r.block + 1), whole := IntKind.i64.wrap (r.block + 1) == r.blocks, part := 4, want := 4 }
def rbyteF (r : RR) (b : Int) : RR × (Int × List Int × Bool × Int) :=
  if r.bad = true ∨ r.whole = true then ({ r with bad := true }, 0, [], false, 6)
  else if (r.held.length : Int) + 1 < r.want then ({ r with held := r.held ++ [b] }, 0, [], false, 0)
  else
    let q := rnextF r (r.held ++ [b])
    if q.bad = true then (q, 0, [], false, 6) else (q, r.part, r.held ++ [b], true, 0)
noncomputable def rbyteE : Ent := Ent.ofS [] pcA hpR fun x h => .leaf (some (h.1.held.length ≤ 4096 ∧ (h.1.part = 4 → h.1.want = 4))) (byteV (rbyteF h.1 x.1).2) [(0, rI (rbyteF h.1 x.1).1)]
theorem rbyte_tree (r : RR) (b : Int) : fnT Try.prog [(33, getHeadE), (55, rsizesE)] [] Try.f43 (pcA.wr (b, ())) (hpR.wr (r, ())) [.fr [.sym], .pubs, .fr [.rd true u8], symR, .auto] =
    End.ite (r.bad == false)
      (End.ite r.whole
        (End.leaf
          (LV.tup
            [VV.agg [SV.int IntKind.i64 (SI.sym (0 : Int)), SV.rd true false (Ty.int IntKind.u8) []],
              VV.sc (SV.bool (SB.sym false)), VV.sc (SV.int IntKind.i64 (SI.sym (6 : Int)))])
          [some
              (Item.blk
                [SV.int IntKind.i64 (SI.sym r.part), SV.int IntKind.i64 (SI.sym r.blocks),
                  SV.int IntKind.i64 (SI.sym r.block), SV.int IntKind.i64 (SI.sym r.want),
                  SV.rd true false (Ty.int IntKind.u8) r.held, SV.bool (SB.sym r.whole), SV.bool (SB.sym r.whole)]
                (69 : Nat))])
        (End.need (r.held.length * (1 : Nat) ≤ (70368744177664 : Nat) ∧ r.held.length ≤ (70368744177664 : Nat))
          (End.need
            ((r.held.length + (1 : Nat)) * (1 : Nat) ≤ (70368744177664 : Nat) ∧
              r.held.length + (1 : Nat) ≤ (70368744177664 : Nat))
            (End.ite (decide (↑(r.held ++ [b]).length < r.want))
              (End.leaf
                (LV.tup
                  [VV.agg [SV.int IntKind.i64 (SI.sym (0 : Int)), SV.rd true false (Ty.int IntKind.u8) []],
                    VV.sc (SV.bool (SB.sym false)), VV.sc (SV.int IntKind.i64 (SI.sym (0 : Int)))])
                [some
                    (Item.blk
                      [SV.int IntKind.i64 (SI.sym r.part), SV.int IntKind.i64 (SI.sym r.blocks),
                        SV.int IntKind.i64 (SI.sym r.block), SV.int IntKind.i64 (SI.sym r.want),
                        SV.rd true false (Ty.int IntKind.u8) (r.held ++ [b]), SV.bool (SB.sym r.whole),
                        SV.bool (SB.sym r.whole)]
                      (69 : Nat))])
              (End.ite (r.part == (1 : Int))
                (End.ite (!(getHeadF (r.held ++ [b])).snd)
                  (End.leaf
                    (LV.tup
                      [VV.agg [SV.int IntKind.i64 (SI.sym (0 : Int)), SV.rd true false (Ty.int IntKind.u8) []],
                        VV.sc (SV.bool (SB.sym false)), VV.sc (SV.int IntKind.i64 (SI.sym (6 : Int)))])
                    [some
                        (Item.blk
                          [SV.int IntKind.i64 (SI.sym (2 : Int)),
                            SV.int IntKind.i64 (SI.sym (getHeadF (r.held ++ [b])).fst.snd),
                            SV.int IntKind.i64 (SI.sym r.block), SV.int IntKind.i64 (SI.sym (216 : Int)),
                            SV.rd true false (Ty.int IntKind.u8) [], SV.bool (SB.sym !(getHeadF (r.held ++ [b])).snd),
                            SV.bool (SB.sym r.whole)]
                          (69 : Nat))])
                  (End.leaf
                    (LV.tup
                      [VV.agg [SV.int IntKind.i64 (SI.sym r.part), SV.rd true false (Ty.int IntKind.u8) (r.held ++ [b])],
                        VV.sc (SV.bool (SB.sym true)), VV.sc (SV.int IntKind.i64 (SI.sym (0 : Int)))])
                    [some
                        (Item.blk
                          [SV.int IntKind.i64 (SI.sym (2 : Int)),
                            SV.int IntKind.i64 (SI.sym (getHeadF (r.held ++ [b])).fst.snd),
                            SV.int IntKind.i64 (SI.sym r.block), SV.int IntKind.i64 (SI.sym (216 : Int)),
                            SV.rd true false (Ty.int IntKind.u8) [], SV.bool (SB.sym !(getHeadF (r.held ++ [b])).snd),
                            SV.bool (SB.sym r.whole)]
                          (69 : Nat))]))
                (End.ite (r.part == (2 : Int))
                  (End.ite r.whole
                    (End.leaf
                      (LV.tup
                        [VV.agg [SV.int IntKind.i64 (SI.sym (0 : Int)), SV.rd true false (Ty.int IntKind.u8) []],
                          VV.sc (SV.bool (SB.sym false)), VV.sc (SV.int IntKind.i64 (SI.sym (6 : Int)))])
                      [some
                          (Item.blk
                            [SV.int IntKind.i64 (SI.sym (3 : Int)), SV.int IntKind.i64 (SI.sym r.blocks),
                              SV.int IntKind.i64 (SI.sym r.block),
                              SV.int IntKind.i64 (SI.sym (IntKind.i64.wrap ((64 : Int) * r.blocks))),
                              SV.rd true false (Ty.int IntKind.u8) [], SV.bool (SB.sym r.whole), SV.bool (SB.sym r.whole)]
                            (69 : Nat))])
                    (End.leaf
                      (LV.tup
                        [VV.agg [SV.int IntKind.i64 (SI.sym r.part), SV.rd true false (Ty.int IntKind.u8) (r.held ++ [b])],
                          VV.sc (SV.bool (SB.sym true)), VV.sc (SV.int IntKind.i64 (SI.sym (0 : Int)))])
                      [some
                          (Item.blk
                            [SV.int IntKind.i64 (SI.sym (3 : Int)), SV.int IntKind.i64 (SI.sym r.blocks),
                              SV.int IntKind.i64 (SI.sym r.block),
                              SV.int IntKind.i64 (SI.sym (IntKind.i64.wrap ((64 : Int) * r.blocks))),
                              SV.rd true false (Ty.int IntKind.u8) [], SV.bool (SB.sym r.whole), SV.bool (SB.sym r.whole)]
                            (69 : Nat))]))
                  (End.ite (r.part == (3 : Int))
                    (End.ite r.whole
                      (End.leaf
                        (LV.tup
                          [VV.agg [SV.int IntKind.i64 (SI.sym (0 : Int)), SV.rd true false (Ty.int IntKind.u8) []],
                            VV.sc (SV.bool (SB.sym false)), VV.sc (SV.int IntKind.i64 (SI.sym (6 : Int)))])
                        [some
                            (Item.blk
                              [SV.int IntKind.i64 (SI.sym (4 : Int)), SV.int IntKind.i64 (SI.sym r.blocks),
                                SV.int IntKind.i64 (SI.sym r.block), SV.int IntKind.i64 (SI.sym (4 : Int)),
                                SV.rd true false (Ty.int IntKind.u8) [], SV.bool (SB.sym r.whole), SV.bool (SB.sym r.whole)]
                              (69 : Nat))])
                      (End.leaf
                        (LV.tup
                          [VV.agg
                              [SV.int IntKind.i64 (SI.sym r.part), SV.rd true false (Ty.int IntKind.u8) (r.held ++ [b])],
                            VV.sc (SV.bool (SB.sym true)), VV.sc (SV.int IntKind.i64 (SI.sym (0 : Int)))])
                        [some
                            (Item.blk
                              [SV.int IntKind.i64 (SI.sym (4 : Int)), SV.int IntKind.i64 (SI.sym r.blocks),
                                SV.int IntKind.i64 (SI.sym r.block), SV.int IntKind.i64 (SI.sym (4 : Int)),
                                SV.rd true false (Ty.int IntKind.u8) [], SV.bool (SB.sym r.whole), SV.bool (SB.sym r.whole)]
                              (69 : Nat))]))
                    (End.ite (r.part == (4 : Int))
                      (End.need ((4 : Nat) ≤ (r.held ++ [b]).length)
                        (End.ite (!rsizeOk (r.held ++ [b]))
                          (End.leaf
                            (LV.tup
                              [VV.agg [SV.int IntKind.i64 (SI.sym (0 : Int)), SV.rd true false (Ty.int IntKind.u8) []],
                                VV.sc (SV.bool (SB.sym false)), VV.sc (SV.int IntKind.i64 (SI.sym (6 : Int)))])
                            [some
                                (Item.blk
                                  [SV.int IntKind.i64 (SI.sym (5 : Int)), SV.int IntKind.i64 (SI.sym r.blocks),
                                    SV.int IntKind.i64 (SI.sym r.block),
                                    SV.int IntKind.i64 (SI.sym (rtwo (r.held ++ [b]) (0 : Nat))),
                                    SV.rd true false (Ty.int IntKind.u8) [], SV.bool (SB.sym !rsizeOk (r.held ++ [b])),
                                    SV.bool (SB.sym r.whole)]
                                  (69 : Nat))])
                          (End.leaf
                            (LV.tup
                              [VV.agg
                                  [SV.int IntKind.i64 (SI.sym r.part),
                                    SV.rd true false (Ty.int IntKind.u8) (r.held ++ [b])],
                                VV.sc (SV.bool (SB.sym true)), VV.sc (SV.int IntKind.i64 (SI.sym (0 : Int)))])
                            [some
                                (Item.blk
                                  [SV.int IntKind.i64 (SI.sym (5 : Int)), SV.int IntKind.i64 (SI.sym r.blocks),
                                    SV.int IntKind.i64 (SI.sym r.block),
                                    SV.int IntKind.i64 (SI.sym (rtwo (r.held ++ [b]) (0 : Nat))),
                                    SV.rd true false (Ty.int IntKind.u8) [], SV.bool (SB.sym !rsizeOk (r.held ++ [b])),
                                    SV.bool (SB.sym r.whole)]
                                  (69 : Nat))])))
                      (End.ite r.whole
                        (End.leaf
                          (LV.tup
                            [VV.agg [SV.int IntKind.i64 (SI.sym (0 : Int)), SV.rd true false (Ty.int IntKind.u8) []],
                              VV.sc (SV.bool (SB.sym false)), VV.sc (SV.int IntKind.i64 (SI.sym (6 : Int)))])
                          [some
                              (Item.blk
                                [SV.int IntKind.i64 (SI.sym (4 : Int)), SV.int IntKind.i64 (SI.sym r.blocks),
                                  SV.int IntKind.i64 (SI.sym (IntKind.i64.wrap (r.block + (1 : Int)))),
                                  SV.int IntKind.i64 (SI.sym (4 : Int)), SV.rd true false (Ty.int IntKind.u8) [],
                                  SV.bool (SB.sym r.whole),
                                  SV.bool (SB.sym (IntKind.i64.wrap (r.block + (1 : Int)) == r.blocks))]
                                (69 : Nat))])
                        (End.leaf
                          (LV.tup
                            [VV.agg
                                [SV.int IntKind.i64 (SI.sym r.part), SV.rd true false (Ty.int IntKind.u8) (r.held ++ [b])],
                              VV.sc (SV.bool (SB.sym true)), VV.sc (SV.int IntKind.i64 (SI.sym (0 : Int)))])
                          [some
                              (Item.blk
                                [SV.int IntKind.i64 (SI.sym (4 : Int)), SV.int IntKind.i64 (SI.sym r.blocks),
                                  SV.int IntKind.i64 (SI.sym (IntKind.i64.wrap (r.block + (1 : Int)))),
                                  SV.int IntKind.i64 (SI.sym (4 : Int)), SV.rd true false (Ty.int IntKind.u8) [],
                                  SV.bool (SB.sym r.whole),
                                  SV.bool (SB.sym (IntKind.i64.wrap (r.block + (1 : Int)) == r.blocks))]
                                (69 : Nat))]))))))))))
      (End.leaf
        (LV.tup
          [VV.agg [SV.int IntKind.i64 (SI.sym (0 : Int)), SV.rd true false (Ty.int IntKind.u8) []],
            VV.sc (SV.bool (SB.sym false)), VV.sc (SV.int IntKind.i64 (SI.sym (6 : Int)))])
        [some
            (Item.blk
              [SV.int IntKind.i64 (SI.sym r.part), SV.int IntKind.i64 (SI.sym r.blocks),
                SV.int IntKind.i64 (SI.sym r.block), SV.int IntKind.i64 (SI.sym r.want),
                SV.rd true false (Ty.int IntKind.u8) r.held, SV.bool (SB.sym true), SV.bool (SB.sym r.whole)]
              (69 : Nat))]) := by kernel_rfl
theorem rbyte_ok : rbyteE.Ok Try.prog 43 := by
  refine (Ent.ofOk Try.call43 fun x y Q h => ?_).sym
  obtain ⟨r, _⟩ := y
  obtain ⟨b, _⟩ := x
  obtain ⟨hl, hq⟩ := h
  have hl : r.held.length ≤ 4096 ∧ (r.part = 4 → r.want = 4) := hl
  refine (fnT_ok mixed (tabC getHead'_ok (tabC rsizes_ok tab0)) Try.func43 rfl (LT := []) (ks := [.fr [.sym], .pubs, .fr [.rd true u8], symR, .auto]) (LOk.nil _)).use (D := [(0, rI (rbyteF r b).1)]) ?_ hq
  show (fnT _ _ _ _ (pcA.wr (b, ())) (hpR.wr (r, ())) _).sat _
  rw [rbyte_tree]
  clear hq
  obtain ⟨part, blocks, block, want, held, bad, whole⟩ := r
  obtain ⟨hl1, hl2⟩ := hl
  simp only at hl1 hl2
  cases bad with
  | true =>
    refine ⟨fun h => (by cases h), fun _ => ?_⟩
    have e : rbyteF ⟨part, blocks, block, want, held, true, whole⟩ b = (⟨part, blocks, block, want, held, true, whole⟩, 0, [], false, 6) := by simp [rbyteF]
    rw [e]; exact ⟨rfl, rfl⟩
  | false => cases whole with
    | true =>
      refine ⟨fun _ => ⟨fun _ => ?_, fun h => (by cases h)⟩, fun h => (by cases h)⟩
      have e : rbyteF ⟨part, blocks, block, want, held, false, true⟩ b = (⟨part, blocks, block, want, held, true, true⟩, 0, [], false, 6) := by simp [rbyteF]
      rw [e]; exact ⟨rfl, rfl⟩
    | false =>
      refine ⟨fun _ => ⟨fun h => (by cases h), fun _ => ⟨⟨by show held.length * 1 ≤ _; omega, by show held.length ≤ _; omega⟩, ⟨by show (held.length + 1) * 1 ≤ _; omega, by show held.length + 1 ≤ _; omega⟩, fun h3 => ?_, fun h3 => ?_⟩⟩, fun h => (by cases h)⟩
      · have h3' : (held.length : Int) + 1 < want := by simpa using h3
        have e : rbyteF ⟨part, blocks, block, want, held, false, false⟩ b = (⟨part, blocks, block, want, held ++ [b], false, false⟩, 0, [], false, 0) := by simp [rbyteF, h3']
        rw [e]; exact ⟨rfl, rfl⟩
      · have h3' : ¬ (held.length : Int) + 1 < want := by simpa using h3
        refine ⟨fun h4 => ⟨fun h5 => ?_, fun h5 => ?_⟩, fun h4 => ⟨fun h5 => ⟨fun h => (by cases h), fun _ => ?_⟩, fun h5 => ⟨fun h6 => ⟨fun h => (by cases h), fun _ => ?_⟩, fun h6 => ⟨fun h7 => ⟨?_, fun h8 => ?_, fun h8 => ?_⟩, fun h7 => ⟨fun h => (by cases h), fun _ => ?_⟩⟩⟩⟩⟩
        · have h4' : part = 1 := beq_iff_eq.1 h4
          have e : rbyteF ⟨part, blocks, block, want, held, false, false⟩ b = (⟨2, (getHeadF (held ++ [b])).1.2, block, 216, [], !(getHeadF (held ++ [b])).2, false⟩, 0, [], false, 6) := by
            simp at h5; simp [rbyteF, rnextF, h3', h4', h5]
          rw [e]; exact ⟨rfl, rfl⟩
        · have h4' : part = 1 := beq_iff_eq.1 h4
          have e : rbyteF ⟨part, blocks, block, want, held, false, false⟩ b = (⟨2, (getHeadF (held ++ [b])).1.2, block, 216, [], !(getHeadF (held ++ [b])).2, false⟩, part, held ++ [b], true, 0) := by
            simp at h5; simp [rbyteF, rnextF, h3', h4', h5]
          rw [e]; exact ⟨rfl, rfl⟩
        · have h5' : part = 2 := beq_iff_eq.1 h5
          have e : rbyteF ⟨part, blocks, block, want, held, false, false⟩ b = (⟨3, blocks, block, IntKind.i64.wrap (64 * blocks), [], false, false⟩, part, held ++ [b], true, 0) := by
            simp [rbyteF, rnextF, h3', h5']
          rw [e]; exact ⟨rfl, rfl⟩
        · have h6' : part = 3 := beq_iff_eq.1 h6
          have e : rbyteF ⟨part, blocks, block, want, held, false, false⟩ b = (⟨4, blocks, block, 4, [], false, false⟩, part, held ++ [b], true, 0) := by
            simp [rbyteF, rnextF, h3', h6']
          rw [e]; exact ⟨rfl, rfl⟩
        · have := hl2 (beq_iff_eq.1 h7)
          simp; omega
        · have h7' : part = 4 := beq_iff_eq.1 h7
          have e : rbyteF ⟨part, blocks, block, want, held, false, false⟩ b = (⟨5, blocks, block, rtwo (held ++ [b]) 0, [], !rsizeOk (held ++ [b]), false⟩, 0, [], false, 6) := by
            simp at h8; simp [rbyteF, rnextF, h3', h7', h8]
          rw [e]; exact ⟨rfl, rfl⟩
        · have h7' : part = 4 := beq_iff_eq.1 h7
          have e : rbyteF ⟨part, blocks, block, want, held, false, false⟩ b = (⟨5, blocks, block, rtwo (held ++ [b]) 0, [], !rsizeOk (held ++ [b]), false⟩, part, held ++ [b], true, 0) := by
            simp at h8; simp [rbyteF, rnextF, h3', h7', h8]
          rw [e]; exact ⟨rfl, rfl⟩
        · simp at h4 h5 h6 h7
          have e : rbyteF ⟨part, blocks, block, want, held, false, false⟩ b = (⟨4, blocks, IntKind.i64.wrap (block + 1), 4, [], false, IntKind.i64.wrap (block + 1) == blocks⟩, part, held ++ [b], true, 0) := by
            simp [rbyteF, rnextF, h3', h4, h5, h6, h7]
          rw [e]; exact ⟨rfl, rfl⟩
end Go.Proofs.Ytdpbkfmjknmmnaa
