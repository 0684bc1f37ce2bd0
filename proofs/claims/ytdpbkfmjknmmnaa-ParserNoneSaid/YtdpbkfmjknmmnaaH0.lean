/- Parsers: the program's. -/
import Derived.Test.YtdpbkfmjknmmnaaG4
set_option linter.unusedVariables false
set_option linter.unusedSimpArgs false
namespace Go.Proofs.Ytdpbkfmjknmmnaa
open Go Go.Ev
set_option maxRecDepth 100000

abbrev rdt (l : List Int) : LV := .one (.sc (.rd true false u8 l))
noncomputable def cloneE : Ent := Ent.ofS [some u8] bA lNil fun x _ => .leaf (some (x.1.length ≤ 70368744177664)) (rdt x.1) []
theorem clone1_tree  : fnT Try.prog [] [] Try.f44 [.one (.sc (.con (.slice none 0 0)))] [] [.pubF 0 u8, .auto] =
    End.leaf (LV.one (VV.sc (SV.rd true false (Ty.int IntKind.u8) []))) [] := by kernel_rfl
theorem clone2_tree (l : List Int) : fnT Try.prog [] [] Try.f44 [.one (.sc (.rd false true u8 l))] [] [.pubF 0 u8, .auto] =
    End.need (((0 : Nat) + l.length) * (1 : Nat) ≤ (70368744177664 : Nat) ∧ (0 : Nat) + l.length ≤ (70368744177664 : Nat))
      (End.leaf (LV.one (VV.sc (SV.rd true false (Ty.int IntKind.u8) ([] ++ l)))) []) := by kernel_rfl
theorem clone_ok : cloneE.Ok Try.prog 44 := by
  refine (Ent.ofOk Try.call44 fun x y Q h => ?_).sym
  obtain ⟨l, _⟩ := x
  obtain ⟨hl, hq⟩ := h
  have hl : l.length ≤ 70368744177664 := hl
  refine CallsEv.rdCases (x := []) (y := []) (fun e => ?_) ?_
  · subst e
    refine (fnT_ok mixed tab0 Try.func44 rfl (LT := []) (ks := [.pubF 0 u8, .auto]) (LOk.nil _)).use (D := []) ?_ hq
    show (fnT _ _ _ _ [.one (.sc (.con (.slice none 0 0)))] [] _).sat _
    rw [clone1_tree]
    exact ⟨rfl, rfl⟩
  · refine (fnT_ok mixed tab0 Try.func44 rfl (LT := []) (ks := [.pubF 0 u8, .auto]) (LOk.nil _)).use (D := []) ?_ hq
    show (fnT _ _ _ _ [.one (.sc (.rd false true u8 l))] [] _).sat _
    rw [clone2_tree]
    exact ⟨⟨by omega, by omega⟩, rfl, rfl⟩

structure PP where
  blocks : Int
  block : Int
  part : Int
  len : Int
  want : Int
  buf : List Int
  bad : Bool
abbrev cPP : Cod (List SV) PP := (lCons (sInt .i64) (lCons (sInt .i64) (lCons (sInt .i64) (lCons (sInt .i64) (lCons (sInt .i64) (lCons (sArr u8 4096) (lCons sBool lNil))))))).iso
  (fun x => ⟨x.1, x.2.1, x.2.2.1, x.2.2.2.1, x.2.2.2.2.1, x.2.2.2.2.2.1, x.2.2.2.2.2.2.1⟩) (fun p => (p.blocks, p.block, p.part, p.len, p.want, p.buf, p.bad, ())) (fun _ => rfl)
abbrev pI (p : PP) : Ev.Item := .blk (cPP.wr p) 74
abbrev hpP : Cod Hp (PP × Unit) := lCons (iBlk 74 cPP) lNil
abbrev symP : Wk := .blk 0 (List.replicate 7 .sym)
abbrev p0 : Cod LV Unit := vOne (sPtr 0 0)

noncomputable def wantE : Ent := Ent.ofS [] (lSkip p0 lNil) hpP fun _ h => .leaf none (nI (if h.1.bad then 0 else IntKind.i64.wrap (h.1.want - h.1.len))) []
noncomputable def wholeE : Ent := Ent.ofS [] (lSkip p0 lNil) hpP fun _ h => .leaf none (nB (h.1.part == 0)) []
noncomputable def goesE : Ent := Ent.ofS [] (lSkip p0 (lCons (vOne (sInt .i64)) (lCons (vOne (sInt .i64)) lNil))) hpP fun x h => .leaf none (.tup []) [(0, pI { h.1 with part := x.1, len := 0, want := x.2.1 })]
def sizesF (p : PP) : PP := if p.block < p.blocks then { p with part := 4, len := 0, want := 4 } else { p with part := 0, len := 0, want := 0 }
noncomputable def sizesE : Ent := Ent.ofS [] (lSkip p0 lNil) hpP fun _ h => .leaf none (.tup []) [(0, pI (sizesF h.1))]
/-- the sizes that a block begins with -/
def two (l : List Int) (i : Nat) : Int := bitOr .i64 (IntKind.i64.wrap (l.getD i 0)) (shl .i64 (IntKind.i64.wrap (l.getD (i + 1) 0)) 8)
def sizeOk (l : List Int) : Bool := decide (1 ≤ two l 0 ∧ two l 0 ≤ 4096 ∧ 1 ≤ two l 2 ∧ two l 2 ≤ 8192)
noncomputable def isizesE : Ent := Ent.ofS [some u8] bA lNil fun x _ => .leaf (some (4 ≤ x.1.length)) (.tup [.sc (.int .i64 (.sym (two x.1 0))), .sc (.int .i64 (.sym (two x.1 2))), .sc (.bool (.sym (sizeOk x.1)))]) []

theorem want_tree (p : PP) : fnT Try.prog [] [] Try.f23 ((lSkip p0 lNil).wr ()) (hpP.wr (p, ())) [.fr [.sym], symP, .auto] =
    End.ite p.bad
      (End.leaf (LV.one (VV.sc (SV.int IntKind.i64 (SI.sym (0 : Int)))))
        [some
            (Item.blk
              [SV.int IntKind.i64 (SI.sym p.blocks), SV.int IntKind.i64 (SI.sym p.block),
                SV.int IntKind.i64 (SI.sym p.part), SV.int IntKind.i64 (SI.sym p.len), SV.int IntKind.i64 (SI.sym p.want),
                SV.arr (Ty.int IntKind.u8) (4096 : Nat) p.buf, SV.bool (SB.sym p.bad)]
              (74 : Nat))])
      (End.leaf (LV.one (VV.sc (SV.int IntKind.i64 (SI.sym (IntKind.i64.wrap (p.want - p.len))))))
        [some
            (Item.blk
              [SV.int IntKind.i64 (SI.sym p.blocks), SV.int IntKind.i64 (SI.sym p.block),
                SV.int IntKind.i64 (SI.sym p.part), SV.int IntKind.i64 (SI.sym p.len), SV.int IntKind.i64 (SI.sym p.want),
                SV.arr (Ty.int IntKind.u8) (4096 : Nat) p.buf, SV.bool (SB.sym p.bad)]
              (74 : Nat))]) := by kernel_rfl
theorem whole_tree (p : PP) : fnT Try.prog [] [] Try.f28 ((lSkip p0 lNil).wr ()) (hpP.wr (p, ())) [.fr [.sym], symP, .auto] =
    End.leaf (LV.one (VV.sc (SV.bool (SB.sym (p.part == (0 : Int))))))
      [some
          (Item.blk
            [SV.int IntKind.i64 (SI.sym p.blocks), SV.int IntKind.i64 (SI.sym p.block), SV.int IntKind.i64 (SI.sym p.part),
              SV.int IntKind.i64 (SI.sym p.len), SV.int IntKind.i64 (SI.sym p.want),
              SV.arr (Ty.int IntKind.u8) (4096 : Nat) p.buf, SV.bool (SB.sym p.bad)]
            (74 : Nat))] := by kernel_rfl
theorem goes_tree (p : PP) (x y : Int) : fnT Try.prog [] [] Try.f56 ((lSkip p0 (lCons (vOne (sInt .i64)) (lCons (vOne (sInt .i64)) lNil))).wr (x, y, ())) (hpP.wr (p, ())) [symP, .auto] =
    End.leaf (LV.tup [])
      [some
          (Item.blk
            [SV.int IntKind.i64 (SI.sym p.blocks), SV.int IntKind.i64 (SI.sym p.block), SV.int IntKind.i64 (SI.sym x),
              SV.int IntKind.i64 (SI.sym (0 : Int)), SV.int IntKind.i64 (SI.sym y),
              SV.arr (Ty.int IntKind.u8) (4096 : Nat) p.buf, SV.bool (SB.sym p.bad)]
            (74 : Nat))] := by kernel_rfl
theorem sizes_tree (p : PP) : fnT Try.prog [(56, goesE)] [] Try.f46 ((lSkip p0 lNil).wr ()) (hpP.wr (p, ())) [symP, .auto] =
    End.ite (decide (p.block < p.blocks))
      (End.leaf (LV.tup [])
        [some
            (Item.blk
              [SV.int IntKind.i64 (SI.sym p.blocks), SV.int IntKind.i64 (SI.sym p.block),
                SV.int IntKind.i64 (SI.sym (4 : Int)), SV.int IntKind.i64 (SI.sym (0 : Int)),
                SV.int IntKind.i64 (SI.sym (4 : Int)), SV.arr (Ty.int IntKind.u8) (4096 : Nat) p.buf,
                SV.bool (SB.sym p.bad)]
              (74 : Nat))])
      (End.leaf (LV.tup [])
        [some
            (Item.blk
              [SV.int IntKind.i64 (SI.sym p.blocks), SV.int IntKind.i64 (SI.sym p.block),
                SV.int IntKind.i64 (SI.sym (0 : Int)), SV.int IntKind.i64 (SI.sym (0 : Int)),
                SV.int IntKind.i64 (SI.sym (0 : Int)), SV.arr (Ty.int IntKind.u8) (4096 : Nat) p.buf,
                SV.bool (SB.sym p.bad)]
              (74 : Nat))]) := by kernel_rfl
theorem isizes_tree (l : List Int) : fnT Try.prog [] [] Try.f57 (bA.wr (l, ())) [] [.fr [.sym], .auto] =
    End.need ((0 : Int) ≤ (0 : Int) ∧ (0 : Int) < ↑l.length)
      (End.need ((0 : Int) ≤ (1 : Int) ∧ (1 : Int) < ↑l.length)
        (End.need ((0 : Int) ≤ (2 : Int) ∧ (2 : Int) < ↑l.length)
          (End.need ((0 : Int) ≤ (3 : Int) ∧ (3 : Int) < ↑l.length)
            (End.ite
              (decide
                  ((1 : Int) ≤
                    bitOr IntKind.i64 (IntKind.i64.wrap (l.getD (0 : Nat) (0 : Int)))
                      (shl IntKind.i64 (IntKind.i64.wrap (l.getD (1 : Nat) (0 : Int))) (8 : Int))) ==
                true)
              (End.ite
                (decide
                    (bitOr IntKind.i64 (IntKind.i64.wrap (l.getD (0 : Nat) (0 : Int)))
                        (shl IntKind.i64 (IntKind.i64.wrap (l.getD (1 : Nat) (0 : Int))) (8 : Int)) ≤
                      (4096 : Int)) ==
                  true)
                (End.ite
                  (decide
                      ((1 : Int) ≤
                        bitOr IntKind.i64 (IntKind.i64.wrap (l.getD (2 : Nat) (0 : Int)))
                          (shl IntKind.i64 (IntKind.i64.wrap (l.getD (3 : Nat) (0 : Int))) (8 : Int))) ==
                    true)
                  (End.leaf
                    (LV.tup
                      [VV.sc
                          (SV.int IntKind.i64
                            (SI.sym
                              (bitOr IntKind.i64 (IntKind.i64.wrap (l.getD (0 : Nat) (0 : Int)))
                                (shl IntKind.i64 (IntKind.i64.wrap (l.getD (1 : Nat) (0 : Int))) (8 : Int))))),
                        VV.sc
                          (SV.int IntKind.i64
                            (SI.sym
                              (bitOr IntKind.i64 (IntKind.i64.wrap (l.getD (2 : Nat) (0 : Int)))
                                (shl IntKind.i64 (IntKind.i64.wrap (l.getD (3 : Nat) (0 : Int))) (8 : Int))))),
                        VV.sc
                          (SV.bool
                            (SB.sym
                              (decide
                                (bitOr IntKind.i64 (IntKind.i64.wrap (l.getD (2 : Nat) (0 : Int)))
                                    (shl IntKind.i64 (IntKind.i64.wrap (l.getD (3 : Nat) (0 : Int))) (8 : Int)) ≤
                                  (8192 : Int)))))])
                    [])
                  (End.leaf
                    (LV.tup
                      [VV.sc
                          (SV.int IntKind.i64
                            (SI.sym
                              (bitOr IntKind.i64 (IntKind.i64.wrap (l.getD (0 : Nat) (0 : Int)))
                                (shl IntKind.i64 (IntKind.i64.wrap (l.getD (1 : Nat) (0 : Int))) (8 : Int))))),
                        VV.sc
                          (SV.int IntKind.i64
                            (SI.sym
                              (bitOr IntKind.i64 (IntKind.i64.wrap (l.getD (2 : Nat) (0 : Int)))
                                (shl IntKind.i64 (IntKind.i64.wrap (l.getD (3 : Nat) (0 : Int))) (8 : Int))))),
                        VV.sc (SV.bool (SB.sym false))])
                    []))
                (End.leaf
                  (LV.tup
                    [VV.sc
                        (SV.int IntKind.i64
                          (SI.sym
                            (bitOr IntKind.i64 (IntKind.i64.wrap (l.getD (0 : Nat) (0 : Int)))
                              (shl IntKind.i64 (IntKind.i64.wrap (l.getD (1 : Nat) (0 : Int))) (8 : Int))))),
                      VV.sc
                        (SV.int IntKind.i64
                          (SI.sym
                            (bitOr IntKind.i64 (IntKind.i64.wrap (l.getD (2 : Nat) (0 : Int)))
                              (shl IntKind.i64 (IntKind.i64.wrap (l.getD (3 : Nat) (0 : Int))) (8 : Int))))),
                      VV.sc (SV.bool (SB.sym false))])
                  []))
              (End.leaf
                (LV.tup
                  [VV.sc
                      (SV.int IntKind.i64
                        (SI.sym
                          (bitOr IntKind.i64 (IntKind.i64.wrap (l.getD (0 : Nat) (0 : Int)))
                            (shl IntKind.i64 (IntKind.i64.wrap (l.getD (1 : Nat) (0 : Int))) (8 : Int))))),
                    VV.sc
                      (SV.int IntKind.i64
                        (SI.sym
                          (bitOr IntKind.i64 (IntKind.i64.wrap (l.getD (2 : Nat) (0 : Int)))
                            (shl IntKind.i64 (IntKind.i64.wrap (l.getD (3 : Nat) (0 : Int))) (8 : Int))))),
                    VV.sc (SV.bool (SB.sym false))])
                []))))) := by kernel_rfl
theorem want_ok : wantE.Ok Try.prog 23 := by
  refine (Ent.ofOk Try.call23 fun x y Q h => ?_).sym
  obtain ⟨p, _⟩ := y
  refine (fnT_ok mixed tab0 Try.func23 rfl (LT := []) (ks := [.fr [.sym], symP, .auto]) (LOk.nil _)).use (D := []) ?_ h.2
  show (fnT _ _ _ _ ((lSkip p0 lNil).wr ()) (hpP.wr (p, ())) _).sat _
  rw [want_tree]
  exact ⟨fun h => ⟨by simp [h], rfl⟩, fun h => ⟨by simp [h], rfl⟩⟩
theorem whole_ok : wholeE.Ok Try.prog 28 := by
  refine (Ent.ofOk Try.call28 fun x y Q h => ?_).sym
  obtain ⟨p, _⟩ := y
  refine (fnT_ok mixed tab0 Try.func28 rfl (LT := []) (ks := [.fr [.sym], symP, .auto]) (LOk.nil _)).use (D := []) ?_ h.2
  show (fnT _ _ _ _ ((lSkip p0 lNil).wr ()) (hpP.wr (p, ())) _).sat _
  rw [whole_tree]
  exact ⟨rfl, rfl⟩
theorem goes_ok : goesE.Ok Try.prog 56 := by
  refine (Ent.ofOk Try.call56 fun x y Q h => ?_).sym
  obtain ⟨p, _⟩ := y
  obtain ⟨a, b, _⟩ := x
  refine (fnT_ok mixed tab0 Try.func56 rfl (LT := []) (ks := [symP, .auto]) (LOk.nil _)).use (D := [(0, pI { p with part := a, len := 0, want := b })]) ?_ h.2
  show (fnT _ _ _ _ ((lSkip p0 (lCons (vOne (sInt .i64)) (lCons (vOne (sInt .i64)) lNil))).wr (a, b, ())) (hpP.wr (p, ())) _).sat _
  rw [goes_tree]
  exact ⟨rfl, rfl⟩
theorem sizes_ok : sizesE.Ok Try.prog 46 := by
  refine (Ent.ofOk Try.call46 fun x y Q h => ?_).sym
  obtain ⟨p, _⟩ := y
  refine (fnT_ok mixed (tabC goes_ok tab0) Try.func46 rfl (LT := []) (ks := [symP, .auto]) (LOk.nil _)).use (D := [(0, pI (sizesF p))]) ?_ h.2
  show (fnT _ _ _ _ ((lSkip p0 lNil).wr ()) (hpP.wr (p, ())) _).sat _
  rw [sizes_tree]
  refine ⟨fun hb => ⟨rfl, ?_⟩, fun hb => ⟨rfl, ?_⟩⟩
  · simp at hb; unfold sizesF; rw [if_pos hb]; rfl
  · simp at hb; unfold sizesF; rw [if_neg (by omega)]; rfl
theorem isizes_ok : isizesE.Ok Try.prog 57 := by
  refine (Ent.ofOk Try.call57 fun x y Q h => ?_).sym
  obtain ⟨l, _⟩ := x
  obtain ⟨hl, hq⟩ := h
  have hl : 4 ≤ l.length := hl
  refine (fnT_ok mixed tab0 Try.func57 rfl (LT := []) (ks := [.fr [.sym], .auto]) (LOk.nil _)).use (D := []) ?_ hq
  show (fnT _ _ _ _ (bA.wr (l, ())) [] _).sat _
  rw [isizes_tree]
  have key : ∀ {b : Bool}, b = sizeOk l → LV.tup [.sc (.int .i64 (.sym (two l 0))), .sc (.int .i64 (.sym (two l 2))), .sc (.bool (.sym b))] = LV.tup [.sc (.int .i64 (.sym (two l 0))), .sc (.int .i64 (.sym (two l 2))), .sc (.bool (.sym (sizeOk l)))] := fun h => by rw [h]
  have e0 : two l 0 = bitOr .i64 (IntKind.i64.wrap (l.getD 0 0)) (shl .i64 (IntKind.i64.wrap (l.getD 1 0)) 8) := rfl
  have e2 : two l 2 = bitOr .i64 (IntKind.i64.wrap (l.getD 2 0)) (shl .i64 (IntKind.i64.wrap (l.getD 3 0)) 8) := rfl
  rw [← e0, ← e2]
  refine ⟨by omega, by omega, by omega, by omega, fun h1 => ⟨fun h2 => ⟨fun h3 => ⟨key ?_, rfl⟩, fun h3 => ⟨key ?_, rfl⟩⟩, fun h2 => ⟨key ?_, rfl⟩⟩, fun h1 => ⟨key ?_, rfl⟩⟩ <;> simp_all [sizeOk] <;> omega

/-! ### The next part -/
def nextF (p : PP) (b : List Int) : PP × Bool :=
  if p.part = 1 then ({ p with blocks := (getHeadF b).1.2, part := 2, len := 0, want := 216 }, (getHeadF b).2)
  else if p.part = 2 then ({ p with part := 3, len := 0, want := IntKind.i64.wrap (64 * p.blocks) }, true)
  else if p.part = 4 then (if sizeOk b then { p with part := 5, len := 0, want := two b 0 } else p, sizeOk b)
  else if p.part = 5 then (sizesF { p with block := IntKind.i64.wrap (p.block + 1) }, true)
  else (sizesF p, true)
abbrev pbA : Cod (List LV) (List Int × Unit) := lSkip p0 (lCons (vOne (sRd false false u8)) lNil)
noncomputable def nextE : Ent := Ent.ofS [none, some u8] pbA hpP fun x h => .leaf (some (h.1.part = 4 → 4 ≤ x.1.length)) (nB (nextF h.1 x.1).2) [(0, pI (nextF h.1 x.1).1)]
theorem next_tree (p : PP) (b : List Int) : fnT Try.prog [(32, getHeadE), (57, isizesE), (56, goesE), (46, sizesE)] [] Try.f45 (pbA.wr (b, ())) (hpP.wr (p, ())) [.fr [.sym], symP, .auto] =
    End.ite (p.part == (1 : Int))
      (End.leaf (LV.one (VV.sc (SV.bool (SB.sym (getHeadF b).snd))))
        [some
            (Item.blk
              [SV.int IntKind.i64 (SI.sym (getHeadF b).fst.snd), SV.int IntKind.i64 (SI.sym p.block),
                SV.int IntKind.i64 (SI.sym (2 : Int)), SV.int IntKind.i64 (SI.sym (0 : Int)),
                SV.int IntKind.i64 (SI.sym (216 : Int)), SV.arr (Ty.int IntKind.u8) (4096 : Nat) p.buf,
                SV.bool (SB.sym p.bad)]
              (74 : Nat))])
      (End.ite (p.part == (2 : Int))
        (End.leaf (LV.one (VV.sc (SV.bool (SB.sym true))))
          [some
              (Item.blk
                [SV.int IntKind.i64 (SI.sym p.blocks), SV.int IntKind.i64 (SI.sym p.block),
                  SV.int IntKind.i64 (SI.sym (3 : Int)), SV.int IntKind.i64 (SI.sym (0 : Int)),
                  SV.int IntKind.i64 (SI.sym (IntKind.i64.wrap ((64 : Int) * p.blocks))),
                  SV.arr (Ty.int IntKind.u8) (4096 : Nat) p.buf, SV.bool (SB.sym p.bad)]
                (74 : Nat))])
        (End.ite (p.part == (4 : Int))
          (End.need ((4 : Nat) ≤ b.length)
            (End.ite (sizeOk b)
              (End.leaf (LV.one (VV.sc (SV.bool (SB.sym (sizeOk b)))))
                [some
                    (Item.blk
                      [SV.int IntKind.i64 (SI.sym p.blocks), SV.int IntKind.i64 (SI.sym p.block),
                        SV.int IntKind.i64 (SI.sym (5 : Int)), SV.int IntKind.i64 (SI.sym (0 : Int)),
                        SV.int IntKind.i64 (SI.sym (two b (0 : Nat))), SV.arr (Ty.int IntKind.u8) (4096 : Nat) p.buf,
                        SV.bool (SB.sym p.bad)]
                      (74 : Nat))])
              (End.leaf (LV.one (VV.sc (SV.bool (SB.sym (sizeOk b)))))
                [some
                    (Item.blk
                      [SV.int IntKind.i64 (SI.sym p.blocks), SV.int IntKind.i64 (SI.sym p.block),
                        SV.int IntKind.i64 (SI.sym p.part), SV.int IntKind.i64 (SI.sym p.len),
                        SV.int IntKind.i64 (SI.sym p.want), SV.arr (Ty.int IntKind.u8) (4096 : Nat) p.buf,
                        SV.bool (SB.sym p.bad)]
                      (74 : Nat))])))
          (End.ite (p.part == (5 : Int))
            (End.leaf (LV.one (VV.sc (SV.bool (SB.sym true))))
              [some
                  (Item.blk
                    [SV.int IntKind.i64
                        (SI.sym
                          (sizesF
                              { blocks := p.blocks, block := IntKind.i64.wrap (p.block + (1 : Int)), part := p.part,
                                len := p.len, want := p.want, buf := p.buf, bad := p.bad }).blocks),
                      SV.int IntKind.i64
                        (SI.sym
                          (sizesF
                              { blocks := p.blocks, block := IntKind.i64.wrap (p.block + (1 : Int)), part := p.part,
                                len := p.len, want := p.want, buf := p.buf, bad := p.bad }).block),
                      SV.int IntKind.i64
                        (SI.sym
                          (sizesF
                              { blocks := p.blocks, block := IntKind.i64.wrap (p.block + (1 : Int)), part := p.part,
                                len := p.len, want := p.want, buf := p.buf, bad := p.bad }).part),
                      SV.int IntKind.i64
                        (SI.sym
                          (sizesF
                              { blocks := p.blocks, block := IntKind.i64.wrap (p.block + (1 : Int)), part := p.part,
                                len := p.len, want := p.want, buf := p.buf, bad := p.bad }).len),
                      SV.int IntKind.i64
                        (SI.sym
                          (sizesF
                              { blocks := p.blocks, block := IntKind.i64.wrap (p.block + (1 : Int)), part := p.part,
                                len := p.len, want := p.want, buf := p.buf, bad := p.bad }).want),
                      SV.arr (Ty.int IntKind.u8) (4096 : Nat)
                        (sizesF
                            { blocks := p.blocks, block := IntKind.i64.wrap (p.block + (1 : Int)), part := p.part,
                              len := p.len, want := p.want, buf := p.buf, bad := p.bad }).buf,
                      SV.bool
                        (SB.sym
                          (sizesF
                              { blocks := p.blocks, block := IntKind.i64.wrap (p.block + (1 : Int)), part := p.part,
                                len := p.len, want := p.want, buf := p.buf, bad := p.bad }).bad)]
                    (74 : Nat))])
            (End.leaf (LV.one (VV.sc (SV.bool (SB.sym true))))
              [some
                  (Item.blk
                    [SV.int IntKind.i64
                        (SI.sym
                          (sizesF
                              { blocks := p.blocks, block := p.block, part := p.part, len := p.len, want := p.want,
                                buf := p.buf, bad := p.bad }).blocks),
                      SV.int IntKind.i64
                        (SI.sym
                          (sizesF
                              { blocks := p.blocks, block := p.block, part := p.part, len := p.len, want := p.want,
                                buf := p.buf, bad := p.bad }).block),
                      SV.int IntKind.i64
                        (SI.sym
                          (sizesF
                              { blocks := p.blocks, block := p.block, part := p.part, len := p.len, want := p.want,
                                buf := p.buf, bad := p.bad }).part),
                      SV.int IntKind.i64
                        (SI.sym
                          (sizesF
                              { blocks := p.blocks, block := p.block, part := p.part, len := p.len, want := p.want,
                                buf := p.buf, bad := p.bad }).len),
                      SV.int IntKind.i64
                        (SI.sym
                          (sizesF
                              { blocks := p.blocks, block := p.block, part := p.part, len := p.len, want := p.want,
                                buf := p.buf, bad := p.bad }).want),
                      SV.arr (Ty.int IntKind.u8) (4096 : Nat)
                        (sizesF
                            { blocks := p.blocks, block := p.block, part := p.part, len := p.len, want := p.want,
                              buf := p.buf, bad := p.bad }).buf,
                      SV.bool
                        (SB.sym
                          (sizesF
                              { blocks := p.blocks, block := p.block, part := p.part, len := p.len, want := p.want,
                                buf := p.buf, bad := p.bad }).bad)]
                    (74 : Nat))])))) := by kernel_rfl
theorem next_ok : nextE.Ok Try.prog 45 := by
  refine (Ent.ofOk Try.call45 fun x y Q h => ?_).sym
  obtain ⟨p, _⟩ := y
  obtain ⟨b, _⟩ := x
  obtain ⟨hl, hq⟩ := h
  have hl : p.part = 4 → 4 ≤ b.length := hl
  refine (fnT_ok mixed (tabC getHead_ok (tabC isizes_ok (tabC goes_ok (tabC sizes_ok tab0)))) Try.func45 rfl (LT := []) (ks := [.fr [.sym], symP, .auto]) (LOk.nil _)).use (D := [(0, pI (nextF p b).1)]) ?_ hq
  show (fnT _ _ _ _ (pbA.wr (b, ())) (hpP.wr (p, ())) _).sat _
  rw [next_tree]
  refine ⟨fun h1 => ?_, fun h1 => ⟨fun h2 => ?_, fun h2 => ⟨fun h3 => ⟨hl (beq_iff_eq.1 h3), fun h4 => ?_, fun h4 => ?_⟩, fun h3 => ⟨fun h4 => ?_, fun h4 => ?_⟩⟩⟩⟩
  · have e : nextF p b = ({ p with blocks := (getHeadF b).1.2, part := 2, len := 0, want := 216 }, (getHeadF b).2) := by simp at h1; simp [nextF, h1]
    rw [e]; exact ⟨rfl, rfl⟩
  · have e : nextF p b = ({ p with part := 3, len := 0, want := IntKind.i64.wrap (64 * p.blocks) }, true) := by simp at h1 h2; simp [nextF, h2]
    rw [e]; exact ⟨rfl, rfl⟩
  · have e : nextF p b = ({ p with part := 5, len := 0, want := two b 0 }, sizeOk b) := by simp at h1 h2 h3; simp [nextF, h3, h4]
    rw [e]; exact ⟨rfl, rfl⟩
  · have e : nextF p b = (p, sizeOk b) := by simp at h1 h2 h3; simp [nextF, h3, h4]
    rw [e]; exact ⟨rfl, rfl⟩
  · have e : nextF p b = (sizesF { p with block := IntKind.i64.wrap (p.block + 1) }, true) := by simp at h1 h2 h3 h4; simp [nextF, h4]
    rw [e]; exact ⟨rfl, rfl⟩
  · have e : nextF p b = (sizesF p, true) := by simp at h1 h2 h3 h4; simp [nextF, h1, h2, h3, h4]
    rw [e]; exact ⟨rfl, rfl⟩

/-! ### A byte -/
/-- kind and bytes of the part, whether there is one, the error -/
def byteF (p : PP) (b : Int) : PP × (Int × List Int × Bool × Int) :=
  if p.bad = true ∨ p.part = 0 then ({ p with bad := true }, 0, [], false, 6)
  else
    let q : PP := { p with buf := p.buf.set p.len.toNat b, len := IntKind.i64.wrap (p.len + 1) }
    if q.len < q.want then (q, 0, [], false, 0)
    else
      let l := q.buf.take q.len.toNat
      let r := nextF q l
      if r.2 = true then (r.1, q.part, l, true, 0) else ({ r.1 with bad := true }, 0, [], false, 6)
abbrev pcA : Cod (List LV) (Int × Unit) := lSkip p0 (lCons (vOne (sInt .u8)) lNil)
theorem byte_tree (p : PP) (b : Int) : fnT Try.prog [(44, cloneE), (45, nextE)] [] Try.f24 (pcA.wr (b, ())) (hpP.wr (p, ())) [.fr [.sym], .fr [.rd true u8], symP, .auto] =
    End.ite (p.bad == false)
      (End.ite (p.part == (0 : Int))
        (End.leaf
          (LV.tup
            [VV.agg [SV.int IntKind.i64 (SI.sym (0 : Int)), SV.rd true false (Ty.int IntKind.u8) []],
              VV.sc (SV.bool (SB.sym false)), VV.sc (SV.int IntKind.i64 (SI.sym (6 : Int)))])
          [some
              (Item.blk
                [SV.int IntKind.i64 (SI.sym p.blocks), SV.int IntKind.i64 (SI.sym p.block),
                  SV.int IntKind.i64 (SI.sym p.part), SV.int IntKind.i64 (SI.sym p.len), SV.int IntKind.i64 (SI.sym p.want),
                  SV.arr (Ty.int IntKind.u8) (4096 : Nat) p.buf, SV.bool (SB.sym true)]
                (74 : Nat))])
        (End.need ((0 : Int) ≤ p.len ∧ p.len < (4096 : Int))
          (End.ite (decide (IntKind.i64.wrap (p.len + (1 : Int)) < p.want))
            (End.leaf
              (LV.tup
                [VV.agg [SV.int IntKind.i64 (SI.sym (0 : Int)), SV.rd true false (Ty.int IntKind.u8) []],
                  VV.sc (SV.bool (SB.sym false)), VV.sc (SV.int IntKind.i64 (SI.sym (0 : Int)))])
              [some
                  (Item.blk
                    [SV.int IntKind.i64 (SI.sym p.blocks), SV.int IntKind.i64 (SI.sym p.block),
                      SV.int IntKind.i64 (SI.sym p.part),
                      SV.int IntKind.i64 (SI.sym (IntKind.i64.wrap (p.len + (1 : Int)))),
                      SV.int IntKind.i64 (SI.sym p.want),
                      SV.arr (Ty.int IntKind.u8) (4096 : Nat) (p.buf.set ((0 : Nat) + p.len.toNat) b),
                      SV.bool (SB.sym p.bad)]
                    (74 : Nat))])
            (End.need
              ((0 : Int) ≤ (0 : Int) ∧
                (0 : Int) ≤ IntKind.i64.wrap (p.len + (1 : Int)) ∧ IntKind.i64.wrap (p.len + (1 : Int)) ≤ (4096 : Int))
              (End.need
                ((List.take (IntKind.i64.wrap (p.len + (1 : Int)) - (0 : Int)).toNat
                      (List.drop (0 : Nat) (p.buf.set ((0 : Nat) + p.len.toNat) b))).length ≤
                  (70368744177664 : Nat))
                (End.need
                  (p.part = (4 : Int) →
                    (4 : Nat) ≤
                      (List.take (IntKind.i64.wrap (p.len + (1 : Int)) - (0 : Int)).toNat
                          (List.drop (0 : Nat) (p.buf.set ((0 : Nat) + p.len.toNat) b))).length)
                  (End.ite
                    (!(nextF
                          { blocks := p.blocks, block := p.block, part := p.part,
                            len := IntKind.i64.wrap (p.len + (1 : Int)), want := p.want,
                            buf := p.buf.set ((0 : Nat) + p.len.toNat) b, bad := p.bad }
                          (List.take (IntKind.i64.wrap (p.len + (1 : Int)) - (0 : Int)).toNat
                            (List.drop (0 : Nat) (p.buf.set ((0 : Nat) + p.len.toNat) b)))).snd)
                    (End.leaf
                      (LV.tup
                        [VV.agg [SV.int IntKind.i64 (SI.sym (0 : Int)), SV.rd true false (Ty.int IntKind.u8) []],
                          VV.sc (SV.bool (SB.sym false)), VV.sc (SV.int IntKind.i64 (SI.sym (6 : Int)))])
                      [some
                          (Item.blk
                            [SV.int IntKind.i64
                                (SI.sym
                                  (nextF
                                        { blocks := p.blocks, block := p.block, part := p.part,
                                          len := IntKind.i64.wrap (p.len + (1 : Int)), want := p.want,
                                          buf := p.buf.set ((0 : Nat) + p.len.toNat) b, bad := p.bad }
                                        (List.take (IntKind.i64.wrap (p.len + (1 : Int)) - (0 : Int)).toNat
                                          (List.drop (0 : Nat) (p.buf.set ((0 : Nat) + p.len.toNat) b)))).fst.blocks),
                              SV.int IntKind.i64
                                (SI.sym
                                  (nextF
                                        { blocks := p.blocks, block := p.block, part := p.part,
                                          len := IntKind.i64.wrap (p.len + (1 : Int)), want := p.want,
                                          buf := p.buf.set ((0 : Nat) + p.len.toNat) b, bad := p.bad }
                                        (List.take (IntKind.i64.wrap (p.len + (1 : Int)) - (0 : Int)).toNat
                                          (List.drop (0 : Nat) (p.buf.set ((0 : Nat) + p.len.toNat) b)))).fst.block),
                              SV.int IntKind.i64
                                (SI.sym
                                  (nextF
                                        { blocks := p.blocks, block := p.block, part := p.part,
                                          len := IntKind.i64.wrap (p.len + (1 : Int)), want := p.want,
                                          buf := p.buf.set ((0 : Nat) + p.len.toNat) b, bad := p.bad }
                                        (List.take (IntKind.i64.wrap (p.len + (1 : Int)) - (0 : Int)).toNat
                                          (List.drop (0 : Nat) (p.buf.set ((0 : Nat) + p.len.toNat) b)))).fst.part),
                              SV.int IntKind.i64
                                (SI.sym
                                  (nextF
                                        { blocks := p.blocks, block := p.block, part := p.part,
                                          len := IntKind.i64.wrap (p.len + (1 : Int)), want := p.want,
                                          buf := p.buf.set ((0 : Nat) + p.len.toNat) b, bad := p.bad }
                                        (List.take (IntKind.i64.wrap (p.len + (1 : Int)) - (0 : Int)).toNat
                                          (List.drop (0 : Nat) (p.buf.set ((0 : Nat) + p.len.toNat) b)))).fst.len),
                              SV.int IntKind.i64
                                (SI.sym
                                  (nextF
                                        { blocks := p.blocks, block := p.block, part := p.part,
                                          len := IntKind.i64.wrap (p.len + (1 : Int)), want := p.want,
                                          buf := p.buf.set ((0 : Nat) + p.len.toNat) b, bad := p.bad }
                                        (List.take (IntKind.i64.wrap (p.len + (1 : Int)) - (0 : Int)).toNat
                                          (List.drop (0 : Nat) (p.buf.set ((0 : Nat) + p.len.toNat) b)))).fst.want),
                              SV.arr (Ty.int IntKind.u8) (4096 : Nat)
                                (nextF
                                      { blocks := p.blocks, block := p.block, part := p.part,
                                        len := IntKind.i64.wrap (p.len + (1 : Int)), want := p.want,
                                        buf := p.buf.set ((0 : Nat) + p.len.toNat) b, bad := p.bad }
                                      (List.take (IntKind.i64.wrap (p.len + (1 : Int)) - (0 : Int)).toNat
                                        (List.drop (0 : Nat) (p.buf.set ((0 : Nat) + p.len.toNat) b)))).fst.buf,
                              SV.bool (SB.sym true)]
                            (74 : Nat))])
                    (End.leaf
                      (LV.tup
                        [VV.agg
                            [SV.int IntKind.i64 (SI.sym p.part),
                              SV.rd true false (Ty.int IntKind.u8)
                                (List.take (IntKind.i64.wrap (p.len + (1 : Int)) - (0 : Int)).toNat
                                  (List.drop (0 : Nat) (p.buf.set ((0 : Nat) + p.len.toNat) b)))],
                          VV.sc (SV.bool (SB.sym true)), VV.sc (SV.int IntKind.i64 (SI.sym (0 : Int)))])
                      [some
                          (Item.blk
                            [SV.int IntKind.i64
                                (SI.sym
                                  (nextF
                                        { blocks := p.blocks, block := p.block, part := p.part,
                                          len := IntKind.i64.wrap (p.len + (1 : Int)), want := p.want,
                                          buf := p.buf.set ((0 : Nat) + p.len.toNat) b, bad := p.bad }
                                        (List.take (IntKind.i64.wrap (p.len + (1 : Int)) - (0 : Int)).toNat
                                          (List.drop (0 : Nat) (p.buf.set ((0 : Nat) + p.len.toNat) b)))).fst.blocks),
                              SV.int IntKind.i64
                                (SI.sym
                                  (nextF
                                        { blocks := p.blocks, block := p.block, part := p.part,
                                          len := IntKind.i64.wrap (p.len + (1 : Int)), want := p.want,
                                          buf := p.buf.set ((0 : Nat) + p.len.toNat) b, bad := p.bad }
                                        (List.take (IntKind.i64.wrap (p.len + (1 : Int)) - (0 : Int)).toNat
                                          (List.drop (0 : Nat) (p.buf.set ((0 : Nat) + p.len.toNat) b)))).fst.block),
                              SV.int IntKind.i64
                                (SI.sym
                                  (nextF
                                        { blocks := p.blocks, block := p.block, part := p.part,
                                          len := IntKind.i64.wrap (p.len + (1 : Int)), want := p.want,
                                          buf := p.buf.set ((0 : Nat) + p.len.toNat) b, bad := p.bad }
                                        (List.take (IntKind.i64.wrap (p.len + (1 : Int)) - (0 : Int)).toNat
                                          (List.drop (0 : Nat) (p.buf.set ((0 : Nat) + p.len.toNat) b)))).fst.part),
                              SV.int IntKind.i64
                                (SI.sym
                                  (nextF
                                        { blocks := p.blocks, block := p.block, part := p.part,
                                          len := IntKind.i64.wrap (p.len + (1 : Int)), want := p.want,
                                          buf := p.buf.set ((0 : Nat) + p.len.toNat) b, bad := p.bad }
                                        (List.take (IntKind.i64.wrap (p.len + (1 : Int)) - (0 : Int)).toNat
                                          (List.drop (0 : Nat) (p.buf.set ((0 : Nat) + p.len.toNat) b)))).fst.len),
                              SV.int IntKind.i64
                                (SI.sym
                                  (nextF
                                        { blocks := p.blocks, block := p.block, part := p.part,
                                          len := IntKind.i64.wrap (p.len + (1 : Int)), want := p.want,
                                          buf := p.buf.set ((0 : Nat) + p.len.toNat) b, bad := p.bad }
                                        (List.take (IntKind.i64.wrap (p.len + (1 : Int)) - (0 : Int)).toNat
                                          (List.drop (0 : Nat) (p.buf.set ((0 : Nat) + p.len.toNat) b)))).fst.want),
                              SV.arr (Ty.int IntKind.u8) (4096 : Nat)
                                (nextF
                                      { blocks := p.blocks, block := p.block, part := p.part,
                                        len := IntKind.i64.wrap (p.len + (1 : Int)), want := p.want,
                                        buf := p.buf.set ((0 : Nat) + p.len.toNat) b, bad := p.bad }
                                      (List.take (IntKind.i64.wrap (p.len + (1 : Int)) - (0 : Int)).toNat
                                        (List.drop (0 : Nat) (p.buf.set ((0 : Nat) + p.len.toNat) b)))).fst.buf,
                              SV.bool
                                (SB.sym
                                  (nextF
                                        { blocks := p.blocks, block := p.block, part := p.part,
                                          len := IntKind.i64.wrap (p.len + (1 : Int)), want := p.want,
                                          buf := p.buf.set ((0 : Nat) + p.len.toNat) b, bad := p.bad }
                                        (List.take (IntKind.i64.wrap (p.len + (1 : Int)) - (0 : Int)).toNat
                                          (List.drop (0 : Nat) (p.buf.set ((0 : Nat) + p.len.toNat) b)))).fst.bad)]
                            (74 : Nat))]))))))))
      (End.leaf
        (LV.tup
          [VV.agg [SV.int IntKind.i64 (SI.sym (0 : Int)), SV.rd true false (Ty.int IntKind.u8) []],
            VV.sc (SV.bool (SB.sym false)), VV.sc (SV.int IntKind.i64 (SI.sym (6 : Int)))])
        [some
            (Item.blk
              [SV.int IntKind.i64 (SI.sym p.blocks), SV.int IntKind.i64 (SI.sym p.block),
                SV.int IntKind.i64 (SI.sym p.part), SV.int IntKind.i64 (SI.sym p.len), SV.int IntKind.i64 (SI.sym p.want),
                SV.arr (Ty.int IntKind.u8) (4096 : Nat) p.buf, SV.bool (SB.sym true)]
              (74 : Nat))]) := by kernel_rfl
def byteV (r : Int × List Int × Bool × Int) : LV := .tup [.agg [.int .i64 (.sym r.1), .rd true false u8 r.2.1], .sc (.bool (.sym r.2.2.1)), .sc (.int .i64 (.sym r.2.2.2))]
noncomputable def byteE : Ent := Ent.ofS [] pcA hpP fun x h => .leaf (some (h.1.bad = false → h.1.part ≠ 0 → 0 ≤ h.1.len ∧ h.1.len < 4096 ∧ h.1.buf.length = 4096 ∧ (h.1.part = 4 → h.1.want = 4))) (byteV (byteF h.1 x.1).2) [(0, pI (byteF h.1 x.1).1)]
theorem byte_ok : byteE.Ok Try.prog 24 := by
  refine (Ent.ofOk Try.call24 fun x y Q h => ?_).sym
  obtain ⟨p, _⟩ := y
  obtain ⟨b, _⟩ := x
  obtain ⟨hl, hq⟩ := h
  have hl : p.bad = false → p.part ≠ 0 → 0 ≤ p.len ∧ p.len < 4096 ∧ p.buf.length = 4096 ∧ (p.part = 4 → p.want = 4) := hl
  refine (fnT_ok mixed (tabC clone_ok (tabC next_ok tab0)) Try.func24 rfl (LT := []) (ks := [.fr [.sym], .fr [.rd true u8], symP, .auto]) (LOk.nil _)).use (D := [(0, pI (byteF p b).1)]) ?_ hq
  show (fnT _ _ _ _ (pcA.wr (b, ())) (hpP.wr (p, ())) _).sat _
  rw [byte_tree]
  simp only [Nat.zero_add, Int.sub_zero, List.drop_zero]
  have e0 : p.bad = true ∨ p.part = 0 → byteF p b = ({ p with bad := true }, 0, [], false, 6) := fun h => if_pos h
  generalize hqq : ({ p with buf := p.buf.set p.len.toNat b, len := IntKind.i64.wrap (p.len + 1) } : PP) = q
  generalize hll : List.take (IntKind.i64.wrap (p.len + 1)).toNat (p.buf.set p.len.toNat b) = l
  have e1 : ¬ (p.bad = true ∨ p.part = 0) → IntKind.i64.wrap (p.len + 1) < p.want → byteF p b = (q, 0, [], false, 0) := fun h h' => by
    subst hqq; unfold byteF; rw [if_neg h]; exact if_pos h'
  have e2 : ¬ (p.bad = true ∨ p.part = 0) → ¬ IntKind.i64.wrap (p.len + 1) < p.want → (nextF q l).2 = true → byteF p b = ((nextF q l).1, p.part, l, true, 0) := fun h h' h2 => by
    subst hqq hll; unfold byteF; rw [if_neg h]; refine (if_neg h').trans ?_; exact if_pos h2
  have e3 : ¬ (p.bad = true ∨ p.part = 0) → ¬ IntKind.i64.wrap (p.len + 1) < p.want → (nextF q l).2 = false → byteF p b = ({ (nextF q l).1 with bad := true }, 0, [], false, 6) := fun h h' h2 => by
    subst hqq hll; unfold byteF; rw [if_neg h]; refine (if_neg h').trans ?_; exact if_neg (by rw [h2]; simp)
  refine ⟨fun h1 => ⟨fun h2 => ?_, fun h2 => ?_⟩, fun h1 => ?_⟩
  · rw [e0 (.inr (beq_iff_eq.1 h2))]; exact ⟨rfl, rfl⟩
  · have h1' : p.bad = false := beq_iff_eq.1 h1
    have h2' : p.part ≠ 0 := by simpa using h2
    have hn : ¬ (p.bad = true ∨ p.part = 0) := by rw [h1']; simp [h2']
    obtain ⟨g1, g2, g3, g4⟩ := hl h1' h2'
    have hw : IntKind.i64.wrap (p.len + 1) = p.len + 1 := wrap_ok (by omega) (by omega)
    have hlen : l.length = (p.len + 1).toNat := by rw [← hll, List.length_take, List.length_set, g3, hw]; omega
    refine ⟨⟨g1, g2⟩, fun h3 => ?_, fun h3 => ⟨⟨by omega, by omega, by omega⟩, by omega, fun h4 => ?_, fun h4 => ?_, fun h4 => ?_⟩⟩
    · rw [e1 hn (by simpa using h3), ← hqq]; exact ⟨rfl, rfl⟩
    · have := g4 h4
      have h3' : ¬ IntKind.i64.wrap (p.len + 1) < p.want := by simpa using h3
      omega
    · have h3' : ¬ IntKind.i64.wrap (p.len + 1) < p.want := by simpa using h3
      rw [e3 hn h3' (by simpa using h4)]; exact ⟨rfl, rfl⟩
    · have h3' : ¬ IntKind.i64.wrap (p.len + 1) < p.want := by simpa using h3
      rw [e2 hn h3' (by simpa using h4)]; exact ⟨rfl, rfl⟩
  · rw [e0 (.inl (by simpa using h1))]; exact ⟨rfl, rfl⟩

/-! ### Beginnings -/
def zeros (n : Nat) : List Int := List.replicate n 0
def newP : PP := ⟨0, 0, 1, 0, 8, zeros 4096, false⟩
noncomputable def newE : Ent := Ent.of [] lNil lNil fun _ _ => .leaf none (.one (.sc (.ptr 0 0))) [(0, pI newP)]
theorem new_tree  : fnT Try.prog [] [] Try.f21 [] [] [symP, .auto] =
    End.leaf (LV.one (VV.sc (SV.ptr (0 : Nat) (0 : Nat))))
      [some
          (Item.blk
            [SV.int IntKind.i64 (SI.sym (0 : Int)), SV.int IntKind.i64 (SI.sym (0 : Int)),
              SV.int IntKind.i64 (SI.sym (1 : Int)), SV.int IntKind.i64 (SI.sym (0 : Int)),
              SV.int IntKind.i64 (SI.sym (8 : Int)),
              SV.arr (Ty.int IntKind.u8) (4096 : Nat) (List.replicate (4096 : Nat) (0 : Int)), SV.bool (SB.sym false)]
            (74 : Nat))] := by kernel_rfl
noncomputable def numE : Ent := Ent.ofS [] (lCons (vOne (sInt .i64)) lNil) lNil fun x _ => .leaf none (nI x.1) []
theorem num_tree (x : Int) : fnT Try.prog [] [] Try.f25 ((lCons (vOne (sInt .i64)) lNil).wr (x, ())) [] [.auto] =
    End.leaf (LV.one (VV.sc (SV.int IntKind.i64 (SI.sym x)))) [] := by kernel_rfl
theorem new_ok : newE.Ok Try.prog 21 := by
  refine Ent.ofOk Try.call21 fun x y Q h => ?_
  refine (fnT_ok mixed tab0 Try.func21 rfl (LT := []) (ks := [symP, .auto]) (LOk.nil _)).use (D := [(0, pI newP)]) ?_ h.2
  show (fnT _ _ _ _ [] [] _).sat _
  rw [new_tree]
  exact ⟨rfl, rfl⟩
theorem num_ok' : numE.Ok Try.prog 25 := by
  refine (Ent.ofOk Try.call25 fun x y Q h => ?_).sym
  obtain ⟨x, _⟩ := x
  refine (fnT_ok mixed tab0 Try.func25 rfl (LT := []) (ks := [.auto]) (LOk.nil _)).use (D := []) ?_ h.2
  show (fnT _ _ _ _ ((lCons (vOne (sInt .i64)) lNil).wr (x, ())) [] _).sat _
  rw [num_tree]
  exact ⟨rfl, rfl⟩
/-! ### At a block -/
def atBad (blocks block : Int) : Bool := decide (blocks < 1 ∨ 16 < blocks ∨ block < 0 ∨ blocks < block)
def atP (blocks block : Int) : PP := sizesF ⟨blocks, block, 0, 0, 0, zeros 4096, false⟩
abbrev iiA : Cod (List LV) (Int × Int × Unit) := lCons (vOne (sInt .i64)) (lCons (vOne (sInt .i64)) lNil)
noncomputable def atE : Ent := Ent.ofS [] iiA lNil fun x _ => .ite (atBad x.1 x.2.1) (.leaf none (.tup [.sc (.con (.pointer none)), .sc (.int .i64 (.sym 1))]) []) (.leaf none (.tup [.sc (.ptr 0 0), .sc (.int .i64 (.sym 0))]) [(0, pI (atP x.1 x.2.1))])
theorem at_tree (a b : Int) : fnT Try.prog [(46, sizesE)] [] Try.f26 (iiA.wr (a, b, ())) [] [.fr [.sym], .auto] =
    End.ite (decide (a < (1 : Int)) == false)
      (End.ite (decide ((16 : Int) < a) == false)
        (End.ite (decide (b < (0 : Int)) == false)
          (End.ite (decide (a < b))
            (End.leaf (LV.tup [VV.sc (SV.con (Value.pointer none)), VV.sc (SV.int IntKind.i64 (SI.sym (1 : Int)))]) [])
            (End.leaf (LV.tup [VV.sc (SV.ptr (0 : Nat) (0 : Nat)), VV.sc (SV.int IntKind.i64 (SI.sym (0 : Int)))])
              [some
                  (Item.blk
                    [SV.int IntKind.i64
                        (SI.sym
                          (sizesF
                              { blocks := a, block := b, part := (0 : Int), len := (0 : Int), want := (0 : Int),
                                buf := List.replicate (4096 : Nat) (0 : Int), bad := false }).blocks),
                      SV.int IntKind.i64
                        (SI.sym
                          (sizesF
                              { blocks := a, block := b, part := (0 : Int), len := (0 : Int), want := (0 : Int),
                                buf := List.replicate (4096 : Nat) (0 : Int), bad := false }).block),
                      SV.int IntKind.i64
                        (SI.sym
                          (sizesF
                              { blocks := a, block := b, part := (0 : Int), len := (0 : Int), want := (0 : Int),
                                buf := List.replicate (4096 : Nat) (0 : Int), bad := false }).part),
                      SV.int IntKind.i64
                        (SI.sym
                          (sizesF
                              { blocks := a, block := b, part := (0 : Int), len := (0 : Int), want := (0 : Int),
                                buf := List.replicate (4096 : Nat) (0 : Int), bad := false }).len),
                      SV.int IntKind.i64
                        (SI.sym
                          (sizesF
                              { blocks := a, block := b, part := (0 : Int), len := (0 : Int), want := (0 : Int),
                                buf := List.replicate (4096 : Nat) (0 : Int), bad := false }).want),
                      SV.arr (Ty.int IntKind.u8) (4096 : Nat)
                        (sizesF
                            { blocks := a, block := b, part := (0 : Int), len := (0 : Int), want := (0 : Int),
                              buf := List.replicate (4096 : Nat) (0 : Int), bad := false }).buf,
                      SV.bool
                        (SB.sym
                          (sizesF
                              { blocks := a, block := b, part := (0 : Int), len := (0 : Int), want := (0 : Int),
                                buf := List.replicate (4096 : Nat) (0 : Int), bad := false }).bad)]
                    (74 : Nat))]))
          (End.leaf (LV.tup [VV.sc (SV.con (Value.pointer none)), VV.sc (SV.int IntKind.i64 (SI.sym (1 : Int)))]) []))
        (End.leaf (LV.tup [VV.sc (SV.con (Value.pointer none)), VV.sc (SV.int IntKind.i64 (SI.sym (1 : Int)))]) []))
      (End.leaf (LV.tup [VV.sc (SV.con (Value.pointer none)), VV.sc (SV.int IntKind.i64 (SI.sym (1 : Int)))]) []) := by kernel_rfl
theorem at_ok : atE.Ok Try.prog 26 := by
  refine (Ent.ofOk Try.call26 fun x y Q h => ?_).sym
  obtain ⟨a, b, _⟩ := x
  have key : ∀ {V : LV} {D : List (Nat × Ev.Item)}, (fnT Try.prog [(46, sizesE)] [] Try.f26 (iiA.wr (a, b, ())) [] [.fr [.sym], .auto]).sat (fun v hp' => v = V ∧ hp' = applyD D []) → Q V D →
      CallsEv Try.prog 26 (iiA.wr (a, b, ())) [] fun v hp' => ∃ d, Q v d ∧ hp' = applyD d [] := fun h1 h2 =>
    (fnT_ok mixed (tabC sizes_ok tab0) Try.func26 rfl (LT := []) (ks := [.fr [.sym], .auto]) (LOk.nil _)).use h1 h2
  cases hb : atBad a b with
  | true =>
    refine key ?_ (h.1 hb).2
    rw [at_tree]
    simp [atBad] at hb
    refine ⟨fun h1 => ⟨fun h2 => ⟨fun h3 => ⟨fun h4 => ⟨rfl, rfl⟩, fun h4 => ?_⟩, fun h3 => ⟨rfl, rfl⟩⟩, fun h2 => ⟨rfl, rfl⟩⟩, fun h1 => ⟨rfl, rfl⟩⟩
    simp at h1 h2 h3 h4
    omega
  | false =>
    refine key ?_ (h.2 hb).2
    rw [at_tree]
    simp [atBad] at hb
    refine ⟨fun h1 => ⟨fun h2 => ⟨fun h3 => ⟨fun h4 => ?_, fun h4 => ⟨rfl, rfl⟩⟩, fun h3 => ?_⟩, fun h2 => ?_⟩, fun h1 => ?_⟩
    · simp at h4; omega
    · simp at h3; omega
    · simp at h2; omega
    · simp at h1; omega
end Go.Proofs.Ytdpbkfmjknmmnaa
