/- Parsers: both of them, byte by byte. -/
import Derived.Test.YtdpbkfmjknmmnaaH1
set_option linter.unusedVariables false
set_option linter.unusedSimpArgs false
namespace Go.Proofs.Ytdpbkfmjknmmnaa
open Go Go.Ev
set_option maxRecDepth 100000
/-- what has been found so far -/
abbrev plFn' : Nat := 0
noncomputable abbrev plTab : List (FuncId × Ent) := [(23, wantE), (42, rwantE), (28, wholeE), (24, byteE), (43, rbyteE), (25, numE)]
noncomputable abbrev plFn : Func := Try.f20
abbrev plHp : Cod Hp (PP × RR × Unit) := lCons (iBlk 74 cPP) (lCons (iBlk 69 cRR) lNil)
abbrev p1' : Cod LV Unit := vOne (sPtr 1 0)
abbrev plA : Cod (List LV) (List Int × Unit) := lSkip p0 (lSkip p1' (lCons (vOne (sRd false false u8)) lNil))
abbrev plC : Cod (List LV) (List Int × Int × Unit) := lSkip p0 (lSkip p1' (lCons (vOne (sRd false false u8)) (jk 4 (lCons (vOne (sInt .i64)) (jk 91 lNil)))))
abbrev plE : Cod (List LV) Unit := lSkip p0 (lSkip p1' (jk 97 lNil))
abbrev symB : Wk := .blk 1 [.sym, .sym, .sym, .sym, .rd true u8, .sym, .sym]
abbrev plK : List Wk := [.fr (fmS 99 [(0, .keep), (1, .keep), (2, .keep), (7, .sym)]), symP, symB, .auto]
abbrev plX : List Wk := [.fr (fmS 99 [(0, .keep), (1, .keep)]), symP, symB, .auto]
def plW : Exit → List Wk
  | .normal => plK
  | .exit _ => plX
  | .ret => [.fr (fmS 99 [(6, .sym)]), symP, symB, .auto]
  | _ => []
theorem pl_rnd (p0' p : PP) (r0' r : RR) (l : List Int) (i : Int) : rndT Try.prog plTab [] plFn 0 (plHp.wr (p0', r0', ())) plW ((stC plC plHp).wr ((l, i, ()), (p, r, ()))) =
    Res.ite (decide (i < ↑l.length))
      (Res.ite
        (((if p.bad = true then (0 : Int) else IntKind.i64.wrap (p.want - p.len)) !=
            if (r.bad || r.whole) = true then (0 : Int) else IntKind.i64.wrap (r.want - ↑r.held.length)) ==
          false)
        (Res.ite (!(p.part == (0 : Int)) == r.whole)
          (Res.leaf Exit.ret
            {
              fr :=
                [LV.junk, LV.junk, LV.junk, LV.junk, LV.junk, LV.junk, LV.one (VV.sc (SV.bool (SB.sym false))), LV.junk,
                  LV.junk, LV.junk, LV.junk, LV.junk, LV.junk, LV.junk, LV.junk, LV.junk, LV.junk, LV.junk, LV.junk,
                  LV.junk, LV.junk, LV.junk, LV.junk, LV.junk, LV.junk, LV.junk, LV.junk, LV.junk, LV.junk, LV.junk,
                  LV.junk, LV.junk, LV.junk, LV.junk, LV.junk, LV.junk, LV.junk, LV.junk, LV.junk, LV.junk, LV.junk,
                  LV.junk, LV.junk, LV.junk, LV.junk, LV.junk, LV.junk, LV.junk, LV.junk, LV.junk, LV.junk, LV.junk,
                  LV.junk, LV.junk, LV.junk, LV.junk, LV.junk, LV.junk, LV.junk, LV.junk, LV.junk, LV.junk, LV.junk,
                  LV.junk, LV.junk, LV.junk, LV.junk, LV.junk, LV.junk, LV.junk, LV.junk, LV.junk, LV.junk, LV.junk,
                  LV.junk, LV.junk, LV.junk, LV.junk, LV.junk, LV.junk, LV.junk, LV.junk, LV.junk, LV.junk, LV.junk,
                  LV.junk, LV.junk, LV.junk, LV.junk, LV.junk, LV.junk, LV.junk, LV.junk, LV.junk, LV.junk, LV.junk,
                  LV.junk, LV.junk, LV.junk],
              hp :=
                [some
                    (Item.blk
                      [SV.int IntKind.i64 (SI.sym p.blocks), SV.int IntKind.i64 (SI.sym p.block),
                        SV.int IntKind.i64 (SI.sym p.part), SV.int IntKind.i64 (SI.sym p.len),
                        SV.int IntKind.i64 (SI.sym p.want), SV.arr (Ty.int IntKind.u8) (4096 : Nat) p.buf,
                        SV.bool (SB.sym p.bad)]
                      (74 : Nat)),
                  some
                    (Item.blk
                      [SV.int IntKind.i64 (SI.sym r.part), SV.int IntKind.i64 (SI.sym r.blocks),
                        SV.int IntKind.i64 (SI.sym r.block), SV.int IntKind.i64 (SI.sym r.want),
                        SV.rd true false (Ty.int IntKind.u8) r.held, SV.bool (SB.sym r.bad), SV.bool (SB.sym r.whole)]
                      (69 : Nat))] })
          (Res.need ((0 : Int) ≤ i ∧ i < ↑l.length)
            (Res.need
              (p.bad = false →
                ¬p.part = (0 : Int) →
                  (0 : Int) ≤ p.len ∧
                    p.len < (4096 : Int) ∧ p.buf.length = (4096 : Nat) ∧ (p.part = (4 : Int) → p.want = (4 : Int)))
              (Res.need ((0 : Int) ≤ i ∧ i < ↑l.length)
                (Res.need (r.held.length ≤ (4096 : Nat) ∧ (r.part = (4 : Int) → r.want = (4 : Int)))
                  (Res.ite
                    (((byteF
                              { blocks := p.blocks, block := p.block, part := p.part, len := p.len, want := p.want,
                                buf := p.buf, bad := p.bad }
                              (l.getD i.toNat (0 : Int))).snd.fst !=
                        (rbyteF
                              { part := r.part, blocks := r.blocks, block := r.block, want := r.want, held := r.held,
                                bad := r.bad, whole := r.whole }
                              (l.getD i.toNat (0 : Int))).snd.fst) ==
                      false)
                    (Res.ite
                      ((!strEq
                            (byteF
                                    { blocks := p.blocks, block := p.block, part := p.part, len := p.len, want := p.want,
                                      buf := p.buf, bad := p.bad }
                                    (l.getD i.toNat (0 : Int))).snd.snd.fst
                            (rbyteF
                                    { part := r.part, blocks := r.blocks, block := r.block, want := r.want, held := r.held,
                                      bad := r.bad, whole := r.whole }
                                    (l.getD i.toNat (0 : Int))).snd.snd.fst) ==
                        false)
                      (Res.ite
                        ((!(byteF
                                        { blocks := p.blocks, block := p.block, part := p.part, len := p.len,
                                          want := p.want, buf := p.buf, bad := p.bad }
                                        (l.getD i.toNat (0 : Int))).snd.snd.snd.fst ==
                              (rbyteF
                                        { part := r.part, blocks := r.blocks, block := r.block, want := r.want,
                                          held := r.held, bad := r.bad, whole := r.whole }
                                        (l.getD i.toNat (0 : Int))).snd.snd.snd.fst) ==
                          false)
                        (Res.ite
                          ((byteF
                                      { blocks := p.blocks, block := p.block, part := p.part, len := p.len, want := p.want,
                                        buf := p.buf, bad := p.bad }
                                      (l.getD i.toNat (0 : Int))).snd.snd.snd.snd !=
                            (rbyteF
                                      { part := r.part, blocks := r.blocks, block := r.block, want := r.want,
                                        held := r.held, bad := r.bad, whole := r.whole }
                                      (l.getD i.toNat (0 : Int))).snd.snd.snd.snd)
                          (Res.leaf Exit.ret
                            {
                              fr :=
                                [LV.junk, LV.junk, LV.junk, LV.junk, LV.junk, LV.junk,
                                  LV.one (VV.sc (SV.bool (SB.sym false))), LV.junk, LV.junk, LV.junk, LV.junk, LV.junk,
                                  LV.junk, LV.junk, LV.junk, LV.junk, LV.junk, LV.junk, LV.junk, LV.junk, LV.junk, LV.junk,
                                  LV.junk, LV.junk, LV.junk, LV.junk, LV.junk, LV.junk, LV.junk, LV.junk, LV.junk, LV.junk,
                                  LV.junk, LV.junk, LV.junk, LV.junk, LV.junk, LV.junk, LV.junk, LV.junk, LV.junk, LV.junk,
                                  LV.junk, LV.junk, LV.junk, LV.junk, LV.junk, LV.junk, LV.junk, LV.junk, LV.junk, LV.junk,
                                  LV.junk, LV.junk, LV.junk, LV.junk, LV.junk, LV.junk, LV.junk, LV.junk, LV.junk, LV.junk,
                                  LV.junk, LV.junk, LV.junk, LV.junk, LV.junk, LV.junk, LV.junk, LV.junk, LV.junk, LV.junk,
                                  LV.junk, LV.junk, LV.junk, LV.junk, LV.junk, LV.junk, LV.junk, LV.junk, LV.junk, LV.junk,
                                  LV.junk, LV.junk, LV.junk, LV.junk, LV.junk, LV.junk, LV.junk, LV.junk, LV.junk, LV.junk,
                                  LV.junk, LV.junk, LV.junk, LV.junk, LV.junk, LV.junk, LV.junk],
                              hp :=
                                [some
                                    (Item.blk
                                      [SV.int IntKind.i64
                                          (SI.sym
                                            (byteF
                                                  { blocks := p.blocks, block := p.block, part := p.part, len := p.len,
                                                    want := p.want, buf := p.buf, bad := p.bad }
                                                  (l.getD i.toNat (0 : Int))).fst.blocks),
                                        SV.int IntKind.i64
                                          (SI.sym
                                            (byteF
                                                  { blocks := p.blocks, block := p.block, part := p.part, len := p.len,
                                                    want := p.want, buf := p.buf, bad := p.bad }
                                                  (l.getD i.toNat (0 : Int))).fst.block),
                                        SV.int IntKind.i64
                                          (SI.sym
                                            (byteF
                                                  { blocks := p.blocks, block := p.block, part := p.part, len := p.len,
                                                    want := p.want, buf := p.buf, bad := p.bad }
                                                  (l.getD i.toNat (0 : Int))).fst.part),
                                        SV.int IntKind.i64
                                          (SI.sym
                                            (byteF
                                                  { blocks := p.blocks, block := p.block, part := p.part, len := p.len,
                                                    want := p.want, buf := p.buf, bad := p.bad }
                                                  (l.getD i.toNat (0 : Int))).fst.len),
                                        SV.int IntKind.i64
                                          (SI.sym
                                            (byteF
                                                  { blocks := p.blocks, block := p.block, part := p.part, len := p.len,
                                                    want := p.want, buf := p.buf, bad := p.bad }
                                                  (l.getD i.toNat (0 : Int))).fst.want),
                                        SV.arr (Ty.int IntKind.u8) (4096 : Nat)
                                          (byteF
                                                { blocks := p.blocks, block := p.block, part := p.part, len := p.len,
                                                  want := p.want, buf := p.buf, bad := p.bad }
                                                (l.getD i.toNat (0 : Int))).fst.buf,
                                        SV.bool
                                          (SB.sym
                                            (byteF
                                                  { blocks := p.blocks, block := p.block, part := p.part, len := p.len,
                                                    want := p.want, buf := p.buf, bad := p.bad }
                                                  (l.getD i.toNat (0 : Int))).fst.bad)]
                                      (74 : Nat)),
                                  some
                                    (Item.blk
                                      [SV.int IntKind.i64
                                          (SI.sym
                                            (rbyteF
                                                  { part := r.part, blocks := r.blocks, block := r.block, want := r.want,
                                                    held := r.held, bad := r.bad, whole := r.whole }
                                                  (l.getD i.toNat (0 : Int))).fst.part),
                                        SV.int IntKind.i64
                                          (SI.sym
                                            (rbyteF
                                                  { part := r.part, blocks := r.blocks, block := r.block, want := r.want,
                                                    held := r.held, bad := r.bad, whole := r.whole }
                                                  (l.getD i.toNat (0 : Int))).fst.blocks),
                                        SV.int IntKind.i64
                                          (SI.sym
                                            (rbyteF
                                                  { part := r.part, blocks := r.blocks, block := r.block, want := r.want,
                                                    held := r.held, bad := r.bad, whole := r.whole }
                                                  (l.getD i.toNat (0 : Int))).fst.block),
                                        SV.int IntKind.i64
                                          (SI.sym
                                            (rbyteF
                                                  { part := r.part, blocks := r.blocks, block := r.block, want := r.want,
                                                    held := r.held, bad := r.bad, whole := r.whole }
                                                  (l.getD i.toNat (0 : Int))).fst.want),
                                        SV.rd true false (Ty.int IntKind.u8)
                                          (rbyteF
                                                { part := r.part, blocks := r.blocks, block := r.block, want := r.want,
                                                  held := r.held, bad := r.bad, whole := r.whole }
                                                (l.getD i.toNat (0 : Int))).fst.held,
                                        SV.bool
                                          (SB.sym
                                            (rbyteF
                                                  { part := r.part, blocks := r.blocks, block := r.block, want := r.want,
                                                    held := r.held, bad := r.bad, whole := r.whole }
                                                  (l.getD i.toNat (0 : Int))).fst.bad),
                                        SV.bool
                                          (SB.sym
                                            (rbyteF
                                                  { part := r.part, blocks := r.blocks, block := r.block, want := r.want,
                                                    held := r.held, bad := r.bad, whole := r.whole }
                                                  (l.getD i.toNat (0 : Int))).fst.whole)]
                                      (69 : Nat))] })
                          (Res.leaf Exit.normal
                            {
                              fr :=
                                [LV.one (VV.sc (SV.ptr (0 : Nat) (0 : Nat))), LV.one (VV.sc (SV.ptr (1 : Nat) (0 : Nat))),
                                  LV.one (VV.sc (SV.rd false false (Ty.int IntKind.u8) l)), LV.junk, LV.junk, LV.junk,
                                  LV.junk, LV.one (VV.sc (SV.int IntKind.i64 (SI.sym (IntKind.i64.wrap (i + (1 : Int)))))),
                                  LV.junk, LV.junk, LV.junk, LV.junk, LV.junk, LV.junk, LV.junk, LV.junk, LV.junk, LV.junk,
                                  LV.junk, LV.junk, LV.junk, LV.junk, LV.junk, LV.junk, LV.junk, LV.junk, LV.junk, LV.junk,
                                  LV.junk, LV.junk, LV.junk, LV.junk, LV.junk, LV.junk, LV.junk, LV.junk, LV.junk, LV.junk,
                                  LV.junk, LV.junk, LV.junk, LV.junk, LV.junk, LV.junk, LV.junk, LV.junk, LV.junk, LV.junk,
                                  LV.junk, LV.junk, LV.junk, LV.junk, LV.junk, LV.junk, LV.junk, LV.junk, LV.junk, LV.junk,
                                  LV.junk, LV.junk, LV.junk, LV.junk, LV.junk, LV.junk, LV.junk, LV.junk, LV.junk, LV.junk,
                                  LV.junk, LV.junk, LV.junk, LV.junk, LV.junk, LV.junk, LV.junk, LV.junk, LV.junk, LV.junk,
                                  LV.junk, LV.junk, LV.junk, LV.junk, LV.junk, LV.junk, LV.junk, LV.junk, LV.junk, LV.junk,
                                  LV.junk, LV.junk, LV.junk, LV.junk, LV.junk, LV.junk, LV.junk, LV.junk, LV.junk, LV.junk,
                                  LV.junk],
                              hp :=
                                [some
                                    (Item.blk
                                      [SV.int IntKind.i64
                                          (SI.sym
                                            (byteF
                                                  { blocks := p.blocks, block := p.block, part := p.part, len := p.len,
                                                    want := p.want, buf := p.buf, bad := p.bad }
                                                  (l.getD i.toNat (0 : Int))).fst.blocks),
                                        SV.int IntKind.i64
                                          (SI.sym
                                            (byteF
                                                  { blocks := p.blocks, block := p.block, part := p.part, len := p.len,
                                                    want := p.want, buf := p.buf, bad := p.bad }
                                                  (l.getD i.toNat (0 : Int))).fst.block),
                                        SV.int IntKind.i64
                                          (SI.sym
                                            (byteF
                                                  { blocks := p.blocks, block := p.block, part := p.part, len := p.len,
                                                    want := p.want, buf := p.buf, bad := p.bad }
                                                  (l.getD i.toNat (0 : Int))).fst.part),
                                        SV.int IntKind.i64
                                          (SI.sym
                                            (byteF
                                                  { blocks := p.blocks, block := p.block, part := p.part, len := p.len,
                                                    want := p.want, buf := p.buf, bad := p.bad }
                                                  (l.getD i.toNat (0 : Int))).fst.len),
                                        SV.int IntKind.i64
                                          (SI.sym
                                            (byteF
                                                  { blocks := p.blocks, block := p.block, part := p.part, len := p.len,
                                                    want := p.want, buf := p.buf, bad := p.bad }
                                                  (l.getD i.toNat (0 : Int))).fst.want),
                                        SV.arr (Ty.int IntKind.u8) (4096 : Nat)
                                          (byteF
                                                { blocks := p.blocks, block := p.block, part := p.part, len := p.len,
                                                  want := p.want, buf := p.buf, bad := p.bad }
                                                (l.getD i.toNat (0 : Int))).fst.buf,
                                        SV.bool
                                          (SB.sym
                                            (byteF
                                                  { blocks := p.blocks, block := p.block, part := p.part, len := p.len,
                                                    want := p.want, buf := p.buf, bad := p.bad }
                                                  (l.getD i.toNat (0 : Int))).fst.bad)]
                                      (74 : Nat)),
                                  some
                                    (Item.blk
                                      [SV.int IntKind.i64
                                          (SI.sym
                                            (rbyteF
                                                  { part := r.part, blocks := r.blocks, block := r.block, want := r.want,
                                                    held := r.held, bad := r.bad, whole := r.whole }
                                                  (l.getD i.toNat (0 : Int))).fst.part),
                                        SV.int IntKind.i64
                                          (SI.sym
                                            (rbyteF
                                                  { part := r.part, blocks := r.blocks, block := r.block, want := r.want,
                                                    held := r.held, bad := r.bad, whole := r.whole }
                                                  (l.getD i.toNat (0 : Int))).fst.blocks),
                                        SV.int IntKind.i64
                                          (SI.sym
                                            (rbyteF
                                                  { part := r.part, blocks := r.blocks, block := r.block, want := r.want,
                                                    held := r.held, bad := r.bad, whole := r.whole }
                                                  (l.getD i.toNat (0 : Int))).fst.block),
                                        SV.int IntKind.i64
                                          (SI.sym
                                            (rbyteF
                                                  { part := r.part, blocks := r.blocks, block := r.block, want := r.want,
                                                    held := r.held, bad := r.bad, whole := r.whole }
                                                  (l.getD i.toNat (0 : Int))).fst.want),
                                        SV.rd true false (Ty.int IntKind.u8)
                                          (rbyteF
                                                { part := r.part, blocks := r.blocks, block := r.block, want := r.want,
                                                  held := r.held, bad := r.bad, whole := r.whole }
                                                (l.getD i.toNat (0 : Int))).fst.held,
                                        SV.bool
                                          (SB.sym
                                            (rbyteF
                                                  { part := r.part, blocks := r.blocks, block := r.block, want := r.want,
                                                    held := r.held, bad := r.bad, whole := r.whole }
                                                  (l.getD i.toNat (0 : Int))).fst.bad),
                                        SV.bool
                                          (SB.sym
                                            (rbyteF
                                                  { part := r.part, blocks := r.blocks, block := r.block, want := r.want,
                                                    held := r.held, bad := r.bad, whole := r.whole }
                                                  (l.getD i.toNat (0 : Int))).fst.whole)]
                                      (69 : Nat))] }))
                        (Res.leaf Exit.ret
                          {
                            fr :=
                              [LV.junk, LV.junk, LV.junk, LV.junk, LV.junk, LV.junk,
                                LV.one (VV.sc (SV.bool (SB.sym false))), LV.junk, LV.junk, LV.junk, LV.junk, LV.junk,
                                LV.junk, LV.junk, LV.junk, LV.junk, LV.junk, LV.junk, LV.junk, LV.junk, LV.junk, LV.junk,
                                LV.junk, LV.junk, LV.junk, LV.junk, LV.junk, LV.junk, LV.junk, LV.junk, LV.junk, LV.junk,
                                LV.junk, LV.junk, LV.junk, LV.junk, LV.junk, LV.junk, LV.junk, LV.junk, LV.junk, LV.junk,
                                LV.junk, LV.junk, LV.junk, LV.junk, LV.junk, LV.junk, LV.junk, LV.junk, LV.junk, LV.junk,
                                LV.junk, LV.junk, LV.junk, LV.junk, LV.junk, LV.junk, LV.junk, LV.junk, LV.junk, LV.junk,
                                LV.junk, LV.junk, LV.junk, LV.junk, LV.junk, LV.junk, LV.junk, LV.junk, LV.junk, LV.junk,
                                LV.junk, LV.junk, LV.junk, LV.junk, LV.junk, LV.junk, LV.junk, LV.junk, LV.junk, LV.junk,
                                LV.junk, LV.junk, LV.junk, LV.junk, LV.junk, LV.junk, LV.junk, LV.junk, LV.junk, LV.junk,
                                LV.junk, LV.junk, LV.junk, LV.junk, LV.junk, LV.junk, LV.junk],
                            hp :=
                              [some
                                  (Item.blk
                                    [SV.int IntKind.i64
                                        (SI.sym
                                          (byteF
                                                { blocks := p.blocks, block := p.block, part := p.part, len := p.len,
                                                  want := p.want, buf := p.buf, bad := p.bad }
                                                (l.getD i.toNat (0 : Int))).fst.blocks),
                                      SV.int IntKind.i64
                                        (SI.sym
                                          (byteF
                                                { blocks := p.blocks, block := p.block, part := p.part, len := p.len,
                                                  want := p.want, buf := p.buf, bad := p.bad }
                                                (l.getD i.toNat (0 : Int))).fst.block),
                                      SV.int IntKind.i64
                                        (SI.sym
                                          (byteF
                                                { blocks := p.blocks, block := p.block, part := p.part, len := p.len,
                                                  want := p.want, buf := p.buf, bad := p.bad }
                                                (l.getD i.toNat (0 : Int))).fst.part),
                                      SV.int IntKind.i64
                                        (SI.sym
                                          (byteF
                                                { blocks := p.blocks, block := p.block, part := p.part, len := p.len,
                                                  want := p.want, buf := p.buf, bad := p.bad }
                                                (l.getD i.toNat (0 : Int))).fst.len),
                                      SV.int IntKind.i64
                                        (SI.sym
                                          (byteF
                                                { blocks := p.blocks, block := p.block, part := p.part, len := p.len,
                                                  want := p.want, buf := p.buf, bad := p.bad }
                                                (l.getD i.toNat (0 : Int))).fst.want),
                                      SV.arr (Ty.int IntKind.u8) (4096 : Nat)
                                        (byteF
                                              { blocks := p.blocks, block := p.block, part := p.part, len := p.len,
                                                want := p.want, buf := p.buf, bad := p.bad }
                                              (l.getD i.toNat (0 : Int))).fst.buf,
                                      SV.bool
                                        (SB.sym
                                          (byteF
                                                { blocks := p.blocks, block := p.block, part := p.part, len := p.len,
                                                  want := p.want, buf := p.buf, bad := p.bad }
                                                (l.getD i.toNat (0 : Int))).fst.bad)]
                                    (74 : Nat)),
                                some
                                  (Item.blk
                                    [SV.int IntKind.i64
                                        (SI.sym
                                          (rbyteF
                                                { part := r.part, blocks := r.blocks, block := r.block, want := r.want,
                                                  held := r.held, bad := r.bad, whole := r.whole }
                                                (l.getD i.toNat (0 : Int))).fst.part),
                                      SV.int IntKind.i64
                                        (SI.sym
                                          (rbyteF
                                                { part := r.part, blocks := r.blocks, block := r.block, want := r.want,
                                                  held := r.held, bad := r.bad, whole := r.whole }
                                                (l.getD i.toNat (0 : Int))).fst.blocks),
                                      SV.int IntKind.i64
                                        (SI.sym
                                          (rbyteF
                                                { part := r.part, blocks := r.blocks, block := r.block, want := r.want,
                                                  held := r.held, bad := r.bad, whole := r.whole }
                                                (l.getD i.toNat (0 : Int))).fst.block),
                                      SV.int IntKind.i64
                                        (SI.sym
                                          (rbyteF
                                                { part := r.part, blocks := r.blocks, block := r.block, want := r.want,
                                                  held := r.held, bad := r.bad, whole := r.whole }
                                                (l.getD i.toNat (0 : Int))).fst.want),
                                      SV.rd true false (Ty.int IntKind.u8)
                                        (rbyteF
                                              { part := r.part, blocks := r.blocks, block := r.block, want := r.want,
                                                held := r.held, bad := r.bad, whole := r.whole }
                                              (l.getD i.toNat (0 : Int))).fst.held,
                                      SV.bool
                                        (SB.sym
                                          (rbyteF
                                                { part := r.part, blocks := r.blocks, block := r.block, want := r.want,
                                                  held := r.held, bad := r.bad, whole := r.whole }
                                                (l.getD i.toNat (0 : Int))).fst.bad),
                                      SV.bool
                                        (SB.sym
                                          (rbyteF
                                                { part := r.part, blocks := r.blocks, block := r.block, want := r.want,
                                                  held := r.held, bad := r.bad, whole := r.whole }
                                                (l.getD i.toNat (0 : Int))).fst.whole)]
                                    (69 : Nat))] }))
                      (Res.leaf Exit.ret
                        {
                          fr :=
                            [LV.junk, LV.junk, LV.junk, LV.junk, LV.junk, LV.junk, LV.one (VV.sc (SV.bool (SB.sym false))),
                              LV.junk, LV.junk, LV.junk, LV.junk, LV.junk, LV.junk, LV.junk, LV.junk, LV.junk, LV.junk,
                              LV.junk, LV.junk, LV.junk, LV.junk, LV.junk, LV.junk, LV.junk, LV.junk, LV.junk, LV.junk,
                              LV.junk, LV.junk, LV.junk, LV.junk, LV.junk, LV.junk, LV.junk, LV.junk, LV.junk, LV.junk,
                              LV.junk, LV.junk, LV.junk, LV.junk, LV.junk, LV.junk, LV.junk, LV.junk, LV.junk, LV.junk,
                              LV.junk, LV.junk, LV.junk, LV.junk, LV.junk, LV.junk, LV.junk, LV.junk, LV.junk, LV.junk,
                              LV.junk, LV.junk, LV.junk, LV.junk, LV.junk, LV.junk, LV.junk, LV.junk, LV.junk, LV.junk,
                              LV.junk, LV.junk, LV.junk, LV.junk, LV.junk, LV.junk, LV.junk, LV.junk, LV.junk, LV.junk,
                              LV.junk, LV.junk, LV.junk, LV.junk, LV.junk, LV.junk, LV.junk, LV.junk, LV.junk, LV.junk,
                              LV.junk, LV.junk, LV.junk, LV.junk, LV.junk, LV.junk, LV.junk, LV.junk, LV.junk, LV.junk,
                              LV.junk, LV.junk],
                          hp :=
                            [some
                                (Item.blk
                                  [SV.int IntKind.i64
                                      (SI.sym
                                        (byteF
                                              { blocks := p.blocks, block := p.block, part := p.part, len := p.len,
                                                want := p.want, buf := p.buf, bad := p.bad }
                                              (l.getD i.toNat (0 : Int))).fst.blocks),
                                    SV.int IntKind.i64
                                      (SI.sym
                                        (byteF
                                              { blocks := p.blocks, block := p.block, part := p.part, len := p.len,
                                                want := p.want, buf := p.buf, bad := p.bad }
                                              (l.getD i.toNat (0 : Int))).fst.block),
                                    SV.int IntKind.i64
                                      (SI.sym
                                        (byteF
                                              { blocks := p.blocks, block := p.block, part := p.part, len := p.len,
                                                want := p.want, buf := p.buf, bad := p.bad }
                                              (l.getD i.toNat (0 : Int))).fst.part),
                                    SV.int IntKind.i64
                                      (SI.sym
                                        (byteF
                                              { blocks := p.blocks, block := p.block, part := p.part, len := p.len,
                                                want := p.want, buf := p.buf, bad := p.bad }
                                              (l.getD i.toNat (0 : Int))).fst.len),
                                    SV.int IntKind.i64
                                      (SI.sym
                                        (byteF
                                              { blocks := p.blocks, block := p.block, part := p.part, len := p.len,
                                                want := p.want, buf := p.buf, bad := p.bad }
                                              (l.getD i.toNat (0 : Int))).fst.want),
                                    SV.arr (Ty.int IntKind.u8) (4096 : Nat)
                                      (byteF
                                            { blocks := p.blocks, block := p.block, part := p.part, len := p.len,
                                              want := p.want, buf := p.buf, bad := p.bad }
                                            (l.getD i.toNat (0 : Int))).fst.buf,
                                    SV.bool
                                      (SB.sym
                                        (byteF
                                              { blocks := p.blocks, block := p.block, part := p.part, len := p.len,
                                                want := p.want, buf := p.buf, bad := p.bad }
                                              (l.getD i.toNat (0 : Int))).fst.bad)]
                                  (74 : Nat)),
                              some
                                (Item.blk
                                  [SV.int IntKind.i64
                                      (SI.sym
                                        (rbyteF
                                              { part := r.part, blocks := r.blocks, block := r.block, want := r.want,
                                                held := r.held, bad := r.bad, whole := r.whole }
                                              (l.getD i.toNat (0 : Int))).fst.part),
                                    SV.int IntKind.i64
                                      (SI.sym
                                        (rbyteF
                                              { part := r.part, blocks := r.blocks, block := r.block, want := r.want,
                                                held := r.held, bad := r.bad, whole := r.whole }
                                              (l.getD i.toNat (0 : Int))).fst.blocks),
                                    SV.int IntKind.i64
                                      (SI.sym
                                        (rbyteF
                                              { part := r.part, blocks := r.blocks, block := r.block, want := r.want,
                                                held := r.held, bad := r.bad, whole := r.whole }
                                              (l.getD i.toNat (0 : Int))).fst.block),
                                    SV.int IntKind.i64
                                      (SI.sym
                                        (rbyteF
                                              { part := r.part, blocks := r.blocks, block := r.block, want := r.want,
                                                held := r.held, bad := r.bad, whole := r.whole }
                                              (l.getD i.toNat (0 : Int))).fst.want),
                                    SV.rd true false (Ty.int IntKind.u8)
                                      (rbyteF
                                            { part := r.part, blocks := r.blocks, block := r.block, want := r.want,
                                              held := r.held, bad := r.bad, whole := r.whole }
                                            (l.getD i.toNat (0 : Int))).fst.held,
                                    SV.bool
                                      (SB.sym
                                        (rbyteF
                                              { part := r.part, blocks := r.blocks, block := r.block, want := r.want,
                                                held := r.held, bad := r.bad, whole := r.whole }
                                              (l.getD i.toNat (0 : Int))).fst.bad),
                                    SV.bool
                                      (SB.sym
                                        (rbyteF
                                              { part := r.part, blocks := r.blocks, block := r.block, want := r.want,
                                                held := r.held, bad := r.bad, whole := r.whole }
                                              (l.getD i.toNat (0 : Int))).fst.whole)]
                                  (69 : Nat))] }))
                    (Res.leaf Exit.ret
                      {
                        fr :=
                          [LV.junk, LV.junk, LV.junk, LV.junk, LV.junk, LV.junk, LV.one (VV.sc (SV.bool (SB.sym false))),
                            LV.junk, LV.junk, LV.junk, LV.junk, LV.junk, LV.junk, LV.junk, LV.junk, LV.junk, LV.junk,
                            LV.junk, LV.junk, LV.junk, LV.junk, LV.junk, LV.junk, LV.junk, LV.junk, LV.junk, LV.junk,
                            LV.junk, LV.junk, LV.junk, LV.junk, LV.junk, LV.junk, LV.junk, LV.junk, LV.junk, LV.junk,
                            LV.junk, LV.junk, LV.junk, LV.junk, LV.junk, LV.junk, LV.junk, LV.junk, LV.junk, LV.junk,
                            LV.junk, LV.junk, LV.junk, LV.junk, LV.junk, LV.junk, LV.junk, LV.junk, LV.junk, LV.junk,
                            LV.junk, LV.junk, LV.junk, LV.junk, LV.junk, LV.junk, LV.junk, LV.junk, LV.junk, LV.junk,
                            LV.junk, LV.junk, LV.junk, LV.junk, LV.junk, LV.junk, LV.junk, LV.junk, LV.junk, LV.junk,
                            LV.junk, LV.junk, LV.junk, LV.junk, LV.junk, LV.junk, LV.junk, LV.junk, LV.junk, LV.junk,
                            LV.junk, LV.junk, LV.junk, LV.junk, LV.junk, LV.junk, LV.junk, LV.junk, LV.junk, LV.junk,
                            LV.junk, LV.junk],
                        hp :=
                          [some
                              (Item.blk
                                [SV.int IntKind.i64
                                    (SI.sym
                                      (byteF
                                            { blocks := p.blocks, block := p.block, part := p.part, len := p.len,
                                              want := p.want, buf := p.buf, bad := p.bad }
                                            (l.getD i.toNat (0 : Int))).fst.blocks),
                                  SV.int IntKind.i64
                                    (SI.sym
                                      (byteF
                                            { blocks := p.blocks, block := p.block, part := p.part, len := p.len,
                                              want := p.want, buf := p.buf, bad := p.bad }
                                            (l.getD i.toNat (0 : Int))).fst.block),
                                  SV.int IntKind.i64
                                    (SI.sym
                                      (byteF
                                            { blocks := p.blocks, block := p.block, part := p.part, len := p.len,
                                              want := p.want, buf := p.buf, bad := p.bad }
                                            (l.getD i.toNat (0 : Int))).fst.part),
                                  SV.int IntKind.i64
                                    (SI.sym
                                      (byteF
                                            { blocks := p.blocks, block := p.block, part := p.part, len := p.len,
                                              want := p.want, buf := p.buf, bad := p.bad }
                                            (l.getD i.toNat (0 : Int))).fst.len),
                                  SV.int IntKind.i64
                                    (SI.sym
                                      (byteF
                                            { blocks := p.blocks, block := p.block, part := p.part, len := p.len,
                                              want := p.want, buf := p.buf, bad := p.bad }
                                            (l.getD i.toNat (0 : Int))).fst.want),
                                  SV.arr (Ty.int IntKind.u8) (4096 : Nat)
                                    (byteF
                                          { blocks := p.blocks, block := p.block, part := p.part, len := p.len,
                                            want := p.want, buf := p.buf, bad := p.bad }
                                          (l.getD i.toNat (0 : Int))).fst.buf,
                                  SV.bool
                                    (SB.sym
                                      (byteF
                                            { blocks := p.blocks, block := p.block, part := p.part, len := p.len,
                                              want := p.want, buf := p.buf, bad := p.bad }
                                            (l.getD i.toNat (0 : Int))).fst.bad)]
                                (74 : Nat)),
                            some
                              (Item.blk
                                [SV.int IntKind.i64
                                    (SI.sym
                                      (rbyteF
                                            { part := r.part, blocks := r.blocks, block := r.block, want := r.want,
                                              held := r.held, bad := r.bad, whole := r.whole }
                                            (l.getD i.toNat (0 : Int))).fst.part),
                                  SV.int IntKind.i64
                                    (SI.sym
                                      (rbyteF
                                            { part := r.part, blocks := r.blocks, block := r.block, want := r.want,
                                              held := r.held, bad := r.bad, whole := r.whole }
                                            (l.getD i.toNat (0 : Int))).fst.blocks),
                                  SV.int IntKind.i64
                                    (SI.sym
                                      (rbyteF
                                            { part := r.part, blocks := r.blocks, block := r.block, want := r.want,
                                              held := r.held, bad := r.bad, whole := r.whole }
                                            (l.getD i.toNat (0 : Int))).fst.block),
                                  SV.int IntKind.i64
                                    (SI.sym
                                      (rbyteF
                                            { part := r.part, blocks := r.blocks, block := r.block, want := r.want,
                                              held := r.held, bad := r.bad, whole := r.whole }
                                            (l.getD i.toNat (0 : Int))).fst.want),
                                  SV.rd true false (Ty.int IntKind.u8)
                                    (rbyteF
                                          { part := r.part, blocks := r.blocks, block := r.block, want := r.want,
                                            held := r.held, bad := r.bad, whole := r.whole }
                                          (l.getD i.toNat (0 : Int))).fst.held,
                                  SV.bool
                                    (SB.sym
                                      (rbyteF
                                            { part := r.part, blocks := r.blocks, block := r.block, want := r.want,
                                              held := r.held, bad := r.bad, whole := r.whole }
                                            (l.getD i.toNat (0 : Int))).fst.bad),
                                  SV.bool
                                    (SB.sym
                                      (rbyteF
                                            { part := r.part, blocks := r.blocks, block := r.block, want := r.want,
                                              held := r.held, bad := r.bad, whole := r.whole }
                                            (l.getD i.toNat (0 : Int))).fst.whole)]
                                (69 : Nat))] })))))))
        (Res.leaf Exit.ret
          {
            fr :=
              [LV.junk, LV.junk, LV.junk, LV.junk, LV.junk, LV.junk, LV.one (VV.sc (SV.bool (SB.sym false))), LV.junk,
                LV.junk, LV.junk, LV.junk, LV.junk, LV.junk, LV.junk, LV.junk, LV.junk, LV.junk, LV.junk, LV.junk, LV.junk,
                LV.junk, LV.junk, LV.junk, LV.junk, LV.junk, LV.junk, LV.junk, LV.junk, LV.junk, LV.junk, LV.junk, LV.junk,
                LV.junk, LV.junk, LV.junk, LV.junk, LV.junk, LV.junk, LV.junk, LV.junk, LV.junk, LV.junk, LV.junk, LV.junk,
                LV.junk, LV.junk, LV.junk, LV.junk, LV.junk, LV.junk, LV.junk, LV.junk, LV.junk, LV.junk, LV.junk, LV.junk,
                LV.junk, LV.junk, LV.junk, LV.junk, LV.junk, LV.junk, LV.junk, LV.junk, LV.junk, LV.junk, LV.junk, LV.junk,
                LV.junk, LV.junk, LV.junk, LV.junk, LV.junk, LV.junk, LV.junk, LV.junk, LV.junk, LV.junk, LV.junk, LV.junk,
                LV.junk, LV.junk, LV.junk, LV.junk, LV.junk, LV.junk, LV.junk, LV.junk, LV.junk, LV.junk, LV.junk, LV.junk,
                LV.junk, LV.junk, LV.junk, LV.junk, LV.junk, LV.junk, LV.junk],
            hp :=
              [some
                  (Item.blk
                    [SV.int IntKind.i64 (SI.sym p.blocks), SV.int IntKind.i64 (SI.sym p.block),
                      SV.int IntKind.i64 (SI.sym p.part), SV.int IntKind.i64 (SI.sym p.len),
                      SV.int IntKind.i64 (SI.sym p.want), SV.arr (Ty.int IntKind.u8) (4096 : Nat) p.buf,
                      SV.bool (SB.sym p.bad)]
                    (74 : Nat)),
                some
                  (Item.blk
                    [SV.int IntKind.i64 (SI.sym r.part), SV.int IntKind.i64 (SI.sym r.blocks),
                      SV.int IntKind.i64 (SI.sym r.block), SV.int IntKind.i64 (SI.sym r.want),
                      SV.rd true false (Ty.int IntKind.u8) r.held, SV.bool (SB.sym r.bad), SV.bool (SB.sym r.whole)]
                    (69 : Nat))] }))
      (Res.leaf (Exit.exit (0 : Nat))
        {
          fr :=
            [LV.one (VV.sc (SV.ptr (0 : Nat) (0 : Nat))), LV.one (VV.sc (SV.ptr (1 : Nat) (0 : Nat))), LV.junk, LV.junk,
              LV.junk, LV.junk, LV.junk, LV.junk, LV.junk, LV.junk, LV.junk, LV.junk, LV.junk, LV.junk, LV.junk, LV.junk,
              LV.junk, LV.junk, LV.junk, LV.junk, LV.junk, LV.junk, LV.junk, LV.junk, LV.junk, LV.junk, LV.junk, LV.junk,
              LV.junk, LV.junk, LV.junk, LV.junk, LV.junk, LV.junk, LV.junk, LV.junk, LV.junk, LV.junk, LV.junk, LV.junk,
              LV.junk, LV.junk, LV.junk, LV.junk, LV.junk, LV.junk, LV.junk, LV.junk, LV.junk, LV.junk, LV.junk, LV.junk,
              LV.junk, LV.junk, LV.junk, LV.junk, LV.junk, LV.junk, LV.junk, LV.junk, LV.junk, LV.junk, LV.junk, LV.junk,
              LV.junk, LV.junk, LV.junk, LV.junk, LV.junk, LV.junk, LV.junk, LV.junk, LV.junk, LV.junk, LV.junk, LV.junk,
              LV.junk, LV.junk, LV.junk, LV.junk, LV.junk, LV.junk, LV.junk, LV.junk, LV.junk, LV.junk, LV.junk, LV.junk,
              LV.junk, LV.junk, LV.junk, LV.junk, LV.junk, LV.junk, LV.junk, LV.junk, LV.junk, LV.junk, LV.junk],
          hp :=
            [some
                (Item.blk
                  [SV.int IntKind.i64 (SI.sym p.blocks), SV.int IntKind.i64 (SI.sym p.block),
                    SV.int IntKind.i64 (SI.sym p.part), SV.int IntKind.i64 (SI.sym p.len),
                    SV.int IntKind.i64 (SI.sym p.want), SV.arr (Ty.int IntKind.u8) (4096 : Nat) p.buf,
                    SV.bool (SB.sym p.bad)]
                  (74 : Nat)),
              some
                (Item.blk
                  [SV.int IntKind.i64 (SI.sym r.part), SV.int IntKind.i64 (SI.sym r.blocks),
                    SV.int IntKind.i64 (SI.sym r.block), SV.int IntKind.i64 (SI.sym r.want),
                    SV.rd true false (Ty.int IntKind.u8) r.held, SV.bool (SB.sym r.bad), SV.bool (SB.sym r.whole)]
                  (69 : Nat))] }) := by kernel_rfl
end Go.Proofs.Ytdpbkfmjknmmnaa
