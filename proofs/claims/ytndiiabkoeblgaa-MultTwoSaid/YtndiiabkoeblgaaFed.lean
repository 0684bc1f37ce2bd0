/- Points as the program has them: what each function gives. -/
import Derived.Test.YtndiiabkoeblgaaFec
namespace Go.Proofs.Ytndiiabkoeblgaa
open Go Go.Ev

set_option maxRecDepth 1000000

abbrev Pt := Bool × Fe × Fe × Fe × Fe
abbrev ccFe : CC Fe := ccVec (ccInt .u64) 5
abbrev cPt : Codec Pt := cAgg (ccPair ccBool (ccPair ccFe (ccPair ccFe (ccPair ccFe ccFe))))
noncomputable def selPt (b : Bool) (p q : Pt) : Pt := (bif b then p.1 else q.1, selN b p.2.1 q.2.1, selN b p.2.2.1 q.2.2.1, selN b p.2.2.2.1 q.2.2.2.1, selN b p.2.2.2.2 q.2.2.2.2)
theorem selPt_eq (b : Bool) (p q : Pt) : selPt b p q = bif b then p else q := by
  unfold selPt; rw [selN_eq, selN_eq, selN_eq, selN_eq]; cases b <;> rfl

section
variable (mul add sub : Fe → Fe → Fe) (square neg invert : Fe → Fe) (small : Int → Fe) (isZero odd : Fe → Bool) (sqrt : Fe → Fe × Bool) (ratio : Fe → Fe → Fe × Bool) (frm : B32 → Fe) (bytes : Fe → B32)
  (canonical : B32 → Bool) (equal : Fe → Fe → Bool) (edge : Fe) (zero : Pt) (own : Pt → Pt) (affine : Fe → Fe → Pt) (root : Fe → Fe × Bool) (place : Pt → Fe × Fe) (cross : Fe → Fe → Fe → Fe → Pt) (padd : Pt → Pt → Pt)

noncomputable def ratioFn (u v : Fe) : Fe × Bool := (selN (isZero v) feZero (sqrt (mul u (invert v))).1, bif isZero v then isZero u else (sqrt (mul u (invert v))).2)
theorem ratio_out (u v : Fe) : outQ Try.prog (gam [(49, fn2 cFe cFe (one cFe) mul), (80, fn1 cFe (one cFe) invert), (44, fn1 cFe (one cBool) isZero), (97, fn1 cFe (two cFe cBool) sqrt)]) Try.f82
    [.one (cFe.wr u), .one (cFe.wr v)] = some (none, (two cFe cBool).wr (ratioFn mul invert isZero sqrt u v)) := by kernel_rfl

noncomputable def edgeBytes : B32 := (0xa3, 0x78, 0x59, 0x13, 0xca, 0x4d, 0xeb, 0x75, 0xab, 0xd8, 0x41, 0x41, 0x4d, 0x0a, 0x70, 0x00, 0x98, 0xe8, 0x79, 0x77, 0x79, 0x40, 0xc7, 0x8c, 0x73, 0xfe, 0x6f, 0x2b, 0xee, 0x6c, 0x03, 0x52, ())
theorem edge_out : outQ Try.prog (gam [(41, fn1 cB32 (one cFe) frm)]) Try.f56 [] = some (none, .one (cFe.wr (frm edgeBytes))) := by kernel_rfl
noncomputable def affineFn (x y : Fe) : Pt := (true, x, y, small 1, mul x y)
theorem affine_out (x y : Fe) : outQ Try.prog (gam [(49, fn2 cFe cFe (one cFe) mul), (50, fn1 (cInt .u64) (one cFe) small)]) Try.f46 [.one (cFe.wr x), .one (cFe.wr y)] = some (none, .one (cPt.wr (affineFn mul small x y))) := by kernel_rfl
theorem zero_out : outQ Try.prog (gam [(46, fn2 cFe cFe (one cPt) affine), (50, fn1 (cInt .u64) (one cFe) small)]) Try.f17 [] = some (none, .one (cPt.wr (affine feZero (small 1)))) := by kernel_rfl
noncomputable def ownFn (p : Pt) : Pt := selPt (!p.1) zero p
theorem own_out (p : Pt) : outQ Try.prog (gam [(17, fn0 (one cPt) zero)]) Try.f47 [.one (cPt.wr p)] = some (none, .one (cPt.wr (ownFn zero p))) := by kernel_rfl
noncomputable def rootFn' (y : Fe) : Fe × Bool := ratio (sub (square y) (small 1)) (add (mul edge (square y)) (small 1))
theorem root_out (y : Fe) : outQ Try.prog (gam [(49, fn2 cFe cFe (one cFe) mul), (55, fn2 cFe cFe (one cFe) add), (54, fn2 cFe cFe (one cFe) sub), (81, fn1 cFe (one cFe) square), (50, fn1 (cInt .u64) (one cFe) small),
    (56, fn0 (one cFe) edge), (82, fn2 cFe cFe (two cFe cBool) ratio)]) Try.f42 [.one (cFe.wr y)] = some (none, (two cFe cBool).wr (rootFn' mul add sub square small ratio edge y)) := by kernel_rfl
noncomputable def baseFn : Pt := affine (root (mul (small 4) (invert (small 5)))).1 (mul (small 4) (invert (small 5)))
theorem base_out : outQ Try.prog (gam [(49, fn2 cFe cFe (one cFe) mul), (50, fn1 (cInt .u64) (one cFe) small), (80, fn1 cFe (one cFe) invert), (42, fn1 cFe (two cFe cBool) root),
    (46, fn2 cFe cFe (one cPt) affine)]) Try.f40 [] = some (none, .one (cPt.wr (baseFn mul invert small affine root))) := by kernel_rfl

noncomputable def ptNone : Pt := (false, feZero, feZero, feZero, feZero)
noncomputable def topBit (b : B32) : Bool := bitAnd .u8 (b.get 31) 128 != 0
noncomputable def decodeFn (b : B32) : Pt × Bool :=
  let y := frm b
  let x := (root y).1
  let ok := (root y).2
  let b1 := (!ok) == false
  let b2 := (!(canonical b)) == false
  let b3 := topBit b == true
  let j (v : Fe) : Fe := selN b1 (selN b2 (selN b3 v v) v) v
  let jb (v : Bool) : Bool := bif b1 then (bif b2 then (bif b3 then v else v) else v) else v
  let bad := bif b1 then (bif b2 then (bif b3 then isZero x else false) else true) else true
  let o := jb (topBit b)
  (selPt bad ptNone (affine (selN o (neg (j x)) (j x)) (selN o (j y) (j y))), bif bad then false else true)
theorem decode_out (b : B32) : outQ Try.prog (gam [(41, fn1 cB32 (one cFe) frm), (42, fn1 cFe (two cFe cBool) root), (43, fn1 cB32 (one cBool) canonical), (44, fn1 cFe (one cBool) isZero),
    (45, fn1 cFe (one cFe) neg), (46, fn2 cFe cFe (one cPt) affine)]) Try.f15 [.one (cB32.wr b)] = some (none, (two cPt cBool).wr (decodeFn neg isZero frm canonical affine root b)) := by kernel_rfl

noncomputable def placeFn (p : Pt) : Fe × Fe := (mul (own p).2.1 (invert (own p).2.2.2.1), mul (own p).2.2.1 (invert (own p).2.2.2.1))
theorem place_out (p : Pt) : outQ Try.prog (gam [(49, fn2 cFe cFe (one cFe) mul), (80, fn1 cFe (one cFe) invert), (47, fn1 cPt (one cPt) own)]) Try.f51 [.one (cPt.wr p)] =
    some (none, (two cFe cFe).wr (placeFn mul invert own p)) := by kernel_rfl
noncomputable def encodeFn (p : Pt) : B32 :=
  let b := bytes (place p).2
  selN (odd (place p).1) (Vec.upd (fun x => bitOr .u8 x 128) 31 b) b
theorem encode_out (p : Pt) : outQ Try.prog (gam [(51, fn1 cPt (two cFe cFe) place), (52, fn1 cFe (one cB32) bytes), (53, fn1 cFe (one cBool) odd)]) Try.f18 [.one (cPt.wr p)] =
    some (none, .one (cB32.wr (encodeFn odd bytes place p))) := by kernel_rfl
noncomputable def crossFn (e f g h : Fe) : Pt := (true, mul e f, mul g h, mul f g, mul e h)
theorem cross_out (e f g h : Fe) : outQ Try.prog (gam [(49, fn2 cFe cFe (one cFe) mul)]) Try.f57 [.one (cFe.wr e), .one (cFe.wr f), .one (cFe.wr g), .one (cFe.wr h)] = some (none, .one (cPt.wr (crossFn mul e f g h))) := by kernel_rfl
theorem double_out (p : Pt) : outQ Try.prog (gam [(22, fn2 cPt cPt (one cPt) padd)]) Try.f29 [.one (cPt.wr p)] = some (none, .one (cPt.wr (padd p p))) := by kernel_rfl
noncomputable def addFn (p0 q0 : Pt) : Pt :=
  let p := own p0
  let q := own q0
  let a := mul (sub p.2.2.1 p.2.1) (sub q.2.2.1 q.2.1)
  let b := mul (add p.2.2.1 p.2.1) (add q.2.2.1 q.2.1)
  let c := mul (mul p.2.2.2.2 q.2.2.2.2) edge
  let c := add c c
  let d := mul p.2.2.2.1 q.2.2.2.1
  let d := add d d
  cross (sub b a) (sub d c) (add d c) (add b a)
theorem add_out (p q : Pt) : outQ Try.prog (gam [(49, fn2 cFe cFe (one cFe) mul), (55, fn2 cFe cFe (one cFe) add), (54, fn2 cFe cFe (one cFe) sub), (56, fn0 (one cFe) edge), (47, fn1 cPt (one cPt) own),
    (57, fn4 cFe cFe cFe cFe (one cPt) cross)]) Try.f22 [.one (cPt.wr p), .one (cPt.wr q)] = some (none, .one (cPt.wr (addFn mul add sub edge own cross p q))) := by kernel_rfl
noncomputable def negFn (p : Pt) : Pt := ((own p).1, neg (own p).2.1, (own p).2.2.1, (own p).2.2.2.1, neg (own p).2.2.2.2)
theorem neg_out (p : Pt) : outQ Try.prog (gam [(45, fn1 cFe (one cFe) neg), (47, fn1 cPt (one cPt) own)]) Try.f30 [.one (cPt.wr p)] = some (none, .one (cPt.wr (negFn neg own p))) := by kernel_rfl
noncomputable def equalFn (p0 q0 : Pt) : Bool :=
  let p := own p0
  let q := own q0
  let e1 := equal (mul p.2.1 q.2.2.2.1) (mul q.2.1 p.2.2.2.1)
  bif e1 == true then equal (mul p.2.2.1 q.2.2.2.1) (mul q.2.2.1 p.2.2.2.1) else false
theorem equal_out (p q : Pt) : outQ Try.prog (gam [(49, fn2 cFe cFe (one cFe) mul), (48, fn2 cFe cFe (one cBool) equal), (47, fn1 cPt (one cPt) own)]) Try.f16 [.one (cPt.wr p), .one (cPt.wr q)] =
    some (none, .one (cBool.wr (equalFn mul equal own p q))) := by kernel_rfl
end

end Go.Proofs.Ytndiiabkoeblgaa
