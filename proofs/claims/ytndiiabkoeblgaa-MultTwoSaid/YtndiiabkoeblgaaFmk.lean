/- The program's functions of points, each with what it gives. -/
import Derived.Test.YtndiiabkoeblgaaFmj
namespace Go.Proofs.Ytndiiabkoeblgaa
open Go Go.Ev BJ

theorem r_edge : RowP Try.prog 56 (fn0 (one cFe) edgeC) := row0 Try.call56 (gives_of_out (gam_ok (t := [(41, fn1 cB32 (one cFe) feFrom)]) ⟨r_from, trivial⟩) mixed Try.func56 (edge_out feFrom))
theorem r_affine : RowP Try.prog 46 (fn2 cFe cFe (one cPt) affineC) := row2 Try.call46 fun a b => gives_of_out (gam_ok (t := [(49, fn2 cFe cFe (one cFe) mulC), (50, fn1 (cInt .u64) (one cFe) feSmall)]) ⟨r_mul, r_small, trivial⟩) mixed Try.func46 (affine_out mulC feSmall a b)
theorem r_zero : RowP Try.prog 17 (fn0 (one cPt) zeroC) := row0 Try.call17 (gives_of_out (gam_ok (t := [(46, fn2 cFe cFe (one cPt) affineC), (50, fn1 (cInt .u64) (one cFe) feSmall)]) ⟨r_affine, r_small, trivial⟩) mixed Try.func17 (zero_out feSmall affineC))
theorem r_own : RowP Try.prog 47 (fn1 cPt (one cPt) ownC) := row1 Try.call47 fun p => gives_of_out (gam_ok (t := [(17, fn0 (one cPt) zeroC)]) ⟨r_zero, trivial⟩) mixed Try.func47 (own_out zeroC p)
theorem r_root : RowP Try.prog 42 (fn1 cFe (two cFe cBool) rootC) := row1 Try.call42 fun y => gives_of_out (gam_ok (t := [(49, fn2 cFe cFe (one cFe) mulC), (55, fn2 cFe cFe (one cFe) addC), (54, fn2 cFe cFe (one cFe) subC), (81, fn1 cFe (one cFe) fun x => mulC x x), (50, fn1 (cInt .u64) (one cFe) feSmall),
    (56, fn0 (one cFe) edgeC), (82, fn2 cFe cFe (two cFe cBool) ratioC)]) ⟨r_mul, r_add, r_sub, r_square, r_small, r_edge, r_ratio, trivial⟩) mixed Try.func42 (root_out mulC addC subC (fun x => mulC x x) feSmall ratioC edgeC y)
theorem r_base : RowP Try.prog 40 (fn0 (one cPt) baseC) := row0 Try.call40 (gives_of_out (gam_ok (t := [(49, fn2 cFe cFe (one cFe) mulC), (50, fn1 (cInt .u64) (one cFe) feSmall), (80, fn1 cFe (one cFe) invC), (42, fn1 cFe (two cFe cBool) rootC),
    (46, fn2 cFe cFe (one cPt) affineC)]) ⟨r_mul, r_small, r_invert, r_root, r_affine, trivial⟩) mixed Try.func40 (base_out mulC invC feSmall affineC rootC))
theorem r_decode : RowP Try.prog 15 (fn1 cB32 (two cPt cBool) decodeC) := row1 Try.call15 fun b => gives_of_out (gam_ok (t := [(41, fn1 cB32 (one cFe) feFrom), (42, fn1 cFe (two cFe cBool) rootC), (43, fn1 cB32 (one cBool) canonicalC), (44, fn1 cFe (one cBool) isZeroC),
    (45, fn1 cFe (one cFe) negC), (46, fn2 cFe cFe (one cPt) affineC)]) ⟨r_from, r_root, r_canonical, r_isZero, r_neg, r_affine, trivial⟩) mixed Try.func15 (decode_out negC isZeroC feFrom canonicalC affineC rootC b)
theorem r_place : RowP Try.prog 51 (fn1 cPt (two cFe cFe) placeC) := row1 Try.call51 fun p => gives_of_out (gam_ok (t := [(49, fn2 cFe cFe (one cFe) mulC), (80, fn1 cFe (one cFe) invC), (47, fn1 cPt (one cPt) ownC)]) ⟨r_mul, r_invert, r_own, trivial⟩) mixed Try.func51 (place_out mulC invC ownC p)
theorem r_encode : RowP Try.prog 18 (fn1 cPt (one cB32) encodeC) := row1 Try.call18 fun p => gives_of_out (gam_ok (t := [(51, fn1 cPt (two cFe cFe) placeC), (52, fn1 cFe (one cB32) feBytes), (53, fn1 cFe (one cBool) oddC)]) ⟨r_place, r_bytes, r_odd, trivial⟩) mixed Try.func18 (encode_out oddC feBytes placeC p)
theorem r_cross : RowP Try.prog 57 (fn4 cFe cFe cFe cFe (one cPt) crossC) := row4 Try.call57 fun a b c d => gives_of_out (gam_ok (t := [(49, fn2 cFe cFe (one cFe) mulC)]) ⟨r_mul, trivial⟩) mixed Try.func57 (cross_out mulC a b c d)
theorem r_padd : RowP Try.prog 22 (fn2 cPt cPt (one cPt) addPC) := row2 Try.call22 fun a b => gives_of_out (gam_ok (t := [(49, fn2 cFe cFe (one cFe) mulC), (55, fn2 cFe cFe (one cFe) addC), (54, fn2 cFe cFe (one cFe) subC), (56, fn0 (one cFe) edgeC), (47, fn1 cPt (one cPt) ownC),
    (57, fn4 cFe cFe cFe cFe (one cPt) crossC)]) ⟨r_mul, r_add, r_sub, r_edge, r_own, r_cross, trivial⟩) mixed Try.func22 (add_out mulC addC subC edgeC ownC crossC a b)
theorem r_double : RowP Try.prog 29 (fn1 cPt (one cPt) doubleC) := row1 Try.call29 fun a => gives_of_out (gam_ok (t := [(22, fn2 cPt cPt (one cPt) addPC)]) ⟨r_padd, trivial⟩) mixed Try.func29 (double_out addPC a)
theorem r_pneg : RowP Try.prog 30 (fn1 cPt (one cPt) negPC) := row1 Try.call30 fun a => gives_of_out (gam_ok (t := [(45, fn1 cFe (one cFe) negC), (47, fn1 cPt (one cPt) ownC)]) ⟨r_neg, r_own, trivial⟩) mixed Try.func30 (neg_out negC ownC a)
theorem r_pequal : RowP Try.prog 16 (fn2 cPt cPt (one cBool) equalPC) := row2 Try.call16 fun a b => gives_of_out (gam_ok (t := [(49, fn2 cFe cFe (one cFe) mulC), (48, fn2 cFe cFe (one cBool) eqC), (47, fn1 cPt (one cPt) ownC)]) ⟨r_mul, r_equal, r_own, trivial⟩) mixed Try.func16 (equal_out mulC eqC ownC a b)
theorem r_mult : RowP Try.prog 23 (fn2 cB32 cPt (one cPt) multC) := row2 Try.call23 fun n p => mult_gives bitFn zeroC baseC doubleC addPC ⟨bit_row, r_zero, r_double, r_padd, r_base, trivial⟩ n p
noncomputable def multBaseC (n : B32) : Pt := multC n baseC
theorem r_multBase : RowP Try.prog 34 (fn1 cB32 (one cPt) multBaseC) := row1 Try.call34 fun n => gives_of_out (gam_ok (t := [(23, fn2 cB32 cPt (one cPt) multC), (40, fn0 (one cPt) baseC)]) ⟨r_mult, r_base, trivial⟩) mixed Try.func34 (multBase_out baseC multC n)
end Go.Proofs.Ytndiiabkoeblgaa
