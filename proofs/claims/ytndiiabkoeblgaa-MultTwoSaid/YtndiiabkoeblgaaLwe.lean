/- The document's functions, each with what it gives; the laws' own small functions. -/
import Derived.Test.YtndiiabkoeblgaaLwd
import Derived.Test.YtndiiabkoeblgaaRmc
namespace Go.Proofs.Ytndiiabkoeblgaa
open Go Go.Ev BJ

set_option maxRecDepth 1000000
theorem q_prime : RowP Try.prog 99 (fn0 (one cFn) prime9) := row0 Try.call99 (gives_of_out (gam_ok (t := []) trivial) mixed Try.func99 prime9_out)
noncomputable def below9C (a b : Fn) : Bool := belowAt a b 16
theorem q_below : RowP Try.prog 98 (fn2 cFn cFn (one cBool) below9C) := row2 Try.call98 fun a b => gives_of_out (gam_ok (t := []) trivial) mixed Try.func98 (below_out a b)
theorem q_norm : RowP Try.prog 86 (fn1 cFn (one cFn) normC) := row1 Try.call86 fun t => gives_of_out (gam_ok (t := [(99, fn0 (one cFn) prime9), (98, fn2 cFn cFn (one cBool) below9C)]) ⟨q_prime, q_below, trivial⟩) mixed Try.func86 (norm9_out prime9 below9C t)
theorem q_from : RowP Try.prog 61 (fn1 cB32 (one cFn) from9C) := row1 Try.call61 fun b => gives_of_out (gam_ok (t := [(86, fn1 cFn (one cFn) normC)]) ⟨q_norm, trivial⟩) mixed Try.func61 (from9_out normC b)
theorem q_small : RowP Try.prog 73 (fn1 (cInt .u64) (one cFn) small9) := row1 Try.call73 fun n => gives_of_out (gam_ok (t := []) trivial) mixed Try.func73 (small9_out n)
theorem q_bytes : RowP Try.prog 66 (fn1 cFn (one cB32) bytes9) := row1 Try.call66 fun x => gives_of_out (gam_ok (t := []) trivial) mixed Try.func66 (bytes9_out x)
theorem q_canonical : RowP Try.prog 59 (fn1 cB32 (one cBool) canonical9C) := row1 Try.call59 fun b => gives_of_out (gam_ok (t := [(61, fn1 cB32 (one cFn) from9C), (66, fn1 cFn (one cB32) bytes9)]) ⟨q_from, q_bytes, trivial⟩) mixed Try.func59 (canonical9_out from9C bytes9 b)
theorem q_add : RowP Try.prog 70 (fn2 cFn cFn (one cFn) add9C) := row2 Try.call70 fun x y => gives_of_out (gam_ok (t := [(86, fn1 cFn (one cFn) normC)]) ⟨q_norm, trivial⟩) mixed Try.func70 (add9_out normC x y)
theorem q_sub : RowP Try.prog 88 (fn2 cFn cFn (one cFn) sub9C) := row2 Try.call88 fun x y => gives_of_out (gam_ok (t := [(99, fn0 (one cFn) prime9), (86, fn1 cFn (one cFn) normC)]) ⟨q_prime, q_norm, trivial⟩) mixed Try.func88 (sub9_out prime9 normC x y)
theorem q_mul : RowP Try.prog 67 (fn2 cFn cFn (one cFn) mul9C) := row2 Try.call67 fun x y => gives_of_out (gam_ok (t := [(86, fn1 cFn (one cFn) normC)]) ⟨q_norm, trivial⟩) mixed Try.func67 (mul9_out normC x y)
theorem q_neg : RowP Try.prog 63 (fn1 cFn (one cFn) neg9C) := row1 Try.call63 fun x => gives_of_out (gam_ok (t := [(88, fn2 cFn cFn (one cFn) sub9C)]) ⟨q_sub, trivial⟩) mixed Try.func63 (neg9_out sub9C x)
theorem q_odd : RowP Try.prog 68 (fn1 cFn (one cBool) odd9) := row1 Try.call68 fun x => gives_of_out (gam_ok (t := []) trivial) mixed Try.func68 (odd9_out x)
theorem q_pow : RowP Try.prog 89 (fn2 cFn cB32 (one cFn) pow9C) := row2 Try.call89 fun x e => pow9_gives bitFn9 small9 mul9C ⟨q_small, q_mul, bit9_row, trivial⟩ x e
theorem q_invert : RowP Try.prog 65 (fn1 cFn (one cFn) inv9C) := row1 Try.call65 fun x => gives_of_out (gam_ok (t := [(89, fn2 cFn cB32 (one cFn) pow9C), (90, fnOnes)]) ⟨q_pow, ones_row, trivial⟩) mixed Try.func65 (invert9_out pow9C x)
theorem q_sqrt : RowP Try.prog 100 (fn1 cFn (two cFn cBool) sqrt9C) := row1 Try.call100 fun x => gives_of_out (gam_ok (t := [(89, fn2 cFn cB32 (one cFn) pow9C), (73, fn1 (cInt .u64) (one cFn) small9), (67, fn2 cFn cFn (one cFn) mul9C), (63, fn1 cFn (one cFn) neg9C),
    (68, fn1 cFn (one cBool) odd9), (90, fnOnes)]) ⟨q_pow, q_small, q_mul, q_neg, q_odd, ones_row, trivial⟩) mixed Try.func100 (sqrt9_out small9 mul9C neg9C odd9 pow9C x)
theorem q_ratio : RowP Try.prog 87 (fn2 cFn cFn (two cFn cBool) ratio9C) := row2 Try.call87 fun u v => gives_of_out (gam_ok (t := [(67, fn2 cFn cFn (one cFn) mul9C), (65, fn1 cFn (one cFn) inv9C), (100, fn1 cFn (two cFn cBool) sqrt9C)]) ⟨q_mul, q_invert, q_sqrt, trivial⟩)
    mixed Try.func87 (ratio9_out mul9C inv9C sqrt9C u v)
theorem q_edge : RowP Try.prog 71 (fn0 (one cFn) edge9C) := row0 Try.call71 (gives_of_out (gam_ok (t := [(67, fn2 cFn cFn (one cFn) mul9C), (63, fn1 cFn (one cFn) neg9C), (73, fn1 (cInt .u64) (one cFn) small9), (65, fn1 cFn (one cFn) inv9C)]) ⟨q_mul, q_neg, q_small, q_invert, trivial⟩)
    mixed Try.func71 (edge9_out small9 mul9C neg9C inv9C))
theorem q_zero : RowP Try.prog 60 (fn0 (one cPn) zero9C) := row0 Try.call60 (gives_of_out (gam_ok (t := [(73, fn1 (cInt .u64) (one cFn) small9)]) ⟨q_small, trivial⟩) mixed Try.func60 (zeroPn_out small9))
theorem q_of : RowP Try.prog 64 (fn2 cFn cFn (one cPn) of9C) := row2 Try.call64 fun x y => gives_of_out (gam_ok (t := [(67, fn2 cFn cFn (one cFn) mul9C), (73, fn1 (cInt .u64) (one cFn) small9)]) ⟨q_mul, q_small, trivial⟩) mixed Try.func64 (ofPn_out small9 mul9C x y)
theorem q_xOf : RowP Try.prog 62 (fn1 cFn (two cFn cBool) xOf9C) := row1 Try.call62 fun y => gives_of_out (gam_ok (t := [(67, fn2 cFn cFn (one cFn) mul9C), (70, fn2 cFn cFn (one cFn) add9C), (88, fn2 cFn cFn (one cFn) sub9C), (73, fn1 (cInt .u64) (one cFn) small9), (71, fn0 (one cFn) edge9C),
    (87, fn2 cFn cFn (two cFn cBool) ratio9C)]) ⟨q_mul, q_add, q_sub, q_small, q_edge, q_ratio, trivial⟩) mixed Try.func62 (xOf_out small9 mul9C add9C sub9C ratio9C edge9C y)
theorem q_base : RowP Try.prog 36 (fn0 (one cPn) base9C) := row0 Try.call36 (gives_of_out (gam_ok (t := [(67, fn2 cFn cFn (one cFn) mul9C), (73, fn1 (cInt .u64) (one cFn) small9), (65, fn1 cFn (one cFn) inv9C), (62, fn1 cFn (two cFn cBool) xOf9C),
    (64, fn2 cFn cFn (one cPn) of9C)]) ⟨q_mul, q_small, q_invert, q_xOf, q_of, trivial⟩) mixed Try.func36 (base9_out small9 mul9C inv9C of9C xOf9C))
theorem q_decode : RowP Try.prog 25 (fn1 cB32 (two cPn cBool) decode9C) := row1 Try.call25 fun b => gives_of_out (gam_ok (t := [(59, fn1 cB32 (one cBool) canonical9C), (60, fn0 (one cPn) zero9C), (61, fn1 cB32 (one cFn) from9C), (62, fn1 cFn (two cFn cBool) xOf9C), (63, fn1 cFn (one cFn) neg9C),
    (64, fn2 cFn cFn (one cPn) of9C)]) ⟨q_canonical, q_zero, q_from, q_xOf, q_neg, q_of, trivial⟩) mixed Try.func25 (decode9_out neg9C from9C canonical9C zero9C of9C xOf9C b)
theorem q_encode : RowP Try.prog 26 (fn1 cPn (one cB32) encode9C) := row1 Try.call26 fun p => gives_of_out (gam_ok (t := [(67, fn2 cFn cFn (one cFn) mul9C), (65, fn1 cFn (one cFn) inv9C), (66, fn1 cFn (one cB32) bytes9), (68, fn1 cFn (one cBool) odd9)]) ⟨q_mul, q_invert, q_bytes, q_odd, trivial⟩)
    mixed Try.func26 (encode9_out mul9C inv9C odd9 bytes9 p)
theorem q_plus3 : RowP Try.prog 69 (fn3 cPn cPn cFn (one cPn) plus39C) := row3 Try.call69 fun p q d => gives_of_out (gam_ok (t := [(67, fn2 cFn cFn (one cFn) mul9C), (70, fn2 cFn cFn (one cFn) add9C), (88, fn2 cFn cFn (one cFn) sub9C)]) ⟨q_mul, q_add, q_sub, trivial⟩)
    mixed Try.func69 (plus39_out mul9C add9C sub9C p q d)
theorem q_plus : RowP Try.prog 28 (fn2 cPn cPn (one cPn) plus9C) := row2 Try.call28 fun p q => gives_of_out (gam_ok (t := [(71, fn0 (one cFn) edge9C), (70, fn2 cFn cFn (one cFn) add9C), (69, fn3 cPn cPn cFn (one cPn) plus39C)]) ⟨q_edge, q_add, q_plus3, trivial⟩)
    mixed Try.func28 (plus9_out add9C edge9C plus39C p q)
theorem q_turn : RowP Try.prog 31 (fn1 cPn (one cPn) turn9C) := row1 Try.call31 fun p => gives_of_out (gam_ok (t := [(63, fn1 cFn (one cFn) neg9C)]) ⟨q_neg, trivial⟩) mixed Try.func31 (turn9_out neg9C p)
theorem q_alike : RowP Try.prog 32 (fn2 cPn cPn (one cBool) alike9C) := row2 Try.call32 fun p q => gives_of_out (gam_ok (t := [(67, fn2 cFn cFn (one cFn) mul9C)]) ⟨q_mul, trivial⟩) mixed Try.func32 (alike9_out mul9C p q)
noncomputable def mult9C : B32 → Pn → Pn := multFn9 bitFn9 zero9C edge9C add9C plus39C
theorem q_mult : RowP Try.prog 35 (fn2 cB32 cPn (one cPn) mult9C) := row2 Try.call35 fun n p => mult9_gives bitFn9 zero9C edge9C add9C plus39C ⟨bitS9_row, q_zero, q_edge, q_add, q_plus3, trivial⟩ n p

/-! ### Points out of bytes -/
noncomputable def atC : B32 → Pt := atFn decodeC baseC doubleC
theorem r_at : RowP Try.prog 20 (fn1 cB32 (one cPt) atC) := row1 Try.call20 fun b => at_gives decodeC baseC doubleC ⟨r_decode, r_base, r_double, trivial⟩ b
noncomputable def at2C : B32 → Pt × Pn := at2Fn decodeC baseC doubleC decode9C base9C plus9C
theorem r_at2 : RowP Try.prog 27 (fn1 cB32 (two cPt cPn) at2C) := row1 Try.call27 fun b => at2_gives decodeC baseC doubleC decode9C base9C plus9C ⟨r_decode, r_base, r_double, q_decode, q_base, q_plus, trivial⟩ b
end Go.Proofs.Ytndiiabkoeblgaa
