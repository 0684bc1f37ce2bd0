/- Chapter 12's laws: what the functions give. -/
import Derived.Test.YtndiiabkoeblgaaFmk
namespace Go.Proofs.Ytndiiabkoeblgaa
open Go Go.Ev BJ

set_option maxRecDepth 1000000
section
variable (base zero : Pt) (encode : Pt → B32) (decode : B32 → Pt × Bool) (padd : Pt → Pt → Pt) (equal : Pt → Pt → Bool) (alive : Bool)
noncomputable def aliveFn : Bool :=
  let b := encode base
  bif (b.get 0 == 88) == true then (bif (b.get 1 == 102) == true then (bif (b.get 31 == 102) == true then equal (padd zero base) base else false) else false) else false
theorem alive_out : outQ Try.prog (gam [(40, fn0 (one cPt) base), (17, fn0 (one cPt) zero), (18, fn1 cPt (one cB32) encode), (22, fn2 cPt cPt (one cPt) padd), (16, fn2 cPt cPt (one cBool) equal)]) Try.f14 [] =
    some (none, .one (cBool.wr (aliveFn base zero encode padd equal))) := by kernel_rfl
noncomputable def backFn (a : B32) : Bool :=
  let b1 := (!alive) == false
  let live := bif b1 then alive else alive
  let _ok := bif b1 then (decode a).2 else (decode a).2
  let c := bif b1 then !(decode a).2 else true
  let p := selPt b1 (decode a).1 (decode a).1
  let r := decode (encode p)
  bif c then (bif live == true then equal p zero else false) else
    (bif eqV (encode p) (selN b1 a a) == true then (bif r.2 == true then equal p r.1 else false) else false)
theorem back_out (a : B32) : outQ Try.prog (gam [(14, fn0 (one cBool) alive), (17, fn0 (one cPt) zero), (18, fn1 cPt (one cB32) encode), (15, fn1 cB32 (two cPt cBool) decode), (16, fn2 cPt cPt (one cBool) equal)])
    Try.f3 [.one (cB32.wr a)] = some (none, .one (cBool.wr (backFn zero encode decode equal alive a))) := by kernel_rfl
end
noncomputable def aliveC : Bool := aliveFn baseC zeroC encodeC addPC equalPC
theorem r_alive : RowP Try.prog 14 (fn0 (one cBool) aliveC) := row0 Try.call14 (gives_of_out (gam_ok (t := [(40, fn0 (one cPt) baseC), (17, fn0 (one cPt) zeroC), (18, fn1 cPt (one cB32) encodeC), (22, fn2 cPt cPt (one cPt) addPC), (16, fn2 cPt cPt (one cBool) equalPC)])
  ⟨r_base, r_zero, r_encode, r_padd, r_pequal, trivial⟩) mixed Try.func14 (alive_out baseC zeroC encodeC addPC equalPC))
noncomputable def backC (a : B32) : Bool := backFn zeroC encodeC decodeC equalPC aliveC a
theorem back_gives (a : B32) : Gives Try.prog 3 [.one (cB32.wr a)] (.one (cBool.wr (backC a))) :=
  gives_of_out (gam_ok (t := [(14, fn0 (one cBool) aliveC), (17, fn0 (one cPt) zeroC), (18, fn1 cPt (one cB32) encodeC), (15, fn1 cB32 (two cPt cBool) decodeC), (16, fn2 cPt cPt (one cBool) equalPC)])
    ⟨r_alive, r_zero, r_encode, r_decode, r_pequal, trivial⟩) mixed Try.func3 (back_out zeroC encodeC decodeC equalPC aliveC a)
end Go.Proofs.Ytndiiabkoeblgaa
