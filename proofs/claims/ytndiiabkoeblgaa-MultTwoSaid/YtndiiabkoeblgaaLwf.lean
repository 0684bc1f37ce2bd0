/- The laws' code, alive being true: what each gives. -/
import Derived.Test.YtndiiabkoeblgaaLwe
import Derived.Test.YtndiiabkoeblgaaGra
namespace Go.Ev
open Go
theorem Ex.seq_ret {P : Program} {m : Hp} {x y : Code} {st s : St} {e : Exit} (he : e ≠ .normal) (h : Ex P m x st (.leaf e s)) : Ex P m (.seq x y) st (.leaf e s) := by
  intro W β₀ R Q hs hq β a w hr
  refine wp_seq (h W β₀ (fun e' t => e' = e ∧ t = s) _ ⟨rfl, rfl⟩ ?_ β a w hr)
  rintro e' a w ⟨t, β', ⟨rfl, rfl⟩, h4⟩
  cases e' with
  | normal => exact absurd rfl he
  | exit _ => exact hq _ _ _ ⟨_, β', hs, h4⟩
  | goto _ => exact hq _ _ _ ⟨_, β', hs, h4⟩
  | ret => exact hq _ _ _ ⟨_, β', hs, h4⟩
  | panic _ => exact hq _ _ _ ⟨_, β', hs, h4⟩
  | outgrown => exact hq _ _ _ ⟨_, β', hs, h4⟩
/-- an answer that is known -/
def oneTrue : RC Unit := ⟨fun _ => .one (.sc (.bool (.lit true))), fun _ => rfl⟩
theorem gives_true {P : Program} {f : FuncId} {args : List LV} {b : Bool} (h : Gives P f args (.one (cBool.wr b))) (hb : b = true) : Gives P f args (oneTrue.wr ()) := by
  subst hb
  intro W m β₀ β w vals hh hv
  refine (h W m β₀ β w vals hh hv).mono ?_
  rintro e w' ⟨val, β', r, hp', rfl, rfl, h3, h4, h5⟩
  exact ⟨val, β', _, hp', rfl, rfl, h3, h4, h5⟩
end Go.Ev
namespace Go.Proofs.Ytndiiabkoeblgaa
open Go Go.Ev BJ

set_option maxRecDepth 1000000
theorem r_live : RowP Try.prog 14 (fn0 oneTrue ()) := row0 Try.call14 (gives_true (gives_of_out (gam_ok (t := [(40, fn0 (one cPt) baseC), (17, fn0 (one cPt) zeroC), (18, fn1 cPt (one cB32) encodeC), (22, fn2 cPt cPt (one cPt) addPC), (16, fn2 cPt cPt (one cBool) equalPC)])
  ⟨r_base, r_zero, r_encode, r_padd, r_pequal, trivial⟩) mixed Try.func14 (alive_out baseC zeroC encodeC addPC equalPC)) alive_true)

def both (a b : Bool) : Bool := bif a == true then b else false
theorem both_true {a b : Bool} (ha : a = true) (hb : b = true) : both a b = true := by subst ha hb; rfl
section
variable (at2 : B32 → Pt × Pn) (zero : Pt) (add : Pt → Pt → Pt) (neg double : Pt → Pt) (equal : Pt → Pt → Bool) (encode : Pt → B32)
def lawTab : Tab := [(14, fn0 oneTrue ()), (27, fn1 cB32 (two cPt cPn) at2), (17, fn0 (one cPt) zero), (22, fn2 cPt cPt (one cPt) add), (30, fn1 cPt (one cPt) neg), (29, fn1 cPt (one cPt) double), (16, fn2 cPt cPt (one cBool) equal), (18, fn1 cPt (one cB32) encode)]
theorem group_out (a b c : B32) : outQ Try.prog (gam (lawTab at2 zero add neg double equal encode)) Try.f7 [.one (cB32.wr a), .one (cB32.wr b), .one (cB32.wr c)] =
    some (none, .one (cBool.wr (both (equal (add (at2 a).1 (at2 b).1) (add (at2 b).1 (at2 a).1)) (both (equal (add (add (at2 a).1 (at2 b).1) (at2 c).1) (add (at2 a).1 (add (at2 b).1 (at2 c).1))) (both (equal (add (at2 a).1 zero) (at2 a).1)
      (both (equal (add (at2 a).1 (neg (at2 a).1)) zero) (both (equal (double (at2 a).1) (add (at2 a).1 (at2 a).1)) (equal (neg (neg (at2 a).1)) (at2 a).1)))))))) := by kernel_rfl
theorem same_out (a b : B32) : outQ Try.prog (gam (lawTab at2 zero add neg double equal encode)) Try.f8 [.one (cB32.wr a), .one (cB32.wr b)] =
    some (none, .one (cBool.wr (both (equal (add (add (at2 a).1 (at2 b).1) (neg (at2 b).1)) (at2 a).1) (both (eqV (encode (add (add (at2 a).1 (at2 b).1) (neg (at2 b).1))) (encode (at2 a).1)) (equal (at2 a).1 (at2 b).1 == eqV (encode (at2 a).1) (encode (at2 b).1)))))) := by kernel_rfl
end
section
variable (at2 : B32 → Pt × Pn) (decode : B32 → Pt × Bool) (add : Pt → Pt → Pt) (neg double : Pt → Pt) (equal : Pt → Pt → Bool) (encode : Pt → B32) (decode9 : B32 → Pn × Bool) (plus9 : Pn → Pn → Pn) (turn9 : Pn → Pn) (alike9 : Pn → Pn → Bool) (encode9 : Pn → B32)
def lawTab2 : Tab := [(14, fn0 oneTrue ()), (27, fn1 cB32 (two cPt cPn) at2), (15, fn1 cB32 (two cPt cBool) decode), (22, fn2 cPt cPt (one cPt) add), (30, fn1 cPt (one cPt) neg), (29, fn1 cPt (one cPt) double), (16, fn2 cPt cPt (one cBool) equal), (18, fn1 cPt (one cB32) encode),
  (25, fn1 cB32 (two cPn cBool) decode9), (28, fn2 cPn cPn (one cPn) plus9), (31, fn1 cPn (one cPn) turn9), (32, fn2 cPn cPn (one cBool) alike9), (26, fn1 cPn (one cB32) encode9)]
noncomputable def tellsFn (a b : B32) : Bool :=
  let g := ((decode a).2 != (decode9 a).2) == false
  let c := bif g then !(eqV (encode (decode a).1) (encode9 (decode9 a).1)) else true
  let x := at2 (selN g a a)
  let y := at2 (selN g b b)
  bif c then false else both (eqV (encode x.1) (encode9 x.2)) (both (eqV (encode (add x.1 y.1)) (encode9 (plus9 x.2 y.2))) (both (eqV (encode (double x.1)) (encode9 (plus9 x.2 x.2))) (both (eqV (encode (neg x.1)) (encode9 (turn9 x.2))) (equal x.1 y.1 == alike9 x.2 y.2))))
theorem tells_out (a b : B32) : outQ Try.prog (gam (lawTab2 at2 decode add neg double equal encode decode9 plus9 turn9 alike9 encode9)) Try.f6 [.one (cB32.wr a), .one (cB32.wr b)] =
    some (none, .one (cBool.wr (tellsFn at2 decode add neg double equal encode decode9 plus9 turn9 alike9 encode9 a b))) := by kernel_rfl
end
section
variable (zero : Pt) (decode : B32 → Pt × Bool) (neg double : Pt → Pt) (equal : Pt → Pt → Bool)
def lawTab3 : Tab := [(14, fn0 oneTrue ()), (15, fn1 cB32 (two cPt cBool) decode), (17, fn0 (one cPt) zero), (16, fn2 cPt cPt (one cBool) equal), (30, fn1 cPt (one cPt) neg), (29, fn1 cPt (one cPt) double)]
noncomputable def wrongFn (n : Int) (odd : Bool) : Bool :=
  let g := decide (n < 237) == false
  let o := bif g then odd else odd
  let z := IntKind.u8.wrap (bif g then n else n)
  let d := decode (feExp (bif !o then z else z) (bif !o then 127 else 255))
  bif (bif g then decide (n > 255) else true) then true else both (!d.2) (equal d.1 zero)
theorem wrong_out (n : Int) (odd : Bool) : outQ Try.prog (gam (lawTab3 zero decode neg double equal)) Try.f4 [.one ((cInt .i64).wr n), .one (cBool.wr odd)] = some (none, .one (cBool.wr (wrongFn zero decode equal n odd))) := by kernel_rfl
end
end Go.Proofs.Ytndiiabkoeblgaa
