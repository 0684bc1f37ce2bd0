/- Numbers modulo p as the program has them: what each function gives. -/
import Derived.Test.YtndiiabkoeblgaaEvg
import Derived.Test.YtndiiabkoeblgaaProg
import Derived.Eval
import Derived.KernelRfl
namespace Go.Proofs.Ytndiiabkoeblgaa
open Go Go.Ev

set_option maxRecDepth 100000

theorem mixed : Try.prog.follows .mixedOrders = true := by kernel_rfl

abbrev Fe := Vec Int 5
abbrev B32 := Vec Int 32
abbrev cFe : Codec Fe := cVec .u64 5
abbrev cB32 : Codec B32 := cVec .u8 32

def w64 (n : Int) : Int := IntKind.u64.wrap n
def and64 (a b : Int) : Int := bitAnd .u64 a b
def shr64 (a b : Int) : Int := shr .u64 a b
def msk : Int := 2251799813685247

def feCarry (x : Fe) : Fe :=
  (w64 (and64 x.1 msk + w64 (shr64 x.2.2.2.2.1 51 * 19)),
   w64 (and64 x.2.1 msk + shr64 x.1 51),
   w64 (and64 x.2.2.1 msk + shr64 x.2.1 51),
   w64 (and64 x.2.2.2.1 msk + shr64 x.2.2.1 51),
   w64 (and64 x.2.2.2.2.1 msk + shr64 x.2.2.2.1 51), ())
theorem feCarry_out (x : Fe) : outQ Try.prog (gam []) Try.f84 [.one (cFe.wr x)] = some (none, .one (cFe.wr (feCarry x))) := by kernel_rfl

def feSmall (n : Int) : Fe := (and64 n msk, shr64 n 51, 0, 0, 0, ())
theorem feSmall_out (n : Int) : outQ Try.prog (gam []) Try.f50 [.one ((cInt .u64).wr n)] = some (none, .one (cFe.wr (feSmall n))) := by kernel_rfl

def feAdd (carry : Fe → Fe) (x y : Fe) : Fe := carry (Vec.zip (fun a b => w64 (a + b)) x y)
theorem feAdd_out (carry : Fe → Fe) (x y : Fe) : outQ Try.prog (gam [(84, fn1 cFe (one cFe) carry)]) Try.f55 [.one (cFe.wr x), .one (cFe.wr y)] = some (none, .one (cFe.wr (feAdd carry x y))) := by kernel_rfl

def feSub (carry : Fe → Fe) (x y : Fe) : Fe := carry (Vec.zip (fun a b => w64 (a - b)) (Vec.zip (fun a b => w64 (a + b)) x (4503599627370458, 4503599627370494, 4503599627370494, 4503599627370494, 4503599627370494, ())) y)
theorem feSub_out (carry : Fe → Fe) (x y : Fe) : outQ Try.prog (gam [(84, fn1 cFe (one cFe) carry)]) Try.f54 [.one (cFe.wr x), .one (cFe.wr y)] = some (none, .one (cFe.wr (feSub carry x y))) := by kernel_rfl

def feZero : Fe := (0, 0, 0, 0, 0, ())
theorem feNeg_out (sub : Fe → Fe → Fe) (x : Fe) : outQ Try.prog (gam [(54, fn2 cFe cFe (one cFe) sub)]) Try.f45 [.one (cFe.wr x)] = some (none, .one (cFe.wr (sub feZero x))) := by kernel_rfl
theorem feSquare_out (mul : Fe → Fe → Fe) (x : Fe) : outQ Try.prog (gam [(49, fn2 cFe cFe (one cFe) mul)]) Try.f81 [.one (cFe.wr x)] = some (none, .one (cFe.wr (mul x x))) := by kernel_rfl

/-- the equality of rows of numbers, one after the other -/
def eqV : {n : Nat} → Vec Int n → Vec Int n → Bool
  | 0, _, _ => true
  | _ + 1, v, u => (v.1 == u.1) && eqV v.2 u.2
theorem eqV_iff : {n : Nat} → (v u : Vec Int n) → (eqV v u = true ↔ v = u)
  | 0, _, _ => ⟨fun _ => rfl, fun _ => rfl⟩
  | n + 1, v, u => by
    simp only [eqV, Bool.and_eq_true, beq_iff_eq, eqV_iff v.2 u.2]
    exact ⟨fun h => Prod.ext h.1 h.2, fun h => by rw [h]; exact ⟨rfl, rfl⟩⟩

theorem feEqual_out (bytes : Fe → B32) (x y : Fe) : outQ Try.prog (gam [(52, fn1 cFe (one cB32) bytes)]) Try.f48 [.one (cFe.wr x), .one (cFe.wr y)] = some (none, .one (cBool.wr (eqV (bytes x) (bytes y)))) := by kernel_rfl
theorem feIsZero_out (equal : Fe → Fe → Bool) (x : Fe) : outQ Try.prog (gam [(48, fn2 cFe cFe (one cBool) equal)]) Try.f44 [.one (cFe.wr x)] = some (none, .one (cBool.wr (equal x feZero))) := by kernel_rfl
def feOdd (bytes : Fe → B32) (x : Fe) : Bool := bitAnd .u8 (bytes x).1 1 == 1
theorem feOdd_out (bytes : Fe → B32) (x : Fe) : outQ Try.prog (gam [(52, fn1 cFe (one cB32) bytes)]) Try.f53 [.one (cFe.wr x)] = some (none, .one (cBool.wr (feOdd bytes x))) := by kernel_rfl

def feLeast (carry : Fe → Fe) (x : Fe) : Fe :=
  let y := carry x
  let c := shr64 (w64 (y.1 + 19)) 51
  let c := shr64 (w64 (y.2.1 + c)) 51
  let c := shr64 (w64 (y.2.2.1 + c)) 51
  let c := shr64 (w64 (y.2.2.2.1 + c)) 51
  let c := shr64 (w64 (y.2.2.2.2.1 + c)) 51
  let c := w64 (c * 19)
  let c0 := w64 (c + y.1)
  let c1 := w64 (shr64 c0 51 + y.2.1)
  let c2 := w64 (shr64 c1 51 + y.2.2.1)
  let c3 := w64 (shr64 c2 51 + y.2.2.2.1)
  let c4 := w64 (shr64 c3 51 + y.2.2.2.2.1)
  (and64 c0 msk, and64 c1 msk, and64 c2 msk, and64 c3 msk, and64 c4 msk, ())
theorem feLeast_out (carry : Fe → Fe) (x : Fe) : outQ Try.prog (gam [(84, fn1 cFe (one cFe) carry)]) Try.f85 [.one (cFe.wr x)] = some (none, .one (cFe.wr (feLeast carry x))) := by kernel_rfl

end Go.Proofs.Ytndiiabkoeblgaa
