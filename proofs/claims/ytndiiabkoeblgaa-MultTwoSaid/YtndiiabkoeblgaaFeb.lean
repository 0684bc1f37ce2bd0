/- Numbers modulo p as the program has them: bytes, products. -/
import Derived.Test.YtndiiabkoeblgaaFea
namespace Go.Proofs.Ytndiiabkoeblgaa
open Go Go.Ev

set_option maxRecDepth 1000000

def feBits (y : Fe) : B32 := Vec.ofFn 32 fun j => (List.range (if j = 31 then 7 else 8)).foldl
  (fun acc i => bitOr .u8 acc (shl .u8 (IntKind.u8.wrap (and64 (shr64 (y.get ((8 * j + i) / 51)) (((8 * j + i) % 51 : Nat) : Int)) 1)) (i : Int))) 0
theorem feBytes_out (least : Fe → Fe) (x : Fe) : outQ Try.prog (gam [(85, fn1 cFe (one cFe) least)]) Try.f52 [.one (cFe.wr x)] = some (none, .one (cB32.wr (feBits (least x)))) := by kernel_rfl

def word (b : B32) (j : Nat) : Int := (List.range 8).foldl (fun acc i => bitOr .u64 acc (shl .u64 (w64 (b.get (8 * j + i))) (8 * i : Nat))) 0
def feFrom (b : B32) : Fe :=
  (and64 (word b 0) msk, and64 (bitOr .u64 (shr64 (word b 0) 51) (shl .u64 (word b 1) 13)) msk, and64 (bitOr .u64 (shr64 (word b 1) 38) (shl .u64 (word b 2) 26)) msk,
   and64 (bitOr .u64 (shr64 (word b 2) 25) (shl .u64 (word b 3) 39)) msk, and64 (shr64 (word b 3) 12) msk, ())
theorem feFrom_out (b : B32) : outQ Try.prog (gam []) Try.f41 [.one (cB32.wr b)] = some (none, .one (cFe.wr (feFrom b))) := by kernel_rfl

/-- one number of a row changed -/
def Vec.upd {α : Type} (f : α → α) : {n : Nat} → Nat → Vec α n → Vec α n
  | 0, _, _ => ()
  | _ + 1, 0, v => (f v.1, v.2)
  | _ + 1, i + 1, v => (v.1, Vec.upd f i v.2)
def clearTop (b : B32) : B32 := Vec.upd (fun x => bitAndNot .u8 x 128) 31 b
theorem feCanonical_out (frm : B32 → Fe) (bytes : Fe → B32) (b : B32) :
    outQ Try.prog (gam [(52, fn1 cFe (one cB32) bytes), (41, fn1 cB32 (one cFe) frm)]) Try.f43 [.one (cB32.wr b)] = some (none, .one (cBool.wr (eqV (bytes (frm (clearTop b))) (clearTop b)))) := by kernel_rfl

/-! ### Products -/
def mulFn (x y : Int) : Int × Int :=
  let x0 := and64 x 4294967295
  let x1 := shr64 x 32
  let y0 := and64 y 4294967295
  let y1 := shr64 y 32
  let t := w64 (w64 (x1 * y0) + shr64 (w64 (x0 * y0)) 32)
  let w1 := w64 (and64 t 4294967295 + w64 (x0 * y1))
  (w64 (w64 (w64 (x1 * y1) + shr64 t 32) + shr64 w1 32), w64 (x * y))
theorem mulFn_out (x y : Int) : outQ Try.prog (gam []) Try.f94 [.one ((cInt .u64).wr x), .one ((cInt .u64).wr y)] = some (none, (two (cInt .u64) (cInt .u64)).wr (mulFn x y)) := by kernel_rfl

def conjAll : List Prop → Option Prop
  | [] => none
  | p :: l => conj p (conjAll l)
section
variable (m64 : Int → Int → Int × Int) (a64 : Int → Int → Int → Int × Int)
def mulRun (x y : Fe) : List (Nat × Nat) → List (Int × Int) → List (Int × Int) × List Prop
  | [], r => (r, [])
  | (i, j) :: l, r =>
    let a := if i + j < 5 then x.get i else w64 (x.get i * 19)
    let p := r.getD ((i + j) % 5) (0, 0)
    let m := m64 a (y.get j)
    let s := a64 p.2 m.2 0
    let t := a64 p.1 m.1 s.2
    let z := mulRun x y l (r.set ((i + j) % 5) (t.1, s.1))
    (z.1, (0 ≤ s.2 ∧ s.2 ≤ 1) :: z.2)
def mulSteps : List (Nat × Nat) := [(0,0),(0,1),(0,2),(0,3),(0,4),(1,0),(1,1),(1,2),(1,3),(1,4),(2,0),(2,1),(2,2),(2,3),(2,4),(3,0),(3,1),(3,2),(3,3),(3,4),(4,0),(4,1),(4,2),(4,3),(4,4)]
def mulNeeds (x y : Fe) : List Prop := (mulRun m64 a64 x y mulSteps [(0,0),(0,0),(0,0),(0,0),(0,0)]).2
def mulOut (carry : Fe → Fe) (x y : Fe) : Fe :=
  let r := (mulRun m64 a64 x y mulSteps [(0,0),(0,0),(0,0),(0,0),(0,0)]).1
  let lo (i : Nat) := and64 (r.getD i (0,0)).2 msk
  let c (i : Nat) := bitOr .u64 (shl .u64 (r.getD i (0,0)).1 13) (shr64 (r.getD i (0,0)).2 51)
  carry (w64 (w64 (0 + lo 0) + w64 (c 4 * 19)), w64 (w64 (0 + c 0) + lo 1), w64 (w64 (0 + c 1) + lo 2), w64 (w64 (0 + c 2) + lo 3), w64 (w64 (0 + c 3) + lo 4), ())
theorem feMul_out (carry : Fe → Fe) (x y : Fe) :
    outQ Try.prog (addInl Try.prog (gam [(94, fn2 (cInt .u64) (cInt .u64) (two (cInt .u64) (cInt .u64)) m64), (91, carryFn a64), (84, fn1 cFe (one cFe) carry)]) 83 Try.f83)
      Try.f49 [.one (cFe.wr x), .one (cFe.wr y)] = some (conjAll (mulNeeds m64 a64 x y), .one (cFe.wr (mulOut m64 a64 carry x y))) := by kernel_rfl
end

end Go.Proofs.Ytndiiabkoeblgaa
