/- Numbers modulo p as the document has them: what each function gives. -/
import Derived.Test.YtndiiabkoeblgaaFee
namespace Go.Proofs.Ytndiiabkoeblgaa
open Go Go.Ev

set_option maxRecDepth 1000000

abbrev Fn := Vec Int 16
abbrev cFn : Codec Fn := cVec .i64 16
abbrev ccFn : CC Fn := ccVec (ccInt .i64) 16
def w (n : Int) : Int := IntKind.i64.wrap n
def lowBits (n m : Int) : Int := bitAnd .i64 n m
def down (n m : Int) : Int := shr .i64 n m

noncomputable def prime9 : Fn := (65517, 65535, 65535, 65535, 65535, 65535, 65535, 65535, 65535, 65535, 65535, 65535, 65535, 65535, 65535, 32767, ())
noncomputable def zero9 : Fn := (0, 0, 0, 0, 0, 0, 0, 0, 0, 0, 0, 0, 0, 0, 0, 0, ())
theorem prime9_out : outQ Try.prog (gam []) Try.f99 [] = some (none, .one (cFn.wr prime9)) := by kernel_rfl
def belowAt (a b : Fn) : Nat → Bool
  | 0 => false
  | k + 1 => bif a.get k != b.get k then decide (a.get k < b.get k) else belowAt a b k
theorem below_out (a b : Fn) : outQ Try.prog (gam []) Try.f98 [.one (cFn.wr a), .one (cFn.wr b)] = some (none, .one (cBool.wr (belowAt a b 16))) := by kernel_rfl

def carried9 : {n : Nat} → Int → Vec Int n → Vec Int (n + 1)
  | 0, x, _ => (x, ())
  | _ + 1, x, v => (lowBits x 65535, carried9 (w (v.1 + down x 16)) v.2)
def pass9 (t : Fn) : Fn := carried9 t.1 t.2
noncomputable def fold9 (t : Fn) : Fn := (w (t.1 + w (19 * down (t.get 15) 15)), (Vec.upd (fun x => lowBits x 32767) 15 t).2)
section
variable (prime : Fn) (below : Fn → Fn → Bool) (norm : Fn → Fn)
noncomputable def norm9 (t : Fn) : Fn :=
  let r := pass9 (fold9 (pass9 (fold9 (pass9 (fold9 (pass9 (fold9 (pass9 t))))))))
  selN (!(below r prime)) (pass9 (Vec.zip (fun a b => w (a - b)) r prime)) r
theorem norm9_out (t : Fn) : outQ Try.prog (gam [(99, fn0 (one cFn) prime), (98, fn2 cFn cFn (one cBool) below)]) Try.f86 [.one (cFn.wr t)] = some (none, .one (cFn.wr (norm9 prime below t))) := by kernel_rfl

noncomputable def pairs9 (b : B32) : Fn := Vec.ofFn 16 fun i => w (w (b.get (2 * i)) + w (256 * w (b.get (2 * i + 1))))
noncomputable def from9 (b : B32) : Fn := norm (Vec.upd (fun x => lowBits x 32767) 15 (pairs9 b))
theorem from9_out (b : B32) : outQ Try.prog (gam [(86, fn1 cFn (one cFn) norm)]) Try.f61 [.one (cB32.wr b)] = some (none, .one (cFn.wr (from9 norm b))) := by kernel_rfl
noncomputable def small9 (n : Int) : Fn := Vec.ofFn 16 fun i => if i < 4 then w (and64 (shr64 n ((16 * i : Nat) : Int)) 65535) else 0
theorem small9_out (n : Int) : outQ Try.prog (gam []) Try.f73 [.one ((cInt .u64).wr n)] = some (none, .one (cFn.wr (small9 n))) := by kernel_rfl
noncomputable def bytes9 (x : Fn) : B32 := Vec.ofFn 32 fun i => if i % 2 = 0 then IntKind.u8.wrap (lowBits (x.get (i / 2)) 255) else IntKind.u8.wrap (down (x.get (i / 2)) 8)
theorem bytes9_out (x : Fn) : outQ Try.prog (gam []) Try.f66 [.one (cFn.wr x)] = some (none, .one (cB32.wr (bytes9 x))) := by kernel_rfl
noncomputable def clear9 (b : B32) : B32 := Vec.upd (fun x => bitAnd .u8 x 127) 31 b
theorem canonical9_out (frm : B32 → Fn) (bytes : Fn → B32) (b : B32) : outQ Try.prog (gam [(61, fn1 cB32 (one cFn) frm), (66, fn1 cFn (one cB32) bytes)]) Try.f59 [.one (cB32.wr b)] =
    some (none, .one (cBool.wr (eqV (bytes (frm (clear9 b))) (clear9 b)))) := by kernel_rfl
noncomputable def add9 (x y : Fn) : Fn := norm (Vec.zip (fun a b => w (a + b)) x y)
theorem add9_out (x y : Fn) : outQ Try.prog (gam [(86, fn1 cFn (one cFn) norm)]) Try.f70 [.one (cFn.wr x), .one (cFn.wr y)] = some (none, .one (cFn.wr (add9 norm x y))) := by kernel_rfl
noncomputable def sub9 (x y : Fn) : Fn := norm (Vec.zip (fun a b => w (a - b)) (Vec.zip (fun a b => w (a + b)) x prime) y)
theorem sub9_out (x y : Fn) : outQ Try.prog (gam [(99, fn0 (one cFn) prime), (86, fn1 cFn (one cFn) norm)]) Try.f88 [.one (cFn.wr x), .one (cFn.wr y)] = some (none, .one (cFn.wr (sub9 prime norm x y))) := by kernel_rfl
def mulAt (x y : Fn) (j : Nat) : Int := (List.range 16).foldl (fun acc i => if i ≤ j ∧ j - i < 16 then w (acc + w (x.get i * y.get (j - i))) else acc) 0
noncomputable def mul9 (x y : Fn) : Fn := norm (Vec.ofFn 16 fun i => w (mulAt x y i + w (38 * mulAt x y (i + 16))))
theorem mul9_out (x y : Fn) : outQ Try.prog (gam [(86, fn1 cFn (one cFn) norm)]) Try.f67 [.one (cFn.wr x), .one (cFn.wr y)] = some (none, .one (cFn.wr (mul9 norm x y))) := by kernel_rfl
theorem neg9_out (sub : Fn → Fn → Fn) (x : Fn) : outQ Try.prog (gam [(88, fn2 cFn cFn (one cFn) sub)]) Try.f63 [.one (cFn.wr x)] = some (none, .one (cFn.wr (sub zero9 x))) := by kernel_rfl
def odd9 (x : Fn) : Bool := x.1.tmod 2 == 1
theorem odd9_out (x : Fn) : outQ Try.prog (gam []) Try.f68 [.one (cFn.wr x)] = some (none, .one (cBool.wr (odd9 x))) := by kernel_rfl
end

theorem bit9_out (b : B32) : (List.range 256).map (fun k : Nat => outQ Try.prog (gam []) Try.f72 [.one (cB32.wr b), .one (.sc (.int .i64 (.lit (k : Int))))]) =
    (List.range 256).map (fun k => some (none, .one ((cInt .i64).wr (bitAnd .i64 (IntKind.i64.wrap (shr .u8 (b.get (k / 8)) ((k % 8 : Nat) : Int))) 1)))) := by kernel_rfl
end Go.Proofs.Ytndiiabkoeblgaa
