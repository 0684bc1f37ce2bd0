/- The program of a manifest: its numbers. -/
import Derived.Test.YtdpbkfmjknmmnaaVx
import Derived.Test.YtdpbkfmjknmmnaaProg
import Derived.Eval
set_option linter.unusedVariables false
set_option linter.unusedSimpArgs false
namespace Go.Proofs.Ytdpbkfmjknmmnaa
open Go Go.Ev
set_option maxRecDepth 100000
theorem mixed : Try.prog.follows .mixedOrders = true := by kernel_rfl
noncomputable abbrev prog : Program := Try.prog
abbrev u8 : Ty := .int .u8
/-- bytes that are only read, as an answer -/
abbrev rdb (l : List Int) : LV := .one (.sc (.rd true false u8 l))
abbrev nI (n : Int) : LV := .one (.sc (.int .i64 (.sym n)))
abbrev nU (n : Int) : LV := .one (.sc (.int .u64 (.sym n)))
abbrev nB (b : Bool) : LV := .one (.sc (.bool (.sym b)))
abbrev bA : Cod (List LV) (List Int × Unit) := lCons (vOne (sRd false false u8)) lNil
abbrev p0 : Cod LV Unit := vOne (sPtr 0 0)
/-- what becomes of some slots; the others are let go -/
def fmS (n : Nat) (l : List (Nat × FM)) : List FM := (List.range n).map fun i => match l.find? (fun p => p.1 == i) with
  | some p => p.2
  | none => .drop
def wsE (n : List Wk) (id : Nat) (x : List Wk) : Exit → List Wk
  | .normal => n
  | .exit i => if i = id then x else []
  | _ => []
end Go.Proofs.Ytdpbkfmjknmmnaa
