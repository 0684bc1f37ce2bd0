/-
  No cell of these rows narrows 'for every input' (looked for: loops, veiled, ifaces, maps, wideKeys, modest, calm, conditions, laid).
  DERIVED. THE GIVEN ROWS OF THIS SEAT. 7 by the template 'for every input the law returns true; each argument reads behind the call as it read before'; 0 by the template 'total and deterministic' (their statements: YthdfifcgobfgdaaTotals.lean).
  GIVEN WITH THE SEED: the statements are not yours to turn. If you find one false, say at which input.
  Laid BY PROGRAM, IN A SANDBOX (cutbox-rows.mjs): the forced cells as the released guide's own fill.sh prints them over the translation e7734c8a46065497… (all of the seat's roots in one cut). By AI agents, Wed Nov 11 2026. No macro, syntax, notation, axiom, sorry.
-/
import Derived.Test.YthdfifcgobfgdaaChecked
import GoSem.Claim
import GoSem.ClaimJoined
import GoSem.ClaimMapViews
import Derived.JoinedTies
import Derived.KernelRfl
namespace Go.Proofs.Ythdfifcgobfgdaa
/- THE CELL 'sum', in the pinned program and in every row, IS THE sha256 OF THE DUMP (.gsa) THAT YthdfifcgobfgdaaProg.lean LOADS. Nothing in Lean hashes anything: it is a label: what it is worth is what the hold of that sum in a sandbox is worth. -/
noncomputable def Try.pinned : Pinned := { name := "ythdfifcgobfgdaa", sum := "e7734c8a46065497be8242f4a690e7a0c578d92c0b589f7bbf882eb43ed321d5", checked := Try.checked }
namespace Rows
def none {H : Type} : Left H := { results := [], args := [] }

/-- 'bootjacklaw12.PointSmall': WHATEVER THE INPUT: true; the input reads as it did. -/
def pointSmallSpec : ChangeSpec := { name := "pointSmall", fn := fun _ => fun
  | [d] => { results := [.lit (.bool true)], args := [d] }
  | _ => none }
def pointSmallRow : OpenClaim := { program := "ythdfifcgobfgdaa", sum := "e7734c8a46065497be8242f4a690e7a0c578d92c0b589f7bbf882eb43ed321d5", func := "bootjack/bootjacklaw12.PointSmall", spec := "pointSmall", inPlace := ["math/bits.Add64"], apart := false }
def PointSmallSaid : Prop := pointSmallRow.holds Try.pinned (OpenSpec.ofChange pointSmallSpec)

/-- ITS FALSE NEIGHBOUR: 'it returns false'. Refute it at one input. -/
def pointSmallWrong : ChangeSpec := { name := "pointSmall", fn := fun _ => fun
  | [d] => { results := [.lit (.bool false)], args := [d] }
  | _ => none }
def PointSmallWrongFalsely : Prop := pointSmallRow.holds Try.pinned (OpenSpec.ofChange pointSmallWrong)

/-- 'bootjacklaw13.MultOrder': WHATEVER THE INPUT: true; the input reads as it did. -/
def multOrderSpec : ChangeSpec := { name := "multOrder", fn := fun _ => fun
  | [d1, d2] => { results := [.lit (.bool true)], args := [d1, d2] }
  | _ => none }
def multOrderRow : OpenClaim := { program := "ythdfifcgobfgdaa", sum := "e7734c8a46065497be8242f4a690e7a0c578d92c0b589f7bbf882eb43ed321d5", func := "bootjack/bootjacklaw13.MultOrder", spec := "multOrder", inPlace := ["math/bits.Add64", "math/bits.Sub64"], apart := false }
def MultOrderSaid : Prop := multOrderRow.holds Try.pinned (OpenSpec.ofChange multOrderSpec)

/-- ITS FALSE NEIGHBOUR: 'it returns false'. Refute it at one input. -/
def multOrderWrong : ChangeSpec := { name := "multOrder", fn := fun _ => fun
  | [d1, d2] => { results := [.lit (.bool false)], args := [d1, d2] }
  | _ => none }
def MultOrderWrongFalsely : Prop := multOrderRow.holds Try.pinned (OpenSpec.ofChange multOrderWrong)

/-- 'bootjacklaw14.EdBack': WHATEVER THE INPUT: true; the input reads as it did. -/
def edBackSpec : ChangeSpec := { name := "edBack", fn := fun _ => fun
  | [d1, d2, d3] => { results := [.lit (.bool true)], args := [d1, d2, d3] }
  | _ => none }
def edBackRow : OpenClaim := { program := "ythdfifcgobfgdaa", sum := "e7734c8a46065497be8242f4a690e7a0c578d92c0b589f7bbf882eb43ed321d5", func := "bootjack/bootjacklaw14.EdBack", spec := "edBack", inPlace := ["math/bits.Add64", "math/bits.Sub64"], apart := false }
def EdBackSaid : Prop := edBackRow.holds Try.pinned (OpenSpec.ofChange edBackSpec)

/-- ITS FALSE NEIGHBOUR: 'it returns false'. Refute it at one input. -/
def edBackWrong : ChangeSpec := { name := "edBack", fn := fun _ => fun
  | [d1, d2, d3] => { results := [.lit (.bool false)], args := [d1, d2, d3] }
  | _ => none }
def EdBackWrongFalsely : Prop := edBackRow.holds Try.pinned (OpenSpec.ofChange edBackWrong)

/-- 'bootjacklaw14.EdLong': WHATEVER THE INPUT: true; the input reads as it did. -/
def edLongSpec : ChangeSpec := { name := "edLong", fn := fun _ => fun
  | [d1, d2, d3] => { results := [.lit (.bool true)], args := [d1, d2, d3] }
  | _ => none }
def edLongRow : OpenClaim := { program := "ythdfifcgobfgdaa", sum := "e7734c8a46065497be8242f4a690e7a0c578d92c0b589f7bbf882eb43ed321d5", func := "bootjack/bootjacklaw14.EdLong", spec := "edLong", inPlace := ["math/bits.Add64", "math/bits.Sub64"], apart := false }
def EdLongSaid : Prop := edLongRow.holds Try.pinned (OpenSpec.ofChange edLongSpec)

/-- ITS FALSE NEIGHBOUR: 'it returns false'. Refute it at one input. -/
def edLongWrong : ChangeSpec := { name := "edLong", fn := fun _ => fun
  | [d1, d2, d3] => { results := [.lit (.bool false)], args := [d1, d2, d3] }
  | _ => none }
def EdLongWrongFalsely : Prop := edLongRow.holds Try.pinned (OpenSpec.ofChange edLongWrong)

/-- 'bootjacklaw14.EdKnown': WHATEVER THE INPUT: true; the input reads as it did. -/
def edKnownSpec : ChangeSpec := { name := "edKnown", fn := fun _ => fun
  | [d] => { results := [.lit (.bool true)], args := [d] }
  | _ => none }
def edKnownRow : OpenClaim := { program := "ythdfifcgobfgdaa", sum := "e7734c8a46065497be8242f4a690e7a0c578d92c0b589f7bbf882eb43ed321d5", func := "bootjack/bootjacklaw14.EdKnown", spec := "edKnown", inPlace := ["math/bits.Add64", "math/bits.Sub64"], apart := false }
def EdKnownSaid : Prop := edKnownRow.holds Try.pinned (OpenSpec.ofChange edKnownSpec)

/-- ITS FALSE NEIGHBOUR: 'it returns false'. Refute it at one input. -/
def edKnownWrong : ChangeSpec := { name := "edKnown", fn := fun _ => fun
  | [d] => { results := [.lit (.bool false)], args := [d] }
  | _ => none }
def EdKnownWrongFalsely : Prop := edKnownRow.holds Try.pinned (OpenSpec.ofChange edKnownWrong)

/-- 'bootjacklaw14.EdTurns': WHATEVER THE INPUT: true; the input reads as it did. -/
def edTurnsSpec : ChangeSpec := { name := "edTurns", fn := fun _ => fun
  | [d1, d2, d3, d4] => { results := [.lit (.bool true)], args := [d1, d2, d3, d4] }
  | _ => none }
def edTurnsRow : OpenClaim := { program := "ythdfifcgobfgdaa", sum := "e7734c8a46065497be8242f4a690e7a0c578d92c0b589f7bbf882eb43ed321d5", func := "bootjack/bootjacklaw14.EdTurns", spec := "edTurns", inPlace := ["math/bits.Add64", "math/bits.Sub64"], apart := false }
def EdTurnsSaid : Prop := edTurnsRow.holds Try.pinned (OpenSpec.ofChange edTurnsSpec)

/-- ITS FALSE NEIGHBOUR: 'it returns false'. Refute it at one input. -/
def edTurnsWrong : ChangeSpec := { name := "edTurns", fn := fun _ => fun
  | [d1, d2, d3, d4] => { results := [.lit (.bool false)], args := [d1, d2, d3, d4] }
  | _ => none }
def EdTurnsWrongFalsely : Prop := edTurnsRow.holds Try.pinned (OpenSpec.ofChange edTurnsWrong)

/-- 'bootjacklaw24.ManifestOrder': WHATEVER THE INPUT: true; the input reads as it did. -/
def manifestOrderSpec : ChangeSpec := { name := "manifestOrder", fn := fun _ => fun
  | [d1, d2, d3, d4, d5, d6] => { results := [.lit (.bool true)], args := [d1, d2, d3, d4, d5, d6] }
  | _ => none }
def manifestOrderRow : OpenClaim := { program := "ythdfifcgobfgdaa", sum := "e7734c8a46065497be8242f4a690e7a0c578d92c0b589f7bbf882eb43ed321d5", func := "bootjack/bootjacklaw24.ManifestOrder", spec := "manifestOrder", inPlace := ["math/bits.Add64", "math/bits.Sub64"], apart := false }
def ManifestOrderSaid : Prop := manifestOrderRow.holds Try.pinned (OpenSpec.ofChange manifestOrderSpec)

/-- ITS FALSE NEIGHBOUR: 'it returns false'. Refute it at one input. -/
def manifestOrderWrong : ChangeSpec := { name := "manifestOrder", fn := fun _ => fun
  | [d1, d2, d3, d4, d5, d6] => { results := [.lit (.bool false)], args := [d1, d2, d3, d4, d5, d6] }
  | _ => none }
def ManifestOrderWrongFalsely : Prop := manifestOrderRow.holds Try.pinned (OpenSpec.ofChange manifestOrderWrong)

/- THE SECOND FORM. 'bulk': how many values and letters a reading holds, each counted each time it is reached (what is shared counts as often as it is met; a slice's spare places count too). A statement '..UptoSaid' is the law's where the arguments, and the package variables that the reading takes, are together of bulk at most 1048576: NARROWER than '..Said'. Prove '..Said' where nothing that the law and all that it calls make is longer than what came in: it says more and counts as full. Else prove '..UptoSaid'. A law counts once. -/
mutual
def uptoBulk {H : Type} : DataW H → Nat
  | .lit (.string bytes) => bytes.length + 1
  | .lit _ => 1
  | .nil => 1
  | .ptr d => uptoBulk d + 1
  | .slice elems spare => uptoBulkAll elems + uptoBulkAll spare + 1
  | .agg parts => uptoBulkAll parts + 1
  | .iface _ d => uptoBulk d + 1
  | .map entries => uptoBulkEntries entries + 1
  | .held _ => 1
def uptoBulkAll {H : Type} : List (DataW H) → Nat
  | [] => 0
  | d :: r => uptoBulk d + uptoBulkAll r
def uptoBulkEntries {H : Type} : List (Lit × DataW H) → Nat
  | [] => 0
  | x :: r => uptoBulkEntry x + uptoBulkEntries r
def uptoBulkEntry {H : Type} : Lit × DataW H → Nat
  | (.string bytes, d) => bytes.length + uptoBulk d + 1
  | (_, d) => uptoBulk d + 1
 end
def uptoSmall : (H : Type) → List (DataW H) → Bool := fun _ ds => decide (uptoBulkAll ds ≤ 1048576)
def OpenSpec.upto (s : _root_.Go.ChangeSpec) : _root_.Go.OpenSpec := { _root_.Go.OpenSpec.ofChange s with cond := some uptoSmall }

/-- 'bootjacklaw12.PointSmall', WHERE WHAT IT READS IS OF BULK AT MOST 1048576: true; the input reads as it did. -/
def pointSmallUptoRow : OpenClaim := { program := "ythdfifcgobfgdaa", sum := "e7734c8a46065497be8242f4a690e7a0c578d92c0b589f7bbf882eb43ed321d5", func := "bootjack/bootjacklaw12.PointSmall", spec := "pointSmall", inPlace := ["math/bits.Add64"], apart := false, narrowed := true }
def PointSmallUptoSaid : Prop := pointSmallUptoRow.holds Try.pinned (OpenSpec.upto pointSmallSpec)

/-- 'bootjacklaw13.MultOrder', WHERE WHAT IT READS IS OF BULK AT MOST 1048576: true; the input reads as it did. -/
def multOrderUptoRow : OpenClaim := { program := "ythdfifcgobfgdaa", sum := "e7734c8a46065497be8242f4a690e7a0c578d92c0b589f7bbf882eb43ed321d5", func := "bootjack/bootjacklaw13.MultOrder", spec := "multOrder", inPlace := ["math/bits.Add64", "math/bits.Sub64"], apart := false, narrowed := true }
def MultOrderUptoSaid : Prop := multOrderUptoRow.holds Try.pinned (OpenSpec.upto multOrderSpec)

/-- 'bootjacklaw14.EdBack', WHERE WHAT IT READS IS OF BULK AT MOST 1048576: true; the input reads as it did. -/
def edBackUptoRow : OpenClaim := { program := "ythdfifcgobfgdaa", sum := "e7734c8a46065497be8242f4a690e7a0c578d92c0b589f7bbf882eb43ed321d5", func := "bootjack/bootjacklaw14.EdBack", spec := "edBack", inPlace := ["math/bits.Add64", "math/bits.Sub64"], apart := false, narrowed := true }
def EdBackUptoSaid : Prop := edBackUptoRow.holds Try.pinned (OpenSpec.upto edBackSpec)

/-- 'bootjacklaw14.EdLong', WHERE WHAT IT READS IS OF BULK AT MOST 1048576: true; the input reads as it did. -/
def edLongUptoRow : OpenClaim := { program := "ythdfifcgobfgdaa", sum := "e7734c8a46065497be8242f4a690e7a0c578d92c0b589f7bbf882eb43ed321d5", func := "bootjack/bootjacklaw14.EdLong", spec := "edLong", inPlace := ["math/bits.Add64", "math/bits.Sub64"], apart := false, narrowed := true }
def EdLongUptoSaid : Prop := edLongUptoRow.holds Try.pinned (OpenSpec.upto edLongSpec)

/-- 'bootjacklaw14.EdKnown', WHERE WHAT IT READS IS OF BULK AT MOST 1048576: true; the input reads as it did. -/
def edKnownUptoRow : OpenClaim := { program := "ythdfifcgobfgdaa", sum := "e7734c8a46065497be8242f4a690e7a0c578d92c0b589f7bbf882eb43ed321d5", func := "bootjack/bootjacklaw14.EdKnown", spec := "edKnown", inPlace := ["math/bits.Add64", "math/bits.Sub64"], apart := false, narrowed := true }
def EdKnownUptoSaid : Prop := edKnownUptoRow.holds Try.pinned (OpenSpec.upto edKnownSpec)

/-- 'bootjacklaw14.EdTurns', WHERE WHAT IT READS IS OF BULK AT MOST 1048576: true; the input reads as it did. -/
def edTurnsUptoRow : OpenClaim := { program := "ythdfifcgobfgdaa", sum := "e7734c8a46065497be8242f4a690e7a0c578d92c0b589f7bbf882eb43ed321d5", func := "bootjack/bootjacklaw14.EdTurns", spec := "edTurns", inPlace := ["math/bits.Add64", "math/bits.Sub64"], apart := false, narrowed := true }
def EdTurnsUptoSaid : Prop := edTurnsUptoRow.holds Try.pinned (OpenSpec.upto edTurnsSpec)

/-- 'bootjacklaw24.ManifestOrder', WHERE WHAT IT READS IS OF BULK AT MOST 1048576: true; the input reads as it did. -/
def manifestOrderUptoRow : OpenClaim := { program := "ythdfifcgobfgdaa", sum := "e7734c8a46065497be8242f4a690e7a0c578d92c0b589f7bbf882eb43ed321d5", func := "bootjack/bootjacklaw24.ManifestOrder", spec := "manifestOrder", inPlace := ["math/bits.Add64", "math/bits.Sub64"], apart := false, narrowed := true }
def ManifestOrderUptoSaid : Prop := manifestOrderUptoRow.holds Try.pinned (OpenSpec.upto manifestOrderSpec)

end Rows
end Go.Proofs.Ythdfifcgobfgdaa
