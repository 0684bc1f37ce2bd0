/-
  No cell of these rows narrows 'for every input' (looked for: loops, veiled, ifaces, maps, wideKeys, modest, calm, conditions, laid).
  DERIVED. THE GIVEN ROWS OF THIS SEAT. 7 by the template 'for every input the law returns true; each argument reads behind the call as it read before'; 0 by the template 'total and deterministic' (their statements: YtdpbkfmjknmmnaaTotals.lean).
  GIVEN WITH THE SEED: the statements are not yours to turn. If you find one false, say at which input.
  Laid BY PROGRAM, IN A SANDBOX (cutbox-rows.mjs): the forced cells as the released guide's own fill.sh prints them over the translation 01db1f3bb8a94225… (all of the seat's roots in one cut). By AI agents, Wed Nov 11 2026. No macro, syntax, notation, axiom, sorry.
-/
import Derived.Test.YtdpbkfmjknmmnaaChecked
import GoSem.Claim
import GoSem.ClaimJoined
import GoSem.ClaimMapViews
import Derived.JoinedTies
import Derived.KernelRfl
namespace Go.Proofs.Ytdpbkfmjknmmnaa
/- THE CELL 'sum', in the pinned program and in every row, IS THE sha256 OF THE DUMP (.gsa) THAT YtdpbkfmjknmmnaaProg.lean LOADS. Nothing in Lean hashes anything: it is a label: what it is worth is what the hold of that sum in a sandbox is worth. -/
noncomputable def Try.pinned : Pinned := { name := "ytdpbkfmjknmmnaa", sum := "01db1f3bb8a94225f8fa9526d4a423fb5edd365995e6339cb7e63b1cf9c0f11f", checked := Try.checked }
namespace Rows
def none {H : Type} : Left H := { results := [], args := [] }

/-- 'bootjacklaw24.ManifestTells': WHATEVER THE INPUT: true; the input reads as it did. -/
def manifestTellsSpec : ChangeSpec := { name := "manifestTells", fn := fun _ => fun
  | [d] => { results := [.lit (.bool true)], args := [d] }
  | _ => none }
def manifestTellsRow : OpenClaim := { program := "ytdpbkfmjknmmnaa", sum := "01db1f3bb8a94225f8fa9526d4a423fb5edd365995e6339cb7e63b1cf9c0f11f", func := "bootjack/bootjacklaw24.ManifestTells", spec := "manifestTells", apart := false }
def ManifestTellsSaid : Prop := manifestTellsRow.holds Try.pinned (OpenSpec.ofChange manifestTellsSpec)

/-- ITS FALSE NEIGHBOUR: 'it returns false'. Refute it at one input. -/
def manifestTellsWrong : ChangeSpec := { name := "manifestTells", fn := fun _ => fun
  | [d] => { results := [.lit (.bool false)], args := [d] }
  | _ => none }
def ManifestTellsWrongFalsely : Prop := manifestTellsRow.holds Try.pinned (OpenSpec.ofChange manifestTellsWrong)

/-- 'bootjacklaw27.ParserPlays': WHATEVER THE INPUT: true; the input reads as it did. -/
def parserPlaysSpec : ChangeSpec := { name := "parserPlays", fn := fun _ => fun
  | [d] => { results := [.lit (.bool true)], args := [d] }
  | _ => none }
def parserPlaysRow : OpenClaim := { program := "ytdpbkfmjknmmnaa", sum := "01db1f3bb8a94225f8fa9526d4a423fb5edd365995e6339cb7e63b1cf9c0f11f", func := "bootjack/bootjacklaw27.ParserPlays", spec := "parserPlays", apart := false }
def ParserPlaysSaid : Prop := parserPlaysRow.holds Try.pinned (OpenSpec.ofChange parserPlaysSpec)

/-- ITS FALSE NEIGHBOUR: 'it returns false'. Refute it at one input. -/
def parserPlaysWrong : ChangeSpec := { name := "parserPlays", fn := fun _ => fun
  | [d] => { results := [.lit (.bool false)], args := [d] }
  | _ => none }
def ParserPlaysWrongFalsely : Prop := parserPlaysRow.holds Try.pinned (OpenSpec.ofChange parserPlaysWrong)

/-- 'bootjacklaw27.ParserWants': WHATEVER THE INPUT: true; the input reads as it did. -/
def parserWantsSpec : ChangeSpec := { name := "parserWants", fn := fun _ => fun
  | [d] => { results := [.lit (.bool true)], args := [d] }
  | _ => none }
def parserWantsRow : OpenClaim := { program := "ytdpbkfmjknmmnaa", sum := "01db1f3bb8a94225f8fa9526d4a423fb5edd365995e6339cb7e63b1cf9c0f11f", func := "bootjack/bootjacklaw27.ParserWants", spec := "parserWants", apart := false }
def ParserWantsSaid : Prop := parserWantsRow.holds Try.pinned (OpenSpec.ofChange parserWantsSpec)

/-- ITS FALSE NEIGHBOUR: 'it returns false'. Refute it at one input. -/
def parserWantsWrong : ChangeSpec := { name := "parserWants", fn := fun _ => fun
  | [d] => { results := [.lit (.bool false)], args := [d] }
  | _ => none }
def ParserWantsWrongFalsely : Prop := parserWantsRow.holds Try.pinned (OpenSpec.ofChange parserWantsWrong)

/-- 'bootjacklaw27.ParserAt': WHATEVER THE INPUT: true; the input reads as it did. -/
def parserAtSpec : ChangeSpec := { name := "parserAt", fn := fun _ => fun
  | [d1, d2, d3] => { results := [.lit (.bool true)], args := [d1, d2, d3] }
  | _ => none }
def parserAtRow : OpenClaim := { program := "ytdpbkfmjknmmnaa", sum := "01db1f3bb8a94225f8fa9526d4a423fb5edd365995e6339cb7e63b1cf9c0f11f", func := "bootjack/bootjacklaw27.ParserAt", spec := "parserAt", apart := false }
def ParserAtSaid : Prop := parserAtRow.holds Try.pinned (OpenSpec.ofChange parserAtSpec)

/-- ITS FALSE NEIGHBOUR: 'it returns false'. Refute it at one input. -/
def parserAtWrong : ChangeSpec := { name := "parserAt", fn := fun _ => fun
  | [d1, d2, d3] => { results := [.lit (.bool false)], args := [d1, d2, d3] }
  | _ => none }
def ParserAtWrongFalsely : Prop := parserAtRow.holds Try.pinned (OpenSpec.ofChange parserAtWrong)

/-- 'bootjacklaw27.ParserNone': WHATEVER THE INPUT: true; the input reads as it did. -/
def parserNoneSpec : ChangeSpec := { name := "parserNone", fn := fun _ => fun
  | [d1, d2, d3] => { results := [.lit (.bool true)], args := [d1, d2, d3] }
  | _ => none }
def parserNoneRow : OpenClaim := { program := "ytdpbkfmjknmmnaa", sum := "01db1f3bb8a94225f8fa9526d4a423fb5edd365995e6339cb7e63b1cf9c0f11f", func := "bootjack/bootjacklaw27.ParserNone", spec := "parserNone", apart := false }
def ParserNoneSaid : Prop := parserNoneRow.holds Try.pinned (OpenSpec.ofChange parserNoneSpec)

/-- ITS FALSE NEIGHBOUR: 'it returns false'. Refute it at one input. -/
def parserNoneWrong : ChangeSpec := { name := "parserNone", fn := fun _ => fun
  | [d1, d2, d3] => { results := [.lit (.bool false)], args := [d1, d2, d3] }
  | _ => none }
def ParserNoneWrongFalsely : Prop := parserNoneRow.holds Try.pinned (OpenSpec.ofChange parserNoneWrong)

/-- 'bootjacklaw24.ManifestNames': WHATEVER THE INPUT: true; the input reads as it did. -/
def manifestNamesSpec : ChangeSpec := { name := "manifestNames", fn := fun _ => fun
  | [d] => { results := [.lit (.bool true)], args := [d] }
  | _ => none }
def manifestNamesRow : OpenClaim := { program := "ytdpbkfmjknmmnaa", sum := "01db1f3bb8a94225f8fa9526d4a423fb5edd365995e6339cb7e63b1cf9c0f11f", func := "bootjack/bootjacklaw24.ManifestNames", spec := "manifestNames", apart := false }
def ManifestNamesSaid : Prop := manifestNamesRow.holds Try.pinned (OpenSpec.ofChange manifestNamesSpec)

/-- ITS FALSE NEIGHBOUR: 'it returns false'. Refute it at one input. -/
def manifestNamesWrong : ChangeSpec := { name := "manifestNames", fn := fun _ => fun
  | [d] => { results := [.lit (.bool false)], args := [d] }
  | _ => none }
def ManifestNamesWrongFalsely : Prop := manifestNamesRow.holds Try.pinned (OpenSpec.ofChange manifestNamesWrong)

/-- 'bootjacklaw24.ManifestReads': WHATEVER THE INPUT: true; the input reads as it did. -/
def manifestReadsSpec : ChangeSpec := { name := "manifestReads", fn := fun _ => fun
  | [d] => { results := [.lit (.bool true)], args := [d] }
  | _ => none }
def manifestReadsRow : OpenClaim := { program := "ytdpbkfmjknmmnaa", sum := "01db1f3bb8a94225f8fa9526d4a423fb5edd365995e6339cb7e63b1cf9c0f11f", func := "bootjack/bootjacklaw24.ManifestReads", spec := "manifestReads", apart := false }
def ManifestReadsSaid : Prop := manifestReadsRow.holds Try.pinned (OpenSpec.ofChange manifestReadsSpec)

/-- ITS FALSE NEIGHBOUR: 'it returns false'. Refute it at one input. -/
def manifestReadsWrong : ChangeSpec := { name := "manifestReads", fn := fun _ => fun
  | [d] => { results := [.lit (.bool false)], args := [d] }
  | _ => none }
def ManifestReadsWrongFalsely : Prop := manifestReadsRow.holds Try.pinned (OpenSpec.ofChange manifestReadsWrong)

/- THE SECOND FORM. 'bulk': how many values and letters a reading holds, each counted each time it is reached (what is shared counts as often as it is met; a slice's spare places count too). A statement '..UptoSaid' is the law's where the arguments, and the package variables that the reading takes, are together of bulk at most 1048576: NARROWER than '..Said'. Prove '..Said' where nothing that the law and all that it calls make is longer than what came in: it says more and counts as full. Else prove '..UptoSaid'. A law counts once. -/
mutual
def uptoBulk {H : Type} : DataW H → Nat
  | .lit (.string bytes) => bytes.length + 1
  | .lit _ => 1
  | .nil => 1
  | .ptr d => uptoBulk d + 1
  | .slice elems spare => uptoBulkAll elems + uptoBulkAll spare + 1
  | .agg parts => uptoBulkAll parts + 1
  | .iface _ d => uptoBulk d + 1
  | .map entries => uptoBulkEntries entries + 1
  | .held _ => 1
def uptoBulkAll {H : Type} : List (DataW H) → Nat
  | [] => 0
  | d :: r => uptoBulk d + uptoBulkAll r
def uptoBulkEntries {H : Type} : List (Lit × DataW H) → Nat
  | [] => 0
  | x :: r => uptoBulkEntry x + uptoBulkEntries r
def uptoBulkEntry {H : Type} : Lit × DataW H → Nat
  | (.string bytes, d) => bytes.length + uptoBulk d + 1
  | (_, d) => uptoBulk d + 1
 end
def uptoSmall : (H : Type) → List (DataW H) → Bool := fun _ ds => decide (uptoBulkAll ds ≤ 1048576)
def OpenSpec.upto (s : _root_.Go.ChangeSpec) : _root_.Go.OpenSpec := { _root_.Go.OpenSpec.ofChange s with cond := some uptoSmall }

/-- 'bootjacklaw24.ManifestTells', WHERE WHAT IT READS IS OF BULK AT MOST 1048576: true; the input reads as it did. -/
def manifestTellsUptoRow : OpenClaim := { program := "ytdpbkfmjknmmnaa", sum := "01db1f3bb8a94225f8fa9526d4a423fb5edd365995e6339cb7e63b1cf9c0f11f", func := "bootjack/bootjacklaw24.ManifestTells", spec := "manifestTells", apart := false, narrowed := true }
def ManifestTellsUptoSaid : Prop := manifestTellsUptoRow.holds Try.pinned (OpenSpec.upto manifestTellsSpec)

/-- 'bootjacklaw27.ParserPlays', WHERE WHAT IT READS IS OF BULK AT MOST 1048576: true; the input reads as it did. -/
def parserPlaysUptoRow : OpenClaim := { program := "ytdpbkfmjknmmnaa", sum := "01db1f3bb8a94225f8fa9526d4a423fb5edd365995e6339cb7e63b1cf9c0f11f", func := "bootjack/bootjacklaw27.ParserPlays", spec := "parserPlays", apart := false, narrowed := true }
def ParserPlaysUptoSaid : Prop := parserPlaysUptoRow.holds Try.pinned (OpenSpec.upto parserPlaysSpec)

/-- 'bootjacklaw27.ParserWants', WHERE WHAT IT READS IS OF BULK AT MOST 1048576: true; the input reads as it did. -/
def parserWantsUptoRow : OpenClaim := { program := "ytdpbkfmjknmmnaa", sum := "01db1f3bb8a94225f8fa9526d4a423fb5edd365995e6339cb7e63b1cf9c0f11f", func := "bootjack/bootjacklaw27.ParserWants", spec := "parserWants", apart := false, narrowed := true }
def ParserWantsUptoSaid : Prop := parserWantsUptoRow.holds Try.pinned (OpenSpec.upto parserWantsSpec)

/-- 'bootjacklaw27.ParserAt', WHERE WHAT IT READS IS OF BULK AT MOST 1048576: true; the input reads as it did. -/
def parserAtUptoRow : OpenClaim := { program := "ytdpbkfmjknmmnaa", sum := "01db1f3bb8a94225f8fa9526d4a423fb5edd365995e6339cb7e63b1cf9c0f11f", func := "bootjack/bootjacklaw27.ParserAt", spec := "parserAt", apart := false, narrowed := true }
def ParserAtUptoSaid : Prop := parserAtUptoRow.holds Try.pinned (OpenSpec.upto parserAtSpec)

/-- 'bootjacklaw27.ParserNone', WHERE WHAT IT READS IS OF BULK AT MOST 1048576: true; the input reads as it did. -/
def parserNoneUptoRow : OpenClaim := { program := "ytdpbkfmjknmmnaa", sum := "01db1f3bb8a94225f8fa9526d4a423fb5edd365995e6339cb7e63b1cf9c0f11f", func := "bootjack/bootjacklaw27.ParserNone", spec := "parserNone", apart := false, narrowed := true }
def ParserNoneUptoSaid : Prop := parserNoneUptoRow.holds Try.pinned (OpenSpec.upto parserNoneSpec)

/-- 'bootjacklaw24.ManifestNames', WHERE WHAT IT READS IS OF BULK AT MOST 1048576: true; the input reads as it did. -/
def manifestNamesUptoRow : OpenClaim := { program := "ytdpbkfmjknmmnaa", sum := "01db1f3bb8a94225f8fa9526d4a423fb5edd365995e6339cb7e63b1cf9c0f11f", func := "bootjack/bootjacklaw24.ManifestNames", spec := "manifestNames", apart := false, narrowed := true }
def ManifestNamesUptoSaid : Prop := manifestNamesUptoRow.holds Try.pinned (OpenSpec.upto manifestNamesSpec)

/-- 'bootjacklaw24.ManifestReads', WHERE WHAT IT READS IS OF BULK AT MOST 1048576: true; the input reads as it did. -/
def manifestReadsUptoRow : OpenClaim := { program := "ytdpbkfmjknmmnaa", sum := "01db1f3bb8a94225f8fa9526d4a423fb5edd365995e6339cb7e63b1cf9c0f11f", func := "bootjack/bootjacklaw24.ManifestReads", spec := "manifestReads", apart := false, narrowed := true }
def ManifestReadsUptoSaid : Prop := manifestReadsUptoRow.holds Try.pinned (OpenSpec.upto manifestReadsSpec)

end Rows
end Go.Proofs.Ytdpbkfmjknmmnaa
