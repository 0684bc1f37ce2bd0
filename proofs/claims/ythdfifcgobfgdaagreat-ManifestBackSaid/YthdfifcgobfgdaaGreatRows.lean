/-
  No cell of these rows narrows 'for every input' (looked for: loops, veiled, ifaces, maps, wideKeys, modest, calm, conditions, laid).
  DERIVED. THE GIVEN ROWS OF THIS SEAT. 4 by the template 'for every input the law returns true; each argument reads behind the call as it read before'; 0 by the template 'total and deterministic' (their statements: YthdfifcgobfgdaaGreatTotals.lean).
  GIVEN WITH THE SEED: the statements are not yours to turn. If you find one false, say at which input.
  Laid BY PROGRAM, IN A SANDBOX (cutbox-rows.mjs): the forced cells as the released guide's own fill.sh prints them over the translation be2f1d9d38cdb780… (all of the seat's roots in one cut). By AI agents, Wed Nov 11 2026. No macro, syntax, notation, axiom, sorry.
-/
import Derived.Test.YthdfifcgobfgdaaGreatChecked
import GoSem.Claim
import GoSem.ClaimJoined
import GoSem.ClaimMapViews
import Derived.JoinedTies
import Derived.KernelRfl
namespace Go.Proofs.YthdfifcgobfgdaaGreat
/- THE CELL 'sum', in the pinned program and in every row, IS THE sha256 OF THE DUMP (.gsa) THAT YthdfifcgobfgdaaGreatProg.lean LOADS. Nothing in Lean hashes anything: it is a label: what it is worth is what the hold of that sum in a sandbox is worth. -/
noncomputable def Tryz.pinned : Pinned := { name := "ythdfifcgobfgdaagreat", sum := "be2f1d9d38cdb780856740708839b58ddbaf6af2487767a610119984576b6458", checked := Tryz.checked }
namespace Rows
def none {H : Type} : Left H := { results := [], args := [] }

/-- 'bootjacklaw14.EdTells': WHATEVER THE INPUT: true; the input reads as it did. -/
def edTellsSpec : ChangeSpec := { name := "edTells", fn := fun _ => fun
  | [d1, d2, d3] => { results := [.lit (.bool true)], args := [d1, d2, d3] }
  | _ => none }
def edTellsRow : OpenClaim := { program := "ythdfifcgobfgdaagreat", sum := "be2f1d9d38cdb780856740708839b58ddbaf6af2487767a610119984576b6458", func := "bootjack/bootjacklaw14.EdTells", spec := "edTells", inPlace := ["math/bits.Add64", "math/bits.Sub64"], apart := false }
def EdTellsSaid : Prop := edTellsRow.holds Tryz.pinned (OpenSpec.ofChange edTellsSpec)

/-- ITS FALSE NEIGHBOUR: 'it returns false'. Refute it at one input. -/
def edTellsWrong : ChangeSpec := { name := "edTells", fn := fun _ => fun
  | [d1, d2, d3] => { results := [.lit (.bool false)], args := [d1, d2, d3] }
  | _ => none }
def EdTellsWrongFalsely : Prop := edTellsRow.holds Tryz.pinned (OpenSpec.ofChange edTellsWrong)

/-- 'bootjacklaw14.EdVerifies': WHATEVER THE INPUT: true; the input reads as it did. -/
def edVerifiesSpec : ChangeSpec := { name := "edVerifies", fn := fun _ => fun
  | [d1, d2, d3, d4] => { results := [.lit (.bool true)], args := [d1, d2, d3, d4] }
  | _ => none }
def edVerifiesRow : OpenClaim := { program := "ythdfifcgobfgdaagreat", sum := "be2f1d9d38cdb780856740708839b58ddbaf6af2487767a610119984576b6458", func := "bootjack/bootjacklaw14.EdVerifies", spec := "edVerifies", inPlace := ["math/bits.Add64", "math/bits.Sub64"], apart := false }
def EdVerifiesSaid : Prop := edVerifiesRow.holds Tryz.pinned (OpenSpec.ofChange edVerifiesSpec)

/-- ITS FALSE NEIGHBOUR: 'it returns false'. Refute it at one input. -/
def edVerifiesWrong : ChangeSpec := { name := "edVerifies", fn := fun _ => fun
  | [d1, d2, d3, d4] => { results := [.lit (.bool false)], args := [d1, d2, d3, d4] }
  | _ => none }
def EdVerifiesWrongFalsely : Prop := edVerifiesRow.holds Tryz.pinned (OpenSpec.ofChange edVerifiesWrong)

/-- 'bootjacklaw24.ManifestChecks': WHATEVER THE INPUT: true; the input reads as it did. -/
def manifestChecksSpec : ChangeSpec := { name := "manifestChecks", fn := fun _ => fun
  | [d1, d2] => { results := [.lit (.bool true)], args := [d1, d2] }
  | _ => none }
def manifestChecksRow : OpenClaim := { program := "ythdfifcgobfgdaagreat", sum := "be2f1d9d38cdb780856740708839b58ddbaf6af2487767a610119984576b6458", func := "bootjack/bootjacklaw24.ManifestChecks", spec := "manifestChecks", inPlace := ["math/bits.Add64", "math/bits.Sub64"], apart := false }
def ManifestChecksSaid : Prop := manifestChecksRow.holds Tryz.pinned (OpenSpec.ofChange manifestChecksSpec)

/-- ITS FALSE NEIGHBOUR: 'it returns false'. Refute it at one input. -/
def manifestChecksWrong : ChangeSpec := { name := "manifestChecks", fn := fun _ => fun
  | [d1, d2] => { results := [.lit (.bool false)], args := [d1, d2] }
  | _ => none }
def ManifestChecksWrongFalsely : Prop := manifestChecksRow.holds Tryz.pinned (OpenSpec.ofChange manifestChecksWrong)

/-- 'bootjacklaw24.ManifestBack': WHATEVER THE INPUT: true; the input reads as it did. -/
def manifestBackSpec : ChangeSpec := { name := "manifestBack", fn := fun _ => fun
  | [d1, d2, d3, d4] => { results := [.lit (.bool true)], args := [d1, d2, d3, d4] }
  | _ => none }
def manifestBackRow : OpenClaim := { program := "ythdfifcgobfgdaagreat", sum := "be2f1d9d38cdb780856740708839b58ddbaf6af2487767a610119984576b6458", func := "bootjack/bootjacklaw24.ManifestBack", spec := "manifestBack", inPlace := ["math/bits.Add64", "math/bits.Sub64"], apart := false }
def ManifestBackSaid : Prop := manifestBackRow.holds Tryz.pinned (OpenSpec.ofChange manifestBackSpec)

/-- ITS FALSE NEIGHBOUR: 'it returns false'. Refute it at one input. -/
def manifestBackWrong : ChangeSpec := { name := "manifestBack", fn := fun _ => fun
  | [d1, d2, d3, d4] => { results := [.lit (.bool false)], args := [d1, d2, d3, d4] }
  | _ => none }
def ManifestBackWrongFalsely : Prop := manifestBackRow.holds Tryz.pinned (OpenSpec.ofChange manifestBackWrong)

/- THE SECOND FORM. 'bulk': how many values and letters a reading holds, each counted each time it is reached (what is shared counts as often as it is met; a slice's spare places count too). A statement '..UptoSaid' is the law's where the arguments, and the package variables that the reading takes, are together of bulk at most 1048576: NARROWER than '..Said'. Prove '..Said' where nothing that the law and all that it calls make is longer than what came in: it says more and counts as full. Else prove '..UptoSaid'. A law counts once. -/
mutual
def uptoBulk {H : Type} : DataW H → Nat
  | .lit (.string bytes) => bytes.length + 1
  | .lit _ => 1
  | .nil => 1
  | .ptr d => uptoBulk d + 1
  | .slice elems spare => uptoBulkAll elems + uptoBulkAll spare + 1
  | .agg parts => uptoBulkAll parts + 1
  | .iface _ d => uptoBulk d + 1
  | .map entries => uptoBulkEntries entries + 1
  | .held _ => 1
def uptoBulkAll {H : Type} : List (DataW H) → Nat
  | [] => 0
  | d :: r => uptoBulk d + uptoBulkAll r
def uptoBulkEntries {H : Type} : List (Lit × DataW H) → Nat
  | [] => 0
  | x :: r => uptoBulkEntry x + uptoBulkEntries r
def uptoBulkEntry {H : Type} : Lit × DataW H → Nat
  | (.string bytes, d) => bytes.length + uptoBulk d + 1
  | (_, d) => uptoBulk d + 1
 end
def uptoSmall : (H : Type) → List (DataW H) → Bool := fun _ ds => decide (uptoBulkAll ds ≤ 1048576)
def OpenSpec.upto (s : _root_.Go.ChangeSpec) : _root_.Go.OpenSpec := { _root_.Go.OpenSpec.ofChange s with cond := some uptoSmall }

/-- 'bootjacklaw14.EdTells', WHERE WHAT IT READS IS OF BULK AT MOST 1048576: true; the input reads as it did. -/
def edTellsUptoRow : OpenClaim := { program := "ythdfifcgobfgdaagreat", sum := "be2f1d9d38cdb780856740708839b58ddbaf6af2487767a610119984576b6458", func := "bootjack/bootjacklaw14.EdTells", spec := "edTells", inPlace := ["math/bits.Add64", "math/bits.Sub64"], apart := false, narrowed := true }
def EdTellsUptoSaid : Prop := edTellsUptoRow.holds Tryz.pinned (OpenSpec.upto edTellsSpec)

/-- 'bootjacklaw14.EdVerifies', WHERE WHAT IT READS IS OF BULK AT MOST 1048576: true; the input reads as it did. -/
def edVerifiesUptoRow : OpenClaim := { program := "ythdfifcgobfgdaagreat", sum := "be2f1d9d38cdb780856740708839b58ddbaf6af2487767a610119984576b6458", func := "bootjack/bootjacklaw14.EdVerifies", spec := "edVerifies", inPlace := ["math/bits.Add64", "math/bits.Sub64"], apart := false, narrowed := true }
def EdVerifiesUptoSaid : Prop := edVerifiesUptoRow.holds Tryz.pinned (OpenSpec.upto edVerifiesSpec)

/-- 'bootjacklaw24.ManifestChecks', WHERE WHAT IT READS IS OF BULK AT MOST 1048576: true; the input reads as it did. -/
def manifestChecksUptoRow : OpenClaim := { program := "ythdfifcgobfgdaagreat", sum := "be2f1d9d38cdb780856740708839b58ddbaf6af2487767a610119984576b6458", func := "bootjack/bootjacklaw24.ManifestChecks", spec := "manifestChecks", inPlace := ["math/bits.Add64", "math/bits.Sub64"], apart := false, narrowed := true }
def ManifestChecksUptoSaid : Prop := manifestChecksUptoRow.holds Tryz.pinned (OpenSpec.upto manifestChecksSpec)

/-- 'bootjacklaw24.ManifestBack', WHERE WHAT IT READS IS OF BULK AT MOST 1048576: true; the input reads as it did. -/
def manifestBackUptoRow : OpenClaim := { program := "ythdfifcgobfgdaagreat", sum := "be2f1d9d38cdb780856740708839b58ddbaf6af2487767a610119984576b6458", func := "bootjack/bootjacklaw24.ManifestBack", spec := "manifestBack", inPlace := ["math/bits.Add64", "math/bits.Sub64"], apart := false, narrowed := true }
def ManifestBackUptoSaid : Prop := manifestBackUptoRow.holds Tryz.pinned (OpenSpec.upto manifestBackSpec)

end Rows
end Go.Proofs.YthdfifcgobfgdaaGreat
