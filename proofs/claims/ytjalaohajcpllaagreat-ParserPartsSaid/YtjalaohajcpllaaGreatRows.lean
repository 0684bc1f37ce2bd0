/-
  No cell of these rows narrows 'for every input' (looked for: loops, veiled, ifaces, maps, wideKeys, modest, calm, conditions, laid).
  DERIVED. THE GIVEN ROWS OF THIS SEAT. 5 by the template 'for every input the law returns true; each argument reads behind the call as it read before'; 0 by the template 'total and deterministic' (their statements: YtjalaohajcpllaaGreatTotals.lean).
  GIVEN WITH THE SEED: the statements are not yours to turn. If you find one false, say at which input.
  Laid BY PROGRAM, IN A SANDBOX (cutbox-rows.mjs): the forced cells as the released guide's own fill.sh prints them over the translation 9064ed0fa9ed1bf6… (all of the seat's roots in one cut). By AI agents, Wed Nov 11 2026. No macro, syntax, notation, axiom, sorry.
-/
import Derived.Test.YtjalaohajcpllaaGreatChecked
import GoSem.Claim
import GoSem.ClaimJoined
import GoSem.ClaimMapViews
import Derived.JoinedTies
import Derived.KernelRfl
namespace Go.Proofs.YtjalaohajcpllaaGreat
/- THE CELL 'sum', in the pinned program and in every row, IS THE sha256 OF THE DUMP (.gsa) THAT YtjalaohajcpllaaGreatProg.lean LOADS. Nothing in Lean hashes anything: it is a label: what it is worth is what the hold of that sum in a sandbox is worth. -/
noncomputable def Tryz.pinned : Pinned := { name := "ytjalaohajcpllaagreat", sum := "9064ed0fa9ed1bf675dc1b275dd6284e8ef070d9f71b98c0338249c1349b133a", checked := Tryz.checked }
namespace Rows
def none {H : Type} : Left H := { results := [], args := [] }

/-- 'bootjacklaw27.ParserParts': WHATEVER THE INPUT: true; the input reads as it did. -/
def parserPartsSpec : ChangeSpec := { name := "parserParts", fn := fun _ => fun
  | [d1, d2, d3] => { results := [.lit (.bool true)], args := [d1, d2, d3] }
  | _ => none }
def parserPartsRow : OpenClaim := { program := "ytjalaohajcpllaagreat", sum := "9064ed0fa9ed1bf675dc1b275dd6284e8ef070d9f71b98c0338249c1349b133a", func := "bootjack/bootjacklaw27.ParserParts", spec := "parserParts", inPlace := ["math/bits.Add64", "math/bits.Sub64"], apart := false }
def ParserPartsSaid : Prop := parserPartsRow.holds Tryz.pinned (OpenSpec.ofChange parserPartsSpec)

/-- ITS FALSE NEIGHBOUR: 'it returns false'. Refute it at one input. -/
def parserPartsWrong : ChangeSpec := { name := "parserParts", fn := fun _ => fun
  | [d1, d2, d3] => { results := [.lit (.bool false)], args := [d1, d2, d3] }
  | _ => none }
def ParserPartsWrongFalsely : Prop := parserPartsRow.holds Tryz.pinned (OpenSpec.ofChange parserPartsWrong)

/-- 'bootjacklaw25.ImageFrames': WHATEVER THE INPUT: true; the input reads as it did. -/
def imageFramesSpec : ChangeSpec := { name := "imageFrames", fn := fun _ => fun
  | [d1, d2] => { results := [.lit (.bool true)], args := [d1, d2] }
  | _ => none }
def imageFramesRow : OpenClaim := { program := "ytjalaohajcpllaagreat", sum := "9064ed0fa9ed1bf675dc1b275dd6284e8ef070d9f71b98c0338249c1349b133a", func := "bootjack/bootjacklaw25.ImageFrames", spec := "imageFrames", inPlace := ["math/bits.Add64", "math/bits.Sub64"], apart := false }
def ImageFramesSaid : Prop := imageFramesRow.holds Tryz.pinned (OpenSpec.ofChange imageFramesSpec)

/-- ITS FALSE NEIGHBOUR: 'it returns false'. Refute it at one input. -/
def imageFramesWrong : ChangeSpec := { name := "imageFrames", fn := fun _ => fun
  | [d1, d2] => { results := [.lit (.bool false)], args := [d1, d2] }
  | _ => none }
def ImageFramesWrongFalsely : Prop := imageFramesRow.holds Tryz.pinned (OpenSpec.ofChange imageFramesWrong)

/-- 'bootjacklaw25.ImageUnframes': WHATEVER THE INPUT: true; the input reads as it did. -/
def imageUnframesSpec : ChangeSpec := { name := "imageUnframes", fn := fun _ => fun
  | [d] => { results := [.lit (.bool true)], args := [d] }
  | _ => none }
def imageUnframesRow : OpenClaim := { program := "ytjalaohajcpllaagreat", sum := "9064ed0fa9ed1bf675dc1b275dd6284e8ef070d9f71b98c0338249c1349b133a", func := "bootjack/bootjacklaw25.ImageUnframes", spec := "imageUnframes", inPlace := ["math/bits.Add64", "math/bits.Sub64"], apart := false }
def ImageUnframesSaid : Prop := imageUnframesRow.holds Tryz.pinned (OpenSpec.ofChange imageUnframesSpec)

/-- ITS FALSE NEIGHBOUR: 'it returns false'. Refute it at one input. -/
def imageUnframesWrong : ChangeSpec := { name := "imageUnframes", fn := fun _ => fun
  | [d] => { results := [.lit (.bool false)], args := [d] }
  | _ => none }
def ImageUnframesWrongFalsely : Prop := imageUnframesRow.holds Tryz.pinned (OpenSpec.ofChange imageUnframesWrong)

/-- 'bootjacklaw25.ImageParts': WHATEVER THE INPUT: true; the input reads as it did. -/
def imagePartsSpec : ChangeSpec := { name := "imageParts", fn := fun _ => fun
  | [d1, d2, d3] => { results := [.lit (.bool true)], args := [d1, d2, d3] }
  | _ => none }
def imagePartsRow : OpenClaim := { program := "ytjalaohajcpllaagreat", sum := "9064ed0fa9ed1bf675dc1b275dd6284e8ef070d9f71b98c0338249c1349b133a", func := "bootjack/bootjacklaw25.ImageParts", spec := "imageParts", inPlace := ["math/bits.Add64", "math/bits.Sub64"], apart := false }
def ImagePartsSaid : Prop := imagePartsRow.holds Tryz.pinned (OpenSpec.ofChange imagePartsSpec)

/-- ITS FALSE NEIGHBOUR: 'it returns false'. Refute it at one input. -/
def imagePartsWrong : ChangeSpec := { name := "imageParts", fn := fun _ => fun
  | [d1, d2, d3] => { results := [.lit (.bool false)], args := [d1, d2, d3] }
  | _ => none }
def ImagePartsWrongFalsely : Prop := imagePartsRow.holds Tryz.pinned (OpenSpec.ofChange imagePartsWrong)

/-- 'bootjacklaw25.ImageCuts': WHATEVER THE INPUT: true; the input reads as it did. -/
def imageCutsSpec : ChangeSpec := { name := "imageCuts", fn := fun _ => fun
  | [d1, d2, d3, d4] => { results := [.lit (.bool true)], args := [d1, d2, d3, d4] }
  | _ => none }
def imageCutsRow : OpenClaim := { program := "ytjalaohajcpllaagreat", sum := "9064ed0fa9ed1bf675dc1b275dd6284e8ef070d9f71b98c0338249c1349b133a", func := "bootjack/bootjacklaw25.ImageCuts", spec := "imageCuts", inPlace := ["math/bits.Add64", "math/bits.Sub64"], apart := false }
def ImageCutsSaid : Prop := imageCutsRow.holds Tryz.pinned (OpenSpec.ofChange imageCutsSpec)

/-- ITS FALSE NEIGHBOUR: 'it returns false'. Refute it at one input. -/
def imageCutsWrong : ChangeSpec := { name := "imageCuts", fn := fun _ => fun
  | [d1, d2, d3, d4] => { results := [.lit (.bool false)], args := [d1, d2, d3, d4] }
  | _ => none }
def ImageCutsWrongFalsely : Prop := imageCutsRow.holds Tryz.pinned (OpenSpec.ofChange imageCutsWrong)

/- THE SECOND FORM. 'bulk': how many values and letters a reading holds, each counted each time it is reached (what is shared counts as often as it is met; a slice's spare places count too). A statement '..UptoSaid' is the law's where the arguments, and the package variables that the reading takes, are together of bulk at most 1048576: NARROWER than '..Said'. Prove '..Said' where nothing that the law and all that it calls make is longer than what came in: it says more and counts as full. Else prove '..UptoSaid'. A law counts once. -/
mutual
def uptoBulk {H : Type} : DataW H → Nat
  | .lit (.string bytes) => bytes.length + 1
  | .lit _ => 1
  | .nil => 1
  | .ptr d => uptoBulk d + 1
  | .slice elems spare => uptoBulkAll elems + uptoBulkAll spare + 1
  | .agg parts => uptoBulkAll parts + 1
  | .iface _ d => uptoBulk d + 1
  | .map entries => uptoBulkEntries entries + 1
  | .held _ => 1
def uptoBulkAll {H : Type} : List (DataW H) → Nat
  | [] => 0
  | d :: r => uptoBulk d + uptoBulkAll r
def uptoBulkEntries {H : Type} : List (Lit × DataW H) → Nat
  | [] => 0
  | x :: r => uptoBulkEntry x + uptoBulkEntries r
def uptoBulkEntry {H : Type} : Lit × DataW H → Nat
  | (.string bytes, d) => bytes.length + uptoBulk d + 1
  | (_, d) => uptoBulk d + 1
 end
def uptoSmall : (H : Type) → List (DataW H) → Bool := fun _ ds => decide (uptoBulkAll ds ≤ 1048576)
def OpenSpec.upto (s : _root_.Go.ChangeSpec) : _root_.Go.OpenSpec := { _root_.Go.OpenSpec.ofChange s with cond := some uptoSmall }

/-- 'bootjacklaw27.ParserParts', WHERE WHAT IT READS IS OF BULK AT MOST 1048576: true; the input reads as it did. -/
def parserPartsUptoRow : OpenClaim := { program := "ytjalaohajcpllaagreat", sum := "9064ed0fa9ed1bf675dc1b275dd6284e8ef070d9f71b98c0338249c1349b133a", func := "bootjack/bootjacklaw27.ParserParts", spec := "parserParts", inPlace := ["math/bits.Add64", "math/bits.Sub64"], apart := false, narrowed := true }
def ParserPartsUptoSaid : Prop := parserPartsUptoRow.holds Tryz.pinned (OpenSpec.upto parserPartsSpec)

/-- 'bootjacklaw25.ImageFrames', WHERE WHAT IT READS IS OF BULK AT MOST 1048576: true; the input reads as it did. -/
def imageFramesUptoRow : OpenClaim := { program := "ytjalaohajcpllaagreat", sum := "9064ed0fa9ed1bf675dc1b275dd6284e8ef070d9f71b98c0338249c1349b133a", func := "bootjack/bootjacklaw25.ImageFrames", spec := "imageFrames", inPlace := ["math/bits.Add64", "math/bits.Sub64"], apart := false, narrowed := true }
def ImageFramesUptoSaid : Prop := imageFramesUptoRow.holds Tryz.pinned (OpenSpec.upto imageFramesSpec)

/-- 'bootjacklaw25.ImageUnframes', WHERE WHAT IT READS IS OF BULK AT MOST 1048576: true; the input reads as it did. -/
def imageUnframesUptoRow : OpenClaim := { program := "ytjalaohajcpllaagreat", sum := "9064ed0fa9ed1bf675dc1b275dd6284e8ef070d9f71b98c0338249c1349b133a", func := "bootjack/bootjacklaw25.ImageUnframes", spec := "imageUnframes", inPlace := ["math/bits.Add64", "math/bits.Sub64"], apart := false, narrowed := true }
def ImageUnframesUptoSaid : Prop := imageUnframesUptoRow.holds Tryz.pinned (OpenSpec.upto imageUnframesSpec)

/-- 'bootjacklaw25.ImageParts', WHERE WHAT IT READS IS OF BULK AT MOST 1048576: true; the input reads as it did. -/
def imagePartsUptoRow : OpenClaim := { program := "ytjalaohajcpllaagreat", sum := "9064ed0fa9ed1bf675dc1b275dd6284e8ef070d9f71b98c0338249c1349b133a", func := "bootjack/bootjacklaw25.ImageParts", spec := "imageParts", inPlace := ["math/bits.Add64", "math/bits.Sub64"], apart := false, narrowed := true }
def ImagePartsUptoSaid : Prop := imagePartsUptoRow.holds Tryz.pinned (OpenSpec.upto imagePartsSpec)

/-- 'bootjacklaw25.ImageCuts', WHERE WHAT IT READS IS OF BULK AT MOST 1048576: true; the input reads as it did. -/
def imageCutsUptoRow : OpenClaim := { program := "ytjalaohajcpllaagreat", sum := "9064ed0fa9ed1bf675dc1b275dd6284e8ef070d9f71b98c0338249c1349b133a", func := "bootjack/bootjacklaw25.ImageCuts", spec := "imageCuts", inPlace := ["math/bits.Add64", "math/bits.Sub64"], apart := false, narrowed := true }
def ImageCutsUptoSaid : Prop := imageCutsUptoRow.holds Tryz.pinned (OpenSpec.upto imageCutsSpec)

end Rows
end Go.Proofs.YtjalaohajcpllaaGreat
