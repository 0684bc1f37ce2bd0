/-
  No cell of these rows narrows 'for every input' (looked for: loops, veiled, ifaces, maps, wideKeys, modest, calm, conditions, laid).
  DERIVED. THE GIVEN ROWS OF THIS SEAT. 7 by the template 'for every input the law returns true; each argument reads behind the call as it read before'; 0 by the template 'total and deterministic' (their statements: YtnbkagglkajbkaaGreatTotals.lean).
  GIVEN WITH THE SEED: the statements are not yours to turn. If you find one false, say at which input.
  Laid BY PROGRAM, IN A SANDBOX (cutbox-rows.mjs): the forced cells as the released guide's own fill.sh prints them over the translation 5ba8d0b2aff1f573… (all of the seat's roots in one cut). By AI agents, Wed Nov 11 2026. No macro, syntax, notation, axiom, sorry.
-/
import Derived.Test.YtnbkagglkajbkaaGreatChecked
import GoSem.Claim
import GoSem.ClaimJoined
import GoSem.ClaimMapViews
import Derived.JoinedTies
import Derived.KernelRfl
namespace Go.Proofs.YtnbkagglkajbkaaGreat
/- THE CELL 'sum', in the pinned program and in every row, IS THE sha256 OF THE DUMP (.gsa) THAT YtnbkagglkajbkaaGreatProg.lean LOADS. Nothing in Lean hashes anything: it is a label: what it is worth is what the hold of that sum in a sandbox is worth. -/
noncomputable def Tryz.pinned : Pinned := { name := "ytnbkagglkajbkaagreat", sum := "5ba8d0b2aff1f573aa0218dba9890d86a007a32b72834915e45c16393866a17d", checked := Tryz.checked }
namespace Rows
def none {H : Type} : Left H := { results := [], args := [] }

/-- 'bootjacklaw25.ImageMakes': WHATEVER THE INPUT: true; the input reads as it did. -/
def imageMakesSpec : ChangeSpec := { name := "imageMakes", fn := fun _ => fun
  | [d1, d2, d3] => { results := [.lit (.bool true)], args := [d1, d2, d3] }
  | _ => none }
def imageMakesRow : OpenClaim := { program := "ytnbkagglkajbkaagreat", sum := "5ba8d0b2aff1f573aa0218dba9890d86a007a32b72834915e45c16393866a17d", func := "bootjack/bootjacklaw25.ImageMakes", spec := "imageMakes", inPlace := ["math/bits.Add64", "math/bits.Sub64"], apart := false }
def ImageMakesSaid : Prop := imageMakesRow.holds Tryz.pinned (OpenSpec.ofChange imageMakesSpec)

/-- ITS FALSE NEIGHBOUR: 'it returns false'. Refute it at one input. -/
def imageMakesWrong : ChangeSpec := { name := "imageMakes", fn := fun _ => fun
  | [d1, d2, d3] => { results := [.lit (.bool false)], args := [d1, d2, d3] }
  | _ => none }
def ImageMakesWrongFalsely : Prop := imageMakesRow.holds Tryz.pinned (OpenSpec.ofChange imageMakesWrong)

/-- 'bootjacklaw26.SpecTells': WHATEVER THE INPUT: true; the input reads as it did. -/
def specTellsSpec : ChangeSpec := { name := "specTells", fn := fun _ => fun
  | [d1, d2, d3, d4] => { results := [.lit (.bool true)], args := [d1, d2, d3, d4] }
  | _ => none }
def specTellsRow : OpenClaim := { program := "ytnbkagglkajbkaagreat", sum := "5ba8d0b2aff1f573aa0218dba9890d86a007a32b72834915e45c16393866a17d", func := "bootjack/bootjacklaw26.SpecTells", spec := "specTells", inPlace := ["math/bits.Add64", "math/bits.Sub64"], apart := false }
def SpecTellsSaid : Prop := specTellsRow.holds Tryz.pinned (OpenSpec.ofChange specTellsSpec)

/-- ITS FALSE NEIGHBOUR: 'it returns false'. Refute it at one input. -/
def specTellsWrong : ChangeSpec := { name := "specTells", fn := fun _ => fun
  | [d1, d2, d3, d4] => { results := [.lit (.bool false)], args := [d1, d2, d3, d4] }
  | _ => none }
def SpecTellsWrongFalsely : Prop := specTellsRow.holds Tryz.pinned (OpenSpec.ofChange specTellsWrong)

/-- 'bootjacklaw26.SpecTakes': WHATEVER THE INPUT: true; the input reads as it did. -/
def specTakesSpec : ChangeSpec := { name := "specTakes", fn := fun _ => fun
  | [d1, d2, d3, d4, d5] => { results := [.lit (.bool true)], args := [d1, d2, d3, d4, d5] }
  | _ => none }
def specTakesRow : OpenClaim := { program := "ytnbkagglkajbkaagreat", sum := "5ba8d0b2aff1f573aa0218dba9890d86a007a32b72834915e45c16393866a17d", func := "bootjack/bootjacklaw26.SpecTakes", spec := "specTakes", inPlace := ["math/bits.Add64", "math/bits.Sub64"], apart := false }
def SpecTakesSaid : Prop := specTakesRow.holds Tryz.pinned (OpenSpec.ofChange specTakesSpec)

/-- ITS FALSE NEIGHBOUR: 'it returns false'. Refute it at one input. -/
def specTakesWrong : ChangeSpec := { name := "specTakes", fn := fun _ => fun
  | [d1, d2, d3, d4, d5] => { results := [.lit (.bool false)], args := [d1, d2, d3, d4, d5] }
  | _ => none }
def SpecTakesWrongFalsely : Prop := specTakesRow.holds Tryz.pinned (OpenSpec.ofChange specTakesWrong)

/-- 'bootjacklaw26.SpecCuts': WHATEVER THE INPUT: true; the input reads as it did. -/
def specCutsSpec : ChangeSpec := { name := "specCuts", fn := fun _ => fun
  | [d1, d2, d3, d4, d5] => { results := [.lit (.bool true)], args := [d1, d2, d3, d4, d5] }
  | _ => none }
def specCutsRow : OpenClaim := { program := "ytnbkagglkajbkaagreat", sum := "5ba8d0b2aff1f573aa0218dba9890d86a007a32b72834915e45c16393866a17d", func := "bootjack/bootjacklaw26.SpecCuts", spec := "specCuts", inPlace := ["math/bits.Add64", "math/bits.Sub64"], apart := false }
def SpecCutsSaid : Prop := specCutsRow.holds Tryz.pinned (OpenSpec.ofChange specCutsSpec)

/-- ITS FALSE NEIGHBOUR: 'it returns false'. Refute it at one input. -/
def specCutsWrong : ChangeSpec := { name := "specCuts", fn := fun _ => fun
  | [d1, d2, d3, d4, d5] => { results := [.lit (.bool false)], args := [d1, d2, d3, d4, d5] }
  | _ => none }
def SpecCutsWrongFalsely : Prop := specCutsRow.holds Tryz.pinned (OpenSpec.ofChange specCutsWrong)

/-- 'bootjacklaw26.SpecFirst': WHATEVER THE INPUT: true; the input reads as it did. -/
def specFirstSpec : ChangeSpec := { name := "specFirst", fn := fun _ => fun
  | [d1, d2, d3, d4, d5, d6] => { results := [.lit (.bool true)], args := [d1, d2, d3, d4, d5, d6] }
  | _ => none }
def specFirstRow : OpenClaim := { program := "ytnbkagglkajbkaagreat", sum := "5ba8d0b2aff1f573aa0218dba9890d86a007a32b72834915e45c16393866a17d", func := "bootjack/bootjacklaw26.SpecFirst", spec := "specFirst", inPlace := ["math/bits.Add64", "math/bits.Sub64"], apart := false }
def SpecFirstSaid : Prop := specFirstRow.holds Tryz.pinned (OpenSpec.ofChange specFirstSpec)

/-- ITS FALSE NEIGHBOUR: 'it returns false'. Refute it at one input. -/
def specFirstWrong : ChangeSpec := { name := "specFirst", fn := fun _ => fun
  | [d1, d2, d3, d4, d5, d6] => { results := [.lit (.bool false)], args := [d1, d2, d3, d4, d5, d6] }
  | _ => none }
def SpecFirstWrongFalsely : Prop := specFirstRow.holds Tryz.pinned (OpenSpec.ofChange specFirstWrong)

/-- 'bootjacklaw26.SpecRooms': WHATEVER THE INPUT: true; the input reads as it did. -/
def specRoomsSpec : ChangeSpec := { name := "specRooms", fn := fun _ => fun
  | [d1, d2, d3, d4, d5] => { results := [.lit (.bool true)], args := [d1, d2, d3, d4, d5] }
  | _ => none }
def specRoomsRow : OpenClaim := { program := "ytnbkagglkajbkaagreat", sum := "5ba8d0b2aff1f573aa0218dba9890d86a007a32b72834915e45c16393866a17d", func := "bootjack/bootjacklaw26.SpecRooms", spec := "specRooms", inPlace := ["math/bits.Add64", "math/bits.Sub64"], apart := false }
def SpecRoomsSaid : Prop := specRoomsRow.holds Tryz.pinned (OpenSpec.ofChange specRoomsSpec)

/-- ITS FALSE NEIGHBOUR: 'it returns false'. Refute it at one input. -/
def specRoomsWrong : ChangeSpec := { name := "specRooms", fn := fun _ => fun
  | [d1, d2, d3, d4, d5] => { results := [.lit (.bool false)], args := [d1, d2, d3, d4, d5] }
  | _ => none }
def SpecRoomsWrongFalsely : Prop := specRoomsRow.holds Tryz.pinned (OpenSpec.ofChange specRoomsWrong)

/-- 'bootjacklaw29.BootChecks': WHATEVER THE INPUT: true; the input reads as it did. -/
def bootChecksSpec : ChangeSpec := { name := "bootChecks", fn := fun _ => fun
  | [d1, d2, d3, d4, d5, d6, d7] => { results := [.lit (.bool true)], args := [d1, d2, d3, d4, d5, d6, d7] }
  | _ => none }
def bootChecksRow : OpenClaim := { program := "ytnbkagglkajbkaagreat", sum := "5ba8d0b2aff1f573aa0218dba9890d86a007a32b72834915e45c16393866a17d", func := "bootjack/bootjacklaw29.BootChecks", spec := "bootChecks", inPlace := ["math/bits.Add64", "math/bits.Sub64"], unfollowed := true, recurses := true, apart := false }
def BootChecksSaid : Prop := bootChecksRow.holds Tryz.pinned (OpenSpec.ofChange bootChecksSpec)

/-- ITS FALSE NEIGHBOUR: 'it returns false'. Refute it at one input. -/
def bootChecksWrong : ChangeSpec := { name := "bootChecks", fn := fun _ => fun
  | [d1, d2, d3, d4, d5, d6, d7] => { results := [.lit (.bool false)], args := [d1, d2, d3, d4, d5, d6, d7] }
  | _ => none }
def BootChecksWrongFalsely : Prop := bootChecksRow.holds Tryz.pinned (OpenSpec.ofChange bootChecksWrong)

/- THE SECOND FORM. 'bulk': how many values and letters a reading holds, each counted each time it is reached (what is shared counts as often as it is met; a slice's spare places count too). A statement '..UptoSaid' is the law's where the arguments, and the package variables that the reading takes, are together of bulk at most 1048576: NARROWER than '..Said'. Prove '..Said' where nothing that the law and all that it calls make is longer than what came in: it says more and counts as full. Else prove '..UptoSaid'. A law counts once. -/
mutual
def uptoBulk {H : Type} : DataW H → Nat
  | .lit (.string bytes) => bytes.length + 1
  | .lit _ => 1
  | .nil => 1
  | .ptr d => uptoBulk d + 1
  | .slice elems spare => uptoBulkAll elems + uptoBulkAll spare + 1
  | .agg parts => uptoBulkAll parts + 1
  | .iface _ d => uptoBulk d + 1
  | .map entries => uptoBulkEntries entries + 1
  | .held _ => 1
def uptoBulkAll {H : Type} : List (DataW H) → Nat
  | [] => 0
  | d :: r => uptoBulk d + uptoBulkAll r
def uptoBulkEntries {H : Type} : List (Lit × DataW H) → Nat
  | [] => 0
  | x :: r => uptoBulkEntry x + uptoBulkEntries r
def uptoBulkEntry {H : Type} : Lit × DataW H → Nat
  | (.string bytes, d) => bytes.length + uptoBulk d + 1
  | (_, d) => uptoBulk d + 1
 end
def uptoSmall : (H : Type) → List (DataW H) → Bool := fun _ ds => decide (uptoBulkAll ds ≤ 1048576)
def OpenSpec.upto (s : _root_.Go.ChangeSpec) : _root_.Go.OpenSpec := { _root_.Go.OpenSpec.ofChange s with cond := some uptoSmall }

/-- 'bootjacklaw25.ImageMakes', WHERE WHAT IT READS IS OF BULK AT MOST 1048576: true; the input reads as it did. -/
def imageMakesUptoRow : OpenClaim := { program := "ytnbkagglkajbkaagreat", sum := "5ba8d0b2aff1f573aa0218dba9890d86a007a32b72834915e45c16393866a17d", func := "bootjack/bootjacklaw25.ImageMakes", spec := "imageMakes", inPlace := ["math/bits.Add64", "math/bits.Sub64"], apart := false, narrowed := true }
def ImageMakesUptoSaid : Prop := imageMakesUptoRow.holds Tryz.pinned (OpenSpec.upto imageMakesSpec)

/-- 'bootjacklaw26.SpecTells', WHERE WHAT IT READS IS OF BULK AT MOST 1048576: true; the input reads as it did. -/
def specTellsUptoRow : OpenClaim := { program := "ytnbkagglkajbkaagreat", sum := "5ba8d0b2aff1f573aa0218dba9890d86a007a32b72834915e45c16393866a17d", func := "bootjack/bootjacklaw26.SpecTells", spec := "specTells", inPlace := ["math/bits.Add64", "math/bits.Sub64"], apart := false, narrowed := true }
def SpecTellsUptoSaid : Prop := specTellsUptoRow.holds Tryz.pinned (OpenSpec.upto specTellsSpec)

/-- 'bootjacklaw26.SpecTakes', WHERE WHAT IT READS IS OF BULK AT MOST 1048576: true; the input reads as it did. -/
def specTakesUptoRow : OpenClaim := { program := "ytnbkagglkajbkaagreat", sum := "5ba8d0b2aff1f573aa0218dba9890d86a007a32b72834915e45c16393866a17d", func := "bootjack/bootjacklaw26.SpecTakes", spec := "specTakes", inPlace := ["math/bits.Add64", "math/bits.Sub64"], apart := false, narrowed := true }
def SpecTakesUptoSaid : Prop := specTakesUptoRow.holds Tryz.pinned (OpenSpec.upto specTakesSpec)

/-- 'bootjacklaw26.SpecCuts', WHERE WHAT IT READS IS OF BULK AT MOST 1048576: true; the input reads as it did. -/
def specCutsUptoRow : OpenClaim := { program := "ytnbkagglkajbkaagreat", sum := "5ba8d0b2aff1f573aa0218dba9890d86a007a32b72834915e45c16393866a17d", func := "bootjack/bootjacklaw26.SpecCuts", spec := "specCuts", inPlace := ["math/bits.Add64", "math/bits.Sub64"], apart := false, narrowed := true }
def SpecCutsUptoSaid : Prop := specCutsUptoRow.holds Tryz.pinned (OpenSpec.upto specCutsSpec)

/-- 'bootjacklaw26.SpecFirst', WHERE WHAT IT READS IS OF BULK AT MOST 1048576: true; the input reads as it did. -/
def specFirstUptoRow : OpenClaim := { program := "ytnbkagglkajbkaagreat", sum := "5ba8d0b2aff1f573aa0218dba9890d86a007a32b72834915e45c16393866a17d", func := "bootjack/bootjacklaw26.SpecFirst", spec := "specFirst", inPlace := ["math/bits.Add64", "math/bits.Sub64"], apart := false, narrowed := true }
def SpecFirstUptoSaid : Prop := specFirstUptoRow.holds Tryz.pinned (OpenSpec.upto specFirstSpec)

/-- 'bootjacklaw26.SpecRooms', WHERE WHAT IT READS IS OF BULK AT MOST 1048576: true; the input reads as it did. -/
def specRoomsUptoRow : OpenClaim := { program := "ytnbkagglkajbkaagreat", sum := "5ba8d0b2aff1f573aa0218dba9890d86a007a32b72834915e45c16393866a17d", func := "bootjack/bootjacklaw26.SpecRooms", spec := "specRooms", inPlace := ["math/bits.Add64", "math/bits.Sub64"], apart := false, narrowed := true }
def SpecRoomsUptoSaid : Prop := specRoomsUptoRow.holds Tryz.pinned (OpenSpec.upto specRoomsSpec)

/-- 'bootjacklaw29.BootChecks', WHERE WHAT IT READS IS OF BULK AT MOST 1048576: true; the input reads as it did. -/
def bootChecksUptoRow : OpenClaim := { program := "ytnbkagglkajbkaagreat", sum := "5ba8d0b2aff1f573aa0218dba9890d86a007a32b72834915e45c16393866a17d", func := "bootjack/bootjacklaw29.BootChecks", spec := "bootChecks", inPlace := ["math/bits.Add64", "math/bits.Sub64"], unfollowed := true, recurses := true, apart := false, narrowed := true }
def BootChecksUptoSaid : Prop := bootChecksUptoRow.holds Tryz.pinned (OpenSpec.upto bootChecksSpec)

end Rows
end Go.Proofs.YtnbkagglkajbkaaGreat
