/- Arguments of 32 bytes. -/
import Derived.Test.YtndiiabkoeblgaaJna
import Derived.Test.YtndiiabkoeblgaaFmd
namespace Go.Proofs.Ytndiiabkoeblgaa
open Go Go.Ev Go.ChangeShapes Go.WideShapes Go.ChangeAt Go.RowKit
set_option maxRecDepth 100000
theorem okB_of : ∀ {n : Nat} {u : Vec Int n}, (∀ z ∈ u.toList, (Lit.int .u8 z).wf = true) → OkB u
  | 0, _, _ => trivial
  | _ + 1, u, h => ⟨wf_u8 (h u.1 (by simp [Vec.toList])), okB_of fun z hz => h z (by simp [Vec.toList, hz])⟩
theorem cellsB : Try.prog.cellsOf 5 = 1 := by kernel_rfl
theorem cellsB32 : Try.prog.cellsOf 22 = 32 := by kernel_rfl
theorem open_b32 {H : Type} {enc : TypeId × Value → H} {W : World} {base : Nat} {v : Value} {d : DataW H} {p : List MemPlace}
    (hval : Value.okWide Try.prog W .any base 22 v) (h : DataW.Trod enc Try.prog W 0 (fun _ => true) true 22 v d p) :
    ∃ u : B32, v = .agg (u.toList.map (.int .u8)).toArray ∧ OkB u := by
  obtain ⟨u, h1, h2⟩ := open_vec Try.underlying22 Try.underlying5 cellsB cellsB32 hval h
  exact ⟨u, h1, okB_of h2⟩
abbrev blank32 : Value := .agg (Array.replicate 32 (.int .u8 0))
end Go.Proofs.Ytndiiabkoeblgaa
