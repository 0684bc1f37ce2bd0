/- What the laws lean on, part 5: a reader of code, plain facts, and what each function gives; no conditions. -/
import Derived.Test.YthdfifcgobfgdaaA4
section
set_option linter.unusedVariables false
set_option linter.unusedSimpArgs false
namespace Go.Proofs.Ythdfifcgobfgdaa
open Go Go.Ev BJ
set_option maxRecDepth 1000000
abbrev trueP : Ent := Ent.of [] lNil lNil fun _ _ => .leaf none (.one (.sc (.bool (.lit true)))) []
noncomputable abbrev psTab (eq : Pt → Pt → Bool) (de : List Int → Pt × Bool) (b0 z : Pt) (dbl : Pt → Pt) (pl : Pt → Pt → Pt) (neg : Pt → Pt) (en : Pt → List Int) : List (FuncId × Ent) :=
  [(12, e2QB eq), (11, eDe de), (37, e0Q b0), (13, e0Q z), (14, e1Q dbl), (20, e2Q pl), (15, e1Q neg), (38, eEn en)]
noncomputable abbrev psTab' (eq : Pt → Pt → Bool) (de : List Int → Pt × Bool) (b0 z : Pt) (dbl : Pt → Pt) (pl : Pt → Pt → Pt) (neg : Pt → Pt) (en : Pt → List Int) : List (FuncId × Ent) :=
  (10, trueP) :: psTab eq de b0 z dbl pl neg en
theorem palive_tree (eq : Pt → Pt → Bool) (de : List Int → Pt × Bool) (b0 z : Pt) (dbl : Pt → Pt) (pl : Pt → Pt → Pt) (neg : Pt → Pt) (en : Pt → List Int) : fnT Try.prog (psTab eq de b0 z dbl pl neg en) [] Try.f10 [] [] [.auto] =
    End.ite (((en b0).getD (0 : Nat) (0 : Int) == (88 : Int)) == true)
      (End.ite (((en b0).getD (1 : Nat) (0 : Int) == (102 : Int)) == true)
        (End.ite (((en b0).getD (31 : Nat) (0 : Int) == (102 : Int)) == true)
          (End.leaf (LV.one (VV.sc (SV.bool (SB.sym (eq (pl z b0) b0))))) [])
          (End.leaf (LV.one (VV.sc (SV.bool (SB.lit false)))) []))
        (End.leaf (LV.one (VV.sc (SV.bool (SB.lit false)))) []))
      (End.leaf (LV.one (VV.sc (SV.bool (SB.lit false)))) []) := by kernel_rfl
abbrev litA (n : Int) : List LV := [.one (.sc (.int .i64 (.lit n)))]
theorem ps0_tree (eq : Pt → Pt → Bool) (de : List Int → Pt × Bool) (b0 z : Pt) (dbl : Pt → Pt) (pl : Pt → Pt → Pt) (neg : Pt → Pt) (en : Pt → List Int) : fnT Try.prog (psTab' eq de b0 z dbl pl neg en) [] Try.f3 (litA 0) [] [.auto] =
    End.need ((32 : Nat) = (32 : Nat))
      (End.need ((0 : Int) ≤ (0 : Int) ∧ (0 : Int) < (4 : Int))
        (End.ite
          (!eq
                (de
                    [(1 : Int), (0 : Int), (0 : Int), (0 : Int), (0 : Int), (0 : Int), (0 : Int), (0 : Int), (0 : Int),
                      (0 : Int), (0 : Int), (0 : Int), (0 : Int), (0 : Int), (0 : Int), (0 : Int), (0 : Int), (0 : Int),
                      (0 : Int), (0 : Int), (0 : Int), (0 : Int), (0 : Int), (0 : Int), (0 : Int), (0 : Int), (0 : Int),
                      (0 : Int), (0 : Int), (0 : Int), (0 : Int), (0 : Int)]).fst
                z ==
              decide ((0 : Int) ≤ (0 : Int)))
          (End.leaf (LV.one (VV.sc (SV.bool (SB.lit false)))) [])
          (End.ite
            (!eq
                  (dbl
                    (de
                        [(1 : Int), (0 : Int), (0 : Int), (0 : Int), (0 : Int), (0 : Int), (0 : Int), (0 : Int), (0 : Int),
                          (0 : Int), (0 : Int), (0 : Int), (0 : Int), (0 : Int), (0 : Int), (0 : Int), (0 : Int), (0 : Int),
                          (0 : Int), (0 : Int), (0 : Int), (0 : Int), (0 : Int), (0 : Int), (0 : Int), (0 : Int), (0 : Int),
                          (0 : Int), (0 : Int), (0 : Int), (0 : Int), (0 : Int)]).fst)
                  z ==
                decide ((0 : Int) ≤ (1 : Int)))
            (End.leaf (LV.one (VV.sc (SV.bool (SB.lit false)))) [])
            (End.ite
              (!eq
                    (dbl
                      (dbl
                        (de
                            [(1 : Int), (0 : Int), (0 : Int), (0 : Int), (0 : Int), (0 : Int), (0 : Int), (0 : Int),
                              (0 : Int), (0 : Int), (0 : Int), (0 : Int), (0 : Int), (0 : Int), (0 : Int), (0 : Int),
                              (0 : Int), (0 : Int), (0 : Int), (0 : Int), (0 : Int), (0 : Int), (0 : Int), (0 : Int),
                              (0 : Int), (0 : Int), (0 : Int), (0 : Int), (0 : Int), (0 : Int), (0 : Int), (0 : Int)]).fst))
                    z ==
                  decide ((0 : Int) ≤ (2 : Int)))
              (End.leaf (LV.one (VV.sc (SV.bool (SB.lit false)))) [])
              (End.need ((32 : Nat) = (32 : Nat))
                (End.ite
                  ((de
                        [(1 : Int), (0 : Int), (0 : Int), (0 : Int), (0 : Int), (0 : Int), (0 : Int), (0 : Int), (0 : Int),
                          (0 : Int), (0 : Int), (0 : Int), (0 : Int), (0 : Int), (0 : Int), (0 : Int), (0 : Int), (0 : Int),
                          (0 : Int), (0 : Int), (0 : Int), (0 : Int), (0 : Int), (0 : Int), (0 : Int), (0 : Int), (0 : Int),
                          (0 : Int), (0 : Int), (0 : Int), (0 : Int), (0 : Int)]).snd ==
                    true)
                  (End.ite
                    ((!(de
                            [(1 : Int), (0 : Int), (0 : Int), (0 : Int), (0 : Int), (0 : Int), (0 : Int), (0 : Int),
                              (0 : Int), (0 : Int), (0 : Int), (0 : Int), (0 : Int), (0 : Int), (0 : Int), (0 : Int),
                              (0 : Int), (0 : Int), (0 : Int), (0 : Int), (0 : Int), (0 : Int), (0 : Int), (0 : Int),
                              (0 : Int), (0 : Int), (0 : Int), (0 : Int), (0 : Int), (0 : Int), (0 : Int),
                              (128 : Int)]).snd) ==
                      true)
                    (End.leaf
                      (LV.one
                        (VV.sc
                          (SV.bool
                            (SB.sym
                              (eq
                                (de
                                    [(1 : Int), (0 : Int), (0 : Int), (0 : Int), (0 : Int), (0 : Int), (0 : Int), (0 : Int),
                                      (0 : Int), (0 : Int), (0 : Int), (0 : Int), (0 : Int), (0 : Int), (0 : Int),
                                      (0 : Int), (0 : Int), (0 : Int), (0 : Int), (0 : Int), (0 : Int), (0 : Int),
                                      (0 : Int), (0 : Int), (0 : Int), (0 : Int), (0 : Int), (0 : Int), (0 : Int),
                                      (0 : Int), (0 : Int), (0 : Int)]).fst
                                (neg
                                  (de
                                      [(1 : Int), (0 : Int), (0 : Int), (0 : Int), (0 : Int), (0 : Int), (0 : Int),
                                        (0 : Int), (0 : Int), (0 : Int), (0 : Int), (0 : Int), (0 : Int), (0 : Int),
                                        (0 : Int), (0 : Int), (0 : Int), (0 : Int), (0 : Int), (0 : Int), (0 : Int),
                                        (0 : Int), (0 : Int), (0 : Int), (0 : Int), (0 : Int), (0 : Int), (0 : Int),
                                        (0 : Int), (0 : Int), (0 : Int), (0 : Int)]).fst))))))
                      [])
                    (End.leaf (LV.one (VV.sc (SV.bool (SB.lit false)))) []))
                  (End.leaf (LV.one (VV.sc (SV.bool (SB.lit false)))) []))))))) := by kernel_rfl
theorem ps1_tree (eq : Pt → Pt → Bool) (de : List Int → Pt × Bool) (b0 z : Pt) (dbl : Pt → Pt) (pl : Pt → Pt → Pt) (neg : Pt → Pt) (en : Pt → List Int) : fnT Try.prog (psTab' eq de b0 z dbl pl neg en) [] Try.f3 (litA 1) [] [.auto] =
    End.need ((32 : Nat) = (32 : Nat))
      (End.need ((0 : Int) ≤ (1 : Int) ∧ (1 : Int) < (4 : Int))
        (End.ite
          (!eq
                (de
                    [(236 : Int), (255 : Int), (255 : Int), (255 : Int), (255 : Int), (255 : Int), (255 : Int), (255 : Int),
                      (255 : Int), (255 : Int), (255 : Int), (255 : Int), (255 : Int), (255 : Int), (255 : Int),
                      (255 : Int), (255 : Int), (255 : Int), (255 : Int), (255 : Int), (255 : Int), (255 : Int),
                      (255 : Int), (255 : Int), (255 : Int), (255 : Int), (255 : Int), (255 : Int), (255 : Int),
                      (255 : Int), (255 : Int), (127 : Int)]).fst
                z ==
              decide ((1 : Int) ≤ (0 : Int)))
          (End.leaf (LV.one (VV.sc (SV.bool (SB.lit false)))) [])
          (End.ite
            (!eq
                  (dbl
                    (de
                        [(236 : Int), (255 : Int), (255 : Int), (255 : Int), (255 : Int), (255 : Int), (255 : Int),
                          (255 : Int), (255 : Int), (255 : Int), (255 : Int), (255 : Int), (255 : Int), (255 : Int),
                          (255 : Int), (255 : Int), (255 : Int), (255 : Int), (255 : Int), (255 : Int), (255 : Int),
                          (255 : Int), (255 : Int), (255 : Int), (255 : Int), (255 : Int), (255 : Int), (255 : Int),
                          (255 : Int), (255 : Int), (255 : Int), (127 : Int)]).fst)
                  z ==
                decide ((1 : Int) ≤ (1 : Int)))
            (End.leaf (LV.one (VV.sc (SV.bool (SB.lit false)))) [])
            (End.ite
              (!eq
                    (dbl
                      (dbl
                        (de
                            [(236 : Int), (255 : Int), (255 : Int), (255 : Int), (255 : Int), (255 : Int), (255 : Int),
                              (255 : Int), (255 : Int), (255 : Int), (255 : Int), (255 : Int), (255 : Int), (255 : Int),
                              (255 : Int), (255 : Int), (255 : Int), (255 : Int), (255 : Int), (255 : Int), (255 : Int),
                              (255 : Int), (255 : Int), (255 : Int), (255 : Int), (255 : Int), (255 : Int), (255 : Int),
                              (255 : Int), (255 : Int), (255 : Int), (127 : Int)]).fst))
                    z ==
                  decide ((1 : Int) ≤ (2 : Int)))
              (End.leaf (LV.one (VV.sc (SV.bool (SB.lit false)))) [])
              (End.need ((32 : Nat) = (32 : Nat))
                (End.ite
                  ((de
                        [(236 : Int), (255 : Int), (255 : Int), (255 : Int), (255 : Int), (255 : Int), (255 : Int),
                          (255 : Int), (255 : Int), (255 : Int), (255 : Int), (255 : Int), (255 : Int), (255 : Int),
                          (255 : Int), (255 : Int), (255 : Int), (255 : Int), (255 : Int), (255 : Int), (255 : Int),
                          (255 : Int), (255 : Int), (255 : Int), (255 : Int), (255 : Int), (255 : Int), (255 : Int),
                          (255 : Int), (255 : Int), (255 : Int), (127 : Int)]).snd ==
                    true)
                  (End.ite
                    ((!(de
                            [(236 : Int), (255 : Int), (255 : Int), (255 : Int), (255 : Int), (255 : Int), (255 : Int),
                              (255 : Int), (255 : Int), (255 : Int), (255 : Int), (255 : Int), (255 : Int), (255 : Int),
                              (255 : Int), (255 : Int), (255 : Int), (255 : Int), (255 : Int), (255 : Int), (255 : Int),
                              (255 : Int), (255 : Int), (255 : Int), (255 : Int), (255 : Int), (255 : Int), (255 : Int),
                              (255 : Int), (255 : Int), (255 : Int), (255 : Int)]).snd) ==
                      true)
                    (End.leaf
                      (LV.one
                        (VV.sc
                          (SV.bool
                            (SB.sym
                              (eq
                                (de
                                    [(236 : Int), (255 : Int), (255 : Int), (255 : Int), (255 : Int), (255 : Int),
                                      (255 : Int), (255 : Int), (255 : Int), (255 : Int), (255 : Int), (255 : Int),
                                      (255 : Int), (255 : Int), (255 : Int), (255 : Int), (255 : Int), (255 : Int),
                                      (255 : Int), (255 : Int), (255 : Int), (255 : Int), (255 : Int), (255 : Int),
                                      (255 : Int), (255 : Int), (255 : Int), (255 : Int), (255 : Int), (255 : Int),
                                      (255 : Int), (127 : Int)]).fst
                                (neg
                                  (de
                                      [(236 : Int), (255 : Int), (255 : Int), (255 : Int), (255 : Int), (255 : Int),
                                        (255 : Int), (255 : Int), (255 : Int), (255 : Int), (255 : Int), (255 : Int),
                                        (255 : Int), (255 : Int), (255 : Int), (255 : Int), (255 : Int), (255 : Int),
                                        (255 : Int), (255 : Int), (255 : Int), (255 : Int), (255 : Int), (255 : Int),
                                        (255 : Int), (255 : Int), (255 : Int), (255 : Int), (255 : Int), (255 : Int),
                                        (255 : Int), (127 : Int)]).fst))))))
                      [])
                    (End.leaf (LV.one (VV.sc (SV.bool (SB.lit false)))) []))
                  (End.leaf (LV.one (VV.sc (SV.bool (SB.lit false)))) []))))))) := by kernel_rfl
theorem ps2_tree (eq : Pt → Pt → Bool) (de : List Int → Pt × Bool) (b0 z : Pt) (dbl : Pt → Pt) (pl : Pt → Pt → Pt) (neg : Pt → Pt) (en : Pt → List Int) : fnT Try.prog (psTab' eq de b0 z dbl pl neg en) [] Try.f3 (litA 2) [] [.auto] =
    End.need ((32 : Nat) = (32 : Nat))
      (End.need ((0 : Int) ≤ (2 : Int) ∧ (2 : Int) < (4 : Int))
        (End.ite
          (!eq
                (de
                    [(0 : Int), (0 : Int), (0 : Int), (0 : Int), (0 : Int), (0 : Int), (0 : Int), (0 : Int), (0 : Int),
                      (0 : Int), (0 : Int), (0 : Int), (0 : Int), (0 : Int), (0 : Int), (0 : Int), (0 : Int), (0 : Int),
                      (0 : Int), (0 : Int), (0 : Int), (0 : Int), (0 : Int), (0 : Int), (0 : Int), (0 : Int), (0 : Int),
                      (0 : Int), (0 : Int), (0 : Int), (0 : Int), (0 : Int)]).fst
                z ==
              decide ((2 : Int) ≤ (0 : Int)))
          (End.leaf (LV.one (VV.sc (SV.bool (SB.lit false)))) [])
          (End.ite
            (!eq
                  (dbl
                    (de
                        [(0 : Int), (0 : Int), (0 : Int), (0 : Int), (0 : Int), (0 : Int), (0 : Int), (0 : Int), (0 : Int),
                          (0 : Int), (0 : Int), (0 : Int), (0 : Int), (0 : Int), (0 : Int), (0 : Int), (0 : Int), (0 : Int),
                          (0 : Int), (0 : Int), (0 : Int), (0 : Int), (0 : Int), (0 : Int), (0 : Int), (0 : Int), (0 : Int),
                          (0 : Int), (0 : Int), (0 : Int), (0 : Int), (0 : Int)]).fst)
                  z ==
                decide ((2 : Int) ≤ (1 : Int)))
            (End.leaf (LV.one (VV.sc (SV.bool (SB.lit false)))) [])
            (End.ite
              (!eq
                    (dbl
                      (dbl
                        (de
                            [(0 : Int), (0 : Int), (0 : Int), (0 : Int), (0 : Int), (0 : Int), (0 : Int), (0 : Int),
                              (0 : Int), (0 : Int), (0 : Int), (0 : Int), (0 : Int), (0 : Int), (0 : Int), (0 : Int),
                              (0 : Int), (0 : Int), (0 : Int), (0 : Int), (0 : Int), (0 : Int), (0 : Int), (0 : Int),
                              (0 : Int), (0 : Int), (0 : Int), (0 : Int), (0 : Int), (0 : Int), (0 : Int), (0 : Int)]).fst))
                    z ==
                  decide ((2 : Int) ≤ (2 : Int)))
              (End.leaf (LV.one (VV.sc (SV.bool (SB.lit false)))) [])
              (End.need ((32 : Nat) = (32 : Nat))
                (End.ite
                  ((de
                        [(0 : Int), (0 : Int), (0 : Int), (0 : Int), (0 : Int), (0 : Int), (0 : Int), (0 : Int), (0 : Int),
                          (0 : Int), (0 : Int), (0 : Int), (0 : Int), (0 : Int), (0 : Int), (0 : Int), (0 : Int), (0 : Int),
                          (0 : Int), (0 : Int), (0 : Int), (0 : Int), (0 : Int), (0 : Int), (0 : Int), (0 : Int), (0 : Int),
                          (0 : Int), (0 : Int), (0 : Int), (0 : Int), (0 : Int)]).snd ==
                    true)
                  (End.ite
                    ((de
                          [(0 : Int), (0 : Int), (0 : Int), (0 : Int), (0 : Int), (0 : Int), (0 : Int), (0 : Int),
                            (0 : Int), (0 : Int), (0 : Int), (0 : Int), (0 : Int), (0 : Int), (0 : Int), (0 : Int),
                            (0 : Int), (0 : Int), (0 : Int), (0 : Int), (0 : Int), (0 : Int), (0 : Int), (0 : Int),
                            (0 : Int), (0 : Int), (0 : Int), (0 : Int), (0 : Int), (0 : Int), (0 : Int),
                            (128 : Int)]).snd ==
                      true)
                    (End.ite
                      (eq
                          (de
                              [(0 : Int), (0 : Int), (0 : Int), (0 : Int), (0 : Int), (0 : Int), (0 : Int), (0 : Int),
                                (0 : Int), (0 : Int), (0 : Int), (0 : Int), (0 : Int), (0 : Int), (0 : Int), (0 : Int),
                                (0 : Int), (0 : Int), (0 : Int), (0 : Int), (0 : Int), (0 : Int), (0 : Int), (0 : Int),
                                (0 : Int), (0 : Int), (0 : Int), (0 : Int), (0 : Int), (0 : Int), (0 : Int),
                                (128 : Int)]).fst
                          (neg
                            (de
                                [(0 : Int), (0 : Int), (0 : Int), (0 : Int), (0 : Int), (0 : Int), (0 : Int), (0 : Int),
                                  (0 : Int), (0 : Int), (0 : Int), (0 : Int), (0 : Int), (0 : Int), (0 : Int), (0 : Int),
                                  (0 : Int), (0 : Int), (0 : Int), (0 : Int), (0 : Int), (0 : Int), (0 : Int), (0 : Int),
                                  (0 : Int), (0 : Int), (0 : Int), (0 : Int), (0 : Int), (0 : Int), (0 : Int),
                                  (0 : Int)]).fst) ==
                        true)
                      (End.leaf
                        (LV.one
                          (VV.sc
                            (SV.bool
                              (SB.sym
                                !eq
                                    (de
                                        [(0 : Int), (0 : Int), (0 : Int), (0 : Int), (0 : Int), (0 : Int), (0 : Int),
                                          (0 : Int), (0 : Int), (0 : Int), (0 : Int), (0 : Int), (0 : Int), (0 : Int),
                                          (0 : Int), (0 : Int), (0 : Int), (0 : Int), (0 : Int), (0 : Int), (0 : Int),
                                          (0 : Int), (0 : Int), (0 : Int), (0 : Int), (0 : Int), (0 : Int), (0 : Int),
                                          (0 : Int), (0 : Int), (0 : Int), (128 : Int)]).fst
                                    (de
                                        [(0 : Int), (0 : Int), (0 : Int), (0 : Int), (0 : Int), (0 : Int), (0 : Int),
                                          (0 : Int), (0 : Int), (0 : Int), (0 : Int), (0 : Int), (0 : Int), (0 : Int),
                                          (0 : Int), (0 : Int), (0 : Int), (0 : Int), (0 : Int), (0 : Int), (0 : Int),
                                          (0 : Int), (0 : Int), (0 : Int), (0 : Int), (0 : Int), (0 : Int), (0 : Int),
                                          (0 : Int), (0 : Int), (0 : Int), (0 : Int)]).fst))))
                        [])
                      (End.leaf (LV.one (VV.sc (SV.bool (SB.lit false)))) []))
                    (End.leaf (LV.one (VV.sc (SV.bool (SB.lit false)))) []))
                  (End.leaf (LV.one (VV.sc (SV.bool (SB.lit false)))) []))))))) := by kernel_rfl
theorem ps3_tree (eq : Pt → Pt → Bool) (de : List Int → Pt × Bool) (b0 z : Pt) (dbl : Pt → Pt) (pl : Pt → Pt → Pt) (neg : Pt → Pt) (en : Pt → List Int) : fnT Try.prog (psTab' eq de b0 z dbl pl neg en) [] Try.f3 (litA 3) [] [.auto] =
    End.need ((32 : Nat) = (32 : Nat))
      (End.need ((0 : Int) ≤ (3 : Int) ∧ (3 : Int) < (4 : Int))
        (End.ite
          (!eq
                (de
                    [(0 : Int), (0 : Int), (0 : Int), (0 : Int), (0 : Int), (0 : Int), (0 : Int), (0 : Int), (0 : Int),
                      (0 : Int), (0 : Int), (0 : Int), (0 : Int), (0 : Int), (0 : Int), (0 : Int), (0 : Int), (0 : Int),
                      (0 : Int), (0 : Int), (0 : Int), (0 : Int), (0 : Int), (0 : Int), (0 : Int), (0 : Int), (0 : Int),
                      (0 : Int), (0 : Int), (0 : Int), (0 : Int), (128 : Int)]).fst
                z ==
              decide ((2 : Int) ≤ (0 : Int)))
          (End.leaf (LV.one (VV.sc (SV.bool (SB.lit false)))) [])
          (End.ite
            (!eq
                  (dbl
                    (de
                        [(0 : Int), (0 : Int), (0 : Int), (0 : Int), (0 : Int), (0 : Int), (0 : Int), (0 : Int), (0 : Int),
                          (0 : Int), (0 : Int), (0 : Int), (0 : Int), (0 : Int), (0 : Int), (0 : Int), (0 : Int), (0 : Int),
                          (0 : Int), (0 : Int), (0 : Int), (0 : Int), (0 : Int), (0 : Int), (0 : Int), (0 : Int), (0 : Int),
                          (0 : Int), (0 : Int), (0 : Int), (0 : Int), (128 : Int)]).fst)
                  z ==
                decide ((2 : Int) ≤ (1 : Int)))
            (End.leaf (LV.one (VV.sc (SV.bool (SB.lit false)))) [])
            (End.ite
              (!eq
                    (dbl
                      (dbl
                        (de
                            [(0 : Int), (0 : Int), (0 : Int), (0 : Int), (0 : Int), (0 : Int), (0 : Int), (0 : Int),
                              (0 : Int), (0 : Int), (0 : Int), (0 : Int), (0 : Int), (0 : Int), (0 : Int), (0 : Int),
                              (0 : Int), (0 : Int), (0 : Int), (0 : Int), (0 : Int), (0 : Int), (0 : Int), (0 : Int),
                              (0 : Int), (0 : Int), (0 : Int), (0 : Int), (0 : Int), (0 : Int), (0 : Int),
                              (128 : Int)]).fst))
                    z ==
                  decide ((2 : Int) ≤ (2 : Int)))
              (End.leaf (LV.one (VV.sc (SV.bool (SB.lit false)))) [])
              (End.need ((32 : Nat) = (32 : Nat))
                (End.ite
                  ((de
                        [(0 : Int), (0 : Int), (0 : Int), (0 : Int), (0 : Int), (0 : Int), (0 : Int), (0 : Int), (0 : Int),
                          (0 : Int), (0 : Int), (0 : Int), (0 : Int), (0 : Int), (0 : Int), (0 : Int), (0 : Int), (0 : Int),
                          (0 : Int), (0 : Int), (0 : Int), (0 : Int), (0 : Int), (0 : Int), (0 : Int), (0 : Int), (0 : Int),
                          (0 : Int), (0 : Int), (0 : Int), (0 : Int), (128 : Int)]).snd ==
                    true)
                  (End.ite
                    ((de
                          [(0 : Int), (0 : Int), (0 : Int), (0 : Int), (0 : Int), (0 : Int), (0 : Int), (0 : Int),
                            (0 : Int), (0 : Int), (0 : Int), (0 : Int), (0 : Int), (0 : Int), (0 : Int), (0 : Int),
                            (0 : Int), (0 : Int), (0 : Int), (0 : Int), (0 : Int), (0 : Int), (0 : Int), (0 : Int),
                            (0 : Int), (0 : Int), (0 : Int), (0 : Int), (0 : Int), (0 : Int), (0 : Int), (0 : Int)]).snd ==
                      true)
                    (End.ite
                      (eq
                          (de
                              [(0 : Int), (0 : Int), (0 : Int), (0 : Int), (0 : Int), (0 : Int), (0 : Int), (0 : Int),
                                (0 : Int), (0 : Int), (0 : Int), (0 : Int), (0 : Int), (0 : Int), (0 : Int), (0 : Int),
                                (0 : Int), (0 : Int), (0 : Int), (0 : Int), (0 : Int), (0 : Int), (0 : Int), (0 : Int),
                                (0 : Int), (0 : Int), (0 : Int), (0 : Int), (0 : Int), (0 : Int), (0 : Int), (0 : Int)]).fst
                          (neg
                            (de
                                [(0 : Int), (0 : Int), (0 : Int), (0 : Int), (0 : Int), (0 : Int), (0 : Int), (0 : Int),
                                  (0 : Int), (0 : Int), (0 : Int), (0 : Int), (0 : Int), (0 : Int), (0 : Int), (0 : Int),
                                  (0 : Int), (0 : Int), (0 : Int), (0 : Int), (0 : Int), (0 : Int), (0 : Int), (0 : Int),
                                  (0 : Int), (0 : Int), (0 : Int), (0 : Int), (0 : Int), (0 : Int), (0 : Int),
                                  (128 : Int)]).fst) ==
                        true)
                      (End.leaf
                        (LV.one
                          (VV.sc
                            (SV.bool
                              (SB.sym
                                !eq
                                    (de
                                        [(0 : Int), (0 : Int), (0 : Int), (0 : Int), (0 : Int), (0 : Int), (0 : Int),
                                          (0 : Int), (0 : Int), (0 : Int), (0 : Int), (0 : Int), (0 : Int), (0 : Int),
                                          (0 : Int), (0 : Int), (0 : Int), (0 : Int), (0 : Int), (0 : Int), (0 : Int),
                                          (0 : Int), (0 : Int), (0 : Int), (0 : Int), (0 : Int), (0 : Int), (0 : Int),
                                          (0 : Int), (0 : Int), (0 : Int), (0 : Int)]).fst
                                    (de
                                        [(0 : Int), (0 : Int), (0 : Int), (0 : Int), (0 : Int), (0 : Int), (0 : Int),
                                          (0 : Int), (0 : Int), (0 : Int), (0 : Int), (0 : Int), (0 : Int), (0 : Int),
                                          (0 : Int), (0 : Int), (0 : Int), (0 : Int), (0 : Int), (0 : Int), (0 : Int),
                                          (0 : Int), (0 : Int), (0 : Int), (0 : Int), (0 : Int), (0 : Int), (0 : Int),
                                          (0 : Int), (0 : Int), (0 : Int), (128 : Int)]).fst))))
                        [])
                      (End.leaf (LV.one (VV.sc (SV.bool (SB.lit false)))) []))
                    (End.leaf (LV.one (VV.sc (SV.bool (SB.lit false)))) []))
                  (End.leaf (LV.one (VV.sc (SV.bool (SB.lit false)))) []))))))) := by kernel_rfl
abbrev iP : Cod (List LV) (Int × Unit) := lCons (vOne (sInt .i64)) lNil
theorem psS_tree (eq : Pt → Pt → Bool) (de : List Int → Pt × Bool) (b0 z : Pt) (dbl : Pt → Pt) (pl : Pt → Pt → Pt) (neg : Pt → Pt) (en : Pt → List Int) (w : Int) : fnT Try.prog (psTab' eq de b0 z dbl pl neg en) [] Try.f3 (iP.wr (w, ())) [] [.auto] =
    End.ite (decide (w < (0 : Int)) == false)
      (End.ite (decide ((3 : Int) < w)) (End.leaf (LV.one (VV.sc (SV.bool (SB.lit true)))) [])
        (End.need ((0 : Int) ≤ w ∧ w < (4 : Int))
          (End.need ((32 : Nat) = (32 : Nat))
            (End.need ((0 : Int) ≤ w ∧ w < (4 : Int))
              (End.ite
                (!eq
                      (de
                          [[(1 : Int), (236 : Int), (0 : Int), (0 : Int)].getD w.toNat (0 : Int),
                            [(0 : Int), (255 : Int), (0 : Int), (0 : Int)].getD w.toNat (0 : Int),
                            [(0 : Int), (255 : Int), (0 : Int), (0 : Int)].getD w.toNat (0 : Int),
                            [(0 : Int), (255 : Int), (0 : Int), (0 : Int)].getD w.toNat (0 : Int),
                            [(0 : Int), (255 : Int), (0 : Int), (0 : Int)].getD w.toNat (0 : Int),
                            [(0 : Int), (255 : Int), (0 : Int), (0 : Int)].getD w.toNat (0 : Int),
                            [(0 : Int), (255 : Int), (0 : Int), (0 : Int)].getD w.toNat (0 : Int),
                            [(0 : Int), (255 : Int), (0 : Int), (0 : Int)].getD w.toNat (0 : Int),
                            [(0 : Int), (255 : Int), (0 : Int), (0 : Int)].getD w.toNat (0 : Int),
                            [(0 : Int), (255 : Int), (0 : Int), (0 : Int)].getD w.toNat (0 : Int),
                            [(0 : Int), (255 : Int), (0 : Int), (0 : Int)].getD w.toNat (0 : Int),
                            [(0 : Int), (255 : Int), (0 : Int), (0 : Int)].getD w.toNat (0 : Int),
                            [(0 : Int), (255 : Int), (0 : Int), (0 : Int)].getD w.toNat (0 : Int),
                            [(0 : Int), (255 : Int), (0 : Int), (0 : Int)].getD w.toNat (0 : Int),
                            [(0 : Int), (255 : Int), (0 : Int), (0 : Int)].getD w.toNat (0 : Int),
                            [(0 : Int), (255 : Int), (0 : Int), (0 : Int)].getD w.toNat (0 : Int),
                            [(0 : Int), (255 : Int), (0 : Int), (0 : Int)].getD w.toNat (0 : Int),
                            [(0 : Int), (255 : Int), (0 : Int), (0 : Int)].getD w.toNat (0 : Int),
                            [(0 : Int), (255 : Int), (0 : Int), (0 : Int)].getD w.toNat (0 : Int),
                            [(0 : Int), (255 : Int), (0 : Int), (0 : Int)].getD w.toNat (0 : Int),
                            [(0 : Int), (255 : Int), (0 : Int), (0 : Int)].getD w.toNat (0 : Int),
                            [(0 : Int), (255 : Int), (0 : Int), (0 : Int)].getD w.toNat (0 : Int),
                            [(0 : Int), (255 : Int), (0 : Int), (0 : Int)].getD w.toNat (0 : Int),
                            [(0 : Int), (255 : Int), (0 : Int), (0 : Int)].getD w.toNat (0 : Int),
                            [(0 : Int), (255 : Int), (0 : Int), (0 : Int)].getD w.toNat (0 : Int),
                            [(0 : Int), (255 : Int), (0 : Int), (0 : Int)].getD w.toNat (0 : Int),
                            [(0 : Int), (255 : Int), (0 : Int), (0 : Int)].getD w.toNat (0 : Int),
                            [(0 : Int), (255 : Int), (0 : Int), (0 : Int)].getD w.toNat (0 : Int),
                            [(0 : Int), (255 : Int), (0 : Int), (0 : Int)].getD w.toNat (0 : Int),
                            [(0 : Int), (255 : Int), (0 : Int), (0 : Int)].getD w.toNat (0 : Int),
                            [(0 : Int), (255 : Int), (0 : Int), (0 : Int)].getD w.toNat (0 : Int),
                            [(0 : Int), (127 : Int), (0 : Int), (128 : Int)].getD w.toNat (0 : Int)]).fst
                      z ==
                    decide ([(0 : Int), (1 : Int), (2 : Int), (2 : Int)].getD w.toNat (0 : Int) ≤ (0 : Int)))
                (End.leaf (LV.one (VV.sc (SV.bool (SB.lit false)))) [])
                (End.ite
                  (!eq
                        (dbl
                          (de
                              [[(1 : Int), (236 : Int), (0 : Int), (0 : Int)].getD w.toNat (0 : Int),
                                [(0 : Int), (255 : Int), (0 : Int), (0 : Int)].getD w.toNat (0 : Int),
                                [(0 : Int), (255 : Int), (0 : Int), (0 : Int)].getD w.toNat (0 : Int),
                                [(0 : Int), (255 : Int), (0 : Int), (0 : Int)].getD w.toNat (0 : Int),
                                [(0 : Int), (255 : Int), (0 : Int), (0 : Int)].getD w.toNat (0 : Int),
                                [(0 : Int), (255 : Int), (0 : Int), (0 : Int)].getD w.toNat (0 : Int),
                                [(0 : Int), (255 : Int), (0 : Int), (0 : Int)].getD w.toNat (0 : Int),
                                [(0 : Int), (255 : Int), (0 : Int), (0 : Int)].getD w.toNat (0 : Int),
                                [(0 : Int), (255 : Int), (0 : Int), (0 : Int)].getD w.toNat (0 : Int),
                                [(0 : Int), (255 : Int), (0 : Int), (0 : Int)].getD w.toNat (0 : Int),
                                [(0 : Int), (255 : Int), (0 : Int), (0 : Int)].getD w.toNat (0 : Int),
                                [(0 : Int), (255 : Int), (0 : Int), (0 : Int)].getD w.toNat (0 : Int),
                                [(0 : Int), (255 : Int), (0 : Int), (0 : Int)].getD w.toNat (0 : Int),
                                [(0 : Int), (255 : Int), (0 : Int), (0 : Int)].getD w.toNat (0 : Int),
                                [(0 : Int), (255 : Int), (0 : Int), (0 : Int)].getD w.toNat (0 : Int),
                                [(0 : Int), (255 : Int), (0 : Int), (0 : Int)].getD w.toNat (0 : Int),
                                [(0 : Int), (255 : Int), (0 : Int), (0 : Int)].getD w.toNat (0 : Int),
                                [(0 : Int), (255 : Int), (0 : Int), (0 : Int)].getD w.toNat (0 : Int),
                                [(0 : Int), (255 : Int), (0 : Int), (0 : Int)].getD w.toNat (0 : Int),
                                [(0 : Int), (255 : Int), (0 : Int), (0 : Int)].getD w.toNat (0 : Int),
                                [(0 : Int), (255 : Int), (0 : Int), (0 : Int)].getD w.toNat (0 : Int),
                                [(0 : Int), (255 : Int), (0 : Int), (0 : Int)].getD w.toNat (0 : Int),
                                [(0 : Int), (255 : Int), (0 : Int), (0 : Int)].getD w.toNat (0 : Int),
                                [(0 : Int), (255 : Int), (0 : Int), (0 : Int)].getD w.toNat (0 : Int),
                                [(0 : Int), (255 : Int), (0 : Int), (0 : Int)].getD w.toNat (0 : Int),
                                [(0 : Int), (255 : Int), (0 : Int), (0 : Int)].getD w.toNat (0 : Int),
                                [(0 : Int), (255 : Int), (0 : Int), (0 : Int)].getD w.toNat (0 : Int),
                                [(0 : Int), (255 : Int), (0 : Int), (0 : Int)].getD w.toNat (0 : Int),
                                [(0 : Int), (255 : Int), (0 : Int), (0 : Int)].getD w.toNat (0 : Int),
                                [(0 : Int), (255 : Int), (0 : Int), (0 : Int)].getD w.toNat (0 : Int),
                                [(0 : Int), (255 : Int), (0 : Int), (0 : Int)].getD w.toNat (0 : Int),
                                [(0 : Int), (127 : Int), (0 : Int), (128 : Int)].getD w.toNat (0 : Int)]).fst)
                        z ==
                      decide ([(0 : Int), (1 : Int), (2 : Int), (2 : Int)].getD w.toNat (0 : Int) ≤ (1 : Int)))
                  (End.leaf (LV.one (VV.sc (SV.bool (SB.lit false)))) [])
                  (End.ite
                    (!eq
                          (dbl
                            (dbl
                              (de
                                  [[(1 : Int), (236 : Int), (0 : Int), (0 : Int)].getD w.toNat (0 : Int),
                                    [(0 : Int), (255 : Int), (0 : Int), (0 : Int)].getD w.toNat (0 : Int),
                                    [(0 : Int), (255 : Int), (0 : Int), (0 : Int)].getD w.toNat (0 : Int),
                                    [(0 : Int), (255 : Int), (0 : Int), (0 : Int)].getD w.toNat (0 : Int),
                                    [(0 : Int), (255 : Int), (0 : Int), (0 : Int)].getD w.toNat (0 : Int),
                                    [(0 : Int), (255 : Int), (0 : Int), (0 : Int)].getD w.toNat (0 : Int),
                                    [(0 : Int), (255 : Int), (0 : Int), (0 : Int)].getD w.toNat (0 : Int),
                                    [(0 : Int), (255 : Int), (0 : Int), (0 : Int)].getD w.toNat (0 : Int),
                                    [(0 : Int), (255 : Int), (0 : Int), (0 : Int)].getD w.toNat (0 : Int),
                                    [(0 : Int), (255 : Int), (0 : Int), (0 : Int)].getD w.toNat (0 : Int),
                                    [(0 : Int), (255 : Int), (0 : Int), (0 : Int)].getD w.toNat (0 : Int),
                                    [(0 : Int), (255 : Int), (0 : Int), (0 : Int)].getD w.toNat (0 : Int),
                                    [(0 : Int), (255 : Int), (0 : Int), (0 : Int)].getD w.toNat (0 : Int),
                                    [(0 : Int), (255 : Int), (0 : Int), (0 : Int)].getD w.toNat (0 : Int),
                                    [(0 : Int), (255 : Int), (0 : Int), (0 : Int)].getD w.toNat (0 : Int),
                                    [(0 : Int), (255 : Int), (0 : Int), (0 : Int)].getD w.toNat (0 : Int),
                                    [(0 : Int), (255 : Int), (0 : Int), (0 : Int)].getD w.toNat (0 : Int),
                                    [(0 : Int), (255 : Int), (0 : Int), (0 : Int)].getD w.toNat (0 : Int),
                                    [(0 : Int), (255 : Int), (0 : Int), (0 : Int)].getD w.toNat (0 : Int),
                                    [(0 : Int), (255 : Int), (0 : Int), (0 : Int)].getD w.toNat (0 : Int),
                                    [(0 : Int), (255 : Int), (0 : Int), (0 : Int)].getD w.toNat (0 : Int),
                                    [(0 : Int), (255 : Int), (0 : Int), (0 : Int)].getD w.toNat (0 : Int),
                                    [(0 : Int), (255 : Int), (0 : Int), (0 : Int)].getD w.toNat (0 : Int),
                                    [(0 : Int), (255 : Int), (0 : Int), (0 : Int)].getD w.toNat (0 : Int),
                                    [(0 : Int), (255 : Int), (0 : Int), (0 : Int)].getD w.toNat (0 : Int),
                                    [(0 : Int), (255 : Int), (0 : Int), (0 : Int)].getD w.toNat (0 : Int),
                                    [(0 : Int), (255 : Int), (0 : Int), (0 : Int)].getD w.toNat (0 : Int),
                                    [(0 : Int), (255 : Int), (0 : Int), (0 : Int)].getD w.toNat (0 : Int),
                                    [(0 : Int), (255 : Int), (0 : Int), (0 : Int)].getD w.toNat (0 : Int),
                                    [(0 : Int), (255 : Int), (0 : Int), (0 : Int)].getD w.toNat (0 : Int),
                                    [(0 : Int), (255 : Int), (0 : Int), (0 : Int)].getD w.toNat (0 : Int),
                                    [(0 : Int), (127 : Int), (0 : Int), (128 : Int)].getD w.toNat (0 : Int)]).fst))
                          z ==
                        decide ([(0 : Int), (1 : Int), (2 : Int), (2 : Int)].getD w.toNat (0 : Int) ≤ (2 : Int)))
                    (End.leaf (LV.one (VV.sc (SV.bool (SB.lit false)))) [])
                    (End.need ((0 : Int) ≤ w ∧ w < (4 : Int))
                      (End.need ((32 : Nat) = (32 : Nat))
                        (End.ite (decide (w < (2 : Int)))
                          (End.ite
                            ((de
                                  [[(1 : Int), (236 : Int), (0 : Int), (0 : Int)].getD w.toNat (0 : Int),
                                    [(0 : Int), (255 : Int), (0 : Int), (0 : Int)].getD w.toNat (0 : Int),
                                    [(0 : Int), (255 : Int), (0 : Int), (0 : Int)].getD w.toNat (0 : Int),
                                    [(0 : Int), (255 : Int), (0 : Int), (0 : Int)].getD w.toNat (0 : Int),
                                    [(0 : Int), (255 : Int), (0 : Int), (0 : Int)].getD w.toNat (0 : Int),
                                    [(0 : Int), (255 : Int), (0 : Int), (0 : Int)].getD w.toNat (0 : Int),
                                    [(0 : Int), (255 : Int), (0 : Int), (0 : Int)].getD w.toNat (0 : Int),
                                    [(0 : Int), (255 : Int), (0 : Int), (0 : Int)].getD w.toNat (0 : Int),
                                    [(0 : Int), (255 : Int), (0 : Int), (0 : Int)].getD w.toNat (0 : Int),
                                    [(0 : Int), (255 : Int), (0 : Int), (0 : Int)].getD w.toNat (0 : Int),
                                    [(0 : Int), (255 : Int), (0 : Int), (0 : Int)].getD w.toNat (0 : Int),
                                    [(0 : Int), (255 : Int), (0 : Int), (0 : Int)].getD w.toNat (0 : Int),
                                    [(0 : Int), (255 : Int), (0 : Int), (0 : Int)].getD w.toNat (0 : Int),
                                    [(0 : Int), (255 : Int), (0 : Int), (0 : Int)].getD w.toNat (0 : Int),
                                    [(0 : Int), (255 : Int), (0 : Int), (0 : Int)].getD w.toNat (0 : Int),
                                    [(0 : Int), (255 : Int), (0 : Int), (0 : Int)].getD w.toNat (0 : Int),
                                    [(0 : Int), (255 : Int), (0 : Int), (0 : Int)].getD w.toNat (0 : Int),
                                    [(0 : Int), (255 : Int), (0 : Int), (0 : Int)].getD w.toNat (0 : Int),
                                    [(0 : Int), (255 : Int), (0 : Int), (0 : Int)].getD w.toNat (0 : Int),
                                    [(0 : Int), (255 : Int), (0 : Int), (0 : Int)].getD w.toNat (0 : Int),
                                    [(0 : Int), (255 : Int), (0 : Int), (0 : Int)].getD w.toNat (0 : Int),
                                    [(0 : Int), (255 : Int), (0 : Int), (0 : Int)].getD w.toNat (0 : Int),
                                    [(0 : Int), (255 : Int), (0 : Int), (0 : Int)].getD w.toNat (0 : Int),
                                    [(0 : Int), (255 : Int), (0 : Int), (0 : Int)].getD w.toNat (0 : Int),
                                    [(0 : Int), (255 : Int), (0 : Int), (0 : Int)].getD w.toNat (0 : Int),
                                    [(0 : Int), (255 : Int), (0 : Int), (0 : Int)].getD w.toNat (0 : Int),
                                    [(0 : Int), (255 : Int), (0 : Int), (0 : Int)].getD w.toNat (0 : Int),
                                    [(0 : Int), (255 : Int), (0 : Int), (0 : Int)].getD w.toNat (0 : Int),
                                    [(0 : Int), (255 : Int), (0 : Int), (0 : Int)].getD w.toNat (0 : Int),
                                    [(0 : Int), (255 : Int), (0 : Int), (0 : Int)].getD w.toNat (0 : Int),
                                    [(0 : Int), (255 : Int), (0 : Int), (0 : Int)].getD w.toNat (0 : Int),
                                    [(0 : Int), (127 : Int), (0 : Int), (128 : Int)].getD w.toNat (0 : Int)]).snd ==
                              true)
                            (End.ite
                              ((!(de
                                      [[(1 : Int), (236 : Int), (0 : Int), (0 : Int)].getD w.toNat (0 : Int),
                                        [(0 : Int), (255 : Int), (0 : Int), (0 : Int)].getD w.toNat (0 : Int),
                                        [(0 : Int), (255 : Int), (0 : Int), (0 : Int)].getD w.toNat (0 : Int),
                                        [(0 : Int), (255 : Int), (0 : Int), (0 : Int)].getD w.toNat (0 : Int),
                                        [(0 : Int), (255 : Int), (0 : Int), (0 : Int)].getD w.toNat (0 : Int),
                                        [(0 : Int), (255 : Int), (0 : Int), (0 : Int)].getD w.toNat (0 : Int),
                                        [(0 : Int), (255 : Int), (0 : Int), (0 : Int)].getD w.toNat (0 : Int),
                                        [(0 : Int), (255 : Int), (0 : Int), (0 : Int)].getD w.toNat (0 : Int),
                                        [(0 : Int), (255 : Int), (0 : Int), (0 : Int)].getD w.toNat (0 : Int),
                                        [(0 : Int), (255 : Int), (0 : Int), (0 : Int)].getD w.toNat (0 : Int),
                                        [(0 : Int), (255 : Int), (0 : Int), (0 : Int)].getD w.toNat (0 : Int),
                                        [(0 : Int), (255 : Int), (0 : Int), (0 : Int)].getD w.toNat (0 : Int),
                                        [(0 : Int), (255 : Int), (0 : Int), (0 : Int)].getD w.toNat (0 : Int),
                                        [(0 : Int), (255 : Int), (0 : Int), (0 : Int)].getD w.toNat (0 : Int),
                                        [(0 : Int), (255 : Int), (0 : Int), (0 : Int)].getD w.toNat (0 : Int),
                                        [(0 : Int), (255 : Int), (0 : Int), (0 : Int)].getD w.toNat (0 : Int),
                                        [(0 : Int), (255 : Int), (0 : Int), (0 : Int)].getD w.toNat (0 : Int),
                                        [(0 : Int), (255 : Int), (0 : Int), (0 : Int)].getD w.toNat (0 : Int),
                                        [(0 : Int), (255 : Int), (0 : Int), (0 : Int)].getD w.toNat (0 : Int),
                                        [(0 : Int), (255 : Int), (0 : Int), (0 : Int)].getD w.toNat (0 : Int),
                                        [(0 : Int), (255 : Int), (0 : Int), (0 : Int)].getD w.toNat (0 : Int),
                                        [(0 : Int), (255 : Int), (0 : Int), (0 : Int)].getD w.toNat (0 : Int),
                                        [(0 : Int), (255 : Int), (0 : Int), (0 : Int)].getD w.toNat (0 : Int),
                                        [(0 : Int), (255 : Int), (0 : Int), (0 : Int)].getD w.toNat (0 : Int),
                                        [(0 : Int), (255 : Int), (0 : Int), (0 : Int)].getD w.toNat (0 : Int),
                                        [(0 : Int), (255 : Int), (0 : Int), (0 : Int)].getD w.toNat (0 : Int),
                                        [(0 : Int), (255 : Int), (0 : Int), (0 : Int)].getD w.toNat (0 : Int),
                                        [(0 : Int), (255 : Int), (0 : Int), (0 : Int)].getD w.toNat (0 : Int),
                                        [(0 : Int), (255 : Int), (0 : Int), (0 : Int)].getD w.toNat (0 : Int),
                                        [(0 : Int), (255 : Int), (0 : Int), (0 : Int)].getD w.toNat (0 : Int),
                                        [(0 : Int), (255 : Int), (0 : Int), (0 : Int)].getD w.toNat (0 : Int),
                                        bitXor IntKind.u8
                                          ([(0 : Int), (127 : Int), (0 : Int), (128 : Int)].getD w.toNat (0 : Int))
                                          (128 : Int)]).snd) ==
                                true)
                              (End.leaf
                                (LV.one
                                  (VV.sc
                                    (SV.bool
                                      (SB.sym
                                        (eq
                                          (de
                                              [[(1 : Int), (236 : Int), (0 : Int), (0 : Int)].getD w.toNat (0 : Int),
                                                [(0 : Int), (255 : Int), (0 : Int), (0 : Int)].getD w.toNat (0 : Int),
                                                [(0 : Int), (255 : Int), (0 : Int), (0 : Int)].getD w.toNat (0 : Int),
                                                [(0 : Int), (255 : Int), (0 : Int), (0 : Int)].getD w.toNat (0 : Int),
                                                [(0 : Int), (255 : Int), (0 : Int), (0 : Int)].getD w.toNat (0 : Int),
                                                [(0 : Int), (255 : Int), (0 : Int), (0 : Int)].getD w.toNat (0 : Int),
                                                [(0 : Int), (255 : Int), (0 : Int), (0 : Int)].getD w.toNat (0 : Int),
                                                [(0 : Int), (255 : Int), (0 : Int), (0 : Int)].getD w.toNat (0 : Int),
                                                [(0 : Int), (255 : Int), (0 : Int), (0 : Int)].getD w.toNat (0 : Int),
                                                [(0 : Int), (255 : Int), (0 : Int), (0 : Int)].getD w.toNat (0 : Int),
                                                [(0 : Int), (255 : Int), (0 : Int), (0 : Int)].getD w.toNat (0 : Int),
                                                [(0 : Int), (255 : Int), (0 : Int), (0 : Int)].getD w.toNat (0 : Int),
                                                [(0 : Int), (255 : Int), (0 : Int), (0 : Int)].getD w.toNat (0 : Int),
                                                [(0 : Int), (255 : Int), (0 : Int), (0 : Int)].getD w.toNat (0 : Int),
                                                [(0 : Int), (255 : Int), (0 : Int), (0 : Int)].getD w.toNat (0 : Int),
                                                [(0 : Int), (255 : Int), (0 : Int), (0 : Int)].getD w.toNat (0 : Int),
                                                [(0 : Int), (255 : Int), (0 : Int), (0 : Int)].getD w.toNat (0 : Int),
                                                [(0 : Int), (255 : Int), (0 : Int), (0 : Int)].getD w.toNat (0 : Int),
                                                [(0 : Int), (255 : Int), (0 : Int), (0 : Int)].getD w.toNat (0 : Int),
                                                [(0 : Int), (255 : Int), (0 : Int), (0 : Int)].getD w.toNat (0 : Int),
                                                [(0 : Int), (255 : Int), (0 : Int), (0 : Int)].getD w.toNat (0 : Int),
                                                [(0 : Int), (255 : Int), (0 : Int), (0 : Int)].getD w.toNat (0 : Int),
                                                [(0 : Int), (255 : Int), (0 : Int), (0 : Int)].getD w.toNat (0 : Int),
                                                [(0 : Int), (255 : Int), (0 : Int), (0 : Int)].getD w.toNat (0 : Int),
                                                [(0 : Int), (255 : Int), (0 : Int), (0 : Int)].getD w.toNat (0 : Int),
                                                [(0 : Int), (255 : Int), (0 : Int), (0 : Int)].getD w.toNat (0 : Int),
                                                [(0 : Int), (255 : Int), (0 : Int), (0 : Int)].getD w.toNat (0 : Int),
                                                [(0 : Int), (255 : Int), (0 : Int), (0 : Int)].getD w.toNat (0 : Int),
                                                [(0 : Int), (255 : Int), (0 : Int), (0 : Int)].getD w.toNat (0 : Int),
                                                [(0 : Int), (255 : Int), (0 : Int), (0 : Int)].getD w.toNat (0 : Int),
                                                [(0 : Int), (255 : Int), (0 : Int), (0 : Int)].getD w.toNat (0 : Int),
                                                [(0 : Int), (127 : Int), (0 : Int), (128 : Int)].getD w.toNat
                                                  (0 : Int)]).fst
                                          (neg
                                            (de
                                                [[(1 : Int), (236 : Int), (0 : Int), (0 : Int)].getD w.toNat (0 : Int),
                                                  [(0 : Int), (255 : Int), (0 : Int), (0 : Int)].getD w.toNat (0 : Int),
                                                  [(0 : Int), (255 : Int), (0 : Int), (0 : Int)].getD w.toNat (0 : Int),
                                                  [(0 : Int), (255 : Int), (0 : Int), (0 : Int)].getD w.toNat (0 : Int),
                                                  [(0 : Int), (255 : Int), (0 : Int), (0 : Int)].getD w.toNat (0 : Int),
                                                  [(0 : Int), (255 : Int), (0 : Int), (0 : Int)].getD w.toNat (0 : Int),
                                                  [(0 : Int), (255 : Int), (0 : Int), (0 : Int)].getD w.toNat (0 : Int),
                                                  [(0 : Int), (255 : Int), (0 : Int), (0 : Int)].getD w.toNat (0 : Int),
                                                  [(0 : Int), (255 : Int), (0 : Int), (0 : Int)].getD w.toNat (0 : Int),
                                                  [(0 : Int), (255 : Int), (0 : Int), (0 : Int)].getD w.toNat (0 : Int),
                                                  [(0 : Int), (255 : Int), (0 : Int), (0 : Int)].getD w.toNat (0 : Int),
                                                  [(0 : Int), (255 : Int), (0 : Int), (0 : Int)].getD w.toNat (0 : Int),
                                                  [(0 : Int), (255 : Int), (0 : Int), (0 : Int)].getD w.toNat (0 : Int),
                                                  [(0 : Int), (255 : Int), (0 : Int), (0 : Int)].getD w.toNat (0 : Int),
                                                  [(0 : Int), (255 : Int), (0 : Int), (0 : Int)].getD w.toNat (0 : Int),
                                                  [(0 : Int), (255 : Int), (0 : Int), (0 : Int)].getD w.toNat (0 : Int),
                                                  [(0 : Int), (255 : Int), (0 : Int), (0 : Int)].getD w.toNat (0 : Int),
                                                  [(0 : Int), (255 : Int), (0 : Int), (0 : Int)].getD w.toNat (0 : Int),
                                                  [(0 : Int), (255 : Int), (0 : Int), (0 : Int)].getD w.toNat (0 : Int),
                                                  [(0 : Int), (255 : Int), (0 : Int), (0 : Int)].getD w.toNat (0 : Int),
                                                  [(0 : Int), (255 : Int), (0 : Int), (0 : Int)].getD w.toNat (0 : Int),
                                                  [(0 : Int), (255 : Int), (0 : Int), (0 : Int)].getD w.toNat (0 : Int),
                                                  [(0 : Int), (255 : Int), (0 : Int), (0 : Int)].getD w.toNat (0 : Int),
                                                  [(0 : Int), (255 : Int), (0 : Int), (0 : Int)].getD w.toNat (0 : Int),
                                                  [(0 : Int), (255 : Int), (0 : Int), (0 : Int)].getD w.toNat (0 : Int),
                                                  [(0 : Int), (255 : Int), (0 : Int), (0 : Int)].getD w.toNat (0 : Int),
                                                  [(0 : Int), (255 : Int), (0 : Int), (0 : Int)].getD w.toNat (0 : Int),
                                                  [(0 : Int), (255 : Int), (0 : Int), (0 : Int)].getD w.toNat (0 : Int),
                                                  [(0 : Int), (255 : Int), (0 : Int), (0 : Int)].getD w.toNat (0 : Int),
                                                  [(0 : Int), (255 : Int), (0 : Int), (0 : Int)].getD w.toNat (0 : Int),
                                                  [(0 : Int), (255 : Int), (0 : Int), (0 : Int)].getD w.toNat (0 : Int),
                                                  [(0 : Int), (127 : Int), (0 : Int), (128 : Int)].getD w.toNat
                                                    (0 : Int)]).fst))))))
                                [])
                              (End.leaf (LV.one (VV.sc (SV.bool (SB.lit false)))) []))
                            (End.leaf (LV.one (VV.sc (SV.bool (SB.lit false)))) []))
                          (End.ite
                            ((de
                                  [[(1 : Int), (236 : Int), (0 : Int), (0 : Int)].getD w.toNat (0 : Int),
                                    [(0 : Int), (255 : Int), (0 : Int), (0 : Int)].getD w.toNat (0 : Int),
                                    [(0 : Int), (255 : Int), (0 : Int), (0 : Int)].getD w.toNat (0 : Int),
                                    [(0 : Int), (255 : Int), (0 : Int), (0 : Int)].getD w.toNat (0 : Int),
                                    [(0 : Int), (255 : Int), (0 : Int), (0 : Int)].getD w.toNat (0 : Int),
                                    [(0 : Int), (255 : Int), (0 : Int), (0 : Int)].getD w.toNat (0 : Int),
                                    [(0 : Int), (255 : Int), (0 : Int), (0 : Int)].getD w.toNat (0 : Int),
                                    [(0 : Int), (255 : Int), (0 : Int), (0 : Int)].getD w.toNat (0 : Int),
                                    [(0 : Int), (255 : Int), (0 : Int), (0 : Int)].getD w.toNat (0 : Int),
                                    [(0 : Int), (255 : Int), (0 : Int), (0 : Int)].getD w.toNat (0 : Int),
                                    [(0 : Int), (255 : Int), (0 : Int), (0 : Int)].getD w.toNat (0 : Int),
                                    [(0 : Int), (255 : Int), (0 : Int), (0 : Int)].getD w.toNat (0 : Int),
                                    [(0 : Int), (255 : Int), (0 : Int), (0 : Int)].getD w.toNat (0 : Int),
                                    [(0 : Int), (255 : Int), (0 : Int), (0 : Int)].getD w.toNat (0 : Int),
                                    [(0 : Int), (255 : Int), (0 : Int), (0 : Int)].getD w.toNat (0 : Int),
                                    [(0 : Int), (255 : Int), (0 : Int), (0 : Int)].getD w.toNat (0 : Int),
                                    [(0 : Int), (255 : Int), (0 : Int), (0 : Int)].getD w.toNat (0 : Int),
                                    [(0 : Int), (255 : Int), (0 : Int), (0 : Int)].getD w.toNat (0 : Int),
                                    [(0 : Int), (255 : Int), (0 : Int), (0 : Int)].getD w.toNat (0 : Int),
                                    [(0 : Int), (255 : Int), (0 : Int), (0 : Int)].getD w.toNat (0 : Int),
                                    [(0 : Int), (255 : Int), (0 : Int), (0 : Int)].getD w.toNat (0 : Int),
                                    [(0 : Int), (255 : Int), (0 : Int), (0 : Int)].getD w.toNat (0 : Int),
                                    [(0 : Int), (255 : Int), (0 : Int), (0 : Int)].getD w.toNat (0 : Int),
                                    [(0 : Int), (255 : Int), (0 : Int), (0 : Int)].getD w.toNat (0 : Int),
                                    [(0 : Int), (255 : Int), (0 : Int), (0 : Int)].getD w.toNat (0 : Int),
                                    [(0 : Int), (255 : Int), (0 : Int), (0 : Int)].getD w.toNat (0 : Int),
                                    [(0 : Int), (255 : Int), (0 : Int), (0 : Int)].getD w.toNat (0 : Int),
                                    [(0 : Int), (255 : Int), (0 : Int), (0 : Int)].getD w.toNat (0 : Int),
                                    [(0 : Int), (255 : Int), (0 : Int), (0 : Int)].getD w.toNat (0 : Int),
                                    [(0 : Int), (255 : Int), (0 : Int), (0 : Int)].getD w.toNat (0 : Int),
                                    [(0 : Int), (255 : Int), (0 : Int), (0 : Int)].getD w.toNat (0 : Int),
                                    [(0 : Int), (127 : Int), (0 : Int), (128 : Int)].getD w.toNat (0 : Int)]).snd ==
                              true)
                            (End.ite
                              ((de
                                    [[(1 : Int), (236 : Int), (0 : Int), (0 : Int)].getD w.toNat (0 : Int),
                                      [(0 : Int), (255 : Int), (0 : Int), (0 : Int)].getD w.toNat (0 : Int),
                                      [(0 : Int), (255 : Int), (0 : Int), (0 : Int)].getD w.toNat (0 : Int),
                                      [(0 : Int), (255 : Int), (0 : Int), (0 : Int)].getD w.toNat (0 : Int),
                                      [(0 : Int), (255 : Int), (0 : Int), (0 : Int)].getD w.toNat (0 : Int),
                                      [(0 : Int), (255 : Int), (0 : Int), (0 : Int)].getD w.toNat (0 : Int),
                                      [(0 : Int), (255 : Int), (0 : Int), (0 : Int)].getD w.toNat (0 : Int),
                                      [(0 : Int), (255 : Int), (0 : Int), (0 : Int)].getD w.toNat (0 : Int),
                                      [(0 : Int), (255 : Int), (0 : Int), (0 : Int)].getD w.toNat (0 : Int),
                                      [(0 : Int), (255 : Int), (0 : Int), (0 : Int)].getD w.toNat (0 : Int),
                                      [(0 : Int), (255 : Int), (0 : Int), (0 : Int)].getD w.toNat (0 : Int),
                                      [(0 : Int), (255 : Int), (0 : Int), (0 : Int)].getD w.toNat (0 : Int),
                                      [(0 : Int), (255 : Int), (0 : Int), (0 : Int)].getD w.toNat (0 : Int),
                                      [(0 : Int), (255 : Int), (0 : Int), (0 : Int)].getD w.toNat (0 : Int),
                                      [(0 : Int), (255 : Int), (0 : Int), (0 : Int)].getD w.toNat (0 : Int),
                                      [(0 : Int), (255 : Int), (0 : Int), (0 : Int)].getD w.toNat (0 : Int),
                                      [(0 : Int), (255 : Int), (0 : Int), (0 : Int)].getD w.toNat (0 : Int),
                                      [(0 : Int), (255 : Int), (0 : Int), (0 : Int)].getD w.toNat (0 : Int),
                                      [(0 : Int), (255 : Int), (0 : Int), (0 : Int)].getD w.toNat (0 : Int),
                                      [(0 : Int), (255 : Int), (0 : Int), (0 : Int)].getD w.toNat (0 : Int),
                                      [(0 : Int), (255 : Int), (0 : Int), (0 : Int)].getD w.toNat (0 : Int),
                                      [(0 : Int), (255 : Int), (0 : Int), (0 : Int)].getD w.toNat (0 : Int),
                                      [(0 : Int), (255 : Int), (0 : Int), (0 : Int)].getD w.toNat (0 : Int),
                                      [(0 : Int), (255 : Int), (0 : Int), (0 : Int)].getD w.toNat (0 : Int),
                                      [(0 : Int), (255 : Int), (0 : Int), (0 : Int)].getD w.toNat (0 : Int),
                                      [(0 : Int), (255 : Int), (0 : Int), (0 : Int)].getD w.toNat (0 : Int),
                                      [(0 : Int), (255 : Int), (0 : Int), (0 : Int)].getD w.toNat (0 : Int),
                                      [(0 : Int), (255 : Int), (0 : Int), (0 : Int)].getD w.toNat (0 : Int),
                                      [(0 : Int), (255 : Int), (0 : Int), (0 : Int)].getD w.toNat (0 : Int),
                                      [(0 : Int), (255 : Int), (0 : Int), (0 : Int)].getD w.toNat (0 : Int),
                                      [(0 : Int), (255 : Int), (0 : Int), (0 : Int)].getD w.toNat (0 : Int),
                                      bitXor IntKind.u8
                                        ([(0 : Int), (127 : Int), (0 : Int), (128 : Int)].getD w.toNat (0 : Int))
                                        (128 : Int)]).snd ==
                                true)
                              (End.ite
                                (eq
                                    (de
                                        [[(1 : Int), (236 : Int), (0 : Int), (0 : Int)].getD w.toNat (0 : Int),
                                          [(0 : Int), (255 : Int), (0 : Int), (0 : Int)].getD w.toNat (0 : Int),
                                          [(0 : Int), (255 : Int), (0 : Int), (0 : Int)].getD w.toNat (0 : Int),
                                          [(0 : Int), (255 : Int), (0 : Int), (0 : Int)].getD w.toNat (0 : Int),
                                          [(0 : Int), (255 : Int), (0 : Int), (0 : Int)].getD w.toNat (0 : Int),
                                          [(0 : Int), (255 : Int), (0 : Int), (0 : Int)].getD w.toNat (0 : Int),
                                          [(0 : Int), (255 : Int), (0 : Int), (0 : Int)].getD w.toNat (0 : Int),
                                          [(0 : Int), (255 : Int), (0 : Int), (0 : Int)].getD w.toNat (0 : Int),
                                          [(0 : Int), (255 : Int), (0 : Int), (0 : Int)].getD w.toNat (0 : Int),
                                          [(0 : Int), (255 : Int), (0 : Int), (0 : Int)].getD w.toNat (0 : Int),
                                          [(0 : Int), (255 : Int), (0 : Int), (0 : Int)].getD w.toNat (0 : Int),
                                          [(0 : Int), (255 : Int), (0 : Int), (0 : Int)].getD w.toNat (0 : Int),
                                          [(0 : Int), (255 : Int), (0 : Int), (0 : Int)].getD w.toNat (0 : Int),
                                          [(0 : Int), (255 : Int), (0 : Int), (0 : Int)].getD w.toNat (0 : Int),
                                          [(0 : Int), (255 : Int), (0 : Int), (0 : Int)].getD w.toNat (0 : Int),
                                          [(0 : Int), (255 : Int), (0 : Int), (0 : Int)].getD w.toNat (0 : Int),
                                          [(0 : Int), (255 : Int), (0 : Int), (0 : Int)].getD w.toNat (0 : Int),
                                          [(0 : Int), (255 : Int), (0 : Int), (0 : Int)].getD w.toNat (0 : Int),
                                          [(0 : Int), (255 : Int), (0 : Int), (0 : Int)].getD w.toNat (0 : Int),
                                          [(0 : Int), (255 : Int), (0 : Int), (0 : Int)].getD w.toNat (0 : Int),
                                          [(0 : Int), (255 : Int), (0 : Int), (0 : Int)].getD w.toNat (0 : Int),
                                          [(0 : Int), (255 : Int), (0 : Int), (0 : Int)].getD w.toNat (0 : Int),
                                          [(0 : Int), (255 : Int), (0 : Int), (0 : Int)].getD w.toNat (0 : Int),
                                          [(0 : Int), (255 : Int), (0 : Int), (0 : Int)].getD w.toNat (0 : Int),
                                          [(0 : Int), (255 : Int), (0 : Int), (0 : Int)].getD w.toNat (0 : Int),
                                          [(0 : Int), (255 : Int), (0 : Int), (0 : Int)].getD w.toNat (0 : Int),
                                          [(0 : Int), (255 : Int), (0 : Int), (0 : Int)].getD w.toNat (0 : Int),
                                          [(0 : Int), (255 : Int), (0 : Int), (0 : Int)].getD w.toNat (0 : Int),
                                          [(0 : Int), (255 : Int), (0 : Int), (0 : Int)].getD w.toNat (0 : Int),
                                          [(0 : Int), (255 : Int), (0 : Int), (0 : Int)].getD w.toNat (0 : Int),
                                          [(0 : Int), (255 : Int), (0 : Int), (0 : Int)].getD w.toNat (0 : Int),
                                          bitXor IntKind.u8
                                            ([(0 : Int), (127 : Int), (0 : Int), (128 : Int)].getD w.toNat (0 : Int))
                                            (128 : Int)]).fst
                                    (neg
                                      (de
                                          [[(1 : Int), (236 : Int), (0 : Int), (0 : Int)].getD w.toNat (0 : Int),
                                            [(0 : Int), (255 : Int), (0 : Int), (0 : Int)].getD w.toNat (0 : Int),
                                            [(0 : Int), (255 : Int), (0 : Int), (0 : Int)].getD w.toNat (0 : Int),
                                            [(0 : Int), (255 : Int), (0 : Int), (0 : Int)].getD w.toNat (0 : Int),
                                            [(0 : Int), (255 : Int), (0 : Int), (0 : Int)].getD w.toNat (0 : Int),
                                            [(0 : Int), (255 : Int), (0 : Int), (0 : Int)].getD w.toNat (0 : Int),
                                            [(0 : Int), (255 : Int), (0 : Int), (0 : Int)].getD w.toNat (0 : Int),
                                            [(0 : Int), (255 : Int), (0 : Int), (0 : Int)].getD w.toNat (0 : Int),
                                            [(0 : Int), (255 : Int), (0 : Int), (0 : Int)].getD w.toNat (0 : Int),
                                            [(0 : Int), (255 : Int), (0 : Int), (0 : Int)].getD w.toNat (0 : Int),
                                            [(0 : Int), (255 : Int), (0 : Int), (0 : Int)].getD w.toNat (0 : Int),
                                            [(0 : Int), (255 : Int), (0 : Int), (0 : Int)].getD w.toNat (0 : Int),
                                            [(0 : Int), (255 : Int), (0 : Int), (0 : Int)].getD w.toNat (0 : Int),
                                            [(0 : Int), (255 : Int), (0 : Int), (0 : Int)].getD w.toNat (0 : Int),
                                            [(0 : Int), (255 : Int), (0 : Int), (0 : Int)].getD w.toNat (0 : Int),
                                            [(0 : Int), (255 : Int), (0 : Int), (0 : Int)].getD w.toNat (0 : Int),
                                            [(0 : Int), (255 : Int), (0 : Int), (0 : Int)].getD w.toNat (0 : Int),
                                            [(0 : Int), (255 : Int), (0 : Int), (0 : Int)].getD w.toNat (0 : Int),
                                            [(0 : Int), (255 : Int), (0 : Int), (0 : Int)].getD w.toNat (0 : Int),
                                            [(0 : Int), (255 : Int), (0 : Int), (0 : Int)].getD w.toNat (0 : Int),
                                            [(0 : Int), (255 : Int), (0 : Int), (0 : Int)].getD w.toNat (0 : Int),
                                            [(0 : Int), (255 : Int), (0 : Int), (0 : Int)].getD w.toNat (0 : Int),
                                            [(0 : Int), (255 : Int), (0 : Int), (0 : Int)].getD w.toNat (0 : Int),
                                            [(0 : Int), (255 : Int), (0 : Int), (0 : Int)].getD w.toNat (0 : Int),
                                            [(0 : Int), (255 : Int), (0 : Int), (0 : Int)].getD w.toNat (0 : Int),
                                            [(0 : Int), (255 : Int), (0 : Int), (0 : Int)].getD w.toNat (0 : Int),
                                            [(0 : Int), (255 : Int), (0 : Int), (0 : Int)].getD w.toNat (0 : Int),
                                            [(0 : Int), (255 : Int), (0 : Int), (0 : Int)].getD w.toNat (0 : Int),
                                            [(0 : Int), (255 : Int), (0 : Int), (0 : Int)].getD w.toNat (0 : Int),
                                            [(0 : Int), (255 : Int), (0 : Int), (0 : Int)].getD w.toNat (0 : Int),
                                            [(0 : Int), (255 : Int), (0 : Int), (0 : Int)].getD w.toNat (0 : Int),
                                            [(0 : Int), (127 : Int), (0 : Int), (128 : Int)].getD w.toNat
                                              (0 : Int)]).fst) ==
                                  true)
                                (End.leaf
                                  (LV.one
                                    (VV.sc
                                      (SV.bool
                                        (SB.sym
                                          !eq
                                              (de
                                                  [[(1 : Int), (236 : Int), (0 : Int), (0 : Int)].getD w.toNat (0 : Int),
                                                    [(0 : Int), (255 : Int), (0 : Int), (0 : Int)].getD w.toNat (0 : Int),
                                                    [(0 : Int), (255 : Int), (0 : Int), (0 : Int)].getD w.toNat (0 : Int),
                                                    [(0 : Int), (255 : Int), (0 : Int), (0 : Int)].getD w.toNat (0 : Int),
                                                    [(0 : Int), (255 : Int), (0 : Int), (0 : Int)].getD w.toNat (0 : Int),
                                                    [(0 : Int), (255 : Int), (0 : Int), (0 : Int)].getD w.toNat (0 : Int),
                                                    [(0 : Int), (255 : Int), (0 : Int), (0 : Int)].getD w.toNat (0 : Int),
                                                    [(0 : Int), (255 : Int), (0 : Int), (0 : Int)].getD w.toNat (0 : Int),
                                                    [(0 : Int), (255 : Int), (0 : Int), (0 : Int)].getD w.toNat (0 : Int),
                                                    [(0 : Int), (255 : Int), (0 : Int), (0 : Int)].getD w.toNat (0 : Int),
                                                    [(0 : Int), (255 : Int), (0 : Int), (0 : Int)].getD w.toNat (0 : Int),
                                                    [(0 : Int), (255 : Int), (0 : Int), (0 : Int)].getD w.toNat (0 : Int),
                                                    [(0 : Int), (255 : Int), (0 : Int), (0 : Int)].getD w.toNat (0 : Int),
                                                    [(0 : Int), (255 : Int), (0 : Int), (0 : Int)].getD w.toNat (0 : Int),
                                                    [(0 : Int), (255 : Int), (0 : Int), (0 : Int)].getD w.toNat (0 : Int),
                                                    [(0 : Int), (255 : Int), (0 : Int), (0 : Int)].getD w.toNat (0 : Int),
                                                    [(0 : Int), (255 : Int), (0 : Int), (0 : Int)].getD w.toNat (0 : Int),
                                                    [(0 : Int), (255 : Int), (0 : Int), (0 : Int)].getD w.toNat (0 : Int),
                                                    [(0 : Int), (255 : Int), (0 : Int), (0 : Int)].getD w.toNat (0 : Int),
                                                    [(0 : Int), (255 : Int), (0 : Int), (0 : Int)].getD w.toNat (0 : Int),
                                                    [(0 : Int), (255 : Int), (0 : Int), (0 : Int)].getD w.toNat (0 : Int),
                                                    [(0 : Int), (255 : Int), (0 : Int), (0 : Int)].getD w.toNat (0 : Int),
                                                    [(0 : Int), (255 : Int), (0 : Int), (0 : Int)].getD w.toNat (0 : Int),
                                                    [(0 : Int), (255 : Int), (0 : Int), (0 : Int)].getD w.toNat (0 : Int),
                                                    [(0 : Int), (255 : Int), (0 : Int), (0 : Int)].getD w.toNat (0 : Int),
                                                    [(0 : Int), (255 : Int), (0 : Int), (0 : Int)].getD w.toNat (0 : Int),
                                                    [(0 : Int), (255 : Int), (0 : Int), (0 : Int)].getD w.toNat (0 : Int),
                                                    [(0 : Int), (255 : Int), (0 : Int), (0 : Int)].getD w.toNat (0 : Int),
                                                    [(0 : Int), (255 : Int), (0 : Int), (0 : Int)].getD w.toNat (0 : Int),
                                                    [(0 : Int), (255 : Int), (0 : Int), (0 : Int)].getD w.toNat (0 : Int),
                                                    [(0 : Int), (255 : Int), (0 : Int), (0 : Int)].getD w.toNat (0 : Int),
                                                    bitXor IntKind.u8
                                                      ([(0 : Int), (127 : Int), (0 : Int), (128 : Int)].getD w.toNat
                                                        (0 : Int))
                                                      (128 : Int)]).fst
                                              (de
                                                  [[(1 : Int), (236 : Int), (0 : Int), (0 : Int)].getD w.toNat (0 : Int),
                                                    [(0 : Int), (255 : Int), (0 : Int), (0 : Int)].getD w.toNat (0 : Int),
                                                    [(0 : Int), (255 : Int), (0 : Int), (0 : Int)].getD w.toNat (0 : Int),
                                                    [(0 : Int), (255 : Int), (0 : Int), (0 : Int)].getD w.toNat (0 : Int),
                                                    [(0 : Int), (255 : Int), (0 : Int), (0 : Int)].getD w.toNat (0 : Int),
                                                    [(0 : Int), (255 : Int), (0 : Int), (0 : Int)].getD w.toNat (0 : Int),
                                                    [(0 : Int), (255 : Int), (0 : Int), (0 : Int)].getD w.toNat (0 : Int),
                                                    [(0 : Int), (255 : Int), (0 : Int), (0 : Int)].getD w.toNat (0 : Int),
                                                    [(0 : Int), (255 : Int), (0 : Int), (0 : Int)].getD w.toNat (0 : Int),
                                                    [(0 : Int), (255 : Int), (0 : Int), (0 : Int)].getD w.toNat (0 : Int),
                                                    [(0 : Int), (255 : Int), (0 : Int), (0 : Int)].getD w.toNat (0 : Int),
                                                    [(0 : Int), (255 : Int), (0 : Int), (0 : Int)].getD w.toNat (0 : Int),
                                                    [(0 : Int), (255 : Int), (0 : Int), (0 : Int)].getD w.toNat (0 : Int),
                                                    [(0 : Int), (255 : Int), (0 : Int), (0 : Int)].getD w.toNat (0 : Int),
                                                    [(0 : Int), (255 : Int), (0 : Int), (0 : Int)].getD w.toNat (0 : Int),
                                                    [(0 : Int), (255 : Int), (0 : Int), (0 : Int)].getD w.toNat (0 : Int),
                                                    [(0 : Int), (255 : Int), (0 : Int), (0 : Int)].getD w.toNat (0 : Int),
                                                    [(0 : Int), (255 : Int), (0 : Int), (0 : Int)].getD w.toNat (0 : Int),
                                                    [(0 : Int), (255 : Int), (0 : Int), (0 : Int)].getD w.toNat (0 : Int),
                                                    [(0 : Int), (255 : Int), (0 : Int), (0 : Int)].getD w.toNat (0 : Int),
                                                    [(0 : Int), (255 : Int), (0 : Int), (0 : Int)].getD w.toNat (0 : Int),
                                                    [(0 : Int), (255 : Int), (0 : Int), (0 : Int)].getD w.toNat (0 : Int),
                                                    [(0 : Int), (255 : Int), (0 : Int), (0 : Int)].getD w.toNat (0 : Int),
                                                    [(0 : Int), (255 : Int), (0 : Int), (0 : Int)].getD w.toNat (0 : Int),
                                                    [(0 : Int), (255 : Int), (0 : Int), (0 : Int)].getD w.toNat (0 : Int),
                                                    [(0 : Int), (255 : Int), (0 : Int), (0 : Int)].getD w.toNat (0 : Int),
                                                    [(0 : Int), (255 : Int), (0 : Int), (0 : Int)].getD w.toNat (0 : Int),
                                                    [(0 : Int), (255 : Int), (0 : Int), (0 : Int)].getD w.toNat (0 : Int),
                                                    [(0 : Int), (255 : Int), (0 : Int), (0 : Int)].getD w.toNat (0 : Int),
                                                    [(0 : Int), (255 : Int), (0 : Int), (0 : Int)].getD w.toNat (0 : Int),
                                                    [(0 : Int), (255 : Int), (0 : Int), (0 : Int)].getD w.toNat (0 : Int),
                                                    [(0 : Int), (127 : Int), (0 : Int), (128 : Int)].getD w.toNat
                                                      (0 : Int)]).fst))))
                                  [])
                                (End.leaf (LV.one (VV.sc (SV.bool (SB.lit false)))) []))
                              (End.leaf (LV.one (VV.sc (SV.bool (SB.lit false)))) []))
                            (End.leaf (LV.one (VV.sc (SV.bool (SB.lit false)))) []))))))))))))
      (End.leaf (LV.one (VV.sc (SV.bool (SB.lit true)))) []) := by kernel_rfl
structure PsA (eq : Pt → Pt → Bool) (de : List Int → Pt × Bool) (z : Pt) (dbl : Pt → Pt) (l : List Int) (o : Int) : Prop where
  a0 : eq (de l).1 z = decide (o ≤ 0)
  a1 : eq (dbl (de l).1) z = decide (o ≤ 1)
  a2 : eq (dbl (dbl (de l).1)) z = decide (o ≤ 2)
  ok : (de l).2 = true
structure PsL (eq : Pt → Pt → Bool) (de : List Int → Pt × Bool) (z : Pt) (dbl neg : Pt → Pt) (l m : List Int) (o : Int) : Prop extends PsA eq de z dbl l o where
  no : (de m).2 = false
  self : eq (de l).1 (neg (de l).1) = true
structure PsG (eq : Pt → Pt → Bool) (de : List Int → Pt × Bool) (z : Pt) (dbl neg : Pt → Pt) (l m : List Int) (o : Int) : Prop extends PsA eq de z dbl l o where
  yes : (de m).2 = true
  turn : eq (de m).1 (neg (de l).1) = true
  ne : eq (de m).1 (de l).1 = false
def psl0 : List Int := 1 :: List.replicate 31 0
def psm0 : List Int := 1 :: (List.replicate 30 0 ++ [128])
def psl1 : List Int := 236 :: (List.replicate 30 255 ++ [127])
def psm1 : List Int := 236 :: (List.replicate 30 255 ++ [255])
def psl2 : List Int := List.replicate 32 0
def psl3 : List Int := List.replicate 31 0 ++ [128]
structure PsH (eq : Pt → Pt → Bool) (de : List Int → Pt × Bool) (z : Pt) (dbl neg : Pt → Pt) : Prop where
  c0 : PsL eq de z dbl neg psl0 psm0 0
  c1 : PsL eq de z dbl neg psl1 psm1 1
  c2 : PsG eq de z dbl neg psl2 psl3 2
  c3 : PsG eq de z dbl neg psl3 psl2 2
theorem neFail {a b : Bool} {P : Prop} (H : a = b) (h : (!(a == b)) = true) : P := absurd h (by subst H; cases a <;> decide)
theorem okFail {b : Bool} {P : Prop} (H : b = true) (h : (b == true) = false) : P := absurd (h.symm.trans (congrArg (· == true) H)) (by decide)
def ptT : BJ.Pt := ⟨0, -1, by unfold OnC; decide +kernel⟩
def ptI : BJ.Pt := ⟨19681161376707505956807079304988542015446066515923890162744021073123829784752, 0, by unfold OnC; decide +kernel⟩
theorem enc0 : encQ BJ.Pt.zero = psl0 := by decide +kernel
theorem enc1 : encQ ptT = psl1 := by decide +kernel
theorem enc2 : encQ ptI = psl2 := by decide +kernel
theorem enc3 : encQ ptI.neg = psl3 := by decide +kernel
theorem pt_sum {P Q R : BJ.Pt} (h : eqE (addE (affE P.x P.y) (affE Q.x Q.y)) (affE R.x R.y) = true) : P.add Q = R := (isP_eq (isP_add (isP_aff P) (isP_aff Q)) (isP_aff R)).1 h
theorem ptt2 : ptT.add ptT = BJ.Pt.zero := pt_sum (by decide +kernel)
theorem ii2 : ptI.add ptI = ptT := pt_sum (by decide +kernel)
theorem nn2 : ptI.neg.add ptI.neg = ptT := pt_sum (by decide +kernel)
theorem zz2 : BJ.Pt.zero.add BJ.Pt.zero = BJ.Pt.zero := BJ.Pt.add_zero _
theorem t_ne : ptT ≠ BJ.Pt.zero := fun h => absurd (congrArg (fun P : BJ.Pt => P.y.val) h) (by decide +kernel)
theorem i_ne : ptI ≠ BJ.Pt.zero := fun h => absurd (congrArg (fun P : BJ.Pt => P.y.val) h) (by decide +kernel)
theorem n_ne : ptI.neg ≠ BJ.Pt.zero := fun h => absurd (congrArg (fun P : BJ.Pt => P.y.val) h) (by decide +kernel)
theorem in_ne : ptI ≠ ptI.neg := fun h => absurd (congrArg (fun P : BJ.Pt => P.x.val) h) (by decide +kernel)
theorem t_neg : ptT = ptT.neg := BJ.Pt.ext' (by decide +kernel) (by decide +kernel)
theorem z_neg : BJ.Pt.zero = BJ.Pt.zero.neg := BJ.Pt.ext' (by decide +kernel) (by decide +kernel)
theorem no_dec {b : List Int} {Y : F} (hb : okB b) (hy : toF (valB (v32 b) % p2255) = Y) (hx : xOfE Y = (0, true)) (ht : 128 ≤ (v32 b).get 31) : (decodeL b).2 = false := by
  obtain ⟨h1, _⟩ := okB_v32 hb
  obtain ⟨_, _, d3⟩ := decode_pt h1
  show (decodeC (v32 b)).2 = false
  rw [d3]
  unfold decE
  simp only []
  rw [hy, hx, if_neg]
  exact fun h => h.2.2 ⟨ht, rfl⟩
theorem x_one : xOfE 1 = (0, true) := by rw [xOf_K]; decide +kernel
theorem x_minus : xOfE (-1) = (0, true) := by rw [xOf_K]; decide +kernel
theorem okL {l : List Int} (h : l.length = 32 ∧ (l.all fun z => decide (0 ≤ z) && decide (z < 256)) = true) : okB l := ⟨h.1, fun z hz => by
  have := List.all_eq_true.1 h.2 z hz
  rw [Bool.and_eq_true, decide_eq_true_iff, decide_eq_true_iff] at this
  exact this⟩
theorem no0 : (decodeL psm0).2 = false := no_dec (Y := 1) (okL (by decide)) (by decide +kernel) x_one (by decide +kernel)
theorem no1 : (decodeL psm1).2 = false := no_dec (Y := -1) (okL (by decide)) (by decide +kernel) x_minus (by decide +kernel)
theorem eq_dec {p q : Pt} {P Q : BJ.Pt} (hp : Rep p P) (hq : Rep q Q) {b : Bool} (h : P = Q ↔ b = true) : equalPC p q = b := by
  have := (rep_eq hp hq).trans h
  cases b <;> cases e : equalPC p q <;> simp_all
theorem psA_of {l : List Int} {P P2 P4 : BJ.Pt} {o : Int} (he : encQ P = l) (h2 : P.add P = P2) (h4 : P2.add P2 = P4) (e0 : P = BJ.Pt.zero ↔ o ≤ 0) (e1 : P2 = BJ.Pt.zero ↔ o ≤ 1) (e2 : P4 = BJ.Pt.zero ↔ o ≤ 2) : PsA equalPC decodeL zeroC doubleC l o := by
  subst he h2 h4
  obtain ⟨d1, d2⟩ := dec_of P
  have r2 := rep_double d2
  exact ⟨eq_dec d2 rep_zero (by rw [e0, decide_eq_true_iff]), eq_dec r2 rep_zero (by rw [e1, decide_eq_true_iff]), eq_dec (rep_double r2) rep_zero (by rw [e2, decide_eq_true_iff]), d1⟩
theorem psL_of {l m : List Int} {P P2 P4 : BJ.Pt} {o : Int} (h : PsA equalPC decodeL zeroC doubleC l o) (he : encQ P = l) (hn : P = P.neg) (hm : (decodeL m).2 = false) : PsL equalPC decodeL zeroC doubleC negPC l m o := by
  subst he
  obtain ⟨d1, d2⟩ := dec_of P
  exact ⟨h, hm, (rep_eq d2 (rep_neg d2)).2 hn⟩
theorem psG_of {l m : List Int} {P Q : BJ.Pt} {o : Int} (h : PsA equalPC decodeL zeroC doubleC l o) (he : encQ P = l) (hm : encQ Q = m) (hn : Q = P.neg) (hne : Q ≠ P) : PsG equalPC decodeL zeroC doubleC negPC l m o := by
  subst he hm
  obtain ⟨d1, d2⟩ := dec_of P
  obtain ⟨f1, f2⟩ := dec_of Q
  exact ⟨h, f1, (rep_eq f2 (rep_neg d2)).2 hn, eq_dec f2 d2 (by simp [hne])⟩
theorem psH : PsH equalPC decodeL zeroC doubleC negPC where
  c0 := psL_of (P := BJ.Pt.zero) (P2 := BJ.Pt.zero) (P4 := BJ.Pt.zero) (psA_of enc0 zz2 zz2 (by simp) (by simp) (by simp)) enc0 z_neg no0
  c1 := psL_of (P := ptT) (P2 := BJ.Pt.zero) (P4 := BJ.Pt.zero) (psA_of enc1 ptt2 zz2 (by simp [t_ne]) (by simp) (by simp)) enc1 t_neg no1
  c2 := psG_of (psA_of enc2 ii2 ptt2 (by simp [i_ne]) (by simp [t_ne]) (by simp)) enc2 enc3 rfl (Ne.symm in_ne)
  c3 := psG_of (psA_of enc3 nn2 ptt2 (by simp [n_ne]) (by simp [t_ne]) (by simp)) enc3 enc2 (neg_neg ptI).symm in_ne
def TrueQ (v : LV) : Prop := ∀ β L val, v.den β L val → (nB true).den β L val
theorem trueQ_lit : TrueQ (LV.one (.sc (.bool (.lit true)))) := fun _ _ _ h => h
theorem trueQ_sym {b : Bool} (h : b = true) : TrueQ (LV.one (.sc (.bool (.sym b)))) := fun _ _ _ hv => by subst h; exact hv
theorem ps0_sat {eq : Pt → Pt → Bool} {de : List Int → Pt × Bool} {b0 z : Pt} {dbl : Pt → Pt} {pl : Pt → Pt → Pt} {neg : Pt → Pt} {en : Pt → List Int} (H : PsH eq de z dbl neg) :
    ∃ t_ : Ev.End, fnT Try.prog (psTab' eq de b0 z dbl pl neg en) [] Try.f3 (litA 0) [] [.auto] = t_ ∧ t_.sat fun v hp' => TrueQ v ∧ hp' = applyD [] [] := by
  refine ⟨_, ps0_tree .., ?_⟩
  exact ⟨rfl, by decide, fun h => neFail H.c0.a0 h, fun _ => ⟨fun h => neFail H.c0.a1 h, fun _ => ⟨fun h => neFail H.c0.a2 h, fun _ => ⟨rfl, fun _ => ⟨fun _ => ⟨trueQ_sym H.c0.self, rfl⟩, fun h => okFail (congrArg (fun b => !b) H.c0.no) h⟩, fun h => okFail H.c0.ok h⟩⟩⟩⟩
theorem ps1_sat {eq : Pt → Pt → Bool} {de : List Int → Pt × Bool} {b0 z : Pt} {dbl : Pt → Pt} {pl : Pt → Pt → Pt} {neg : Pt → Pt} {en : Pt → List Int} (H : PsH eq de z dbl neg) :
    ∃ t_ : Ev.End, fnT Try.prog (psTab' eq de b0 z dbl pl neg en) [] Try.f3 (litA 1) [] [.auto] = t_ ∧ t_.sat fun v hp' => TrueQ v ∧ hp' = applyD [] [] := by
  refine ⟨_, ps1_tree .., ?_⟩
  exact ⟨rfl, by decide, fun h => neFail H.c1.a0 h, fun _ => ⟨fun h => neFail H.c1.a1 h, fun _ => ⟨fun h => neFail H.c1.a2 h, fun _ => ⟨rfl, fun _ => ⟨fun _ => ⟨trueQ_sym H.c1.self, rfl⟩, fun h => okFail (congrArg (fun b => !b) H.c1.no) h⟩, fun h => okFail H.c1.ok h⟩⟩⟩⟩
theorem ps2_sat {eq : Pt → Pt → Bool} {de : List Int → Pt × Bool} {b0 z : Pt} {dbl : Pt → Pt} {pl : Pt → Pt → Pt} {neg : Pt → Pt} {en : Pt → List Int} (H : PsH eq de z dbl neg) :
    ∃ t_ : Ev.End, fnT Try.prog (psTab' eq de b0 z dbl pl neg en) [] Try.f3 (litA 2) [] [.auto] = t_ ∧ t_.sat fun v hp' => TrueQ v ∧ hp' = applyD [] [] := by
  refine ⟨_, ps2_tree .., ?_⟩
  exact ⟨rfl, by decide, fun h => neFail H.c2.a0 h, fun _ => ⟨fun h => neFail H.c2.a1 h, fun _ => ⟨fun h => neFail H.c2.a2 h, fun _ => ⟨rfl, fun _ => ⟨fun _ => ⟨fun _ => ⟨trueQ_sym (congrArg (fun b => !b) H.c2.ne), rfl⟩, fun h => okFail H.c2.turn h⟩, fun h => okFail H.c2.yes h⟩, fun h => okFail H.c2.ok h⟩⟩⟩⟩
theorem ps3_sat {eq : Pt → Pt → Bool} {de : List Int → Pt × Bool} {b0 z : Pt} {dbl : Pt → Pt} {pl : Pt → Pt → Pt} {neg : Pt → Pt} {en : Pt → List Int} (H : PsH eq de z dbl neg) :
    ∃ t_ : Ev.End, fnT Try.prog (psTab' eq de b0 z dbl pl neg en) [] Try.f3 (litA 3) [] [.auto] = t_ ∧ t_.sat fun v hp' => TrueQ v ∧ hp' = applyD [] [] := by
  refine ⟨_, ps3_tree .., ?_⟩
  exact ⟨rfl, by decide, fun h => neFail H.c3.a0 h, fun _ => ⟨fun h => neFail H.c3.a1 h, fun _ => ⟨fun h => neFail H.c3.a2 h, fun _ => ⟨rfl, fun _ => ⟨fun _ => ⟨fun _ => ⟨trueQ_sym (congrArg (fun b => !b) H.c3.ne), rfl⟩, fun h => okFail H.c3.turn h⟩, fun h => okFail H.c3.yes h⟩, fun h => okFail H.c3.ok h⟩⟩⟩⟩
theorem psS_sat (eq : Pt → Pt → Bool) (de : List Int → Pt × Bool) (b0 z : Pt) (dbl : Pt → Pt) (pl : Pt → Pt → Pt) (neg : Pt → Pt) (en : Pt → List Int) {w : Int} (hw : w < 0 ∨ 3 < w) :
    ∃ t_ : Ev.End, fnT Try.prog (psTab' eq de b0 z dbl pl neg en) [] Try.f3 (iP.wr (w, ())) [] [.auto] = t_ ∧ t_.sat fun v hp' => TrueQ v ∧ hp' = applyD [] [] := by
  refine ⟨_, psS_tree .., ?_⟩
  refine ⟨fun h => ⟨fun _ => ⟨trueQ_lit, rfl⟩, fun h2 => ?_⟩, fun _ => ⟨trueQ_lit, rfl⟩⟩
  exfalso
  have h2 := of_decide_eq_false h2
  simp at h
  omega
theorem palive_sat {eq : Pt → Pt → Bool} {de : List Int → Pt × Bool} {b0 z : Pt} {dbl : Pt → Pt} {pl : Pt → Pt → Pt} {neg : Pt → Pt} {en : Pt → List Int} (h0 : (en b0).getD 0 0 = 88) (h1 : (en b0).getD 1 0 = 102) (h31 : (en b0).getD 31 0 = 102) (he : eq (pl z b0) b0 = true) :
    ∃ t_ : Ev.End, fnT Try.prog (psTab eq de b0 z dbl pl neg en) [] Try.f10 [] [] [.auto] = t_ ∧ t_.sat fun v hp' => (∀ β L val, v.den β L val → (LV.one (.sc (.bool (.lit true)))).den β L val) ∧ hp' = applyD [] [] := by
  refine ⟨_, palive_tree .., ?_⟩
  rw [h0, h1, h31, he]
  exact ⟨fun _ => ⟨fun _ => ⟨fun _ => ⟨fun β L val hv => hv, rfl⟩, fun h => absurd h (by decide)⟩, fun h => absurd h (by decide)⟩, fun h => absurd h (by decide)⟩
noncomputable abbrev psT : List (FuncId × Ent) := psTab equalPC decodeL baseC zeroC doubleC addPC negPC encodeL
theorem psT_ok : ∀ p ∈ psT, p.2.Ok Try.prog p.1 := tabC qequal_ok (tabC qdecode_ok (tabC qbase_ok (tabC qzero_ok (tabC qdouble_ok (tabC qadd_ok (tabC qneg_ok (tabC qencode_ok tab0)))))))
theorem encBase : encodeL baseC = encQ baseP := enc_of rep_base
theorem encB_lit : encQ baseP = 88 :: List.replicate 31 102 := by decide +kernel
theorem palive_ok : trueP.Ok Try.prog 10 := by
  refine Ent.ofOk Try.call10 fun x y Q h => ?_
  have hc : CallsT Try.prog 10 [] [] (fnT Try.prog psT [] Try.f10 [] [] [.auto]) := fnT_ok mixed psT_ok Try.func10 rfl (LOk.nil _)
  have hl : encodeL baseC = 88 :: List.replicate 31 102 := encBase.trans encB_lit
  obtain ⟨t, ht, hs⟩ := palive_sat (eq := equalPC) (de := decodeL) (b0 := baseC) (z := zeroC) (dbl := doubleC) (pl := addPC) (neg := negPC) (en := encodeL) (by rw [hl]; rfl) (by rw [hl]; rfl) (by rw [hl]; rfl) (rep_same (P := baseP) (by have := rep_add rep_zero rep_base; rwa [BJ.Pt.zero_add] at this) rep_base)
  rw [ht] at hc
  exact hc.useD (D := []) hs h.2
noncomputable abbrev psmallE : Ent := Ent.of [] iP lNil fun _ _ => .leaf none (nB true) []
theorem ps_lit {n : Int} {R : LV → Hp → Prop} (h : CallsEv Try.prog 3 (litA n) [] R) : CallsEv Try.prog 3 (iP.wr (n, ())) [] R := fun β w vals hh ha => h β w vals hh (by
  cases ha with
  | cons h1 h2 => exact .cons h1 h2)
theorem psmall_ok : psmallE.Ok Try.prog 3 := by
  refine Ent.ofOk Try.call3 fun x_ y_ Q h => ?_
  obtain ⟨n, _⟩ := x_
  have hl : ∀ xs, CallsT Try.prog 3 xs [] (fnT Try.prog ((10, trueP) :: psT) [] Try.f3 xs [] [.auto]) := fun xs => fnT_ok mixed (tabC palive_ok psT_ok) Try.func3 rfl (LOk.nil _)
  rcases (show n < 0 ∨ 3 < n ∨ n = 0 ∨ n = 1 ∨ n = 2 ∨ n = 3 by omega) with hn | hn | rfl | rfl | rfl | rfl
  · obtain ⟨t, ht, hs⟩ := psS_sat equalPC decodeL baseC zeroC doubleC addPC negPC encodeL (w := n) (.inl hn)
    have hc := hl (iP.wr (n, ())); rw [ht] at hc; exact hc.useD (D := []) hs h.2
  · obtain ⟨t, ht, hs⟩ := psS_sat equalPC decodeL baseC zeroC doubleC addPC negPC encodeL (w := n) (.inr hn)
    have hc := hl (iP.wr (n, ())); rw [ht] at hc; exact hc.useD (D := []) hs h.2
  · obtain ⟨t, ht, hs⟩ := ps0_sat (b0 := baseC) (pl := addPC) (en := encodeL) psH
    have hc := hl (litA 0); rw [ht] at hc; exact ps_lit (hc.useD (D := []) hs h.2)
  · obtain ⟨t, ht, hs⟩ := ps1_sat (b0 := baseC) (pl := addPC) (en := encodeL) psH
    have hc := hl (litA 1); rw [ht] at hc; exact ps_lit (hc.useD (D := []) hs h.2)
  · obtain ⟨t, ht, hs⟩ := ps2_sat (b0 := baseC) (pl := addPC) (en := encodeL) psH
    have hc := hl (litA 2); rw [ht] at hc; exact ps_lit (hc.useD (D := []) hs h.2)
  · obtain ⟨t, ht, hs⟩ := ps3_sat (b0 := baseC) (pl := addPC) (en := encodeL) psH
    have hc := hl (litA 3); rw [ht] at hc; exact ps_lit (hc.useD (D := []) hs h.2)
end Go.Proofs.Ythdfifcgobfgdaa
end
