/- What the laws lean on, part 6: a reader of code, plain facts, and what each function gives; no conditions. -/
import Derived.Test.YthdfifcgobfgdaaA5
section
set_option linter.unusedVariables false
set_option linter.unusedSimpArgs false
namespace Go.Proofs.Ythdfifcgobfgdaa
open Go Go.Ev BJ
set_option maxRecDepth 1000000
abbrev u8A : Cod (List LV) (Int × Unit) := lCons (vOne (sInt .u8)) lNil
def digit8 (c : Int) : Int := if 97 ≤ c then IntKind.u8.wrap (IntKind.u8.wrap (c - 97) + 10) else IntKind.u8.wrap (c - 48)
noncomputable def digitE : Ent := Ent.ofS [] (u8A) (lNil) fun x_ y_ => (fun (c : Int) => .leaf none ((.one (.sc (.int .u8 (.sym (digit8 c)))))) []) x_.1
theorem digit_tree (c : Int) : fnT Try.prog [] [] Try.f66 ((u8A).wr (c, ())) ((lNil).wr ()) [.fr [.sym], .auto] =
    End.ite (decide ((97 : Int) ≤ c))
      (End.leaf
        (LV.one (VV.sc (SV.int IntKind.u8 (SI.sym (IntKind.u8.wrap (IntKind.u8.wrap (c - (97 : Int)) + (10 : Int))))))) [])
      (End.leaf (LV.one (VV.sc (SV.int IntKind.u8 (SI.sym (IntKind.u8.wrap (c - (48 : Int))))))) []) := by kernel_rfl
theorem digit_ok : digitE.Ok Try.prog 66 := by
  refine (Ent.ofOk Try.call66 fun x_ y_ Q H_ => ?_).sym
  obtain ⟨c, _⟩ := x_
  have hq := H_.2
  refine (fnT_ok mixed tab0 Try.func66 rfl (LT := []) (ks := [.fr [.sym], .auto]) (LOk.nil _)).use (D := []) ?_ hq
  show (fnT _ _ _ _ ((u8A).wr (c, ())) ((lNil).wr ()) _).sat _
  rw [digit_tree]
  unfold digit8
  exact ⟨fun h => by rw [if_pos (of_decide_eq_true h)]; exact ⟨rfl, rfl⟩, fun h => by rw [if_neg (of_decide_eq_false h)]; exact ⟨rfl, rfl⟩⟩
abbrev stI : Cod (List LV) (List Int × Int × Unit) := lCons (vOne sStr) (lCons (vOne (sInt .i64)) lNil)
def eDig (g : Int → Int) : Ent := Ent.ofS [] u8A lNil fun x _ => .leaf none (.one (.sc (.int .u8 (.sym (g x.1))))) []
def twoS (dig : Int → Int) (s : List Int) (i : Int) : Int := IntKind.u8.wrap (IntKind.u8.wrap (16 * dig (s.getD (2 * i).toNat 0)) + dig (s.getD (2 * i + 1).toNat 0))
def eTwo (g : List Int → Int → Int) : Ent := Ent.ofS [] stI lNil fun x _ => .leaf (some (0 ≤ x.2.1 ∧ 2 * x.2.1 + 1 < x.1.length ∧ x.1.length < 1000 ∧ AllBy x.1)) (.one (.sc (.int .u8 (.sym (g x.1 x.2.1))))) []
noncomputable abbrev twoE : Ent := eTwo (twoS digit8)
theorem two_tree (dig : Int → Int) (s : List Int) (i : Int) : fnT Try.prog [(66, eDig dig)] [] Try.f29 ((stI).wr (s, i, ())) [] [.fr [.keep, .sym], .auto] =
    End.need
      ((0 : Int) ≤ IntKind.i64.wrap ((2 : Int) * i) ∧
        IntKind.i64.wrap ((2 : Int) * i) < (↑s.length : Int) ∧
          (0 : Int) ≤ s.getD (IntKind.i64.wrap ((2 : Int) * i)).toNat (0 : Int) ∧
            s.getD (IntKind.i64.wrap ((2 : Int) * i)).toNat (0 : Int) < (256 : Int))
      (End.need
        ((0 : Int) ≤ IntKind.i64.wrap (IntKind.i64.wrap ((2 : Int) * i) + (1 : Int)) ∧
          IntKind.i64.wrap (IntKind.i64.wrap ((2 : Int) * i) + (1 : Int)) < (↑s.length : Int) ∧
            (0 : Int) ≤ s.getD (IntKind.i64.wrap (IntKind.i64.wrap ((2 : Int) * i) + (1 : Int))).toNat (0 : Int) ∧
              s.getD (IntKind.i64.wrap (IntKind.i64.wrap ((2 : Int) * i) + (1 : Int))).toNat (0 : Int) < (256 : Int))
        (End.leaf
          (LV.one
            (VV.sc
              (SV.int IntKind.u8
                (SI.sym
                  (IntKind.u8.wrap
                    (IntKind.u8.wrap ((16 : Int) * dig (s.getD (IntKind.i64.wrap ((2 : Int) * i)).toNat (0 : Int))) +
                      dig (s.getD (IntKind.i64.wrap (IntKind.i64.wrap ((2 : Int) * i) + (1 : Int))).toNat (0 : Int))))))))
          [])) := by kernel_rfl
theorem two_tab_ : ∀ p_ ∈ ([(66, eDig digit8)] : List (FuncId × Ent)), p_.2.Ok Try.prog p_.1 := (tabC digit_ok tab0)
theorem two_ok : twoE.Ok Try.prog 29 := by
  refine (Ent.ofOk Try.call29 fun x_ y_ Q H_ => ?_).sym
  obtain ⟨s, i, _⟩ := x_
  obtain ⟨hn, hq⟩ := H_
  have hn : 0 ≤ i ∧ 2 * i + 1 < s.length ∧ s.length < 1000 ∧ AllBy s := hn
  refine (fnT_ok (tab := [(66, eDig digit8)]) mixed two_tab_ Try.func29 rfl (LT := []) (ks := [.fr [.keep, .sym], .auto]) (LOk.nil _)).use (D := []) ?_ hq
  show (fnT _ _ _ _ ((stI).wr (s, i, ())) [] _).sat _
  rw [two_tree digit8]
  obtain ⟨h0, h1, h2, h3⟩ := hn
  have e1 : IntKind.i64.wrap (2 * i) = 2 * i := wrap_ok (by omega) (by omega)
  have e2 : IntKind.i64.wrap (2 * i + 1) = 2 * i + 1 := wrap_ok (by omega) (by omega)
  rw [e1, e2]
  have b1 := InB.getD (by decide) (show InB 256 s from h3) (2 * i).toNat
  have b2 := InB.getD (by decide) (show InB 256 s from h3) (2 * i + 1).toNat
  exact ⟨⟨by omega, by omega, b1.1, b1.2⟩, ⟨by omega, by omega, b2.1, b2.2⟩, rfl, rfl⟩
noncomputable abbrev knFn : Func := Try.f7
abbrev knC : Cod (List LV) (Int × Int × Unit) := (lCons (vOne (sInt .i64)) (jk 3 (lSkip (vOne (sSl 0 0)) (lSkip (vOne (sPtr 1 0)) (lCons (vOne (sInt .i64)) (jk 66 lNil))))))
abbrev knCf : Wk := .fr (fmS 73 [(0, .sym), (4, .keep), (5, .keep), (6, .sym)])
abbrev knX : Cod (List LV) (Int × Unit) := (lCons (vOne (sInt .i64)) (jk 3 (lSkip (vOne (sSl 0 0)) (lSkip (vOne (sPtr 1 0)) (jk 67 lNil)))))
abbrev knXf : Wk := .fr (fmS 73 [(0, .sym), (4, .keep), (5, .keep)])
abbrev knH : Cod Hp (List (List Int) × List Int × Unit) := lCons (iOwn 0 .str) (lCons (iRow 23 .u8 32) lNil)
def knW : Exit → List Wk
  | .normal => [knCf, .rowB 1 0 32 .u8, .auto]
  | .exit 0 => [knXf, .rowB 1 0 32 .u8, .auto]
  | _ => []
theorem kn_rnd (two : List Int → Int → Int) (w i : Int) (l : List (List Int)) (s : List Int) : rndT Try.prog [(29, eTwo two)] [] knFn 0 [] knW ((stC knC knH).wr ((w, i, ()), (l, s, ()))) =
    Res.ite (decide (i < (32 : Int)))
      (Res.need ((0 : Int) ≤ (0 : Int) ∧ (0 : Int) < (↑l.length : Int))
        (Res.need
          ((0 : Int) ≤ i ∧
            (2 : Int) * i + (1 : Int) < (↑(List.length (l.getD (0 : Nat) [])) : Int) ∧
              List.length (l.getD (0 : Nat) []) < (1000 : Nat) ∧ AllBy (l.getD (0 : Nat) []))
          (Res.need ((0 : Int) ≤ i ∧ i < (32 : Int))
            (Res.leaf Exit.normal
              ((stC knC knH).wr
                ((w, IntKind.i64.wrap (i + (1 : Int)), PUnit.unit), l,
                  s.set ((0 : Nat) + i.toNat) (two (l.getD (0 : Nat) []) i), PUnit.unit))))))
      (Res.leaf (Exit.exit (0 : Nat)) ((stC knX knH).wr ((w, PUnit.unit), l, s, PUnit.unit))) := by kernel_rfl
abbrev knT : Type := (Int × Int × Unit) × List (List Int) × List Int × Unit
def okS (l : List (List Int)) : Prop := 0 < l.length ∧ (l.getD 0 []).length = 64 ∧ AllBy (l.getD 0 [])
def knLF (sd : List Int → List Int) (x : knT) : Res := .need (x.1.2.1 = 0 ∧ okS x.2.1 ∧ x.2.2.1.length = 32) (.leaf (.exit 0) ((stC knX knH).wr ((x.1.1, ()), (x.2.1, sd (x.2.1.getD 0 []), ()))))
def seedS (two : List Int → Int → Int) (l : List Int) : List Int := (List.range 32).map fun (i : Nat) => two l (i : Int)
theorem twoT_ok : ∀ p ∈ [((29, eTwo (twoS digit8)) : FuncId × Ent)], p.2.Ok Try.prog p.1 := tabC two_ok tab0
theorem kn_loop (x : knT) : Ex Try.prog [] (.loop (loopAt knFn 0)) ((stC knC knH).wr x) (knLF (seedS (twoS digit8)) x) := by
  obtain ⟨⟨w, i, _⟩, l, s, _⟩ := x
  refine Ex.need fun ⟨h1, h2, h3⟩ => ?_
  simp only at h1 h2 h3
  subst h1
  have key := loopUp (fn := knFn) (id := 0) (j := 0) (ws := knW) (hp := []) mixed twoT_ok (LOk.nil _) 32 (fun k (o : List Int) => (stC knC knH).wr ((w, (k : Int), ()), (l, o, ()))) (fun o => (stC knX knH).wr ((w, ()), (l, o, ()))) (fun k o => o.set k (twoS digit8 (l.getD 0 []) (k : Int))) (fun _ o => o.length = 32)
    (fun k o R hk ho hn hx => ?_) (fun _ _ _ h => by simpa using h) 0 s (by omega) h3
  · rw [upto_fill (fun k => twoS digit8 (l.getD 0 []) (k : Int)) h3] at key
    exact key
  rw [kn_rnd (twoS digit8)]
  obtain ⟨g1, g2, g3⟩ := h2
  generalize l.getD 0 [] = m at *
  refine ⟨fun hb => ?_, fun hb => ?_⟩
  · have hk' : k < 32 := by have := of_decide_eq_true hb; omega
    rw [Int.toNat_natCast, Nat.zero_add, wrap_succ k (by omega)]
    exact ⟨by omega, ⟨by omega, by omega, by omega, g3⟩, by omega, hn hk'⟩
  · have : k = 32 := by have := of_decide_eq_false hb; omega
    exact hx this
noncomputable abbrev knLT (sd : List Int → List Int) : LTab := [(0, loopF (stC knC knH) 0 [knCf, .rowB 1 0 32 .u8, .auto] (knLF sd))]
noncomputable abbrev knTab (sign : List Int → List Int → List Int → List Int × Int) (ver : List Int → List Int → List Int → List Int → Bool) (pub pre sha : List Int → List Int) (two : List Int → Int → Int) : List (FuncId × Ent) := (30, eSha sha) :: (29, eTwo two) :: edTab' sign ver pub pre
theorem known_tree (sd : List Int → List Int) (sign : List Int → List Int → List Int → List Int × Int) (ver : List Int → List Int → List Int → List Int → Bool) (pub pre sha : List Int → List Int) (two : List Int → Int → Int) (w : Int) : fnT Try.prog (knTab sign ver pub pre sha two) (knLT sd) knFn (iA.wr (w, ())) [] [.fr [.sym], .auto] =
    End.ite (decide (w < (0 : Int)) == false)
      (End.ite (decide ((63 : Int) < w)) (End.leaf (LV.one (VV.sc (SV.bool (SB.sym true)))) [])
        (End.need
          ((0 : Int) = (0 : Int) ∧
            okS
                [List.map (fun x => (↑x.toNat : Int))
                    [(56 : UInt8), (51 : UInt8), (51 : UInt8), (102 : UInt8), (101 : UInt8), (54 : UInt8), (50 : UInt8),
                      (52 : UInt8), (48 : UInt8), (57 : UInt8), (50 : UInt8), (51 : UInt8), (55 : UInt8), (98 : UInt8),
                      (57 : UInt8), (100 : UInt8), (54 : UInt8), (50 : UInt8), (101 : UInt8), (99 : UInt8), (55 : UInt8),
                      (55 : UInt8), (53 : UInt8), (56 : UInt8), (55 : UInt8), (53 : UInt8), (50 : UInt8), (48 : UInt8),
                      (57 : UInt8), (49 : UInt8), (49 : UInt8), (101 : UInt8), (57 : UInt8), (97 : UInt8), (55 : UInt8),
                      (53 : UInt8), (57 : UInt8), (99 : UInt8), (101 : UInt8), (99 : UInt8), (49 : UInt8), (100 : UInt8),
                      (49 : UInt8), (57 : UInt8), (55 : UInt8), (53 : UInt8), (53 : UInt8), (98 : UInt8), (55 : UInt8),
                      (100 : UInt8), (97 : UInt8), (57 : UInt8), (48 : UInt8), (49 : UInt8), (98 : UInt8), (57 : UInt8),
                      (54 : UInt8), (100 : UInt8), (99 : UInt8), (97 : UInt8), (51 : UInt8), (100 : UInt8), (52 : UInt8),
                      (50 : UInt8)],
                  List.map (fun x => (↑x.toNat : Int))
                    [(101 : UInt8), (99 : UInt8), (49 : UInt8), (55 : UInt8), (50 : UInt8), (98 : UInt8), (57 : UInt8),
                      (51 : UInt8), (97 : UInt8), (100 : UInt8), (53 : UInt8), (101 : UInt8), (53 : UInt8), (54 : UInt8),
                      (51 : UInt8), (98 : UInt8), (102 : UInt8), (52 : UInt8), (57 : UInt8), (51 : UInt8), (50 : UInt8),
                      (99 : UInt8), (55 : UInt8), (48 : UInt8), (101 : UInt8), (49 : UInt8), (50 : UInt8), (52 : UInt8),
                      (53 : UInt8), (48 : UInt8), (51 : UInt8), (52 : UInt8), (99 : UInt8), (51 : UInt8), (53 : UInt8),
                      (52 : UInt8), (54 : UInt8), (55 : UInt8), (101 : UInt8), (102 : UInt8), (50 : UInt8), (101 : UInt8),
                      (102 : UInt8), (100 : UInt8), (52 : UInt8), (100 : UInt8), (54 : UInt8), (52 : UInt8), (101 : UInt8),
                      (98 : UInt8), (102 : UInt8), (56 : UInt8), (49 : UInt8), (57 : UInt8), (54 : UInt8), (56 : UInt8),
                      (51 : UInt8), (52 : UInt8), (54 : UInt8), (55 : UInt8), (101 : UInt8), (50 : UInt8), (98 : UInt8),
                      (102 : UInt8)],
                  List.map (fun x => (↑x.toNat : Int))
                    [(57 : UInt8), (56 : UInt8), (97 : UInt8), (55 : UInt8), (48 : UInt8), (50 : UInt8), (50 : UInt8),
                      (50 : UInt8), (102 : UInt8), (48 : UInt8), (98 : UInt8), (56 : UInt8), (49 : UInt8), (50 : UInt8),
                      (49 : UInt8), (97 : UInt8), (97 : UInt8), (57 : UInt8), (100 : UInt8), (51 : UInt8), (48 : UInt8),
                      (102 : UInt8), (56 : UInt8), (49 : UInt8), (51 : UInt8), (100 : UInt8), (54 : UInt8), (56 : UInt8),
                      (51 : UInt8), (102 : UInt8), (56 : UInt8), (48 : UInt8), (57 : UInt8), (101 : UInt8), (52 : UInt8),
                      (54 : UInt8), (50 : UInt8), (98 : UInt8), (52 : UInt8), (54 : UInt8), (57 : UInt8), (99 : UInt8),
                      (55 : UInt8), (102 : UInt8), (102 : UInt8), (56 : UInt8), (55 : UInt8), (54 : UInt8), (51 : UInt8),
                      (57 : UInt8), (52 : UInt8), (57 : UInt8), (57 : UInt8), (98 : UInt8), (98 : UInt8), (57 : UInt8),
                      (52 : UInt8), (101 : UInt8), (54 : UInt8), (100 : UInt8), (97 : UInt8), (101 : UInt8), (52 : UInt8),
                      (49 : UInt8), (51 : UInt8), (49 : UInt8), (102 : UInt8), (56 : UInt8), (53 : UInt8), (48 : UInt8),
                      (52 : UInt8), (50 : UInt8), (52 : UInt8), (54 : UInt8), (51 : UInt8), (99 : UInt8), (50 : UInt8),
                      (97 : UInt8), (51 : UInt8), (53 : UInt8), (53 : UInt8), (97 : UInt8), (50 : UInt8), (48 : UInt8),
                      (48 : UInt8), (51 : UInt8), (100 : UInt8), (48 : UInt8), (54 : UInt8), (50 : UInt8), (97 : UInt8),
                      (100 : UInt8), (102 : UInt8), (53 : UInt8), (97 : UInt8), (97 : UInt8), (97 : UInt8), (49 : UInt8),
                      (48 : UInt8), (98 : UInt8), (56 : UInt8), (99 : UInt8), (54 : UInt8), (49 : UInt8), (101 : UInt8),
                      (54 : UInt8), (51 : UInt8), (54 : UInt8), (48 : UInt8), (54 : UInt8), (50 : UInt8), (97 : UInt8),
                      (97 : UInt8), (97 : UInt8), (100 : UInt8), (49 : UInt8), (49 : UInt8), (99 : UInt8), (50 : UInt8),
                      (97 : UInt8), (50 : UInt8), (54 : UInt8), (48 : UInt8), (56 : UInt8), (51 : UInt8), (52 : UInt8),
                      (48 : UInt8), (54 : UInt8)]] ∧
              (32 : Nat) = (32 : Nat))
          (End.need ((1 : Nat) < (2305843009213693952 : Nat) ∧ (3 : Nat) < (1152921504606846976 : Nat))
            (End.need
              ((sd
                      ([List.map (fun x => (↑x.toNat : Int))
                              [(56 : UInt8), (51 : UInt8), (51 : UInt8), (102 : UInt8), (101 : UInt8), (54 : UInt8),
                                (50 : UInt8), (52 : UInt8), (48 : UInt8), (57 : UInt8), (50 : UInt8), (51 : UInt8),
                                (55 : UInt8), (98 : UInt8), (57 : UInt8), (100 : UInt8), (54 : UInt8), (50 : UInt8),
                                (101 : UInt8), (99 : UInt8), (55 : UInt8), (55 : UInt8), (53 : UInt8), (56 : UInt8),
                                (55 : UInt8), (53 : UInt8), (50 : UInt8), (48 : UInt8), (57 : UInt8), (49 : UInt8),
                                (49 : UInt8), (101 : UInt8), (57 : UInt8), (97 : UInt8), (55 : UInt8), (53 : UInt8),
                                (57 : UInt8), (99 : UInt8), (101 : UInt8), (99 : UInt8), (49 : UInt8), (100 : UInt8),
                                (49 : UInt8), (57 : UInt8), (55 : UInt8), (53 : UInt8), (53 : UInt8), (98 : UInt8),
                                (55 : UInt8), (100 : UInt8), (97 : UInt8), (57 : UInt8), (48 : UInt8), (49 : UInt8),
                                (98 : UInt8), (57 : UInt8), (54 : UInt8), (100 : UInt8), (99 : UInt8), (97 : UInt8),
                                (51 : UInt8), (100 : UInt8), (52 : UInt8), (50 : UInt8)],
                            List.map (fun x => (↑x.toNat : Int))
                              [(101 : UInt8), (99 : UInt8), (49 : UInt8), (55 : UInt8), (50 : UInt8), (98 : UInt8),
                                (57 : UInt8), (51 : UInt8), (97 : UInt8), (100 : UInt8), (53 : UInt8), (101 : UInt8),
                                (53 : UInt8), (54 : UInt8), (51 : UInt8), (98 : UInt8), (102 : UInt8), (52 : UInt8),
                                (57 : UInt8), (51 : UInt8), (50 : UInt8), (99 : UInt8), (55 : UInt8), (48 : UInt8),
                                (101 : UInt8), (49 : UInt8), (50 : UInt8), (52 : UInt8), (53 : UInt8), (48 : UInt8),
                                (51 : UInt8), (52 : UInt8), (99 : UInt8), (51 : UInt8), (53 : UInt8), (52 : UInt8),
                                (54 : UInt8), (55 : UInt8), (101 : UInt8), (102 : UInt8), (50 : UInt8), (101 : UInt8),
                                (102 : UInt8), (100 : UInt8), (52 : UInt8), (100 : UInt8), (54 : UInt8), (52 : UInt8),
                                (101 : UInt8), (98 : UInt8), (102 : UInt8), (56 : UInt8), (49 : UInt8), (57 : UInt8),
                                (54 : UInt8), (56 : UInt8), (51 : UInt8), (52 : UInt8), (54 : UInt8), (55 : UInt8),
                                (101 : UInt8), (50 : UInt8), (98 : UInt8), (102 : UInt8)],
                            List.map (fun x => (↑x.toNat : Int))
                              [(57 : UInt8), (56 : UInt8), (97 : UInt8), (55 : UInt8), (48 : UInt8), (50 : UInt8),
                                (50 : UInt8), (50 : UInt8), (102 : UInt8), (48 : UInt8), (98 : UInt8), (56 : UInt8),
                                (49 : UInt8), (50 : UInt8), (49 : UInt8), (97 : UInt8), (97 : UInt8), (57 : UInt8),
                                (100 : UInt8), (51 : UInt8), (48 : UInt8), (102 : UInt8), (56 : UInt8), (49 : UInt8),
                                (51 : UInt8), (100 : UInt8), (54 : UInt8), (56 : UInt8), (51 : UInt8), (102 : UInt8),
                                (56 : UInt8), (48 : UInt8), (57 : UInt8), (101 : UInt8), (52 : UInt8), (54 : UInt8),
                                (50 : UInt8), (98 : UInt8), (52 : UInt8), (54 : UInt8), (57 : UInt8), (99 : UInt8),
                                (55 : UInt8), (102 : UInt8), (102 : UInt8), (56 : UInt8), (55 : UInt8), (54 : UInt8),
                                (51 : UInt8), (57 : UInt8), (52 : UInt8), (57 : UInt8), (57 : UInt8), (98 : UInt8),
                                (98 : UInt8), (57 : UInt8), (52 : UInt8), (101 : UInt8), (54 : UInt8), (100 : UInt8),
                                (97 : UInt8), (101 : UInt8), (52 : UInt8), (49 : UInt8), (51 : UInt8), (49 : UInt8),
                                (102 : UInt8), (56 : UInt8), (53 : UInt8), (48 : UInt8), (52 : UInt8), (50 : UInt8),
                                (52 : UInt8), (54 : UInt8), (51 : UInt8), (99 : UInt8), (50 : UInt8), (97 : UInt8),
                                (51 : UInt8), (53 : UInt8), (53 : UInt8), (97 : UInt8), (50 : UInt8), (48 : UInt8),
                                (48 : UInt8), (51 : UInt8), (100 : UInt8), (48 : UInt8), (54 : UInt8), (50 : UInt8),
                                (97 : UInt8), (100 : UInt8), (102 : UInt8), (53 : UInt8), (97 : UInt8), (97 : UInt8),
                                (97 : UInt8), (49 : UInt8), (48 : UInt8), (98 : UInt8), (56 : UInt8), (99 : UInt8),
                                (54 : UInt8), (49 : UInt8), (101 : UInt8), (54 : UInt8), (51 : UInt8), (54 : UInt8),
                                (48 : UInt8), (54 : UInt8), (50 : UInt8), (97 : UInt8), (97 : UInt8), (97 : UInt8),
                                (100 : UInt8), (49 : UInt8), (49 : UInt8), (99 : UInt8), (50 : UInt8), (97 : UInt8),
                                (50 : UInt8), (54 : UInt8), (48 : UInt8), (56 : UInt8), (51 : UInt8), (52 : UInt8),
                                (48 : UInt8), (54 : UInt8)]].getD
                        (0 : Nat) [])).length =
                  (32 : Nat) ∧
                (sha [[(97 : Int), (98 : Int), (99 : Int)]].flatten).length = (64 : Nat))
              (End.need
                ((sd
                      ([List.map (fun x => (↑x.toNat : Int))
                              [(56 : UInt8), (51 : UInt8), (51 : UInt8), (102 : UInt8), (101 : UInt8), (54 : UInt8),
                                (50 : UInt8), (52 : UInt8), (48 : UInt8), (57 : UInt8), (50 : UInt8), (51 : UInt8),
                                (55 : UInt8), (98 : UInt8), (57 : UInt8), (100 : UInt8), (54 : UInt8), (50 : UInt8),
                                (101 : UInt8), (99 : UInt8), (55 : UInt8), (55 : UInt8), (53 : UInt8), (56 : UInt8),
                                (55 : UInt8), (53 : UInt8), (50 : UInt8), (48 : UInt8), (57 : UInt8), (49 : UInt8),
                                (49 : UInt8), (101 : UInt8), (57 : UInt8), (97 : UInt8), (55 : UInt8), (53 : UInt8),
                                (57 : UInt8), (99 : UInt8), (101 : UInt8), (99 : UInt8), (49 : UInt8), (100 : UInt8),
                                (49 : UInt8), (57 : UInt8), (55 : UInt8), (53 : UInt8), (53 : UInt8), (98 : UInt8),
                                (55 : UInt8), (100 : UInt8), (97 : UInt8), (57 : UInt8), (48 : UInt8), (49 : UInt8),
                                (98 : UInt8), (57 : UInt8), (54 : UInt8), (100 : UInt8), (99 : UInt8), (97 : UInt8),
                                (51 : UInt8), (100 : UInt8), (52 : UInt8), (50 : UInt8)],
                            List.map (fun x => (↑x.toNat : Int))
                              [(101 : UInt8), (99 : UInt8), (49 : UInt8), (55 : UInt8), (50 : UInt8), (98 : UInt8),
                                (57 : UInt8), (51 : UInt8), (97 : UInt8), (100 : UInt8), (53 : UInt8), (101 : UInt8),
                                (53 : UInt8), (54 : UInt8), (51 : UInt8), (98 : UInt8), (102 : UInt8), (52 : UInt8),
                                (57 : UInt8), (51 : UInt8), (50 : UInt8), (99 : UInt8), (55 : UInt8), (48 : UInt8),
                                (101 : UInt8), (49 : UInt8), (50 : UInt8), (52 : UInt8), (53 : UInt8), (48 : UInt8),
                                (51 : UInt8), (52 : UInt8), (99 : UInt8), (51 : UInt8), (53 : UInt8), (52 : UInt8),
                                (54 : UInt8), (55 : UInt8), (101 : UInt8), (102 : UInt8), (50 : UInt8), (101 : UInt8),
                                (102 : UInt8), (100 : UInt8), (52 : UInt8), (100 : UInt8), (54 : UInt8), (52 : UInt8),
                                (101 : UInt8), (98 : UInt8), (102 : UInt8), (56 : UInt8), (49 : UInt8), (57 : UInt8),
                                (54 : UInt8), (56 : UInt8), (51 : UInt8), (52 : UInt8), (54 : UInt8), (55 : UInt8),
                                (101 : UInt8), (50 : UInt8), (98 : UInt8), (102 : UInt8)],
                            List.map (fun x => (↑x.toNat : Int))
                              [(57 : UInt8), (56 : UInt8), (97 : UInt8), (55 : UInt8), (48 : UInt8), (50 : UInt8),
                                (50 : UInt8), (50 : UInt8), (102 : UInt8), (48 : UInt8), (98 : UInt8), (56 : UInt8),
                                (49 : UInt8), (50 : UInt8), (49 : UInt8), (97 : UInt8), (97 : UInt8), (57 : UInt8),
                                (100 : UInt8), (51 : UInt8), (48 : UInt8), (102 : UInt8), (56 : UInt8), (49 : UInt8),
                                (51 : UInt8), (100 : UInt8), (54 : UInt8), (56 : UInt8), (51 : UInt8), (102 : UInt8),
                                (56 : UInt8), (48 : UInt8), (57 : UInt8), (101 : UInt8), (52 : UInt8), (54 : UInt8),
                                (50 : UInt8), (98 : UInt8), (52 : UInt8), (54 : UInt8), (57 : UInt8), (99 : UInt8),
                                (55 : UInt8), (102 : UInt8), (102 : UInt8), (56 : UInt8), (55 : UInt8), (54 : UInt8),
                                (51 : UInt8), (57 : UInt8), (52 : UInt8), (57 : UInt8), (57 : UInt8), (98 : UInt8),
                                (98 : UInt8), (57 : UInt8), (52 : UInt8), (101 : UInt8), (54 : UInt8), (100 : UInt8),
                                (97 : UInt8), (101 : UInt8), (52 : UInt8), (49 : UInt8), (51 : UInt8), (49 : UInt8),
                                (102 : UInt8), (56 : UInt8), (53 : UInt8), (48 : UInt8), (52 : UInt8), (50 : UInt8),
                                (52 : UInt8), (54 : UInt8), (51 : UInt8), (99 : UInt8), (50 : UInt8), (97 : UInt8),
                                (51 : UInt8), (53 : UInt8), (53 : UInt8), (97 : UInt8), (50 : UInt8), (48 : UInt8),
                                (48 : UInt8), (51 : UInt8), (100 : UInt8), (48 : UInt8), (54 : UInt8), (50 : UInt8),
                                (97 : UInt8), (100 : UInt8), (102 : UInt8), (53 : UInt8), (97 : UInt8), (97 : UInt8),
                                (97 : UInt8), (49 : UInt8), (48 : UInt8), (98 : UInt8), (56 : UInt8), (99 : UInt8),
                                (54 : UInt8), (49 : UInt8), (101 : UInt8), (54 : UInt8), (51 : UInt8), (54 : UInt8),
                                (48 : UInt8), (54 : UInt8), (50 : UInt8), (97 : UInt8), (97 : UInt8), (97 : UInt8),
                                (100 : UInt8), (49 : UInt8), (49 : UInt8), (99 : UInt8), (50 : UInt8), (97 : UInt8),
                                (50 : UInt8), (54 : UInt8), (48 : UInt8), (56 : UInt8), (51 : UInt8), (52 : UInt8),
                                (48 : UInt8), (54 : UInt8)]].getD
                        (0 : Nat) [])).length =
                  (32 : Nat))
                (End.ite
                  (((sign
                          (sd
                            ([List.map (fun x => (↑x.toNat : Int))
                                    [(56 : UInt8), (51 : UInt8), (51 : UInt8), (102 : UInt8), (101 : UInt8), (54 : UInt8),
                                      (50 : UInt8), (52 : UInt8), (48 : UInt8), (57 : UInt8), (50 : UInt8), (51 : UInt8),
                                      (55 : UInt8), (98 : UInt8), (57 : UInt8), (100 : UInt8), (54 : UInt8), (50 : UInt8),
                                      (101 : UInt8), (99 : UInt8), (55 : UInt8), (55 : UInt8), (53 : UInt8), (56 : UInt8),
                                      (55 : UInt8), (53 : UInt8), (50 : UInt8), (48 : UInt8), (57 : UInt8), (49 : UInt8),
                                      (49 : UInt8), (101 : UInt8), (57 : UInt8), (97 : UInt8), (55 : UInt8), (53 : UInt8),
                                      (57 : UInt8), (99 : UInt8), (101 : UInt8), (99 : UInt8), (49 : UInt8), (100 : UInt8),
                                      (49 : UInt8), (57 : UInt8), (55 : UInt8), (53 : UInt8), (53 : UInt8), (98 : UInt8),
                                      (55 : UInt8), (100 : UInt8), (97 : UInt8), (57 : UInt8), (48 : UInt8), (49 : UInt8),
                                      (98 : UInt8), (57 : UInt8), (54 : UInt8), (100 : UInt8), (99 : UInt8), (97 : UInt8),
                                      (51 : UInt8), (100 : UInt8), (52 : UInt8), (50 : UInt8)],
                                  List.map (fun x => (↑x.toNat : Int))
                                    [(101 : UInt8), (99 : UInt8), (49 : UInt8), (55 : UInt8), (50 : UInt8), (98 : UInt8),
                                      (57 : UInt8), (51 : UInt8), (97 : UInt8), (100 : UInt8), (53 : UInt8), (101 : UInt8),
                                      (53 : UInt8), (54 : UInt8), (51 : UInt8), (98 : UInt8), (102 : UInt8), (52 : UInt8),
                                      (57 : UInt8), (51 : UInt8), (50 : UInt8), (99 : UInt8), (55 : UInt8), (48 : UInt8),
                                      (101 : UInt8), (49 : UInt8), (50 : UInt8), (52 : UInt8), (53 : UInt8), (48 : UInt8),
                                      (51 : UInt8), (52 : UInt8), (99 : UInt8), (51 : UInt8), (53 : UInt8), (52 : UInt8),
                                      (54 : UInt8), (55 : UInt8), (101 : UInt8), (102 : UInt8), (50 : UInt8), (101 : UInt8),
                                      (102 : UInt8), (100 : UInt8), (52 : UInt8), (100 : UInt8), (54 : UInt8), (52 : UInt8),
                                      (101 : UInt8), (98 : UInt8), (102 : UInt8), (56 : UInt8), (49 : UInt8), (57 : UInt8),
                                      (54 : UInt8), (56 : UInt8), (51 : UInt8), (52 : UInt8), (54 : UInt8), (55 : UInt8),
                                      (101 : UInt8), (50 : UInt8), (98 : UInt8), (102 : UInt8)],
                                  List.map (fun x => (↑x.toNat : Int))
                                    [(57 : UInt8), (56 : UInt8), (97 : UInt8), (55 : UInt8), (48 : UInt8), (50 : UInt8),
                                      (50 : UInt8), (50 : UInt8), (102 : UInt8), (48 : UInt8), (98 : UInt8), (56 : UInt8),
                                      (49 : UInt8), (50 : UInt8), (49 : UInt8), (97 : UInt8), (97 : UInt8), (57 : UInt8),
                                      (100 : UInt8), (51 : UInt8), (48 : UInt8), (102 : UInt8), (56 : UInt8), (49 : UInt8),
                                      (51 : UInt8), (100 : UInt8), (54 : UInt8), (56 : UInt8), (51 : UInt8), (102 : UInt8),
                                      (56 : UInt8), (48 : UInt8), (57 : UInt8), (101 : UInt8), (52 : UInt8), (54 : UInt8),
                                      (50 : UInt8), (98 : UInt8), (52 : UInt8), (54 : UInt8), (57 : UInt8), (99 : UInt8),
                                      (55 : UInt8), (102 : UInt8), (102 : UInt8), (56 : UInt8), (55 : UInt8), (54 : UInt8),
                                      (51 : UInt8), (57 : UInt8), (52 : UInt8), (57 : UInt8), (57 : UInt8), (98 : UInt8),
                                      (98 : UInt8), (57 : UInt8), (52 : UInt8), (101 : UInt8), (54 : UInt8), (100 : UInt8),
                                      (97 : UInt8), (101 : UInt8), (52 : UInt8), (49 : UInt8), (51 : UInt8), (49 : UInt8),
                                      (102 : UInt8), (56 : UInt8), (53 : UInt8), (48 : UInt8), (52 : UInt8), (50 : UInt8),
                                      (52 : UInt8), (54 : UInt8), (51 : UInt8), (99 : UInt8), (50 : UInt8), (97 : UInt8),
                                      (51 : UInt8), (53 : UInt8), (53 : UInt8), (97 : UInt8), (50 : UInt8), (48 : UInt8),
                                      (48 : UInt8), (51 : UInt8), (100 : UInt8), (48 : UInt8), (54 : UInt8), (50 : UInt8),
                                      (97 : UInt8), (100 : UInt8), (102 : UInt8), (53 : UInt8), (97 : UInt8), (97 : UInt8),
                                      (97 : UInt8), (49 : UInt8), (48 : UInt8), (98 : UInt8), (56 : UInt8), (99 : UInt8),
                                      (54 : UInt8), (49 : UInt8), (101 : UInt8), (54 : UInt8), (51 : UInt8), (54 : UInt8),
                                      (48 : UInt8), (54 : UInt8), (50 : UInt8), (97 : UInt8), (97 : UInt8), (97 : UInt8),
                                      (100 : UInt8), (49 : UInt8), (49 : UInt8), (99 : UInt8), (50 : UInt8), (97 : UInt8),
                                      (50 : UInt8), (54 : UInt8), (48 : UInt8), (56 : UInt8), (51 : UInt8), (52 : UInt8),
                                      (48 : UInt8), (54 : UInt8)]].getD
                              (0 : Nat) []))
                          [] (sha [[(97 : Int), (98 : Int), (99 : Int)]].flatten)).snd ==
                      (0 : Int)) ==
                    true)
                  (End.need ((0 : Int) ≤ w ∧ w < (64 : Int))
                    (End.need ((0 : Int) ≤ (2 : Int) ∧ (2 : Int) < (3 : Int))
                      (End.need
                        ((0 : Int) ≤ w ∧
                          (2 : Int) * w + (1 : Int) < (128 : Int) ∧
                            (128 : Nat) < (1000 : Nat) ∧
                              AllBy
                                ([List.map (fun x => (↑x.toNat : Int))
                                        [(56 : UInt8), (51 : UInt8), (51 : UInt8), (102 : UInt8), (101 : UInt8),
                                          (54 : UInt8), (50 : UInt8), (52 : UInt8), (48 : UInt8), (57 : UInt8),
                                          (50 : UInt8), (51 : UInt8), (55 : UInt8), (98 : UInt8), (57 : UInt8),
                                          (100 : UInt8), (54 : UInt8), (50 : UInt8), (101 : UInt8), (99 : UInt8),
                                          (55 : UInt8), (55 : UInt8), (53 : UInt8), (56 : UInt8), (55 : UInt8),
                                          (53 : UInt8), (50 : UInt8), (48 : UInt8), (57 : UInt8), (49 : UInt8),
                                          (49 : UInt8), (101 : UInt8), (57 : UInt8), (97 : UInt8), (55 : UInt8),
                                          (53 : UInt8), (57 : UInt8), (99 : UInt8), (101 : UInt8), (99 : UInt8),
                                          (49 : UInt8), (100 : UInt8), (49 : UInt8), (57 : UInt8), (55 : UInt8),
                                          (53 : UInt8), (53 : UInt8), (98 : UInt8), (55 : UInt8), (100 : UInt8),
                                          (97 : UInt8), (57 : UInt8), (48 : UInt8), (49 : UInt8), (98 : UInt8),
                                          (57 : UInt8), (54 : UInt8), (100 : UInt8), (99 : UInt8), (97 : UInt8),
                                          (51 : UInt8), (100 : UInt8), (52 : UInt8), (50 : UInt8)],
                                      List.map (fun x => (↑x.toNat : Int))
                                        [(101 : UInt8), (99 : UInt8), (49 : UInt8), (55 : UInt8), (50 : UInt8),
                                          (98 : UInt8), (57 : UInt8), (51 : UInt8), (97 : UInt8), (100 : UInt8),
                                          (53 : UInt8), (101 : UInt8), (53 : UInt8), (54 : UInt8), (51 : UInt8),
                                          (98 : UInt8), (102 : UInt8), (52 : UInt8), (57 : UInt8), (51 : UInt8),
                                          (50 : UInt8), (99 : UInt8), (55 : UInt8), (48 : UInt8), (101 : UInt8),
                                          (49 : UInt8), (50 : UInt8), (52 : UInt8), (53 : UInt8), (48 : UInt8),
                                          (51 : UInt8), (52 : UInt8), (99 : UInt8), (51 : UInt8), (53 : UInt8),
                                          (52 : UInt8), (54 : UInt8), (55 : UInt8), (101 : UInt8), (102 : UInt8),
                                          (50 : UInt8), (101 : UInt8), (102 : UInt8), (100 : UInt8), (52 : UInt8),
                                          (100 : UInt8), (54 : UInt8), (52 : UInt8), (101 : UInt8), (98 : UInt8),
                                          (102 : UInt8), (56 : UInt8), (49 : UInt8), (57 : UInt8), (54 : UInt8),
                                          (56 : UInt8), (51 : UInt8), (52 : UInt8), (54 : UInt8), (55 : UInt8),
                                          (101 : UInt8), (50 : UInt8), (98 : UInt8), (102 : UInt8)],
                                      List.map (fun x => (↑x.toNat : Int))
                                        [(57 : UInt8), (56 : UInt8), (97 : UInt8), (55 : UInt8), (48 : UInt8), (50 : UInt8),
                                          (50 : UInt8), (50 : UInt8), (102 : UInt8), (48 : UInt8), (98 : UInt8),
                                          (56 : UInt8), (49 : UInt8), (50 : UInt8), (49 : UInt8), (97 : UInt8),
                                          (97 : UInt8), (57 : UInt8), (100 : UInt8), (51 : UInt8), (48 : UInt8),
                                          (102 : UInt8), (56 : UInt8), (49 : UInt8), (51 : UInt8), (100 : UInt8),
                                          (54 : UInt8), (56 : UInt8), (51 : UInt8), (102 : UInt8), (56 : UInt8),
                                          (48 : UInt8), (57 : UInt8), (101 : UInt8), (52 : UInt8), (54 : UInt8),
                                          (50 : UInt8), (98 : UInt8), (52 : UInt8), (54 : UInt8), (57 : UInt8),
                                          (99 : UInt8), (55 : UInt8), (102 : UInt8), (102 : UInt8), (56 : UInt8),
                                          (55 : UInt8), (54 : UInt8), (51 : UInt8), (57 : UInt8), (52 : UInt8),
                                          (57 : UInt8), (57 : UInt8), (98 : UInt8), (98 : UInt8), (57 : UInt8),
                                          (52 : UInt8), (101 : UInt8), (54 : UInt8), (100 : UInt8), (97 : UInt8),
                                          (101 : UInt8), (52 : UInt8), (49 : UInt8), (51 : UInt8), (49 : UInt8),
                                          (102 : UInt8), (56 : UInt8), (53 : UInt8), (48 : UInt8), (52 : UInt8),
                                          (50 : UInt8), (52 : UInt8), (54 : UInt8), (51 : UInt8), (99 : UInt8),
                                          (50 : UInt8), (97 : UInt8), (51 : UInt8), (53 : UInt8), (53 : UInt8),
                                          (97 : UInt8), (50 : UInt8), (48 : UInt8), (48 : UInt8), (51 : UInt8),
                                          (100 : UInt8), (48 : UInt8), (54 : UInt8), (50 : UInt8), (97 : UInt8),
                                          (100 : UInt8), (102 : UInt8), (53 : UInt8), (97 : UInt8), (97 : UInt8),
                                          (97 : UInt8), (49 : UInt8), (48 : UInt8), (98 : UInt8), (56 : UInt8),
                                          (99 : UInt8), (54 : UInt8), (49 : UInt8), (101 : UInt8), (54 : UInt8),
                                          (51 : UInt8), (54 : UInt8), (48 : UInt8), (54 : UInt8), (50 : UInt8),
                                          (97 : UInt8), (97 : UInt8), (97 : UInt8), (100 : UInt8), (49 : UInt8),
                                          (49 : UInt8), (99 : UInt8), (50 : UInt8), (97 : UInt8), (50 : UInt8),
                                          (54 : UInt8), (48 : UInt8), (56 : UInt8), (51 : UInt8), (52 : UInt8),
                                          (48 : UInt8), (54 : UInt8)]].getD
                                  (2 : Nat) []))
                        (End.ite
                          (((List.take (64 : Nat)
                                    (List.drop (0 : Nat)
                                      (sign
                                          (sd
                                            ([List.map (fun x => (↑x.toNat : Int))
                                                    [(56 : UInt8), (51 : UInt8), (51 : UInt8), (102 : UInt8), (101 : UInt8),
                                                      (54 : UInt8), (50 : UInt8), (52 : UInt8), (48 : UInt8), (57 : UInt8),
                                                      (50 : UInt8), (51 : UInt8), (55 : UInt8), (98 : UInt8), (57 : UInt8),
                                                      (100 : UInt8), (54 : UInt8), (50 : UInt8), (101 : UInt8),
                                                      (99 : UInt8), (55 : UInt8), (55 : UInt8), (53 : UInt8), (56 : UInt8),
                                                      (55 : UInt8), (53 : UInt8), (50 : UInt8), (48 : UInt8), (57 : UInt8),
                                                      (49 : UInt8), (49 : UInt8), (101 : UInt8), (57 : UInt8), (97 : UInt8),
                                                      (55 : UInt8), (53 : UInt8), (57 : UInt8), (99 : UInt8), (101 : UInt8),
                                                      (99 : UInt8), (49 : UInt8), (100 : UInt8), (49 : UInt8), (57 : UInt8),
                                                      (55 : UInt8), (53 : UInt8), (53 : UInt8), (98 : UInt8), (55 : UInt8),
                                                      (100 : UInt8), (97 : UInt8), (57 : UInt8), (48 : UInt8), (49 : UInt8),
                                                      (98 : UInt8), (57 : UInt8), (54 : UInt8), (100 : UInt8), (99 : UInt8),
                                                      (97 : UInt8), (51 : UInt8), (100 : UInt8), (52 : UInt8),
                                                      (50 : UInt8)],
                                                  List.map (fun x => (↑x.toNat : Int))
                                                    [(101 : UInt8), (99 : UInt8), (49 : UInt8), (55 : UInt8), (50 : UInt8),
                                                      (98 : UInt8), (57 : UInt8), (51 : UInt8), (97 : UInt8), (100 : UInt8),
                                                      (53 : UInt8), (101 : UInt8), (53 : UInt8), (54 : UInt8), (51 : UInt8),
                                                      (98 : UInt8), (102 : UInt8), (52 : UInt8), (57 : UInt8), (51 : UInt8),
                                                      (50 : UInt8), (99 : UInt8), (55 : UInt8), (48 : UInt8), (101 : UInt8),
                                                      (49 : UInt8), (50 : UInt8), (52 : UInt8), (53 : UInt8), (48 : UInt8),
                                                      (51 : UInt8), (52 : UInt8), (99 : UInt8), (51 : UInt8), (53 : UInt8),
                                                      (52 : UInt8), (54 : UInt8), (55 : UInt8), (101 : UInt8),
                                                      (102 : UInt8), (50 : UInt8), (101 : UInt8), (102 : UInt8),
                                                      (100 : UInt8), (52 : UInt8), (100 : UInt8), (54 : UInt8),
                                                      (52 : UInt8), (101 : UInt8), (98 : UInt8), (102 : UInt8),
                                                      (56 : UInt8), (49 : UInt8), (57 : UInt8), (54 : UInt8), (56 : UInt8),
                                                      (51 : UInt8), (52 : UInt8), (54 : UInt8), (55 : UInt8), (101 : UInt8),
                                                      (50 : UInt8), (98 : UInt8), (102 : UInt8)],
                                                  List.map (fun x => (↑x.toNat : Int))
                                                    [(57 : UInt8), (56 : UInt8), (97 : UInt8), (55 : UInt8), (48 : UInt8),
                                                      (50 : UInt8), (50 : UInt8), (50 : UInt8), (102 : UInt8), (48 : UInt8),
                                                      (98 : UInt8), (56 : UInt8), (49 : UInt8), (50 : UInt8), (49 : UInt8),
                                                      (97 : UInt8), (97 : UInt8), (57 : UInt8), (100 : UInt8), (51 : UInt8),
                                                      (48 : UInt8), (102 : UInt8), (56 : UInt8), (49 : UInt8), (51 : UInt8),
                                                      (100 : UInt8), (54 : UInt8), (56 : UInt8), (51 : UInt8),
                                                      (102 : UInt8), (56 : UInt8), (48 : UInt8), (57 : UInt8),
                                                      (101 : UInt8), (52 : UInt8), (54 : UInt8), (50 : UInt8), (98 : UInt8),
                                                      (52 : UInt8), (54 : UInt8), (57 : UInt8), (99 : UInt8), (55 : UInt8),
                                                      (102 : UInt8), (102 : UInt8), (56 : UInt8), (55 : UInt8),
                                                      (54 : UInt8), (51 : UInt8), (57 : UInt8), (52 : UInt8), (57 : UInt8),
                                                      (57 : UInt8), (98 : UInt8), (98 : UInt8), (57 : UInt8), (52 : UInt8),
                                                      (101 : UInt8), (54 : UInt8), (100 : UInt8), (97 : UInt8),
                                                      (101 : UInt8), (52 : UInt8), (49 : UInt8), (51 : UInt8), (49 : UInt8),
                                                      (102 : UInt8), (56 : UInt8), (53 : UInt8), (48 : UInt8), (52 : UInt8),
                                                      (50 : UInt8), (52 : UInt8), (54 : UInt8), (51 : UInt8), (99 : UInt8),
                                                      (50 : UInt8), (97 : UInt8), (51 : UInt8), (53 : UInt8), (53 : UInt8),
                                                      (97 : UInt8), (50 : UInt8), (48 : UInt8), (48 : UInt8), (51 : UInt8),
                                                      (100 : UInt8), (48 : UInt8), (54 : UInt8), (50 : UInt8), (97 : UInt8),
                                                      (100 : UInt8), (102 : UInt8), (53 : UInt8), (97 : UInt8),
                                                      (97 : UInt8), (97 : UInt8), (49 : UInt8), (48 : UInt8), (98 : UInt8),
                                                      (56 : UInt8), (99 : UInt8), (54 : UInt8), (49 : UInt8), (101 : UInt8),
                                                      (54 : UInt8), (51 : UInt8), (54 : UInt8), (48 : UInt8), (54 : UInt8),
                                                      (50 : UInt8), (97 : UInt8), (97 : UInt8), (97 : UInt8), (100 : UInt8),
                                                      (49 : UInt8), (49 : UInt8), (99 : UInt8), (50 : UInt8), (97 : UInt8),
                                                      (50 : UInt8), (54 : UInt8), (48 : UInt8), (56 : UInt8), (51 : UInt8),
                                                      (52 : UInt8), (48 : UInt8), (54 : UInt8)]].getD
                                              (0 : Nat) []))
                                          [] (sha [[(97 : Int), (98 : Int), (99 : Int)]].flatten)).fst)).getD
                                w.toNat (0 : Int) ==
                              two
                                ([List.map (fun x => (↑x.toNat : Int))
                                        [(56 : UInt8), (51 : UInt8), (51 : UInt8), (102 : UInt8), (101 : UInt8),
                                          (54 : UInt8), (50 : UInt8), (52 : UInt8), (48 : UInt8), (57 : UInt8),
                                          (50 : UInt8), (51 : UInt8), (55 : UInt8), (98 : UInt8), (57 : UInt8),
                                          (100 : UInt8), (54 : UInt8), (50 : UInt8), (101 : UInt8), (99 : UInt8),
                                          (55 : UInt8), (55 : UInt8), (53 : UInt8), (56 : UInt8), (55 : UInt8),
                                          (53 : UInt8), (50 : UInt8), (48 : UInt8), (57 : UInt8), (49 : UInt8),
                                          (49 : UInt8), (101 : UInt8), (57 : UInt8), (97 : UInt8), (55 : UInt8),
                                          (53 : UInt8), (57 : UInt8), (99 : UInt8), (101 : UInt8), (99 : UInt8),
                                          (49 : UInt8), (100 : UInt8), (49 : UInt8), (57 : UInt8), (55 : UInt8),
                                          (53 : UInt8), (53 : UInt8), (98 : UInt8), (55 : UInt8), (100 : UInt8),
                                          (97 : UInt8), (57 : UInt8), (48 : UInt8), (49 : UInt8), (98 : UInt8),
                                          (57 : UInt8), (54 : UInt8), (100 : UInt8), (99 : UInt8), (97 : UInt8),
                                          (51 : UInt8), (100 : UInt8), (52 : UInt8), (50 : UInt8)],
                                      List.map (fun x => (↑x.toNat : Int))
                                        [(101 : UInt8), (99 : UInt8), (49 : UInt8), (55 : UInt8), (50 : UInt8),
                                          (98 : UInt8), (57 : UInt8), (51 : UInt8), (97 : UInt8), (100 : UInt8),
                                          (53 : UInt8), (101 : UInt8), (53 : UInt8), (54 : UInt8), (51 : UInt8),
                                          (98 : UInt8), (102 : UInt8), (52 : UInt8), (57 : UInt8), (51 : UInt8),
                                          (50 : UInt8), (99 : UInt8), (55 : UInt8), (48 : UInt8), (101 : UInt8),
                                          (49 : UInt8), (50 : UInt8), (52 : UInt8), (53 : UInt8), (48 : UInt8),
                                          (51 : UInt8), (52 : UInt8), (99 : UInt8), (51 : UInt8), (53 : UInt8),
                                          (52 : UInt8), (54 : UInt8), (55 : UInt8), (101 : UInt8), (102 : UInt8),
                                          (50 : UInt8), (101 : UInt8), (102 : UInt8), (100 : UInt8), (52 : UInt8),
                                          (100 : UInt8), (54 : UInt8), (52 : UInt8), (101 : UInt8), (98 : UInt8),
                                          (102 : UInt8), (56 : UInt8), (49 : UInt8), (57 : UInt8), (54 : UInt8),
                                          (56 : UInt8), (51 : UInt8), (52 : UInt8), (54 : UInt8), (55 : UInt8),
                                          (101 : UInt8), (50 : UInt8), (98 : UInt8), (102 : UInt8)],
                                      List.map (fun x => (↑x.toNat : Int))
                                        [(57 : UInt8), (56 : UInt8), (97 : UInt8), (55 : UInt8), (48 : UInt8), (50 : UInt8),
                                          (50 : UInt8), (50 : UInt8), (102 : UInt8), (48 : UInt8), (98 : UInt8),
                                          (56 : UInt8), (49 : UInt8), (50 : UInt8), (49 : UInt8), (97 : UInt8),
                                          (97 : UInt8), (57 : UInt8), (100 : UInt8), (51 : UInt8), (48 : UInt8),
                                          (102 : UInt8), (56 : UInt8), (49 : UInt8), (51 : UInt8), (100 : UInt8),
                                          (54 : UInt8), (56 : UInt8), (51 : UInt8), (102 : UInt8), (56 : UInt8),
                                          (48 : UInt8), (57 : UInt8), (101 : UInt8), (52 : UInt8), (54 : UInt8),
                                          (50 : UInt8), (98 : UInt8), (52 : UInt8), (54 : UInt8), (57 : UInt8),
                                          (99 : UInt8), (55 : UInt8), (102 : UInt8), (102 : UInt8), (56 : UInt8),
                                          (55 : UInt8), (54 : UInt8), (51 : UInt8), (57 : UInt8), (52 : UInt8),
                                          (57 : UInt8), (57 : UInt8), (98 : UInt8), (98 : UInt8), (57 : UInt8),
                                          (52 : UInt8), (101 : UInt8), (54 : UInt8), (100 : UInt8), (97 : UInt8),
                                          (101 : UInt8), (52 : UInt8), (49 : UInt8), (51 : UInt8), (49 : UInt8),
                                          (102 : UInt8), (56 : UInt8), (53 : UInt8), (48 : UInt8), (52 : UInt8),
                                          (50 : UInt8), (52 : UInt8), (54 : UInt8), (51 : UInt8), (99 : UInt8),
                                          (50 : UInt8), (97 : UInt8), (51 : UInt8), (53 : UInt8), (53 : UInt8),
                                          (97 : UInt8), (50 : UInt8), (48 : UInt8), (48 : UInt8), (51 : UInt8),
                                          (100 : UInt8), (48 : UInt8), (54 : UInt8), (50 : UInt8), (97 : UInt8),
                                          (100 : UInt8), (102 : UInt8), (53 : UInt8), (97 : UInt8), (97 : UInt8),
                                          (97 : UInt8), (49 : UInt8), (48 : UInt8), (98 : UInt8), (56 : UInt8),
                                          (99 : UInt8), (54 : UInt8), (49 : UInt8), (101 : UInt8), (54 : UInt8),
                                          (51 : UInt8), (54 : UInt8), (48 : UInt8), (54 : UInt8), (50 : UInt8),
                                          (97 : UInt8), (97 : UInt8), (97 : UInt8), (100 : UInt8), (49 : UInt8),
                                          (49 : UInt8), (99 : UInt8), (50 : UInt8), (97 : UInt8), (50 : UInt8),
                                          (54 : UInt8), (48 : UInt8), (56 : UInt8), (51 : UInt8), (52 : UInt8),
                                          (48 : UInt8), (54 : UInt8)]].getD
                                  (2 : Nat) [])
                                w) ==
                            true)
                          (End.need ((0 : Int) ≤ w.tmod (32 : Int) ∧ w.tmod (32 : Int) < (32 : Int))
                            (End.need ((0 : Int) ≤ (1 : Int) ∧ (1 : Int) < (3 : Int))
                              (End.need
                                ((0 : Int) ≤ w.tmod (32 : Int) ∧
                                  (2 : Int) * w.tmod (32 : Int) + (1 : Int) < (64 : Int) ∧
                                    (64 : Nat) < (1000 : Nat) ∧
                                      AllBy
                                        ([List.map (fun x => (↑x.toNat : Int))
                                                [(56 : UInt8), (51 : UInt8), (51 : UInt8), (102 : UInt8), (101 : UInt8),
                                                  (54 : UInt8), (50 : UInt8), (52 : UInt8), (48 : UInt8), (57 : UInt8),
                                                  (50 : UInt8), (51 : UInt8), (55 : UInt8), (98 : UInt8), (57 : UInt8),
                                                  (100 : UInt8), (54 : UInt8), (50 : UInt8), (101 : UInt8), (99 : UInt8),
                                                  (55 : UInt8), (55 : UInt8), (53 : UInt8), (56 : UInt8), (55 : UInt8),
                                                  (53 : UInt8), (50 : UInt8), (48 : UInt8), (57 : UInt8), (49 : UInt8),
                                                  (49 : UInt8), (101 : UInt8), (57 : UInt8), (97 : UInt8), (55 : UInt8),
                                                  (53 : UInt8), (57 : UInt8), (99 : UInt8), (101 : UInt8), (99 : UInt8),
                                                  (49 : UInt8), (100 : UInt8), (49 : UInt8), (57 : UInt8), (55 : UInt8),
                                                  (53 : UInt8), (53 : UInt8), (98 : UInt8), (55 : UInt8), (100 : UInt8),
                                                  (97 : UInt8), (57 : UInt8), (48 : UInt8), (49 : UInt8), (98 : UInt8),
                                                  (57 : UInt8), (54 : UInt8), (100 : UInt8), (99 : UInt8), (97 : UInt8),
                                                  (51 : UInt8), (100 : UInt8), (52 : UInt8), (50 : UInt8)],
                                              List.map (fun x => (↑x.toNat : Int))
                                                [(101 : UInt8), (99 : UInt8), (49 : UInt8), (55 : UInt8), (50 : UInt8),
                                                  (98 : UInt8), (57 : UInt8), (51 : UInt8), (97 : UInt8), (100 : UInt8),
                                                  (53 : UInt8), (101 : UInt8), (53 : UInt8), (54 : UInt8), (51 : UInt8),
                                                  (98 : UInt8), (102 : UInt8), (52 : UInt8), (57 : UInt8), (51 : UInt8),
                                                  (50 : UInt8), (99 : UInt8), (55 : UInt8), (48 : UInt8), (101 : UInt8),
                                                  (49 : UInt8), (50 : UInt8), (52 : UInt8), (53 : UInt8), (48 : UInt8),
                                                  (51 : UInt8), (52 : UInt8), (99 : UInt8), (51 : UInt8), (53 : UInt8),
                                                  (52 : UInt8), (54 : UInt8), (55 : UInt8), (101 : UInt8), (102 : UInt8),
                                                  (50 : UInt8), (101 : UInt8), (102 : UInt8), (100 : UInt8), (52 : UInt8),
                                                  (100 : UInt8), (54 : UInt8), (52 : UInt8), (101 : UInt8), (98 : UInt8),
                                                  (102 : UInt8), (56 : UInt8), (49 : UInt8), (57 : UInt8), (54 : UInt8),
                                                  (56 : UInt8), (51 : UInt8), (52 : UInt8), (54 : UInt8), (55 : UInt8),
                                                  (101 : UInt8), (50 : UInt8), (98 : UInt8), (102 : UInt8)],
                                              List.map (fun x => (↑x.toNat : Int))
                                                [(57 : UInt8), (56 : UInt8), (97 : UInt8), (55 : UInt8), (48 : UInt8),
                                                  (50 : UInt8), (50 : UInt8), (50 : UInt8), (102 : UInt8), (48 : UInt8),
                                                  (98 : UInt8), (56 : UInt8), (49 : UInt8), (50 : UInt8), (49 : UInt8),
                                                  (97 : UInt8), (97 : UInt8), (57 : UInt8), (100 : UInt8), (51 : UInt8),
                                                  (48 : UInt8), (102 : UInt8), (56 : UInt8), (49 : UInt8), (51 : UInt8),
                                                  (100 : UInt8), (54 : UInt8), (56 : UInt8), (51 : UInt8), (102 : UInt8),
                                                  (56 : UInt8), (48 : UInt8), (57 : UInt8), (101 : UInt8), (52 : UInt8),
                                                  (54 : UInt8), (50 : UInt8), (98 : UInt8), (52 : UInt8), (54 : UInt8),
                                                  (57 : UInt8), (99 : UInt8), (55 : UInt8), (102 : UInt8), (102 : UInt8),
                                                  (56 : UInt8), (55 : UInt8), (54 : UInt8), (51 : UInt8), (57 : UInt8),
                                                  (52 : UInt8), (57 : UInt8), (57 : UInt8), (98 : UInt8), (98 : UInt8),
                                                  (57 : UInt8), (52 : UInt8), (101 : UInt8), (54 : UInt8), (100 : UInt8),
                                                  (97 : UInt8), (101 : UInt8), (52 : UInt8), (49 : UInt8), (51 : UInt8),
                                                  (49 : UInt8), (102 : UInt8), (56 : UInt8), (53 : UInt8), (48 : UInt8),
                                                  (52 : UInt8), (50 : UInt8), (52 : UInt8), (54 : UInt8), (51 : UInt8),
                                                  (99 : UInt8), (50 : UInt8), (97 : UInt8), (51 : UInt8), (53 : UInt8),
                                                  (53 : UInt8), (97 : UInt8), (50 : UInt8), (48 : UInt8), (48 : UInt8),
                                                  (51 : UInt8), (100 : UInt8), (48 : UInt8), (54 : UInt8), (50 : UInt8),
                                                  (97 : UInt8), (100 : UInt8), (102 : UInt8), (53 : UInt8), (97 : UInt8),
                                                  (97 : UInt8), (97 : UInt8), (49 : UInt8), (48 : UInt8), (98 : UInt8),
                                                  (56 : UInt8), (99 : UInt8), (54 : UInt8), (49 : UInt8), (101 : UInt8),
                                                  (54 : UInt8), (51 : UInt8), (54 : UInt8), (48 : UInt8), (54 : UInt8),
                                                  (50 : UInt8), (97 : UInt8), (97 : UInt8), (97 : UInt8), (100 : UInt8),
                                                  (49 : UInt8), (49 : UInt8), (99 : UInt8), (50 : UInt8), (97 : UInt8),
                                                  (50 : UInt8), (54 : UInt8), (48 : UInt8), (56 : UInt8), (51 : UInt8),
                                                  (52 : UInt8), (48 : UInt8), (54 : UInt8)]].getD
                                          (1 : Nat) []))
                                (End.leaf
                                  (LV.one
                                    (VV.sc
                                      (SV.bool
                                        (SB.sym
                                          ((List.take (32 : Nat)
                                                  (List.drop (0 : Nat)
                                                    (pub
                                                      (sd
                                                        ([List.map (fun x => (↑x.toNat : Int))
                                                                [(56 : UInt8), (51 : UInt8), (51 : UInt8), (102 : UInt8),
                                                                  (101 : UInt8), (54 : UInt8), (50 : UInt8), (52 : UInt8),
                                                                  (48 : UInt8), (57 : UInt8), (50 : UInt8), (51 : UInt8),
                                                                  (55 : UInt8), (98 : UInt8), (57 : UInt8), (100 : UInt8),
                                                                  (54 : UInt8), (50 : UInt8), (101 : UInt8), (99 : UInt8),
                                                                  (55 : UInt8), (55 : UInt8), (53 : UInt8), (56 : UInt8),
                                                                  (55 : UInt8), (53 : UInt8), (50 : UInt8), (48 : UInt8),
                                                                  (57 : UInt8), (49 : UInt8), (49 : UInt8), (101 : UInt8),
                                                                  (57 : UInt8), (97 : UInt8), (55 : UInt8), (53 : UInt8),
                                                                  (57 : UInt8), (99 : UInt8), (101 : UInt8), (99 : UInt8),
                                                                  (49 : UInt8), (100 : UInt8), (49 : UInt8), (57 : UInt8),
                                                                  (55 : UInt8), (53 : UInt8), (53 : UInt8), (98 : UInt8),
                                                                  (55 : UInt8), (100 : UInt8), (97 : UInt8), (57 : UInt8),
                                                                  (48 : UInt8), (49 : UInt8), (98 : UInt8), (57 : UInt8),
                                                                  (54 : UInt8), (100 : UInt8), (99 : UInt8), (97 : UInt8),
                                                                  (51 : UInt8), (100 : UInt8), (52 : UInt8), (50 : UInt8)],
                                                              List.map (fun x => (↑x.toNat : Int))
                                                                [(101 : UInt8), (99 : UInt8), (49 : UInt8), (55 : UInt8),
                                                                  (50 : UInt8), (98 : UInt8), (57 : UInt8), (51 : UInt8),
                                                                  (97 : UInt8), (100 : UInt8), (53 : UInt8), (101 : UInt8),
                                                                  (53 : UInt8), (54 : UInt8), (51 : UInt8), (98 : UInt8),
                                                                  (102 : UInt8), (52 : UInt8), (57 : UInt8), (51 : UInt8),
                                                                  (50 : UInt8), (99 : UInt8), (55 : UInt8), (48 : UInt8),
                                                                  (101 : UInt8), (49 : UInt8), (50 : UInt8), (52 : UInt8),
                                                                  (53 : UInt8), (48 : UInt8), (51 : UInt8), (52 : UInt8),
                                                                  (99 : UInt8), (51 : UInt8), (53 : UInt8), (52 : UInt8),
                                                                  (54 : UInt8), (55 : UInt8), (101 : UInt8), (102 : UInt8),
                                                                  (50 : UInt8), (101 : UInt8), (102 : UInt8), (100 : UInt8),
                                                                  (52 : UInt8), (100 : UInt8), (54 : UInt8), (52 : UInt8),
                                                                  (101 : UInt8), (98 : UInt8), (102 : UInt8), (56 : UInt8),
                                                                  (49 : UInt8), (57 : UInt8), (54 : UInt8), (56 : UInt8),
                                                                  (51 : UInt8), (52 : UInt8), (54 : UInt8), (55 : UInt8),
                                                                  (101 : UInt8), (50 : UInt8), (98 : UInt8), (102 : UInt8)],
                                                              List.map (fun x => (↑x.toNat : Int))
                                                                [(57 : UInt8), (56 : UInt8), (97 : UInt8), (55 : UInt8),
                                                                  (48 : UInt8), (50 : UInt8), (50 : UInt8), (50 : UInt8),
                                                                  (102 : UInt8), (48 : UInt8), (98 : UInt8), (56 : UInt8),
                                                                  (49 : UInt8), (50 : UInt8), (49 : UInt8), (97 : UInt8),
                                                                  (97 : UInt8), (57 : UInt8), (100 : UInt8), (51 : UInt8),
                                                                  (48 : UInt8), (102 : UInt8), (56 : UInt8), (49 : UInt8),
                                                                  (51 : UInt8), (100 : UInt8), (54 : UInt8), (56 : UInt8),
                                                                  (51 : UInt8), (102 : UInt8), (56 : UInt8), (48 : UInt8),
                                                                  (57 : UInt8), (101 : UInt8), (52 : UInt8), (54 : UInt8),
                                                                  (50 : UInt8), (98 : UInt8), (52 : UInt8), (54 : UInt8),
                                                                  (57 : UInt8), (99 : UInt8), (55 : UInt8), (102 : UInt8),
                                                                  (102 : UInt8), (56 : UInt8), (55 : UInt8), (54 : UInt8),
                                                                  (51 : UInt8), (57 : UInt8), (52 : UInt8), (57 : UInt8),
                                                                  (57 : UInt8), (98 : UInt8), (98 : UInt8), (57 : UInt8),
                                                                  (52 : UInt8), (101 : UInt8), (54 : UInt8), (100 : UInt8),
                                                                  (97 : UInt8), (101 : UInt8), (52 : UInt8), (49 : UInt8),
                                                                  (51 : UInt8), (49 : UInt8), (102 : UInt8), (56 : UInt8),
                                                                  (53 : UInt8), (48 : UInt8), (52 : UInt8), (50 : UInt8),
                                                                  (52 : UInt8), (54 : UInt8), (51 : UInt8), (99 : UInt8),
                                                                  (50 : UInt8), (97 : UInt8), (51 : UInt8), (53 : UInt8),
                                                                  (53 : UInt8), (97 : UInt8), (50 : UInt8), (48 : UInt8),
                                                                  (48 : UInt8), (51 : UInt8), (100 : UInt8), (48 : UInt8),
                                                                  (54 : UInt8), (50 : UInt8), (97 : UInt8), (100 : UInt8),
                                                                  (102 : UInt8), (53 : UInt8), (97 : UInt8), (97 : UInt8),
                                                                  (97 : UInt8), (49 : UInt8), (48 : UInt8), (98 : UInt8),
                                                                  (56 : UInt8), (99 : UInt8), (54 : UInt8), (49 : UInt8),
                                                                  (101 : UInt8), (54 : UInt8), (51 : UInt8), (54 : UInt8),
                                                                  (48 : UInt8), (54 : UInt8), (50 : UInt8), (97 : UInt8),
                                                                  (97 : UInt8), (97 : UInt8), (100 : UInt8), (49 : UInt8),
                                                                  (49 : UInt8), (99 : UInt8), (50 : UInt8), (97 : UInt8),
                                                                  (50 : UInt8), (54 : UInt8), (48 : UInt8), (56 : UInt8),
                                                                  (51 : UInt8), (52 : UInt8), (48 : UInt8),
                                                                  (54 : UInt8)]].getD
                                                          (0 : Nat) []))))).getD
                                              (w.tmod (32 : Int)).toNat (0 : Int) ==
                                            two
                                              ([List.map (fun x => (↑x.toNat : Int))
                                                      [(56 : UInt8), (51 : UInt8), (51 : UInt8), (102 : UInt8),
                                                        (101 : UInt8), (54 : UInt8), (50 : UInt8), (52 : UInt8),
                                                        (48 : UInt8), (57 : UInt8), (50 : UInt8), (51 : UInt8),
                                                        (55 : UInt8), (98 : UInt8), (57 : UInt8), (100 : UInt8),
                                                        (54 : UInt8), (50 : UInt8), (101 : UInt8), (99 : UInt8),
                                                        (55 : UInt8), (55 : UInt8), (53 : UInt8), (56 : UInt8),
                                                        (55 : UInt8), (53 : UInt8), (50 : UInt8), (48 : UInt8),
                                                        (57 : UInt8), (49 : UInt8), (49 : UInt8), (101 : UInt8),
                                                        (57 : UInt8), (97 : UInt8), (55 : UInt8), (53 : UInt8),
                                                        (57 : UInt8), (99 : UInt8), (101 : UInt8), (99 : UInt8),
                                                        (49 : UInt8), (100 : UInt8), (49 : UInt8), (57 : UInt8),
                                                        (55 : UInt8), (53 : UInt8), (53 : UInt8), (98 : UInt8),
                                                        (55 : UInt8), (100 : UInt8), (97 : UInt8), (57 : UInt8),
                                                        (48 : UInt8), (49 : UInt8), (98 : UInt8), (57 : UInt8),
                                                        (54 : UInt8), (100 : UInt8), (99 : UInt8), (97 : UInt8),
                                                        (51 : UInt8), (100 : UInt8), (52 : UInt8), (50 : UInt8)],
                                                    List.map (fun x => (↑x.toNat : Int))
                                                      [(101 : UInt8), (99 : UInt8), (49 : UInt8), (55 : UInt8),
                                                        (50 : UInt8), (98 : UInt8), (57 : UInt8), (51 : UInt8),
                                                        (97 : UInt8), (100 : UInt8), (53 : UInt8), (101 : UInt8),
                                                        (53 : UInt8), (54 : UInt8), (51 : UInt8), (98 : UInt8),
                                                        (102 : UInt8), (52 : UInt8), (57 : UInt8), (51 : UInt8),
                                                        (50 : UInt8), (99 : UInt8), (55 : UInt8), (48 : UInt8),
                                                        (101 : UInt8), (49 : UInt8), (50 : UInt8), (52 : UInt8),
                                                        (53 : UInt8), (48 : UInt8), (51 : UInt8), (52 : UInt8),
                                                        (99 : UInt8), (51 : UInt8), (53 : UInt8), (52 : UInt8),
                                                        (54 : UInt8), (55 : UInt8), (101 : UInt8), (102 : UInt8),
                                                        (50 : UInt8), (101 : UInt8), (102 : UInt8), (100 : UInt8),
                                                        (52 : UInt8), (100 : UInt8), (54 : UInt8), (52 : UInt8),
                                                        (101 : UInt8), (98 : UInt8), (102 : UInt8), (56 : UInt8),
                                                        (49 : UInt8), (57 : UInt8), (54 : UInt8), (56 : UInt8),
                                                        (51 : UInt8), (52 : UInt8), (54 : UInt8), (55 : UInt8),
                                                        (101 : UInt8), (50 : UInt8), (98 : UInt8), (102 : UInt8)],
                                                    List.map (fun x => (↑x.toNat : Int))
                                                      [(57 : UInt8), (56 : UInt8), (97 : UInt8), (55 : UInt8), (48 : UInt8),
                                                        (50 : UInt8), (50 : UInt8), (50 : UInt8), (102 : UInt8),
                                                        (48 : UInt8), (98 : UInt8), (56 : UInt8), (49 : UInt8),
                                                        (50 : UInt8), (49 : UInt8), (97 : UInt8), (97 : UInt8),
                                                        (57 : UInt8), (100 : UInt8), (51 : UInt8), (48 : UInt8),
                                                        (102 : UInt8), (56 : UInt8), (49 : UInt8), (51 : UInt8),
                                                        (100 : UInt8), (54 : UInt8), (56 : UInt8), (51 : UInt8),
                                                        (102 : UInt8), (56 : UInt8), (48 : UInt8), (57 : UInt8),
                                                        (101 : UInt8), (52 : UInt8), (54 : UInt8), (50 : UInt8),
                                                        (98 : UInt8), (52 : UInt8), (54 : UInt8), (57 : UInt8),
                                                        (99 : UInt8), (55 : UInt8), (102 : UInt8), (102 : UInt8),
                                                        (56 : UInt8), (55 : UInt8), (54 : UInt8), (51 : UInt8),
                                                        (57 : UInt8), (52 : UInt8), (57 : UInt8), (57 : UInt8),
                                                        (98 : UInt8), (98 : UInt8), (57 : UInt8), (52 : UInt8),
                                                        (101 : UInt8), (54 : UInt8), (100 : UInt8), (97 : UInt8),
                                                        (101 : UInt8), (52 : UInt8), (49 : UInt8), (51 : UInt8),
                                                        (49 : UInt8), (102 : UInt8), (56 : UInt8), (53 : UInt8),
                                                        (48 : UInt8), (52 : UInt8), (50 : UInt8), (52 : UInt8),
                                                        (54 : UInt8), (51 : UInt8), (99 : UInt8), (50 : UInt8),
                                                        (97 : UInt8), (51 : UInt8), (53 : UInt8), (53 : UInt8),
                                                        (97 : UInt8), (50 : UInt8), (48 : UInt8), (48 : UInt8),
                                                        (51 : UInt8), (100 : UInt8), (48 : UInt8), (54 : UInt8),
                                                        (50 : UInt8), (97 : UInt8), (100 : UInt8), (102 : UInt8),
                                                        (53 : UInt8), (97 : UInt8), (97 : UInt8), (97 : UInt8),
                                                        (49 : UInt8), (48 : UInt8), (98 : UInt8), (56 : UInt8),
                                                        (99 : UInt8), (54 : UInt8), (49 : UInt8), (101 : UInt8),
                                                        (54 : UInt8), (51 : UInt8), (54 : UInt8), (48 : UInt8),
                                                        (54 : UInt8), (50 : UInt8), (97 : UInt8), (97 : UInt8),
                                                        (97 : UInt8), (100 : UInt8), (49 : UInt8), (49 : UInt8),
                                                        (99 : UInt8), (50 : UInt8), (97 : UInt8), (50 : UInt8),
                                                        (54 : UInt8), (48 : UInt8), (56 : UInt8), (51 : UInt8),
                                                        (52 : UInt8), (48 : UInt8), (54 : UInt8)]].getD
                                                (1 : Nat) [])
                                              (w.tmod (32 : Int)))))))
                                  []))))
                          (End.leaf (LV.one (VV.sc (SV.bool (SB.sym false)))) [])))))
                  (End.leaf (LV.one (VV.sc (SV.bool (SB.sym false)))) [])))))))
      (End.leaf (LV.one (VV.sc (SV.bool (SB.sym true)))) []) := by kernel_rfl
def knL0 : List Int := List.map (fun x => (x.toNat : Int)) [(56 : UInt8), (51 : UInt8), (51 : UInt8), (102 : UInt8), (101 : UInt8), (54 : UInt8), (50 : UInt8), (52 : UInt8), (48 : UInt8), (57 : UInt8), (50 : UInt8), (51 : UInt8), (55 : UInt8), (98 : UInt8), (57 : UInt8), (100 : UInt8), (54 : UInt8), (50 : UInt8), (101 : UInt8), (99 : UInt8), (55 : UInt8), (55 : UInt8), (53 : UInt8), (56 : UInt8), (55 : UInt8), (53 : UInt8), (50 : UInt8), (48 : UInt8), (57 : UInt8), (49 : UInt8), (49 : UInt8), (101 : UInt8), (57 : UInt8), (97 : UInt8), (55 : UInt8), (53 : UInt8), (57 : UInt8), (99 : UInt8), (101 : UInt8), (99 : UInt8), (49 : UInt8), (100 : UInt8), (49 : UInt8), (57 : UInt8), (55 : UInt8), (53 : UInt8), (53 : UInt8), (98 : UInt8), (55 : UInt8), (100 : UInt8), (97 : UInt8), (57 : UInt8), (48 : UInt8), (49 : UInt8), (98 : UInt8), (57 : UInt8), (54 : UInt8), (100 : UInt8), (99 : UInt8), (97 : UInt8), (51 : UInt8), (100 : UInt8), (52 : UInt8), (50 : UInt8)]
def knL1 : List Int := List.map (fun x => (x.toNat : Int)) [(101 : UInt8), (99 : UInt8), (49 : UInt8), (55 : UInt8), (50 : UInt8), (98 : UInt8), (57 : UInt8), (51 : UInt8), (97 : UInt8), (100 : UInt8), (53 : UInt8), (101 : UInt8), (53 : UInt8), (54 : UInt8), (51 : UInt8), (98 : UInt8), (102 : UInt8), (52 : UInt8), (57 : UInt8), (51 : UInt8), (50 : UInt8), (99 : UInt8), (55 : UInt8), (48 : UInt8), (101 : UInt8), (49 : UInt8), (50 : UInt8), (52 : UInt8), (53 : UInt8), (48 : UInt8), (51 : UInt8), (52 : UInt8), (99 : UInt8), (51 : UInt8), (53 : UInt8), (52 : UInt8), (54 : UInt8), (55 : UInt8), (101 : UInt8), (102 : UInt8), (50 : UInt8), (101 : UInt8), (102 : UInt8), (100 : UInt8), (52 : UInt8), (100 : UInt8), (54 : UInt8), (52 : UInt8), (101 : UInt8), (98 : UInt8), (102 : UInt8), (56 : UInt8), (49 : UInt8), (57 : UInt8), (54 : UInt8), (56 : UInt8), (51 : UInt8), (52 : UInt8), (54 : UInt8), (55 : UInt8), (101 : UInt8), (50 : UInt8), (98 : UInt8), (102 : UInt8)]
def knL2 : List Int := List.map (fun x => (x.toNat : Int)) [(57 : UInt8), (56 : UInt8), (97 : UInt8), (55 : UInt8), (48 : UInt8), (50 : UInt8), (50 : UInt8), (50 : UInt8), (102 : UInt8), (48 : UInt8), (98 : UInt8), (56 : UInt8), (49 : UInt8), (50 : UInt8), (49 : UInt8), (97 : UInt8), (97 : UInt8), (57 : UInt8), (100 : UInt8), (51 : UInt8), (48 : UInt8), (102 : UInt8), (56 : UInt8), (49 : UInt8), (51 : UInt8), (100 : UInt8), (54 : UInt8), (56 : UInt8), (51 : UInt8), (102 : UInt8), (56 : UInt8), (48 : UInt8), (57 : UInt8), (101 : UInt8), (52 : UInt8), (54 : UInt8), (50 : UInt8), (98 : UInt8), (52 : UInt8), (54 : UInt8), (57 : UInt8), (99 : UInt8), (55 : UInt8), (102 : UInt8), (102 : UInt8), (56 : UInt8), (55 : UInt8), (54 : UInt8), (51 : UInt8), (57 : UInt8), (52 : UInt8), (57 : UInt8), (57 : UInt8), (98 : UInt8), (98 : UInt8), (57 : UInt8), (52 : UInt8), (101 : UInt8), (54 : UInt8), (100 : UInt8), (97 : UInt8), (101 : UInt8), (52 : UInt8), (49 : UInt8), (51 : UInt8), (49 : UInt8), (102 : UInt8), (56 : UInt8), (53 : UInt8), (48 : UInt8), (52 : UInt8), (50 : UInt8), (52 : UInt8), (54 : UInt8), (51 : UInt8), (99 : UInt8), (50 : UInt8), (97 : UInt8), (51 : UInt8), (53 : UInt8), (53 : UInt8), (97 : UInt8), (50 : UInt8), (48 : UInt8), (48 : UInt8), (51 : UInt8), (100 : UInt8), (48 : UInt8), (54 : UInt8), (50 : UInt8), (97 : UInt8), (100 : UInt8), (102 : UInt8), (53 : UInt8), (97 : UInt8), (97 : UInt8), (97 : UInt8), (49 : UInt8), (48 : UInt8), (98 : UInt8), (56 : UInt8), (99 : UInt8), (54 : UInt8), (49 : UInt8), (101 : UInt8), (54 : UInt8), (51 : UInt8), (54 : UInt8), (48 : UInt8), (54 : UInt8), (50 : UInt8), (97 : UInt8), (97 : UInt8), (97 : UInt8), (100 : UInt8), (49 : UInt8), (49 : UInt8), (99 : UInt8), (50 : UInt8), (97 : UInt8), (50 : UInt8), (54 : UInt8), (48 : UInt8), (56 : UInt8), (51 : UInt8), (52 : UInt8), (48 : UInt8), (54 : UInt8)]
def seedK : List Int := [131, 63, 230, 36, 9, 35, 123, 157, 98, 236, 119, 88, 117, 32, 145, 30, 154, 117, 156, 236, 29, 25, 117, 91, 125, 169, 1, 185, 109, 202, 61, 66]
def abcK : List Int := [221, 175, 53, 161, 147, 97, 122, 186, 204, 65, 115, 73, 174, 32, 65, 49, 18, 230, 250, 78, 137, 169, 126, 162, 10, 158, 238, 230, 75, 85, 211, 154, 33, 146, 153, 42, 39, 79, 193, 168, 54, 186, 60, 35, 163, 254, 235, 189, 69, 77, 68, 35, 100, 60, 232, 14, 42, 154, 201, 79, 165, 76, 164, 159]
def shaK : List Int := [48, 221, 206, 79, 89, 224, 75, 236, 11, 87, 19, 241, 155, 7, 160, 146, 114, 216, 219, 214, 93, 168, 165, 244, 26, 143, 82, 199, 114, 65, 182, 133, 221, 58, 201, 121, 123, 125, 114, 186, 51, 167, 233, 174, 4, 22, 120, 246, 11, 216, 92, 3, 38, 162, 244, 174, 138, 118, 17, 179, 98, 11, 84, 167]
def secK : List Int := [48, 221, 206, 79, 89, 224, 75, 236, 11, 87, 19, 241, 155, 7, 160, 146, 114, 216, 219, 214, 93, 168, 165, 244, 26, 143, 82, 199, 114, 65, 182, 69]
def pubK : List Int := [236, 23, 43, 147, 173, 94, 86, 59, 244, 147, 44, 112, 225, 36, 80, 52, 195, 84, 103, 239, 46, 253, 77, 100, 235, 248, 25, 104, 52, 103, 226, 191]
def nonK : List Int := [33, 218, 81, 225, 133, 123, 34, 254, 240, 60, 64, 103, 36, 24, 197, 75, 181, 24, 76, 85, 102, 70, 170, 92, 17, 215, 224, 29, 84, 218, 60, 6]
def rK : List Int := [152, 167, 2, 34, 240, 184, 18, 26, 169, 211, 15, 129, 61, 104, 63, 128, 158, 70, 43, 70, 156, 127, 248, 118, 57, 73, 155, 185, 78, 109, 174, 65]
def chK : List Int := [189, 59, 214, 8, 77, 86, 240, 50, 111, 170, 86, 37, 124, 154, 209, 79, 102, 72, 93, 53, 130, 157, 102, 200, 60, 240, 215, 104, 246, 58, 214, 13]
def sK : List Int := [49, 248, 80, 66, 70, 60, 42, 53, 90, 32, 3, 208, 98, 173, 245, 170, 161, 11, 140, 97, 230, 54, 6, 42, 170, 209, 28, 42, 38, 8, 52, 6]
theorem seed_known : seedS (twoS digit8) knL0 = seedK := by decide +kernel
theorem abc_known : shaF [97, 98, 99] = abcK := by decide +kernel
theorem shaS_known : shaF seedK = shaK := by decide +kernel
theorem sec_known : secL seedK = secK := by unfold secL; rw [shaS_known]; decide +kernel
theorem okK {l : List Int} (h : l.length = 32 ∧ (l.all fun z => decide (0 ≤ z) && decide (z < 256)) = true) : okB l := ⟨h.1, fun z hz => by
  have := List.all_eq_true.1 h.2 z hz
  rw [Bool.and_eq_true, decide_eq_true_iff, decide_eq_true_iff] at this
  exact this⟩
theorem enc_known {V x y : Nat} (hV : V < 2 ^ 256) (hx : x < pp) (hy : y < pp) (h : isN V x y = true) : encQ (nsm V baseP) = (if x % 2 = 1 then topSet (bytesF ⟨y, hy⟩) else bytesF ⟨y, hy⟩ : B32).toList := by
  obtain ⟨h1, h2⟩ := isN_pt hV hx hy h
  generalize nsm V baseP = P at *
  unfold encQ encP
  have e : P.y = ⟨y, hy⟩ := Fin.ext h2
  rw [h1, e]
theorem raw_pub : isN 31531604425972617034374315527056165422477269154623932846749706281462965132592 40121575059854498688793601084330139334125048157368472832084429102603245386799 28895729190139806181135174156803260194472099954421499683004293713963394996204 = true := by decide +kernel
theorem raw_r : isN 2821394763871972087834880018021814907263939998324551538291348981804182919713 37750442813091001534647149487115282914670519325060535839806077757598042607784 29708520959958049254284757653261157393222639932192225818182325441449970280344 = true := by decide +kernel
theorem base_known {n : List Int} {V : Nat} (hn : okB n) (h : sc n = V) : encodeL (mbaseL n) = encQ (nsm V baseP) := by rw [← h]; exact enc_of (rep_mbaseL hn)
theorem pub_known : pubL seedK = pubK := by
  unfold pubL
  rw [sec_known, base_known (V := 31531604425972617034374315527056165422477269154623932846749706281462965132592) (okK (by decide)) (by decide +kernel), enc_known (by decide) (by decide) (by decide) raw_pub]
  decide +kernel
theorem non_known : nonL seedK [] abcK = nonK := by
  unfold nonL
  rw [shaS_known]
  decide +kernel
theorem r_known : encodeL (mbaseL nonK) = rK := by
  rw [base_known (V := 2821394763871972087834880018021814907263939998324551538291348981804182919713) (okK (by decide)) (by decide +kernel), enc_known (by decide) (by decide) (by decide) raw_r]
  decide +kernel
theorem ch_known : chalL [] rK pubK abcK = chK := by unfold chalL; decide +kernel
theorem mul_known : mulB chK secK nonK = sK := by decide +kernel
theorem sig_known : signL seedK [] abcK = (rK ++ sK, 0) := by
  rw [signL_eq, if_pos (by decide), sigL, non_known, r_known, pub_known, ch_known, sec_known, mul_known]
theorem sig_all : ∀ k : Fin 64, (List.take 64 (List.drop 0 (rK ++ sK))).getD k.val 0 = twoS digit8 knL2 ((k.val : Nat) : Int) := by decide +kernel
theorem pub_all : ∀ k : Fin 32, (List.take 32 (List.drop 0 pubK)).getD k.val 0 = twoS digit8 knL1 ((k.val : Nat) : Int) := by decide +kernel
theorem knFail {b : Bool} {P : Prop} (H : b = true) (h : (b == true) = false) : P := absurd (h.symm.trans (congrArg (· == true) H)) (by decide)
structure KnH (sd : List Int → List Int) (sign : List Int → List Int → List Int → List Int × Int) (pub sha : List Int → List Int) (two : List Int → Int → Int) : Prop where
  seed : (sd knL0).length = 32
  sum : (sha [97, 98, 99]).length = 64
  ok : ((sign (sd knL0) [] (sha [97, 98, 99])).2 == 0) = true
  sig : ∀ w : Int, 0 ≤ w → w < 64 → ((List.take 64 (List.drop 0 (sign (sd knL0) [] (sha [97, 98, 99])).1)).getD w.toNat 0 == two knL2 w) = true
  key : ∀ w : Int, 0 ≤ w → w < 32 → ((List.take 32 (List.drop 0 (pub (sd knL0)))).getD w.toNat 0 == two knL1 w) = true
theorem knFacts : KnH (seedS (twoS digit8)) signL pubL shaF (twoS digit8) where
  seed := by rw [seed_known]; rfl
  sum := sha_length _
  ok := by rw [seed_known, abc_known, sig_known]; rfl
  sig w h0 h1 := by
    obtain ⟨k, rfl⟩ := Int.eq_ofNat_of_zero_le h0
    rw [seed_known, abc_known, sig_known, Int.toNat_natCast]
    exact beq_iff_eq.2 (sig_all ⟨k, by omega⟩)
  key w h0 h1 := by
    obtain ⟨k, rfl⟩ := Int.eq_ofNat_of_zero_le h0
    rw [seed_known, pub_known, Int.toNat_natCast]
    exact beq_iff_eq.2 (pub_all ⟨k, by omega⟩)
theorem allBy_u8 (l : List UInt8) : AllBy (List.map (fun x => (x.toNat : Int)) l) := fun z hz => by
  obtain ⟨x, _, rfl⟩ := List.mem_map.1 hz
  have := x.toNat_lt
  unfold By; omega
theorem okS_lit : okS [knL0, knL1, knL2] := ⟨by decide, by decide, allBy_u8 _⟩
theorem known_sat {sd : List Int → List Int} {sign : List Int → List Int → List Int → List Int × Int} {ver : List Int → List Int → List Int → List Int → Bool} {pub pre sha : List Int → List Int} {two : List Int → Int → Int} (H : KnH sd sign pub sha two) (w : Int) :
    ∃ t_ : Ev.End, fnT Try.prog (knTab sign ver pub pre sha two) (knLT sd) knFn (iA.wr (w, ())) [] [.fr [.sym], .auto] = t_ ∧ t_.sat fun v hp' => v = nB true ∧ hp' = applyD [] [] := by
  refine ⟨_, known_tree .., ?_⟩
  refine ⟨fun h0 => ⟨fun _ => ⟨rfl, rfl⟩, fun h1 => ?_⟩, fun _ => ⟨rfl, rfl⟩⟩
  have h1 := of_decide_eq_false h1
  have h0 : 0 ≤ w := by simp at h0; omega
  have hm : w.tmod 32 = w % 32 := Int.tmod_eq_emod_of_nonneg h0
  rw [hm]
  exact ⟨⟨rfl, okS_lit, rfl⟩, by decide, ⟨H.seed, H.sum⟩, H.seed, fun _ => ⟨by omega, by decide, ⟨h0, by omega, by decide, allBy_u8 _⟩, fun _ => ⟨by omega, by decide, ⟨by omega, by omega, by decide, allBy_u8 _⟩, nB_eq (H.key (w % 32) (by omega) (by omega)), rfl⟩, fun h => knFail (H.sig w h0 (by omega)) h⟩, fun h => knFail H.ok h⟩
theorem knTab_ok : ∀ p ∈ knTab signL verL pubL preL shaF (twoS digit8), p.2.Ok Try.prog p.1 := tabC of'_ok (tabC two_ok edTab'_ok)
theorem knL_ok : LOk Try.prog [] (knLT (seedS (twoS digit8))) (bodyOf knFn) := LOk.ofTab (LTC rfl (loopF_ok (hp := []) kn_loop) LT0)
noncomputable abbrev knownE : Ent := Ent.ofS [] iA lNil fun _ _ => .leaf none (nB true) []
theorem known_ok : knownE.Ok Try.prog 7 := by
  refine (Ent.ofOk Try.call7 fun x_ y_ Q h => ?_).sym
  obtain ⟨w, _⟩ := x_
  have hc : CallsT Try.prog 7 (iA.wr (w, ())) [] (fnT Try.prog (knTab signL verL pubL preL shaF (twoS digit8)) (knLT (seedS (twoS digit8))) knFn (iA.wr (w, ())) [] [.fr [.sym], .auto]) := fnT_ok mixed knTab_ok Try.func7 rfl knL_ok
  obtain ⟨t', ht, hs⟩ := known_sat (ver := verL) (pre := preL) knFacts w
  rw [ht] at hc
  exact hc.use (D := []) hs h.2
end Go.Proofs.Ythdfifcgobfgdaa
end
