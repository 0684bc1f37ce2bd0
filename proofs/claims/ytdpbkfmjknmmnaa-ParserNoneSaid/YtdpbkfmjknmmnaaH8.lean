/- Parsers: how many bytes are lacking. -/
import Derived.Test.YtdpbkfmjknmmnaaH7
set_option linter.unusedVariables false
set_option linter.unusedSimpArgs false
namespace Go.Proofs.Ytdpbkfmjknmmnaa
open Go Go.Ev
set_option maxRecDepth 100000
noncomputable abbrev wFn : Func := Try.f5
noncomputable abbrev wTab : List (FuncId × Ent) := [(19, alive27E), (21, newE), (23, wantE), (24, byteE), (25, numE)]
abbrev wtC : Cod (List LV) (List Int × Int × Unit) := lCons (vOne (sRd false false u8)) (jk 3 (lSkip p0 (lCons (vOne (sInt .i64)) (jk 84 lNil))))
abbrev wtX : Cod (List LV) Unit := jk 90 lNil
abbrev wtR : Cod (List LV) (Bool × Unit) := jk 2 (lCons (vOne sBool) (jk 87 lNil))
abbrev wtK : List Wk := [.fr (fmS 90 [(0, .keep), (4, .keep), (5, .sym)]), symP, .auto]
def wtW : Exit → List Wk
  | .normal => wtK
  | .exit _ => [.fr (fmS 90 []), .auto]
  | .ret => [.fr (fmS 90 [(2, .sym)]), .auto]
  | _ => []
theorem wTab_ok : ∀ p ∈ wTab, p.2.Ok Try.prog p.1 := tabC alive27_ok (tabC new_ok (tabC want_ok (tabC byte_ok (tabC num_ok' tab0))))
theorem w_rnd (p : PP) (l : List Int) (i : Int) : rndT Try.prog wTab [] wFn 0 [] wtW ((stC wtC hpP).wr ((l, i, ()), (p, ()))) =
    Res.ite (decide (i < ↑l.length))
      (Res.need ((0 : Int) ≤ i ∧ i < ↑l.length)
        (Res.need
          (p.bad = false →
            ¬p.part = (0 : Int) →
              (0 : Int) ≤ p.len ∧
                p.len < (4096 : Int) ∧ p.buf.length = (4096 : Nat) ∧ (p.part = (4 : Int) → p.want = (4 : Int)))
          (Res.ite ((byteF p (l.getD i.toNat (0 : Int))).snd.snd.snd.snd != (0 : Int))
            (Res.ite (((byteF p (l.getD i.toNat (0 : Int))).snd.snd.snd.snd == (6 : Int)) == true)
              (Res.ite ((!(byteF p (l.getD i.toNat (0 : Int))).snd.snd.snd.fst) == true)
                (Res.ite ((↑(byteF p (l.getD i.toNat (0 : Int))).snd.snd.fst.length == (0 : Int)) == true)
                  (Res.ite
                    (((if (byteF p (l.getD i.toNat (0 : Int))).fst.bad = true then (0 : Int)
                        else
                          IntKind.i64.wrap
                            ((byteF p (l.getD i.toNat (0 : Int))).fst.want -
                              (byteF p (l.getD i.toNat (0 : Int))).fst.len)) ==
                        (0 : Int)) ==
                      true)
                    (Res.leaf Exit.ret
                      ((stC wtR lNil).wr
                        ((decide ((if p.bad = true then (0 : Int) else IntKind.i64.wrap (p.want - p.len)) ≤ (1 : Int)),
                            PUnit.unit),
                          PUnit.unit)))
                    (Res.leaf Exit.ret ((stC wtR lNil).wr ((false, PUnit.unit), PUnit.unit))))
                  (Res.leaf Exit.ret ((stC wtR lNil).wr ((false, PUnit.unit), PUnit.unit))))
                (Res.leaf Exit.ret ((stC wtR lNil).wr ((false, PUnit.unit), PUnit.unit))))
              (Res.leaf Exit.ret ((stC wtR lNil).wr ((false, PUnit.unit), PUnit.unit))))
            (Res.ite (decide ((if p.bad = true then (0 : Int) else IntKind.i64.wrap (p.want - p.len)) < (1 : Int)) == false)
              (Res.ite
                ((!(byteF p (l.getD i.toNat (0 : Int))).snd.snd.snd.fst ==
                      ((if p.bad = true then (0 : Int) else IntKind.i64.wrap (p.want - p.len)) == (1 : Int))) ==
                  false)
                (Res.ite ((!(byteF p (l.getD i.toNat (0 : Int))).snd.snd.snd.fst) == true)
                  (Res.ite
                    ((if (byteF p (l.getD i.toNat (0 : Int))).fst.bad = true then (0 : Int)
                      else
                        IntKind.i64.wrap
                          ((byteF p (l.getD i.toNat (0 : Int))).fst.want - (byteF p (l.getD i.toNat (0 : Int))).fst.len)) !=
                      IntKind.i64.wrap
                        ((if p.bad = true then (0 : Int) else IntKind.i64.wrap (p.want - p.len)) - (1 : Int)))
                    (Res.leaf Exit.ret ((stC wtR lNil).wr ((false, PUnit.unit), PUnit.unit)))
                    (Res.leaf Exit.normal
                      ((stC wtC hpP).wr
                        ((l, IntKind.i64.wrap (i + (1 : Int)), PUnit.unit), (byteF p (l.getD i.toNat (0 : Int))).fst,
                          PUnit.unit))))
                  (Res.leaf Exit.normal
                    ((stC wtC hpP).wr
                      ((l, IntKind.i64.wrap (i + (1 : Int)), PUnit.unit), (byteF p (l.getD i.toNat (0 : Int))).fst,
                        PUnit.unit))))
                (Res.leaf Exit.ret ((stC wtR lNil).wr ((false, PUnit.unit), PUnit.unit))))
              (Res.leaf Exit.ret ((stC wtR lNil).wr ((false, PUnit.unit), PUnit.unit)))))))
      (Res.leaf (Exit.exit (0 : Nat)) ((stC wtX lNil).wr (PUnit.unit, PUnit.unit))) := by kernel_rfl
def wantF (p : PP) : Int := if p.bad = true then 0 else IntKind.i64.wrap (p.want - p.len)
theorem w_step {p : PP} {r : RR} (h : Sim p r) {b : Int} (hb : By b) :
    ((byteF p b).2 = (0, [], false, 6) ∧ (byteF p b).1.bad = true ∧ wantF p ≤ 1) ∨
    ((byteF p b).2.2.2.2 = 0 ∧ 1 ≤ wantF p ∧ (byteF p b).2.2.2.1 = (wantF p == 1) ∧ ((byteF p b).2.2.2.1 = false → wantF (byteF p b).1 = IntKind.i64.wrap (wantF p - 1))) := by
  by_cases hdone : p.bad = true ∨ p.part = 0
  · left
    unfold byteF
    rw [if_pos hdone]
    refine ⟨rfl, rfl, ?_⟩
    unfold wantF
    cases hp : p.bad with
    | true => simp
    | false =>
      have h0 : p.part = 0 := by rcases hdone with h1 | h1; · rw [hp] at h1; cases h1
                                 · exact h1
      obtain ⟨e1, e2⟩ := h.fin hp (by rw [← h.whole, h0]; rfl)
      rw [e1, e2]; simp; decide
  · have h1 : p.bad = false := by cases hp : p.bad <;> simp_all
    have h2 : p.part ≠ 0 := fun e => hdone (.inr e)
    have hw : r.whole = false := by rw [← h.whole]; simpa using h2
    have hrun := h.run' h1 hw
    have hlt' := hrun.lt
    have hmax := hrun.max
    have hlen := hrun.len
    have hwr : IntKind.i64.wrap (p.len + 1) = p.len + 1 := wrap_ok (by omega) (by omega)
    have hwant : wantF p = p.want - p.len := by unfold wantF; rw [h1]; simp; exact wrap_ok (by omega) (by omega)
    unfold byteF
    rw [if_neg hdone]
    simp only [hwr]
    by_cases hq : p.len + 1 < p.want
    · rw [if_pos hq]
      right
      refine ⟨rfl, by omega, ?_, fun _ => ?_⟩
      · simp; omega
      · unfold wantF
        simp only [h1]
        have e : IntKind.i64.wrap (p.want - p.len) = p.want - p.len := wrap_ok (by omega) (by omega)
        simp only [Bool.false_eq_true, if_false, e]
        rw [wrap_ok (by omega) (by omega), wrap_ok (by omega) (by omega)]; omega
    · rw [if_neg hq]
      have h1' : wantF p = 1 := by omega
      split
      · right
        refine ⟨rfl, by omega, by rw [h1']; rfl, fun h => by cases h⟩
      · left
        exact ⟨rfl, rfl, by omega⟩
/-- some byte is wrong -/
def wErr : PP → List Int → Bool
  | _, [] => false
  | p, b :: l => (byteF p b).2.2.2.2 != 0 || wErr (byteF p b).1 l
def SimS (p : PP) : Prop := ∃ r, Sim p r
noncomputable def wF (x : (List Int × Int × Unit) × PP × Unit) : Res :=
  .need (SimS x.2.1 ∧ AllBy x.1.1 ∧ x.1.2.1 = 0 ∧ x.1.1.length ≤ 70368744177664) (.ite (wErr x.2.1 x.1.1) (.leaf .ret ((stC wtR lNil).wr ((true, ()), ()))) (.leaf (.exit 0) ((stC wtX lNil).wr ((), ()))))
theorem w_loop (x) : Ex Try.prog [] (.loop (loopAt wFn 0)) ((stC wtC hpP).wr x) (wF x) := by
  obtain ⟨⟨l, i, _⟩, p, _⟩ := x
  refine Ex.need fun ⟨h1, h2, h3, h4⟩ => ?_
  simp only at h1 h2 h3 h4
  subst h3
  have key := loopR mixed wTab_ok (LT := []) (ws := wtW) (hp := []) (LOk.nil _) (fun x => l.length - x.1) (fun x : Nat × PP => (stC wtC hpP).wr ((l, (x.1 : Int), ()), (x.2, ()))) (fun x => x.1 ≤ l.length ∧ ∃ r, Sim x.2 r)
    (fun x => .ite (wErr x.2 (l.drop x.1)) (.leaf .ret ((stC wtR lNil).wr ((true, ()), ()))) (.leaf (.exit 0) ((stC wtX lNil).wr ((), ())))) (fun x _ => w_rnd x.2 l _) (fun x R hx hs => ?_) (0, p) ⟨Nat.zero_le _, h1⟩
  · simpa using key
  · obtain ⟨k, p⟩ := x
    obtain ⟨hk, r, hsim⟩ := hx
    simp only at hk hsim hs ⊢
    refine ⟨fun hb => ?_, fun hb => ?_⟩
    · have hlt : k < l.length := by simpa using hb
      have hbyte : By (l.getD k 0) := by_getD h2 k
      obtain ⟨n1, n2⟩ := sim_need hsim
      have e2 : ((k : Int)).toNat = k := Int.toNat_natCast k
      have s2 := (sim_step hsim hbyte).2
      rw [drop_getD hlt] at hs
      rw [e2]
      have hst := w_step hsim hbyte
      have hwa : (if p.bad = true then (0 : Int) else IntKind.i64.wrap (p.want - p.len)) = wantF p := rfl
      have hwb : (if (byteF p (l.getD k 0)).1.bad = true then (0 : Int) else IntKind.i64.wrap ((byteF p (l.getD k 0)).1.want - (byteF p (l.getD k 0)).1.len)) = wantF (byteF p (l.getD k 0)).1 := rfl
      rw [hwa, hwb]
      refine ⟨⟨by omega, by omega⟩, n1, ?_⟩
      have hs1 : ((byteF p (l.getD k 0)).2.2.2.2 != 0 || wErr (byteF p (l.getD k 0)).1 (l.drop (k + 1))) = true → R .ret ((stC wtR lNil).wr ((true, ()), ())) := hs.1
      have hs2 : ((byteF p (l.getD k 0)).2.2.2.2 != 0 || wErr (byteF p (l.getD k 0)).1 (l.drop (k + 1))) = false → R (.exit 0) ((stC wtX lNil).wr ((), ())) := hs.2
      have hnext : (byteF p (l.getD k 0)).2.2.2.2 = 0 → ((Exit.normal : Exit) = .normal ∧ ∃ y : Nat × PP, (stC wtC hpP).wr ((l, IntKind.i64.wrap ((k : Int) + 1), PUnit.unit), (byteF p (l.getD k 0)).1, PUnit.unit) = (stC wtC hpP).wr ((l, (y.1 : Int), ()), (y.2, ())) ∧ (y.1 ≤ l.length ∧ ∃ r, Sim y.2 r) ∧ l.length - y.1 < l.length - k ∧
          (Res.ite (wErr y.2 (l.drop y.1)) (.leaf .ret ((stC wtR lNil).wr ((true, ()), ()))) (.leaf (.exit 0) ((stC wtX lNil).wr ((), ())))).sat R) := fun he => by
        refine ⟨rfl, (k + 1, (byteF p (l.getD k 0)).1), ?_, ⟨hlt, _, s2⟩, by simp only; omega, ?_⟩
        · rw [wrap_ok (by omega) (by omega)]; rfl
        · exact ⟨fun h => hs1 (by rw [h]; simp), fun h => hs2 (by simp only at h; rw [h, he]; rfl)⟩
      rcases hst with ⟨e, hbad, hw1⟩ | ⟨e, hw1, hok, hw2⟩
      · have e5 : (byteF p (l.getD k 0)).2.2.2.2 = 6 := by rw [e]
        have hwz : wantF (byteF p (l.getD k 0)).1 = 0 := by unfold wantF; rw [hbad]; rfl
        rw [hwz, e]
        refine ⟨fun _ => ⟨fun _ => ⟨fun _ => ⟨fun _ => ⟨fun _ => .inr ⟨by simp, ?_⟩, fun h => (by simp at h)⟩, fun h => (by simp at h)⟩, fun h => (by simp at h)⟩, fun h => (by simp at h)⟩, fun h => (by simp at h)⟩
        rw [decide_eq_true hw1]
        exact hs1 (by rw [e5]; rfl)
      · rw [e]
        refine ⟨fun h => (by simp at h), fun _ => ⟨fun _ => ⟨fun _ => ⟨fun h3 => ⟨fun h4 => ?_, fun _ => .inl (hnext e)⟩, fun _ => .inl (hnext e)⟩, fun h2 => ?_⟩, fun h1 => ?_⟩⟩
        · exfalso
          have h3' : (byteF p (l.getD k 0)).2.2.2.1 = false := by simpa using h3
          rw [hw2 h3'] at h4; simp at h4
        · exfalso; rw [hok] at h2; revert h2; cases (wantF p == 1) <;> simp
        · exfalso; simp at h1; omega
    · have hge : k = l.length := by simp at hb; omega
      subst hge
      rw [List.drop_length] at hs
      exact .inr ⟨by simp, hs.2 rfl⟩
noncomputable abbrev wLT : LTab := [(0, loopF (stC wtC hpP) 0 wtK wF)]
theorem w_tree (l : List Int) : fnT Try.prog wTab wLT wFn (bA.wr (l, ())) [] [.fr [.sym], .auto] =
    End.ite (decide ((2000 : Int) < ↑l.length) == false)
      (End.need
        (SimS
            { blocks := (0 : Int), block := (0 : Int), part := (1 : Int), len := (0 : Int), want := (8 : Int),
              buf := List.replicate (4096 : Nat) (0 : Int), bad := false } ∧
          AllBy l ∧ (0 : Int) = (0 : Int) ∧ l.length ≤ (70368744177664 : Nat))
        (End.ite
          (wErr
            { blocks := (0 : Int), block := (0 : Int), part := (1 : Int), len := (0 : Int), want := (8 : Int),
              buf := List.replicate (4096 : Nat) (0 : Int), bad := false }
            l)
          (End.leaf (LV.one (VV.sc (SV.bool (SB.sym true)))) []) (End.leaf (LV.one (VV.sc (SV.bool (SB.sym true)))) [])))
      (End.leaf (LV.one (VV.sc (SV.bool (SB.sym true)))) []) := by kernel_rfl
noncomputable def parserWantsE : Ent := Ent.ofS [some u8] bA lNil fun x _ => .leaf (some (AllBy x.1)) (nB true) []
theorem parserWants_ok : parserWantsE.Ok Try.prog 5 := by
  refine (Ent.ofOk Try.call5 fun x y Q h => ?_).sym
  obtain ⟨l, _⟩ := x
  obtain ⟨hl, hq⟩ := h
  have hl : AllBy l := hl
  refine (fnT_ok mixed wTab_ok Try.func5 rfl (LT := wLT) (ks := [.fr [.sym], .auto]) (LOk.ofTab (LTC rfl (loopF_ok (hp := []) w_loop) LT0))).use (D := []) ?_ hq
  show (fnT _ _ _ _ (bA.wr (l, ())) [] _).sat _
  rw [w_tree]
  refine ⟨fun h => ⟨⟨⟨_, sim_new⟩, hl, rfl, ?_⟩, fun _ => ⟨rfl, rfl⟩, fun _ => ⟨rfl, rfl⟩⟩, fun h => ⟨rfl, rfl⟩⟩
  simp at h; omega
end Go.Proofs.Ytdpbkfmjknmmnaa
