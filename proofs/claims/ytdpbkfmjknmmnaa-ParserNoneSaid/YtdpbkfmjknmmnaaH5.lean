/- Parsers: plays. -/
import Derived.Test.YtdpbkfmjknmmnaaH4
set_option linter.unusedVariables false
set_option linter.unusedSimpArgs false
namespace Go.Proofs.Ytdpbkfmjknmmnaa
open Go Go.Ev
set_option maxRecDepth 100000
def playF (p : PP) (r : RR) : List Int → PP × RR
  | [] => (p, r)
  | b :: l => playF (byteF p b).1 (rbyteF r b).1 l
theorem sim_play : ∀ {p : PP} {r : RR} {l : List Int}, Sim p r → (∀ z ∈ l, By z) → Sim (playF p r l).1 (playF p r l).2
  | _, _, [], h, _ => h
  | p, r, b :: l, h, hb => sim_play (p := (byteF p b).1) (r := (rbyteF r b).1) (l := l) (sim_step h (hb b (by simp))).2 fun z hz => hb z (by simp [hz])
theorem pl_tab : ∀ p ∈ plTab, p.2.Ok Try.prog p.1 := tabC want_ok (tabC rwant_ok (tabC whole_ok (tabC byte_ok (tabC rbyte_ok (tabC num_ok' tab0)))))
def AllBy (l : List Int) : Prop := ∀ z ∈ l, By z
noncomputable def plF (x : (List Int × Int × Unit) × PP × RR × Unit) : Res :=
  .need (Sim x.2.1 x.2.2.1 ∧ AllBy x.1.1 ∧ x.1.2.1 = 0 ∧ x.1.1.length ≤ 70368744177664) (.leaf (.exit 0) ((stC plE plHp).wr ((), ((playF x.2.1 x.2.2.1 x.1.1).1, (playF x.2.1 x.2.2.1 x.1.1).2, ()))))
theorem pl_loop (p0' : PP) (r0' : RR) (x) : Ex Try.prog (plHp.wr (p0', r0', ())) (.loop (loopAt plFn 0)) ((stC plC plHp).wr x) (plF x) := by
  obtain ⟨⟨l, i, _⟩, p, r, _⟩ := x
  refine Ex.need fun ⟨h1, h2, h3, h4⟩ => ?_
  simp only at h1 h2 h3 h4
  subst h3
  have key := loopR mixed pl_tab (LT := []) (ws := plW) (hp := plHp.wr (p0', r0', ())) (LOk.nil _) (fun x => l.length - x.1) (fun x : Nat × PP × RR => (stC plC plHp).wr ((l, (x.1 : Int), ()), (x.2.1, x.2.2, ()))) (fun x => x.1 ≤ l.length ∧ Sim x.2.1 x.2.2)
    (fun x => .leaf (.exit 0) ((stC plE plHp).wr ((), ((playF x.2.1 x.2.2 (l.drop x.1)).1, (playF x.2.1 x.2.2 (l.drop x.1)).2, ())))) (fun x _ => pl_rnd p0' x.2.1 r0' x.2.2 l _) (fun x R hx hs => ?_) (0, p, r) ⟨Nat.zero_le _, h1⟩
  · simpa using key
  · obtain ⟨k, p, r⟩ := x
    obtain ⟨hk, hsim⟩ := hx
    simp only at hk hsim hs ⊢
    refine ⟨fun hb => ?_, fun hb => ?_⟩
    · have hlt : k < l.length := by simpa using hb
      have hbyte : By (l.getD k 0) := by_getD h2 k
      obtain ⟨s1, s2⟩ := sim_step hsim hbyte
      obtain ⟨n1, n2⟩ := sim_need hsim
      have e2 : ((k : Int)).toNat = k := Int.toNat_natCast k
      rw [drop_getD hlt] at hs
      refine ⟨fun _ => ⟨fun hc => ?_, fun _ => ⟨by omega, n1, by omega, n2, fun _ => ⟨fun _ => ⟨fun _ => ⟨fun hc => ?_, fun _ => ?_⟩, fun hc => ?_⟩, fun hc => ?_⟩, fun hc => ?_⟩⟩, fun hc => ?_⟩
      · exfalso
        have hc' : (!(p.part == 0) == r.whole) = true := hc
        rw [hsim.whole] at hc'
        revert hc'; cases r.whole <;> simp
      · exfalso
        have hc' : ((byteF p (l.getD k 0)).2.2.2.2 != (rbyteF r (l.getD k 0)).2.2.2.2) = true := hc
        rw [s1] at hc'; simp at hc'
      · refine .inl ⟨rfl, (k + 1, (byteF p (l.getD k 0)).1, (rbyteF r (l.getD k 0)).1), ?_, ⟨hlt, s2⟩, by simp only; omega, hs⟩
        rw [wrap_ok (by omega) (by omega)]
        rfl
      · exfalso
        have hc' : ((!(byteF p (l.getD k 0)).2.2.2.1 == (rbyteF r (l.getD k 0)).2.2.2.1) == false) = false := hc
        rw [s1] at hc'; revert hc'; cases (rbyteF r (l.getD k 0)).2.2.2.1 <;> simp
      · exfalso
        have hc' : ((!strEq (byteF p (l.getD k 0)).2.2.1 (rbyteF r (l.getD k 0)).2.2.1) == false) = false := hc
        rw [s1, strEq_self] at hc'; simp at hc'
      · exfalso
        have hc' : (((byteF p (l.getD k 0)).2.1 != (rbyteF r (l.getD k 0)).2.1) == false) = false := hc
        rw [s1] at hc'; simp at hc'
      · exfalso
        have hw := sim_want hsim
        rw [hw] at hc; simp at hc
    · have hge : k = l.length := by simp at hb; omega
      subst hge
      rw [List.drop_length] at hs
      exact .inr ⟨by simp, hs⟩
noncomputable abbrev plLT : LTab := [(0, loopF (stC plC plHp) 2 [.fr (fmS 99 [(0, .keep), (1, .keep), (2, .keep), (7, .sym)])] plF)]
theorem pl_tree (p : PP) (r : RR) (l : List Int) : fnT Try.prog plTab plLT plFn (plA.wr (l, ())) (plHp.wr (p, r, ())) [.fr [.sym], symP, symB, .auto] =
    End.need
      (Sim
          { blocks := p.blocks, block := p.block, part := p.part, len := p.len, want := p.want, buf := p.buf, bad := p.bad }
          { part := r.part, blocks := r.blocks, block := r.block, want := r.want, held := r.held, bad := r.bad,
            whole := r.whole } ∧
        AllBy l ∧ (0 : Int) = (0 : Int) ∧ l.length ≤ (70368744177664 : Nat))
      (End.ite
        (((if
                (playF
                        { blocks := p.blocks, block := p.block, part := p.part, len := p.len, want := p.want, buf := p.buf,
                          bad := p.bad }
                        { part := r.part, blocks := r.blocks, block := r.block, want := r.want, held := r.held,
                          bad := r.bad, whole := r.whole }
                        l).fst.bad =
                  true then
              (0 : Int)
            else
              IntKind.i64.wrap
                ((playF
                        { blocks := p.blocks, block := p.block, part := p.part, len := p.len, want := p.want, buf := p.buf,
                          bad := p.bad }
                        { part := r.part, blocks := r.blocks, block := r.block, want := r.want, held := r.held,
                          bad := r.bad, whole := r.whole }
                        l).fst.want -
                  (playF
                        { blocks := p.blocks, block := p.block, part := p.part, len := p.len, want := p.want, buf := p.buf,
                          bad := p.bad }
                        { part := r.part, blocks := r.blocks, block := r.block, want := r.want, held := r.held,
                          bad := r.bad, whole := r.whole }
                        l).fst.len)) ==
            if
                ((playF
                          { blocks := p.blocks, block := p.block, part := p.part, len := p.len, want := p.want,
                            buf := p.buf, bad := p.bad }
                          { part := r.part, blocks := r.blocks, block := r.block, want := r.want, held := r.held,
                            bad := r.bad, whole := r.whole }
                          l).snd.bad ||
                    (playF
                          { blocks := p.blocks, block := p.block, part := p.part, len := p.len, want := p.want,
                            buf := p.buf, bad := p.bad }
                          { part := r.part, blocks := r.blocks, block := r.block, want := r.want, held := r.held,
                            bad := r.bad, whole := r.whole }
                          l).snd.whole) =
                  true then
              (0 : Int)
            else
              IntKind.i64.wrap
                ((playF
                        { blocks := p.blocks, block := p.block, part := p.part, len := p.len, want := p.want, buf := p.buf,
                          bad := p.bad }
                        { part := r.part, blocks := r.blocks, block := r.block, want := r.want, held := r.held,
                          bad := r.bad, whole := r.whole }
                        l).snd.want -
                  ↑(playF
                            { blocks := p.blocks, block := p.block, part := p.part, len := p.len, want := p.want,
                              buf := p.buf, bad := p.bad }
                            { part := r.part, blocks := r.blocks, block := r.block, want := r.want, held := r.held,
                              bad := r.bad, whole := r.whole }
                            l).snd.held.length)) ==
          true)
        (End.leaf
          (LV.one
            (VV.sc
              (SV.bool
                (SB.sym
                  (((playF
                            { blocks := p.blocks, block := p.block, part := p.part, len := p.len, want := p.want,
                              buf := p.buf, bad := p.bad }
                            { part := r.part, blocks := r.blocks, block := r.block, want := r.want, held := r.held,
                              bad := r.bad, whole := r.whole }
                            l).fst.part ==
                      (0 : Int)) ==
                    (playF
                          { blocks := p.blocks, block := p.block, part := p.part, len := p.len, want := p.want,
                            buf := p.buf, bad := p.bad }
                          { part := r.part, blocks := r.blocks, block := r.block, want := r.want, held := r.held,
                            bad := r.bad, whole := r.whole }
                          l).snd.whole)))))
          [some
              (Item.blk
                [SV.int IntKind.i64
                    (SI.sym
                      (playF
                            { blocks := p.blocks, block := p.block, part := p.part, len := p.len, want := p.want,
                              buf := p.buf, bad := p.bad }
                            { part := r.part, blocks := r.blocks, block := r.block, want := r.want, held := r.held,
                              bad := r.bad, whole := r.whole }
                            l).fst.blocks),
                  SV.int IntKind.i64
                    (SI.sym
                      (playF
                            { blocks := p.blocks, block := p.block, part := p.part, len := p.len, want := p.want,
                              buf := p.buf, bad := p.bad }
                            { part := r.part, blocks := r.blocks, block := r.block, want := r.want, held := r.held,
                              bad := r.bad, whole := r.whole }
                            l).fst.block),
                  SV.int IntKind.i64
                    (SI.sym
                      (playF
                            { blocks := p.blocks, block := p.block, part := p.part, len := p.len, want := p.want,
                              buf := p.buf, bad := p.bad }
                            { part := r.part, blocks := r.blocks, block := r.block, want := r.want, held := r.held,
                              bad := r.bad, whole := r.whole }
                            l).fst.part),
                  SV.int IntKind.i64
                    (SI.sym
                      (playF
                            { blocks := p.blocks, block := p.block, part := p.part, len := p.len, want := p.want,
                              buf := p.buf, bad := p.bad }
                            { part := r.part, blocks := r.blocks, block := r.block, want := r.want, held := r.held,
                              bad := r.bad, whole := r.whole }
                            l).fst.len),
                  SV.int IntKind.i64
                    (SI.sym
                      (playF
                            { blocks := p.blocks, block := p.block, part := p.part, len := p.len, want := p.want,
                              buf := p.buf, bad := p.bad }
                            { part := r.part, blocks := r.blocks, block := r.block, want := r.want, held := r.held,
                              bad := r.bad, whole := r.whole }
                            l).fst.want),
                  SV.arr (Ty.int IntKind.u8) (4096 : Nat)
                    (playF
                          { blocks := p.blocks, block := p.block, part := p.part, len := p.len, want := p.want,
                            buf := p.buf, bad := p.bad }
                          { part := r.part, blocks := r.blocks, block := r.block, want := r.want, held := r.held,
                            bad := r.bad, whole := r.whole }
                          l).fst.buf,
                  SV.bool
                    (SB.sym
                      (playF
                            { blocks := p.blocks, block := p.block, part := p.part, len := p.len, want := p.want,
                              buf := p.buf, bad := p.bad }
                            { part := r.part, blocks := r.blocks, block := r.block, want := r.want, held := r.held,
                              bad := r.bad, whole := r.whole }
                            l).fst.bad)]
                (74 : Nat)),
            some
              (Item.blk
                [SV.int IntKind.i64
                    (SI.sym
                      (playF
                            { blocks := p.blocks, block := p.block, part := p.part, len := p.len, want := p.want,
                              buf := p.buf, bad := p.bad }
                            { part := r.part, blocks := r.blocks, block := r.block, want := r.want, held := r.held,
                              bad := r.bad, whole := r.whole }
                            l).snd.part),
                  SV.int IntKind.i64
                    (SI.sym
                      (playF
                            { blocks := p.blocks, block := p.block, part := p.part, len := p.len, want := p.want,
                              buf := p.buf, bad := p.bad }
                            { part := r.part, blocks := r.blocks, block := r.block, want := r.want, held := r.held,
                              bad := r.bad, whole := r.whole }
                            l).snd.blocks),
                  SV.int IntKind.i64
                    (SI.sym
                      (playF
                            { blocks := p.blocks, block := p.block, part := p.part, len := p.len, want := p.want,
                              buf := p.buf, bad := p.bad }
                            { part := r.part, blocks := r.blocks, block := r.block, want := r.want, held := r.held,
                              bad := r.bad, whole := r.whole }
                            l).snd.block),
                  SV.int IntKind.i64
                    (SI.sym
                      (playF
                            { blocks := p.blocks, block := p.block, part := p.part, len := p.len, want := p.want,
                              buf := p.buf, bad := p.bad }
                            { part := r.part, blocks := r.blocks, block := r.block, want := r.want, held := r.held,
                              bad := r.bad, whole := r.whole }
                            l).snd.want),
                  SV.rd true false (Ty.int IntKind.u8)
                    (playF
                          { blocks := p.blocks, block := p.block, part := p.part, len := p.len, want := p.want,
                            buf := p.buf, bad := p.bad }
                          { part := r.part, blocks := r.blocks, block := r.block, want := r.want, held := r.held,
                            bad := r.bad, whole := r.whole }
                          l).snd.held,
                  SV.bool
                    (SB.sym
                      (playF
                            { blocks := p.blocks, block := p.block, part := p.part, len := p.len, want := p.want,
                              buf := p.buf, bad := p.bad }
                            { part := r.part, blocks := r.blocks, block := r.block, want := r.want, held := r.held,
                              bad := r.bad, whole := r.whole }
                            l).snd.bad),
                  SV.bool
                    (SB.sym
                      (playF
                            { blocks := p.blocks, block := p.block, part := p.part, len := p.len, want := p.want,
                              buf := p.buf, bad := p.bad }
                            { part := r.part, blocks := r.blocks, block := r.block, want := r.want, held := r.held,
                              bad := r.bad, whole := r.whole }
                            l).snd.whole)]
                (69 : Nat))])
        (End.leaf (LV.one (VV.sc (SV.bool (SB.sym false))))
          [some
              (Item.blk
                [SV.int IntKind.i64
                    (SI.sym
                      (playF
                            { blocks := p.blocks, block := p.block, part := p.part, len := p.len, want := p.want,
                              buf := p.buf, bad := p.bad }
                            { part := r.part, blocks := r.blocks, block := r.block, want := r.want, held := r.held,
                              bad := r.bad, whole := r.whole }
                            l).fst.blocks),
                  SV.int IntKind.i64
                    (SI.sym
                      (playF
                            { blocks := p.blocks, block := p.block, part := p.part, len := p.len, want := p.want,
                              buf := p.buf, bad := p.bad }
                            { part := r.part, blocks := r.blocks, block := r.block, want := r.want, held := r.held,
                              bad := r.bad, whole := r.whole }
                            l).fst.block),
                  SV.int IntKind.i64
                    (SI.sym
                      (playF
                            { blocks := p.blocks, block := p.block, part := p.part, len := p.len, want := p.want,
                              buf := p.buf, bad := p.bad }
                            { part := r.part, blocks := r.blocks, block := r.block, want := r.want, held := r.held,
                              bad := r.bad, whole := r.whole }
                            l).fst.part),
                  SV.int IntKind.i64
                    (SI.sym
                      (playF
                            { blocks := p.blocks, block := p.block, part := p.part, len := p.len, want := p.want,
                              buf := p.buf, bad := p.bad }
                            { part := r.part, blocks := r.blocks, block := r.block, want := r.want, held := r.held,
                              bad := r.bad, whole := r.whole }
                            l).fst.len),
                  SV.int IntKind.i64
                    (SI.sym
                      (playF
                            { blocks := p.blocks, block := p.block, part := p.part, len := p.len, want := p.want,
                              buf := p.buf, bad := p.bad }
                            { part := r.part, blocks := r.blocks, block := r.block, want := r.want, held := r.held,
                              bad := r.bad, whole := r.whole }
                            l).fst.want),
                  SV.arr (Ty.int IntKind.u8) (4096 : Nat)
                    (playF
                          { blocks := p.blocks, block := p.block, part := p.part, len := p.len, want := p.want,
                            buf := p.buf, bad := p.bad }
                          { part := r.part, blocks := r.blocks, block := r.block, want := r.want, held := r.held,
                            bad := r.bad, whole := r.whole }
                          l).fst.buf,
                  SV.bool
                    (SB.sym
                      (playF
                            { blocks := p.blocks, block := p.block, part := p.part, len := p.len, want := p.want,
                              buf := p.buf, bad := p.bad }
                            { part := r.part, blocks := r.blocks, block := r.block, want := r.want, held := r.held,
                              bad := r.bad, whole := r.whole }
                            l).fst.bad)]
                (74 : Nat)),
            some
              (Item.blk
                [SV.int IntKind.i64
                    (SI.sym
                      (playF
                            { blocks := p.blocks, block := p.block, part := p.part, len := p.len, want := p.want,
                              buf := p.buf, bad := p.bad }
                            { part := r.part, blocks := r.blocks, block := r.block, want := r.want, held := r.held,
                              bad := r.bad, whole := r.whole }
                            l).snd.part),
                  SV.int IntKind.i64
                    (SI.sym
                      (playF
                            { blocks := p.blocks, block := p.block, part := p.part, len := p.len, want := p.want,
                              buf := p.buf, bad := p.bad }
                            { part := r.part, blocks := r.blocks, block := r.block, want := r.want, held := r.held,
                              bad := r.bad, whole := r.whole }
                            l).snd.blocks),
                  SV.int IntKind.i64
                    (SI.sym
                      (playF
                            { blocks := p.blocks, block := p.block, part := p.part, len := p.len, want := p.want,
                              buf := p.buf, bad := p.bad }
                            { part := r.part, blocks := r.blocks, block := r.block, want := r.want, held := r.held,
                              bad := r.bad, whole := r.whole }
                            l).snd.block),
                  SV.int IntKind.i64
                    (SI.sym
                      (playF
                            { blocks := p.blocks, block := p.block, part := p.part, len := p.len, want := p.want,
                              buf := p.buf, bad := p.bad }
                            { part := r.part, blocks := r.blocks, block := r.block, want := r.want, held := r.held,
                              bad := r.bad, whole := r.whole }
                            l).snd.want),
                  SV.rd true false (Ty.int IntKind.u8)
                    (playF
                          { blocks := p.blocks, block := p.block, part := p.part, len := p.len, want := p.want,
                            buf := p.buf, bad := p.bad }
                          { part := r.part, blocks := r.blocks, block := r.block, want := r.want, held := r.held,
                            bad := r.bad, whole := r.whole }
                          l).snd.held,
                  SV.bool
                    (SB.sym
                      (playF
                            { blocks := p.blocks, block := p.block, part := p.part, len := p.len, want := p.want,
                              buf := p.buf, bad := p.bad }
                            { part := r.part, blocks := r.blocks, block := r.block, want := r.want, held := r.held,
                              bad := r.bad, whole := r.whole }
                            l).snd.bad),
                  SV.bool
                    (SB.sym
                      (playF
                            { blocks := p.blocks, block := p.block, part := p.part, len := p.len, want := p.want,
                              buf := p.buf, bad := p.bad }
                            { part := r.part, blocks := r.blocks, block := r.block, want := r.want, held := r.held,
                              bad := r.bad, whole := r.whole }
                            l).snd.whole)]
                (69 : Nat))])) := by kernel_rfl
noncomputable def plEnt : Ent := Ent.ofS [none, none, some u8] plA plHp fun x h => .leaf (some (Sim h.1 h.2.1 ∧ AllBy x.1 ∧ x.1.length ≤ 70368744177664)) (nB true) [(0, pI (playF h.1 h.2.1 x.1).1), (1, rI (playF h.1 h.2.1 x.1).2)]
theorem pl_ok : plEnt.Ok Try.prog 20 := by
  refine (Ent.ofOk Try.call20 fun x y Q h => ?_).sym
  obtain ⟨p, r, _⟩ := y
  obtain ⟨l, _⟩ := x
  obtain ⟨hl, hq⟩ := h
  have hl : Sim p r ∧ AllBy l ∧ l.length ≤ 70368744177664 := hl
  obtain ⟨h1, h2, h3⟩ := hl
  refine (fnT_ok mixed pl_tab Try.func20 rfl (LT := plLT) (ks := [.fr [.sym], symP, symB, .auto]) (LOk.ofTab (LTC rfl (loopF_ok (hp := plHp.wr (p, r, ())) (pl_loop p r)) LT0))).use (D := [(0, pI (playF p r l).1), (1, rI (playF p r l).2)]) ?_ hq
  show (fnT _ _ _ _ (plA.wr (l, ())) (plHp.wr (p, r, ())) _).sat _
  rw [pl_tree]
  have hsim := sim_play h1 h2
  have hw := sim_want hsim
  refine ⟨⟨h1, h2, rfl, h3⟩, fun hc => ⟨nB_eq ?_, rfl⟩, fun hc => ?_⟩
  · have := hsim.whole
    simpa using this
  · exfalso
    rw [hw] at hc; simp at hc
end Go.Proofs.Ytdpbkfmjknmmnaa
