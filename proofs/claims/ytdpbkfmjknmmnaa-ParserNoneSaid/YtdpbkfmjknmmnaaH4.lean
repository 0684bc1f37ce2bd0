/- Parsers: a byte more. -/
import Derived.Test.YtdpbkfmjknmmnaaH3
set_option linter.unusedVariables false
set_option linter.unusedSimpArgs false
namespace Go.Proofs.Ytdpbkfmjknmmnaa
open Go Go.Ev
set_option maxRecDepth 100000
/-- what is known of both where a part goes on -/
structure Run (p : PP) (r : RR) : Prop where
  part : p.part = r.part
  lo : 1 ≤ p.part
  hi : p.part ≤ 5
  want : p.want = r.want
  len : p.len = r.held.length
  take : p.buf.take r.held.length = r.held
  lt : p.len < p.want
  max : p.want ≤ 4096
  block : p.block = r.block
  by_ : ∀ z ∈ r.held, By z
  one : p.part = 1 → p.block = 0
  more : 2 ≤ p.part → p.blocks = r.blocks ∧ 1 ≤ p.blocks ∧ p.blocks ≤ 16 ∧ 0 ≤ p.block ∧ p.block < p.blocks
theorem Sim.run' {p : PP} {r : RR} (h : Sim p r) (h1 : p.bad = false) (h2 : r.whole = false) : Run p r := by
  obtain ⟨e1, e2, e3, e4, e5, e6, e7, e8, e9, e10, e11, e12⟩ := h.run h1 h2
  exact ⟨e1, e2, e3, e4, e5, e6, e7, e8, e9, e10, e11, e12⟩
theorem Sim.ofRun {p : PP} {r : RR} (hbuf : p.buf.length = 4096) (hb : p.bad = false) (hrb : r.bad = false) (hw : r.whole = false) (hheld : r.held.length ≤ 4096) (h4 : r.part = 4 → r.want = 4) (h : Run p r) : Sim p r := by
  refine ⟨hbuf, by rw [hb, hrb], ?_, hheld, h4, fun _ e => (by rw [hw] at e; cases e), fun _ _ => ⟨h.part, h.lo, h.hi, h.want, h.len, h.take, h.lt, h.max, h.block, h.by_, h.one, h.more⟩⟩
  have := h.lo
  rw [hw]; simp; omega
theorem Sim.ofBad {p : PP} {r : RR} (hbuf : p.buf.length = 4096) (hb : p.bad = true) (hrb : r.bad = true) (hw : (p.part == 0) = r.whole) (hheld : r.held.length ≤ 4096) (h4 : r.part = 4 → r.want = 4) : Sim p r :=
  ⟨hbuf, by rw [hb, hrb], hw, hheld, h4, fun e => (by rw [hb] at e; cases e), fun e => (by rw [hb] at e; cases e)⟩
/-- a part is whole -/
theorem sim_next {p : PP} {r : RR} (h1 : p.bad = false) (hrb : r.bad = false) (hw : r.whole = false) (hr : Run p r) (h4 : r.part = 4 → r.want = 4) {L buf : List Int} (hbuf : buf.length = 4096) (hby : ∀ z ∈ L, By z) (hlen : (L.length : Int) = r.want) {k : Int} :
    (nextF { p with buf := buf, len := k } L).2 = !(rnextF r L).bad ∧
    ((rnextF r L).bad = false → Sim (nextF { p with buf := buf, len := k } L).1 (rnextF r L)) ∧
    ((rnextF r L).bad = true → Sim { (nextF { p with buf := buf, len := k } L).1 with bad := true } (rnextF r L)) := by
  obtain ⟨pb, pk, pp, pl, pw, pf, pbad⟩ := p
  obtain ⟨rp, rb, rk, rw_, rh, rbad, rwh⟩ := r
  obtain ⟨e1, e2, e3, e4, e5, e6, e7, e8, e9, e10, e11, e12⟩ := hr
  simp only at *
  subst h1 hrb hw e1 e4 e9
  rcases (show pp = 1 ∨ pp = 2 ∨ pp = 3 ∨ pp = 4 ∨ pp = 5 by omega) with rfl | rfl | rfl | rfl | rfl
  · have a1 : nextF ⟨pb, pk, 1, k, pw, buf, false⟩ L = (⟨(getHeadF L).1.2, pk, 2, 0, 216, buf, false⟩, (getHeadF L).2) := rfl
    have a2 : rnextF ⟨1, rb, pk, pw, rh, false, false⟩ L = ⟨2, (getHeadF L).1.2, pk, 216, [], !(getHeadF L).2, false⟩ := rfl
    rw [a1, a2]
    have hk := e11 rfl
    subst hk
    refine ⟨by simp, fun h => ?_, fun h => ?_⟩
    · have hg : (getHeadF L).2 = true := by simpa using h
      obtain ⟨g1, g2⟩ := head_range hg
      exact Sim.ofRun hbuf rfl h rfl (by simp) (fun e => (by simp at e)) ⟨rfl, by simp, by simp, rfl, rfl, rfl, by simp, by simp, rfl, fun _ h => (by simp at h), fun e => (by simp at e), fun _ => ⟨rfl, g1, g2, by simp, by simp; omega⟩⟩
    · exact Sim.ofBad hbuf rfl h rfl (by simp) (fun e => (by simp at e))
  · obtain ⟨g1, g2, g3, g4, g5⟩ := e12 (by omega)
    subst g1
    have hwb : IntKind.i64.wrap (64 * pb) = 64 * pb := wrap_ok (by omega) (by omega)
    have a1 : nextF ⟨pb, pk, 2, k, pw, buf, false⟩ L = (⟨pb, pk, 3, 0, 64 * pb, buf, false⟩, true) := by rw [← hwb]; rfl
    have a2 : rnextF ⟨2, pb, pk, pw, rh, false, false⟩ L = ⟨3, pb, pk, 64 * pb, [], false, false⟩ := by rw [← hwb]; rfl
    rw [a1, a2]
    refine ⟨rfl, fun h => Sim.ofRun hbuf rfl rfl rfl (by simp) (fun e => (by simp at e)) ⟨rfl, by simp, by simp, rfl, rfl, rfl, by simp; omega, by simp; omega, rfl, fun _ h => (by simp at h), fun e => (by simp at e), fun _ => ⟨rfl, g2, g3, g4, g5⟩⟩, fun h => (by cases h)⟩
  · obtain ⟨g1, g2, g3, g4, g5⟩ := e12 (by omega)
    subst g1
    have a1 : nextF ⟨pb, pk, 3, k, pw, buf, false⟩ L = (⟨pb, pk, 4, 0, 4, buf, false⟩, true) := by
      show (sizesF _, true) = _
      unfold sizesF; rw [if_pos g5]
    have a2 : rnextF ⟨3, pb, pk, pw, rh, false, false⟩ L = ⟨4, pb, pk, 4, [], false, false⟩ := rfl
    rw [a1, a2]
    refine ⟨rfl, fun h => Sim.ofRun hbuf rfl rfl rfl (by simp) (fun e => rfl) ⟨rfl, by simp, by simp, rfl, rfl, rfl, by simp, by simp, rfl, fun _ h => (by simp at h), fun e => (by simp at e), fun _ => ⟨rfl, g2, g3, g4, g5⟩⟩, fun h => (by cases h)⟩
  · obtain ⟨g1, g2, g3, g4, g5⟩ := e12 (by omega)
    subst g1
    have hw4 : pw = 4 := h4 rfl
    obtain ⟨s1, s2⟩ := sizes_eq (l := L) hby (by omega)
    have a2 : rnextF ⟨4, pb, pk, pw, rh, false, false⟩ L = ⟨5, pb, pk, two L 0, [], !sizeOk L, false⟩ := by rw [← s1, ← s2]; rfl
    rw [a2]
    cases hs : sizeOk L with
    | true =>
      have hs' : 1 ≤ two L 0 ∧ two L 0 ≤ 4096 := by simp [sizeOk] at hs; omega
      have a1 : nextF ⟨pb, pk, 4, k, pw, buf, false⟩ L = (⟨pb, pk, 5, 0, two L 0, buf, false⟩, true) := by
        show (if sizeOk L = true then _ else _, sizeOk L) = _
        rw [hs]; rfl
      rw [a1]
      exact ⟨rfl, fun h => Sim.ofRun hbuf rfl rfl rfl (by simp) (fun e => (by simp at e)) ⟨rfl, by simp, by simp, rfl, rfl, rfl, by simp; omega, by simp; omega, rfl, fun _ h => (by simp at h), fun e => (by simp at e), fun _ => ⟨rfl, g2, g3, g4, g5⟩⟩, fun h => (by cases h)⟩
    | false =>
      have a1 : nextF ⟨pb, pk, 4, k, pw, buf, false⟩ L = (⟨pb, pk, 4, k, pw, buf, false⟩, false) := by
        show (if sizeOk L = true then _ else _, sizeOk L) = _
        rw [hs]; rfl
      rw [a1]
      exact ⟨rfl, fun h => (by cases h), fun h => Sim.ofBad hbuf rfl rfl rfl (by simp) (fun e => (by simp at e))⟩
  · obtain ⟨g1, g2, g3, g4, g5⟩ := e12 (by omega)
    subst g1
    have hwb : IntKind.i64.wrap (pk + 1) = pk + 1 := wrap_ok (by omega) (by omega)
    have a2 : rnextF ⟨5, pb, pk, pw, rh, false, false⟩ L = ⟨4, pb, pk + 1, 4, [], false, pk + 1 == pb⟩ := by rw [← hwb]; rfl
    rw [a2]
    by_cases hl : pk + 1 < pb
    · have a1 : nextF ⟨pb, pk, 5, k, pw, buf, false⟩ L = (⟨pb, pk + 1, 4, 0, 4, buf, false⟩, true) := by
        show (sizesF _, true) = _
        unfold sizesF
        simp only [hwb]
        rw [if_pos hl]
      rw [a1]
      have hne : (pk + 1 == pb) = false := by simp; omega
      rw [hne]
      exact ⟨rfl, fun h => Sim.ofRun hbuf rfl rfl rfl (by simp) (fun e => rfl) ⟨rfl, by simp, by simp, rfl, rfl, rfl, by simp, by simp, rfl, fun _ h => (by simp at h), fun e => (by simp at e), fun _ => ⟨rfl, g2, g3, by simp; omega, by simp; omega⟩⟩, fun h => (by cases h)⟩
    · have a1 : nextF ⟨pb, pk, 5, k, pw, buf, false⟩ L = (⟨pb, pk + 1, 0, 0, 0, buf, false⟩, true) := by
        show (sizesF _, true) = _
        unfold sizesF
        simp only [hwb]
        rw [if_neg hl]
      rw [a1]
      have he : (pk + 1 == pb) = true := by simp; omega
      rw [he]
      exact ⟨rfl, fun h => ⟨hbuf, rfl, rfl, by simp, fun e => rfl, fun _ _ => ⟨rfl, rfl⟩, fun _ e => (by cases e)⟩, fun h => (by cases h)⟩
theorem sim_step {p : PP} {r : RR} (h : Sim p r) {b : Int} (hb : By b) : (byteF p b).2 = (rbyteF r b).2 ∧ Sim (byteF p b).1 (rbyteF r b).1 := by
  have hbad := h.bad
  by_cases hdone : p.bad = true ∨ p.part = 0
  · have hr : r.bad = true ∨ r.whole = true := by
      rcases hdone with h1 | h1
      · exact .inl (by rw [← hbad]; exact h1)
      · exact .inr (by rw [← h.whole, h1]; rfl)
    unfold byteF rbyteF
    rw [if_pos hdone, if_pos hr]
    exact ⟨rfl, Sim.ofBad h.buf rfl rfl h.whole h.held h.four⟩
  · have h1 : p.bad = false := by cases hp : p.bad <;> simp_all
    have h2 : p.part ≠ 0 := fun e => hdone (.inr e)
    have hw : r.whole = false := by rw [← h.whole]; simpa using h2
    have hrb : r.bad = false := by rw [← hbad]; exact h1
    have hrdone : ¬ (r.bad = true ∨ r.whole = true) := by rw [hrb, hw]; simp
    have hrun := h.run' h1 hw
    have hlenr := hrun.len
    have hlt' := hrun.lt
    have hmax := hrun.max
    have hwant := hrun.want
    have hbl := h.buf
    have hwr : IntKind.i64.wrap (p.len + 1) = p.len + 1 := wrap_ok (by omega) (by omega)
    have hln : p.len.toNat = r.held.length := by omega
    have hlt : r.held.length < p.buf.length := by omega
    have htake : (p.buf.set p.len.toNat b).take (r.held.length + 1) = r.held ++ [b] := by rw [hln, take_set b hlt, hrun.take]
    have hby : ∀ z ∈ r.held ++ [b], By z := fun z hz => by
      rcases List.mem_append.1 hz with hz | hz
      · exact hrun.by_ z hz
      · simp at hz; subst hz; exact hb
    have hlen : (r.held ++ [b]).length = r.held.length + 1 := by simp
    have hbuf : (p.buf.set p.len.toNat b).length = 4096 := by rw [List.length_set]; exact hbl
    have eb : byteF p b = if p.len + 1 < p.want then ({ p with buf := p.buf.set p.len.toNat b, len := p.len + 1 }, 0, [], false, 0) else
        if (nextF { p with buf := p.buf.set p.len.toNat b, len := p.len + 1 } (r.held ++ [b])).2 = true then ((nextF { p with buf := p.buf.set p.len.toNat b, len := p.len + 1 } (r.held ++ [b])).1, p.part, r.held ++ [b], true, 0)
        else ({ (nextF { p with buf := p.buf.set p.len.toNat b, len := p.len + 1 } (r.held ++ [b])).1 with bad := true }, 0, [], false, 6) := by
      have hl : (p.buf.set p.len.toNat b).take (p.len + 1).toNat = r.held ++ [b] := by
        rw [← htake]; congr 1; omega
      unfold byteF
      rw [if_neg hdone]
      simp only [hwr, hl]
    have er : rbyteF r b = if (r.held.length : Int) + 1 < r.want then ({ r with held := r.held ++ [b] }, 0, [], false, 0) else
        if (rnextF r (r.held ++ [b])).bad = true then (rnextF r (r.held ++ [b]), 0, [], false, 6) else (rnextF r (r.held ++ [b]), r.part, r.held ++ [b], true, 0) := by
      unfold rbyteF
      rw [if_neg hrdone]
    rw [eb, er]
    by_cases hmore : p.len + 1 < p.want
    · rw [if_pos hmore, if_pos (show (r.held.length : Int) + 1 < r.want by omega)]
      refine ⟨rfl, Sim.ofRun hbuf h1 hrb hw (by rw [hlen]; omega) h.four ⟨hrun.part, hrun.lo, hrun.hi, hrun.want, ?_, ?_, hmore, hrun.max, hrun.block, hby, hrun.one, hrun.more⟩⟩
      · show p.len + 1 = ((r.held ++ [b]).length : Int)
        rw [hlen]; omega
      · show (p.buf.set p.len.toNat b).take (r.held ++ [b]).length = _
        rw [hlen]; exact htake
    · rw [if_neg hmore, if_neg (show ¬ (r.held.length : Int) + 1 < r.want by omega)]
      obtain ⟨n1, n2, n3⟩ := sim_next (k := p.len + 1) h1 hrb hw hrun h.four hbuf hby (by rw [hlen]; omega)
      cases hrn : (rnextF r (r.held ++ [b])).bad with
      | true =>
        rw [hrn] at n1
        rw [if_neg (by rw [n1]; simp), if_pos rfl]
        exact ⟨rfl, n3 hrn⟩
      | false =>
        rw [hrn] at n1
        rw [if_pos (by rw [n1]; rfl), if_neg (by simp)]
        refine ⟨?_, n2 hrn⟩
        rw [hrun.part]
theorem sim_new : Sim newP newR :=
  Sim.ofRun (by simp [newP, zeros]) rfl rfl rfl (by simp [newR]) (fun e => (by simp [newR] at e)) ⟨rfl, by simp [newP], by simp [newP], rfl, rfl, rfl, by simp [newP], by simp [newP], rfl, fun _ h => (by simp [newR] at h), fun _ => rfl, fun e => (by simp [newP] at e)⟩
end Go.Proofs.Ytdpbkfmjknmmnaa
