/- Parsers: both do the same. -/
import Derived.Test.YtdpbkfmjknmmnaaH2
set_option linter.unusedVariables false
set_option linter.unusedSimpArgs false
namespace Go.Proofs.Ytdpbkfmjknmmnaa
open Go Go.Ev
set_option maxRecDepth 100000
def By (z : Int) : Prop := 0 ≤ z ∧ z < 256
theorem ba_loop (bs : ByteArray) : ∀ (k i : Nat) (r : List UInt8), bs.size - i = k → ByteArray.toList.loop bs i r = r.reverse ++ bs.data.toList.drop i := by
  intro k
  induction k with
  | zero =>
    intro i r h
    unfold ByteArray.toList.loop
    rw [if_neg (by omega), List.drop_eq_nil_of_le (by simp; exact Nat.sub_eq_zero_iff_le.1 h)]
    simp
  | succ k ih =>
    intro i r h
    unfold ByteArray.toList.loop
    have hi : i < bs.size := by omega
    have hi' : i < bs.data.toList.length := by simpa using hi
    rw [if_pos hi, ih (i + 1) _ (by omega), List.drop_eq_getElem_cons hi']
    have : bs.get! i = bs.data.toList[i] := by
      cases bs with | mk d => simp [ByteArray.get!, ByteArray.size] at *; exact getElem!_pos d i hi
    rw [this]; simp
theorem ba_toList (bs : ByteArray) : bs.toList = bs.data.toList := by
  unfold ByteArray.toList
  rw [ba_loop bs _ 0 [] rfl]; simp
theorem strOf_size' (l : List Int) : (strOf l).toList.length = l.length := by
  rw [ba_toList]
  simp [strOf]
theorem or_i64 {m : Nat} {x y : Int} (hx0 : 0 ≤ x) (hx : x % (2 ^ m : Nat) = 0) (hy0 : 0 ≤ y) (hy : y < (2 ^ m : Nat)) (h64 : x + y < 9223372036854775808) : bitOr .i64 x y = x + y := by
  unfold bitOr
  have e : (2 ^ 64 : Nat) = 18446744073709551616 := by decide
  have h := or_add (n := 64) hx0 (by omega) hx hy0 hy (by omega)
  show IntKind.i64.wrap ((BitVec.ofInt 64 x ||| BitVec.ofInt 64 y).toNat : Int) = _
  rw [h]; exact wrap_ok (by omega) (by omega)
theorem strEq_len {l m : List Int} (h : strEq l m = true) : l.length = m.length := by
  unfold strEq at h
  have := congrArg List.length (beq_iff_eq.1 h)
  rwa [strOf_size', strOf_size'] at this
theorem head_range {l : List Int} (h : (getHeadF l).2 = true) : 1 ≤ (getHeadF l).1.2 ∧ (getHeadF l).1.2 ≤ 16 := by
  unfold getHeadF at h ⊢
  split at h
  · rename_i hc
    rw [if_pos hc]
    have hlen := strEq_len hc.2
    rw [hc.1] at hlen
    simp only
    unfold headF at hlen
    split at hlen
    · rename_i hr; exact ⟨hr.2.2.1, hr.2.2.2⟩
    · simp at hlen
  · cases h
theorem two_eq {l : List Int} {i : Nat} (h0 : By (l.getD i 0)) (h1 : By (l.getD (i + 1) 0)) : two l i = l.getD i 0 + 256 * l.getD (i + 1) 0 := by
  unfold two
  unfold By at h0 h1
  generalize l.getD i 0 = a at *
  generalize l.getD (i + 1) 0 = b at *
  rw [wrap_ok (by omega) (by omega), wrap_ok (by omega) (by omega)]
  have e1 : shl .i64 b 8 = b * 256 := by
    have := shl_mul .i64 b 8 (by simp [IntKind.bits])
    rw [show ((8 : Nat) : Int) = 8 from rfl] at this
    rw [this, wrap_ok (by omega) (by omega)]
    rfl
  rw [e1, or_comm', or_i64 (m := 8) (by omega) (by omega) (by omega) (by omega) (by omega)]
  omega
theorem rtwo_eq {l : List Int} {i : Nat} (hl : i + 1 < l.length) (h0 : By (l.getD i 0)) (h1 : By (l.getD (i + 1) 0)) : rtwo l i = l.getD i 0 + 256 * l.getD (i + 1) 0 := by
  unfold rtwo
  rw [drop_getD (show i < l.length by omega), drop_getD hl]
  unfold By at h0 h1
  generalize l.getD i 0 = a at *
  generalize l.getD (i + 1) 0 = b at *
  simp only [List.take_succ_cons, List.take_zero, numW]
  have e0 : IntKind.u64.wrap (0 * 256) = 0 := rfl
  rw [e0, Int.zero_add, wrap_u64 (n := b) (by omega) (by omega), wrap_u64 (n := b) (by omega) (by omega), wrap_u64 (n := b * 256) (by omega) (by omega), wrap_u64 (n := a) (by omega) (by omega), wrap_u64 (by omega) (by omega), wrap_ok (by omega) (by omega)]
  omega
theorem by_getD {l : List Int} (h : ∀ z ∈ l, By z) (i : Nat) : By (l.getD i 0) := by
  rw [List.getD_eq_getElem?_getD]
  cases he : l[i]? with
  | none => exact ⟨by simp, by simp⟩
  | some z => exact h z (List.mem_of_getElem? he)
theorem sizes_eq {l : List Int} (h : ∀ z ∈ l, By z) (hl : 4 ≤ l.length) : rtwo l 0 = two l 0 ∧ rsizeOk l = sizeOk l := by
  have e0 : rtwo l 0 = two l 0 := by rw [rtwo_eq (by omega) (by_getD h 0) (by_getD h 1), two_eq (by_getD h 0) (by_getD h 1)]
  have e2 : rtwo l 2 = two l 2 := by rw [rtwo_eq (by omega) (by_getD h 2) (by_getD h 3), two_eq (by_getD h 2) (by_getD h 3)]
  exact ⟨e0, by unfold rsizeOk sizeOk; rw [e0, e2]⟩
theorem take_set {l : List Int} {k : Nat} (b : Int) (h : k < l.length) : (l.set k b).take (k + 1) = l.take k ++ [b] := by
  rw [List.take_add_one, List.take_set_of_le (Nat.le_refl _)]
  simp [h]

structure Sim (p : PP) (r : RR) : Prop where
  buf : p.buf.length = 4096
  bad : p.bad = r.bad
  whole : (p.part == 0) = r.whole
  held : r.held.length ≤ 4096
  four : r.part = 4 → r.want = 4
  fin : p.bad = false → r.whole = true → p.want = 0 ∧ p.len = 0
  run : p.bad = false → r.whole = false → p.part = r.part ∧ 1 ≤ p.part ∧ p.part ≤ 5 ∧ p.want = r.want ∧ p.len = r.held.length ∧ p.buf.take r.held.length = r.held ∧ p.len < p.want ∧ p.want ≤ 4096 ∧ p.block = r.block ∧ (∀ z ∈ r.held, By z) ∧
    (p.part = 1 → p.block = 0) ∧ (2 ≤ p.part → p.blocks = r.blocks ∧ 1 ≤ p.blocks ∧ p.blocks ≤ 16 ∧ 0 ≤ p.block ∧ p.block < p.blocks)
theorem sim_want {p : PP} {r : RR} (h : Sim p r) : (if p.bad = true then (0 : Int) else IntKind.i64.wrap (p.want - p.len)) = if (r.bad || r.whole) = true then (0 : Int) else IntKind.i64.wrap (r.want - r.held.length) := by
  have hb := h.bad
  cases hp : p.bad with
  | true => rw [← hb, hp]; rfl
  | false =>
    rw [← hb, hp]
    cases hw : r.whole with
    | true => obtain ⟨e1, e2⟩ := h.fin hp hw; rw [e1, e2]; rfl
    | false =>
      obtain ⟨_, _, _, e1, e2, _⟩ := h.run hp hw
      rw [e1, e2]; rfl
theorem sim_need {p : PP} {r : RR} (h : Sim p r) : (p.bad = false → ¬ p.part = 0 → 0 ≤ p.len ∧ p.len < 4096 ∧ p.buf.length = 4096 ∧ (p.part = 4 → p.want = 4)) ∧ r.held.length ≤ 4096 ∧ (r.part = 4 → r.want = 4) := by
  refine ⟨fun h1 h2 => ?_, h.held, h.four⟩
  have hw : r.whole = false := by rw [← h.whole]; simpa using h2
  obtain ⟨e1, e2, e3, e4, e5, e6, e7, e8, _⟩ := h.run h1 hw
  exact ⟨by omega, by omega, h.buf, fun e => by rw [e4]; exact h.four (by omega)⟩
end Go.Proofs.Ytdpbkfmjknmmnaa
