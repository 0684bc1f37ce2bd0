/- SHA-512: the program's sums are the document's. -/
import Derived.Test.YtdpbkfmjknmmnaaS6
set_option linter.unusedVariables false
set_option linter.unusedSimpArgs false
namespace Go.Proofs.Ytdpbkfmjknmmnaa
open Go Go.Ev
set_option maxRecDepth 100000
theorem overN_succ (k : Nat) (s b : List Int) : overN (k + 1) s b = overN k (stepF s (wordsF (b.take 128))) (b.drop 128) := rfl
theorem overN_zero (s b : List Int) : overN 0 s b = s := rfl
theorem overN_take : ∀ (k : Nat) (s b c : List Int), b.take (128 * k) = c.take (128 * k) → 128 * k ≤ b.length → 128 * k ≤ c.length → overN k s b = overN k s c
  | 0, _, _, _, _, _, _ => rfl
  | k + 1, s, b, c, h, hb, hc => by
    have e1 : b.take 128 = c.take 128 := by
      have := congrArg (List.take 128) h
      rw [List.take_take, List.take_take, Nat.min_eq_left (by omega)] at this
      exact this
    have e2 : (b.drop 128).take (128 * k) = (c.drop 128).take (128 * k) := by
      have := congrArg (List.drop 128) h
      rw [List.drop_take, List.drop_take, show 128 * (k + 1) - 128 = 128 * k from by omega] at this
      exact this
    rw [overN_succ, overN_succ, e1]
    exact overN_take k _ _ _ e2 (by rw [List.length_drop]; omega) (by rw [List.length_drop]; omega)
theorem overN_last : ∀ (k : Nat) (s a b : List Int), a.length = 128 * k → b.length = 128 → overN (k + 1) s (a ++ b) = stepF (overN k s a) (wordsF b)
  | 0, s, a, b, ha, hb => by
    have : a = [] := List.eq_nil_of_length_eq_zero (by omega)
    subst this
    rw [overN_succ, overN_zero, overN_zero, List.nil_append, List.take_of_length_le (by omega)]
  | k + 1, s, a, b, ha, hb => by
    rw [overN_succ (k + 1), overN_succ k s a, List.take_append_of_le_length (by omega), List.drop_append_of_le_length (by omega)]
    exact overN_last k _ (a.drop 128) b (by rw [List.length_drop]; omega) hb
/-- what a sum that goes on has of a row -/
structure HP (h : HH) (row : List Int) : Prop where
  ok : HOk h
  n : h.n = row.length
  s : h.s = overF beginK row
  wait : h.wait.take (row.length % 128) = row.drop (row.length / 128 * 128)
theorem HP.byte {h : HH} {row : List Int} (hp : HP h row) (c : Int) : HP (hByte h c) (row ++ [c]) := by
  obtain ⟨h0, h1, h2, h3⟩ := hp
  have hw := h0.wait
  have hn : (h.n % 128).toNat = row.length % 128 := by rw [h1]; omega
  have hset : (h.wait.set (row.length % 128) c).take (row.length % 128 + 1) = row.drop (row.length / 128 * 128) ++ [c] := by
    rw [List.take_add_one, List.take_set_of_le (Nat.le_refl _), h3]
    simp [show row.length % 128 < h.wait.length by omega]
  refine ⟨hByte_ok h0 c, ?_, ?_, ?_⟩
  · rw [hByte_n, h1]; simp
  · unfold hByte
    by_cases hz : (h.n + 1) % 128 = 0
    · rw [if_pos hz, hn]
      simp only
      have hl : row.length % 128 = 127 := by omega
      have hfull : h.wait.set (row.length % 128) c = row.drop (row.length / 128 * 128) ++ [c] := by
        rw [← hset, List.take_of_length_le (by simp; omega)]
      have hk : (row ++ [c]).length / 128 = row.length / 128 + 1 := by simp; omega
      rw [hfull, h2]
      unfold overF
      rw [hk]
      have e : row ++ [c] = row.take (row.length / 128 * 128) ++ (row.drop (row.length / 128 * 128) ++ [c]) := by rw [← List.append_assoc, List.take_append_drop]
      rw [e, overN_last _ _ _ _ (by rw [List.length_take]; omega) (by simp; omega)]
      congr 1
      exact overN_take _ _ _ _ (by rw [List.take_take]; congr 1; omega) (by omega) (by rw [List.length_take]; omega)
    · rw [if_neg hz]
      simp only
      have hk : (row ++ [c]).length / 128 = row.length / 128 := by simp; omega
      rw [h2]
      unfold overF
      rw [hk]
      exact overN_take _ _ _ _ (by rw [List.take_append_of_le_length (by omega)]) (by omega) (by simp; omega)
  · have hwb : (hByte h c).wait = h.wait.set (row.length % 128) c := by unfold hByte; split <;> simp only [hn]
    rw [hwb]
    by_cases hz : (row.length + 1) % 128 = 0
    · have e1 : (row ++ [c]).length % 128 = 0 := by simpa using hz
      have e2 : (row ++ [c]).length / 128 * 128 = (row ++ [c]).length := by omega
      rw [e1, e2, List.drop_length]; rfl
    · have e1 : (row ++ [c]).length % 128 = row.length % 128 + 1 := by simp; omega
      have e2 : (row ++ [c]).length / 128 * 128 = row.length / 128 * 128 := by simp; omega
      rw [e1, e2, hset, List.drop_append_of_le_length (by omega)]
theorem HP.put : ∀ (b : List Int) {h : HH} {row : List Int}, HP h row → HP (hPut h b) (row ++ b)
  | [], h, row, hp => by simpa [hPut] using hp
  | c :: b, h, row, hp => by
    have := HP.put b (hp.byte c)
    rw [List.append_assoc] at this
    exact this
theorem HP.new : HP newH [] := ⟨newH_ok, rfl, rfl, rfl⟩
theorem HP.of (b : List Int) : HP (hPut newH b) b := by simpa using HP.new.put b
theorem eight0 : eightF 0 = List.replicate 8 0 := by decide
theorem sha_eq {b : List Int} (hb : b.length ≤ 17592186044416) : shaF b = rshaF b := by
  unfold shaF sumF lastF rshaF
  have hn : (hPut newH b).n = b.length := (HP.of b).n
  have hw : IntKind.u64.wrap (b.length : Int) = b.length := wrap_u64 (by omega) (by omega)
  have e1 : shr .u64 (b.length : Int) 61 = 0 := by
    have := shr_div .u64 (b.length : Int) 61 (by decide)
    rw [show ((61 : Nat) : Int) = 61 from rfl] at this
    rw [this]
    exact Int.ediv_eq_zero_of_lt (by omega) (by have : (2 ^ 61 : Nat) = 2305843009213693952 := by decide
                                                omega)
  have e2 : shl .u64 (b.length : Int) 3 = IntKind.u64.wrap (8 * (b.length : Int)) := by
    have := shl_mul .u64 (b.length : Int) 3 (by decide)
    rw [show ((3 : Nat) : Int) = 3 from rfl] at this
    rw [this, Int.mul_comm]; rfl
  rw [hn, hw, e1, e2, eight0]
  have hp : padH (hPut (hPut newH b) [128]) = hPut newH (padL (b ++ [128])) := by
    unfold padH padL
    rw [← hPut_append newH b, hPut_append newH (b ++ [128]) (List.replicate _ 0), (HP.of (b ++ [128])).n]
  rw [hp, ← hPut_append, ← hPut_append, (HP.of _).s, List.append_assoc]
end Go.Proofs.Ytdpbkfmjknmmnaa
