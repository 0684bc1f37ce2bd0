/- slices.Grow of nothing: a row of so much room. -/
import Derived.Test.YtdpbkfmjknmmnaaM0
import Derived.WalkKit
import Derived.Lib.Walk
import Derived.Lib.SliceRun
import Derived.Lib.AppendZerosOnto
set_option linter.unusedVariables false
set_option linter.unusedSimpArgs false
namespace Go.Proofs.Ytdpbkfmjknmmnaa
open Go Go.Ev Go.Lib Go.RowKit
set_option maxHeartbeats 4000000
theorem grow_none (w : World) : Calls Try.prog 54 #[.slice none 0 0, .int .i64 0] w fun e w' => e = .returned (.slice none 0 0) ∧ w' = w := by
  go_enter Try.func54, Try.ntmps54
  go_wp2
  go_ret
  exact ⟨rfl, rfl⟩
theorem grow_some (n : Nat) (w : World) (h0 : 0 < n) (h1 : n ≤ 140737488355328) : Calls Try.prog 54 #[.slice none 0 0, .int .i64 n] w fun e w' =>
    e = .returned (.slice (some ⟨w.heap.size, 0, none⟩) 0 (grownCap w n 0 5)) ∧
      w' = w.drew.alloc (.cells (#[] ++ Builtin.zeroCells (Value.int .u8 0).cells n ++ Builtin.zeroCells (Value.int .u8 0).cells (grownCap w n 0 5 - n)) 5) := by
  have h2 : ¬ ((n : Int) < 0) := by omega
  have h3 : wrap64 ((0 : Int) - (0 : Int)) = 0 := by unfold wrap64; omega
  have h4 : wrap64 ((n : Int) - 0) = (n : Int) := by unfold wrap64; omega
  have h5 : (n : Int) > 0 := by omega
  have hG63 : grownCap w n 0 5 ≤ 9223372036854775807 := by
    have := grownCap_le_maxLen w n 0 5 (by unfold maxLen; omega)
    unfold maxLen at this
    omega
  have hrz : ∀ ty, (Builtin.append_ #[31, 3] ty #[.slice none 0 0, .int .i64 n]).run Try.prog w =
      .ok (.slice (some ⟨w.heap.size, 0, none⟩) n (grownCap w n 0 5)) (w.drew.alloc (.cells (#[] ++ Builtin.zeroCells (Value.int .u8 0).cells n ++ Builtin.zeroCells (Value.int .u8 0).cells (grownCap w n 0 5 - n)) 5)) := fun ty => by
    have hi0 : (Try.prog.info? 5).map (fun i => (i.zero, i.size, i.bytes)) = some (some (.int .u8 0), 1, 1) := by kernel_rfl
    obtain ⟨i, hi, he⟩ := map_some hi0
    have e1 : i.zero = some (.int .u8 0) := congrArg Prod.fst he
    have e2 : i.size = 1 := congrArg (fun x => x.2.1) he
    have e3 : i.bytes = 1 := congrArg (fun x => x.2.2) he
    have hb : n * i.bytes ≤ 140737488355328 := by rw [e3]; omega
    have h := Lib.run_append_grow_zeros (P := Try.prog) w 31 3 ty 5 i (.int .u8 0) .i64 .i64 (by kernel_rfl) (by kernel_rfl) hi e1 none 0 0 [] (run_firstCells_none w.drew i.size 0 0 0) n h0 (by omega) (by omega) (by omega) (by omega)
      (growslice_fits (need := 0 + n) (old := 0) (by omega) (by rw [Nat.zero_add]; exact hb))
    rw [Nat.zero_add] at h
    exact h
  have hGn : n ≤ grownCap w n 0 5 := grownCap_ge w _ _ _
  generalize grownCap w n 0 5 = G at *
  go_enter Try.func54, Try.ntmps54
  go_wp2_with (at_builtin; refine Lib.wpList_append_run _ rfl _ _ _ _ rfl _ _ rfl rfl _ _ (hrz _) ?_)
  all_goals (go_ret; exact ⟨rfl, rfl⟩)
def growE : Ent := ⟨[], fun args hp => match args, hp with
  | [.one (.sc (.con (.slice none 0 0))), .one (.sc (.int .i64 n))], [] => .leaf (some (0 ≤ n.val ∧ n.val ≤ 140737488355328)) (.one (.sc (.sl 0 0))) [(0, .own 0 (.int .u8) [])]
  | _, _ => .fail⟩
theorem grow_ok : growE.Ok Try.prog 54 := by
  refine ⟨Try.call54, fun args hp Q h => ?_⟩
  simp only [growE] at h
  split at h
  · rename_i args hp n
    obtain ⟨⟨h0, h1⟩, hq⟩ := h
    intro β w vals hh hargs
    cases hargs with
    | cons a1 t1 =>
      cases t1 with
      | cons a2 t2 =>
        cases t2
        rename_i v1 v2
        obtain rfl : v1 = .slice none 0 0 := a1.2
        have e : v2 = .int .i64 n.val := a2
        subst e
        rcases Int.lt_or_le 0 n.val with hn | hn
        · obtain ⟨k, hk⟩ : ∃ k : Nat, n.val = k := ⟨n.val.toNat, by omega⟩
          rw [hk] at h0 h1 hn ⊢
          refine (grow_some k w (by omega) (by omega)).mono ?_
          rintro e w' ⟨rfl, rfl⟩
          have hGn : k ≤ grownCap w k 0 5 := grownCap_ge w _ _ _
          generalize grownCap w k 0 5 = G at *
          generalize hcs : (#[] ++ Builtin.zeroCells (Value.int .u8 0).cells k ++ Builtin.zeroCells (Value.int .u8 0).cells (G - k)) = cs
          have hlen : cs.toList.length = G := by
            rw [← hcs]; simp [Builtin.zeroCells, Value.cells]; omega
          have hdr : HRel w [] β β [] w.drew := hh.drew _ _
          obtain ⟨β', k1, k2, k3⟩ := hdr.newOwn (id := 0) rfl (v := .slice (some ⟨w.heap.size, 0, none⟩) 0 G) (ver := 0) (t := .int .u8) (l := []) (w' := w.drew.alloc (.cells cs 5)) (by simp) rfl rfl (fun b hb => heap_alloc_old w.drew _ hb)
            ⟨_, _, _, rfl, rfl, Nat.zero_le _, fun e => (by cases e), fun _ => ⟨_, [], [], cs.toList, 5, (0, 0), rfl, rfl, by simpa using heap_alloc_new w.drew (.cells cs 5), rfl, .nil, by simp [Ty.w, hlen], .inl rfl⟩⟩
            (fun a n c e _ => by cases e; exact Nat.le_refl _)
          exact ⟨_, β', _, _, rfl, ⟨_, hq, rfl⟩, ⟨rfl, 0, by rw [show applyD _ [] = setAt [] 0 _ from rfl, kd_setAt, if_pos rfl]; rfl, Nat.le_refl _, fun _ => k3.symm⟩, k1⟩
        · have hn0 : n.val = 0 := by omega
          rw [hn0]
          refine (grow_none w).mono ?_
          rintro e w' ⟨rfl, rfl⟩
          obtain ⟨β', k1, k2, k3⟩ := hh.ownNil (.int .u8)
          exact ⟨_, β', _, _, rfl, ⟨_, hq, rfl⟩, k3, k1⟩
  · exact h.elim
end Go.Proofs.Ytdpbkfmjknmmnaa
