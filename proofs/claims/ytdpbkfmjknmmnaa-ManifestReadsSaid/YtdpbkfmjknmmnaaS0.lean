/- SHA-512: the program's functions of bits. -/
import Derived.Test.YtdpbkfmjknmmnaaG1
import Derived.Test.YtdpbkfmjknmmnaaBt
set_option linter.unusedVariables false
set_option linter.unusedSimpArgs false
namespace Go.Proofs.Ytdpbkfmjknmmnaa
open Go Go.Ev
set_option maxRecDepth 100000
abbrev uiC : Cod (List LV) (Int × Int × Unit) := lCons (vOne (sInt .u64)) (lCons (vOne (sInt .i64)) lNil)
abbrev u3C : Cod (List LV) (Int × Int × Int × Unit) := lCons (vOne (sInt .u64)) (lCons (vOne (sInt .u64)) (lCons (vOne (sInt .u64)) lNil))
abbrev ui3C : Cod (List LV) (Int × Int × Int × Int × Unit) := lCons (vOne (sInt .u64)) (lCons (vOne (sInt .i64)) (lCons (vOne (sInt .i64)) (lCons (vOne (sInt .i64)) lNil)))
def rotlF (x k : Int) : Int := bitOr .u64 (shl .u64 x (bitAnd .u64 (IntKind.u64.wrap k) 63)) (shr .u64 x (IntKind.u64.wrap (64 - bitAnd .u64 (IntKind.u64.wrap k) 63)))
theorem and63 (k : Int) : bitAnd .u64 (IntKind.u64.wrap k) 63 = k % 64 := by
  rw [and_u64 (m := 6) (by decide) _ _ (by decide), wrap_u64']
  exact Int.emod_emod_of_dvd _ (by decide)
/-- bits turned down -/
def rotr (x n : Int) : Int := bitOr .u64 (shl .u64 x (64 - n)) (shr .u64 x n)
theorem rotlF_eq {x n : Int} (h0 : 0 < n) (h1 : n < 64) : rotlF x (IntKind.i64.wrap (0 - n)) = rotr x n := by
  unfold rotlF rotr
  have e : bitAnd .u64 (IntKind.u64.wrap (IntKind.i64.wrap (0 - n))) 63 = 64 - n := by
    rw [and63, wrap_i64 (by omega) (by omega)]; omega
  rw [e, wrap_u64 (by omega) (by omega), show (64 : Int) - (64 - n) = n from by omega]
noncomputable def rotlE : Ent := Ent.ofS [] (uiC) (lNil) fun x_ y_ => (fun (x k : Int) => .leaf none (nU (rotlF x k)) []) x_.1 x_.2.1 
theorem rotl_tree (x k : Int) : fnT Try.prog [] [] Try.f82 ((uiC).wr (x, k, ())) ((lNil).wr ()) [.fr [.sym], .auto] =
    End.need ((0 : Int) ≤ bitAnd IntKind.u64 (IntKind.u64.wrap k) (63 : Int))
      (End.need ((0 : Int) ≤ IntKind.u64.wrap ((64 : Int) - bitAnd IntKind.u64 (IntKind.u64.wrap k) (63 : Int)))
        (End.leaf
          (LV.one
            (VV.sc
              (SV.int IntKind.u64
                (SI.sym
                  (bitOr IntKind.u64 (shl IntKind.u64 x (bitAnd IntKind.u64 (IntKind.u64.wrap k) (63 : Int)))
                    (shr IntKind.u64 x
                      (IntKind.u64.wrap ((64 : Int) - bitAnd IntKind.u64 (IntKind.u64.wrap k) (63 : Int)))))))))
          [])) := by kernel_rfl
theorem rotl_ok : rotlE.Ok Try.prog 82 := by
  refine (Ent.ofOk Try.call82 fun x_ y_ Q h => ?_).sym
  obtain ⟨x, k, _⟩ := x_
  have hq := h.2
  refine (fnT_ok mixed tab0 Try.func82 rfl (LT := []) (ks := [.fr [.sym], .auto]) (LOk.nil _)).use (D := []) ?_ hq
  show (fnT _ _ _ _ ((uiC).wr (x, k, ())) ((lNil).wr ()) _).sat _
  rw [rotl_tree]
  have e := and63 k
  refine ⟨by omega, by rw [e, wrap_u64 (by omega) (by omega)]; omega, rfl, rfl⟩
noncomputable def rotrE : Ent := Ent.ofS [] (uiC) (lNil) fun x_ y_ => (fun (x k : Int) => .leaf (some (0 < k ∧ k < 64)) (nU (rotr x k)) []) x_.1 x_.2.1 
theorem rotr_tree (x k : Int) : fnT Try.prog [(82, rotlE)] [] Try.f81 ((uiC).wr (x, k, ())) ((lNil).wr ()) [.fr [.sym], .auto] =
    End.leaf (LV.one (VV.sc (SV.int IntKind.u64 (SI.sym (rotlF x (IntKind.i64.wrap ((0 : Int) - k.tmod (64 : Int)))))))) [] := by kernel_rfl
theorem rotr_ok : rotrE.Ok Try.prog 81 := by
  refine (Ent.ofOk Try.call81 fun x_ y_ Q h => ?_).sym
  obtain ⟨x, k, _⟩ := x_
  obtain ⟨hn, hq⟩ := h
  have hn : 0 < k ∧ k < 64 := hn
  refine (fnT_ok mixed ((tabC rotl_ok tab0)) Try.func81 rfl (LT := []) (ks := [.fr [.sym], .auto]) (LOk.nil _)).use (D := []) ?_ hq
  show (fnT _ _ _ _ ((uiC).wr (x, k, ())) ((lNil).wr ()) _).sat _
  rw [rotr_tree]
  have e : k.tmod 64 = k := by rw [Int.tmod_eq_emod_of_nonneg (by omega)]; omega
  rw [e, rotlF_eq hn.1 hn.2]
  exact ⟨rfl, rfl⟩
def chF (x y z : Int) : Int := bitXor .u64 (bitAnd .u64 x y) (bitAnd .u64 (bitXor .u64 18446744073709551615 x) z)
def majF (x y z : Int) : Int := bitXor .u64 (bitXor .u64 (bitAnd .u64 x y) (bitAnd .u64 x z)) (bitAnd .u64 y z)
noncomputable def chE : Ent := Ent.ofS [] (u3C) (lNil) fun x_ y_ => (fun (x y z : Int) => .leaf none (nU (chF x y z)) []) x_.1 x_.2.1 x_.2.2.1 
theorem ch_tree (x y z : Int) : fnT Try.prog [] [] Try.f75 ((u3C).wr (x, y, z, ())) ((lNil).wr ()) [.fr [.sym], .auto] =
    End.leaf
      (LV.one
        (VV.sc
          (SV.int IntKind.u64
            (SI.sym
              (bitXor IntKind.u64 (bitAnd IntKind.u64 x y)
                (bitAnd IntKind.u64 (bitXor IntKind.u64 (18446744073709551615 : Int) x) z))))))
      [] := by kernel_rfl
theorem ch_ok : chE.Ok Try.prog 75 := by
  refine (Ent.ofOk Try.call75 fun x_ y_ Q h => ?_).sym
  obtain ⟨x, y, z, _⟩ := x_
  have hq := h.2
  refine (fnT_ok mixed tab0 Try.func75 rfl (LT := []) (ks := [.fr [.sym], .auto]) (LOk.nil _)).use (D := []) ?_ hq
  show (fnT _ _ _ _ ((u3C).wr (x, y, z, ())) ((lNil).wr ()) _).sat _
  rw [ch_tree]
  exact ⟨rfl, rfl⟩
noncomputable def majE : Ent := Ent.ofS [] (u3C) (lNil) fun x_ y_ => (fun (x y z : Int) => .leaf none (nU (majF x y z)) []) x_.1 x_.2.1 x_.2.2.1 
theorem maj_tree (x y z : Int) : fnT Try.prog [] [] Try.f76 ((u3C).wr (x, y, z, ())) ((lNil).wr ()) [.fr [.sym], .auto] =
    End.leaf
      (LV.one
        (VV.sc
          (SV.int IntKind.u64
            (SI.sym
              (bitXor IntKind.u64 (bitXor IntKind.u64 (bitAnd IntKind.u64 x y) (bitAnd IntKind.u64 x z))
                (bitAnd IntKind.u64 y z))))))
      [] := by kernel_rfl
theorem maj_ok : majE.Ok Try.prog 76 := by
  refine (Ent.ofOk Try.call76 fun x_ y_ Q h => ?_).sym
  obtain ⟨x, y, z, _⟩ := x_
  have hq := h.2
  refine (fnT_ok mixed tab0 Try.func76 rfl (LT := []) (ks := [.fr [.sym], .auto]) (LOk.nil _)).use (D := []) ?_ hq
  show (fnT _ _ _ _ ((u3C).wr (x, y, z, ())) ((lNil).wr ()) _).sat _
  rw [maj_tree]
  exact ⟨rfl, rfl⟩
def smallF (x a b d : Int) : Int := bitXor .u64 (bitXor .u64 (rotr x a) (rotr x b)) (shr .u64 x d)
def greatF (x a b d : Int) : Int := bitXor .u64 (bitXor .u64 (rotr x a) (rotr x b)) (rotr x d)
noncomputable def smallE : Ent := Ent.ofS [] (ui3C) (lNil) fun x_ y_ => (fun (x a b d : Int) => .leaf (some (0 < a ∧ a < 64 ∧ 0 < b ∧ b < 64 ∧ 0 ≤ d)) (nU (smallF x a b d)) []) x_.1 x_.2.1 x_.2.2.1 x_.2.2.2.1 
theorem small_tree (x a b d : Int) : fnT Try.prog [(81, rotrE)] [] Try.f80 ((ui3C).wr (x, a, b, d, ())) ((lNil).wr ()) [.fr [.sym], .auto] =
    End.need ((0 : Int) < a ∧ a < (64 : Int))
      (End.need ((0 : Int) < b ∧ b < (64 : Int))
        (End.need ((0 : Int) ≤ d)
          (End.leaf
            (LV.one
              (VV.sc
                (SV.int IntKind.u64
                  (SI.sym (bitXor IntKind.u64 (bitXor IntKind.u64 (rotr x a) (rotr x b)) (shr IntKind.u64 x d))))))
            []))) := by kernel_rfl
theorem small_ok : smallE.Ok Try.prog 80 := by
  refine (Ent.ofOk Try.call80 fun x_ y_ Q h => ?_).sym
  obtain ⟨x, a, b, d, _⟩ := x_
  obtain ⟨hn, hq⟩ := h
  have hn : 0 < a ∧ a < 64 ∧ 0 < b ∧ b < 64 ∧ 0 ≤ d := hn
  refine (fnT_ok mixed ((tabC rotr_ok tab0)) Try.func80 rfl (LT := []) (ks := [.fr [.sym], .auto]) (LOk.nil _)).use (D := []) ?_ hq
  show (fnT _ _ _ _ ((ui3C).wr (x, a, b, d, ())) ((lNil).wr ()) _).sat _
  rw [small_tree]
  exact ⟨⟨hn.1, hn.2.1⟩, ⟨hn.2.2.1, hn.2.2.2.1⟩, hn.2.2.2.2, rfl, rfl⟩
noncomputable def greatE : Ent := Ent.ofS [] (ui3C) (lNil) fun x_ y_ => (fun (x a b d : Int) => .leaf (some (0 < a ∧ a < 64 ∧ 0 < b ∧ b < 64 ∧ 0 < d ∧ d < 64)) (nU (greatF x a b d)) []) x_.1 x_.2.1 x_.2.2.1 x_.2.2.2.1 
theorem great_tree (x a b d : Int) : fnT Try.prog [(81, rotrE)] [] Try.f74 ((ui3C).wr (x, a, b, d, ())) ((lNil).wr ()) [.fr [.sym], .auto] =
    End.need ((0 : Int) < a ∧ a < (64 : Int))
      (End.need ((0 : Int) < b ∧ b < (64 : Int))
        (End.need ((0 : Int) < d ∧ d < (64 : Int))
          (End.leaf
            (LV.one
              (VV.sc
                (SV.int IntKind.u64 (SI.sym (bitXor IntKind.u64 (bitXor IntKind.u64 (rotr x a) (rotr x b)) (rotr x d))))))
            []))) := by kernel_rfl
theorem great_ok : greatE.Ok Try.prog 74 := by
  refine (Ent.ofOk Try.call74 fun x_ y_ Q h => ?_).sym
  obtain ⟨x, a, b, d, _⟩ := x_
  obtain ⟨hn, hq⟩ := h
  have hn : 0 < a ∧ a < 64 ∧ 0 < b ∧ b < 64 ∧ 0 < d ∧ d < 64 := hn
  refine (fnT_ok mixed ((tabC rotr_ok tab0)) Try.func74 rfl (LT := []) (ks := [.fr [.sym], .auto]) (LOk.nil _)).use (D := []) ?_ hq
  show (fnT _ _ _ _ ((ui3C).wr (x, a, b, d, ())) ((lNil).wr ()) _).sat _
  rw [great_tree]
  exact ⟨⟨hn.1, hn.2.1⟩, ⟨hn.2.2.1, hn.2.2.2.1⟩, hn.2.2.2.2, rfl, rfl⟩
/-- an answer of so many numbers -/
abbrev nUs (l : List Int) : LV := .one (.agg (l.map fun n => .int .u64 (.sym n)))
end Go.Proofs.Ytdpbkfmjknmmnaa
