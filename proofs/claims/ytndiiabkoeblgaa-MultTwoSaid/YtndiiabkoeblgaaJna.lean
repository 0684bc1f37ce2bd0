/- A law's statement out of what its code gives: the answer is true, all else is as it was. -/
import Derived.Test.YtndiiabkoeblgaaEvg
import Derived.Test.YtndiiabkoeblgaaRows
import Derived.WalkKit
import Derived.ProofKit
import Derived.OpenShut
import Derived.JoinedCond
import Derived.JoinedOf
import Derived.Handed
import Derived.ReadAgain
import Derived.ChangeStays
namespace Go.Proofs.Ytndiiabkoeblgaa
open Go Go.Ev Go.ChangeShapes Go.WideShapes Go.ChangeAt Go.RowKit

set_option maxRecDepth 100000
theorem own_knob : ownKnob Try.prog.godebug = none := by kernel_rfl
theorem laid_out : laidOutB Try.prog = true := by kernel_rfl
theorem maps_rowed : mapsRowed Try.prog = true := by kernel_rfl
theorem slices_full : ∀ t e, t < Try.prog.types.size → Try.prog.underlying t = some (.slice e) → 0 < Try.prog.cellsOf e := slices_full_of Try.prog (by kernel_rfl)

/-- nothing that was there has turned -/
structure Kept (W W' : World) : Prop where
  os : W'.os = W.os
  output : W'.output = W.output
  size : W.heap.size ≤ W'.heap.size
  block : ∀ b, b < W.heap.size → W'.heap[b]? = W.heap[b]?
theorem Kept.same {W W' : World} (h : Kept W W') {p : MemPlace} (hp : p.block < W.heap.size) : W.sameAt W' p := by
  cases p with
  | cell b o => exact World.cell?_of_block (w := W) (h.block b hp)
  | map b => exact h.block b hp
theorem Kept.but {W W' : World} (h : Kept W W') (may : MemPlace → Prop) : W.keptBut W' may := by
  refine ⟨h.os, h.output, fun i hi => ?_⟩
  rw [h.block i hi]
  split <;> simp_all

theorem trodAll_kept {H : Type} {enc : TypeId × Value → H} {W W' : World} (hk : Kept W W') : ∀ {ts : List TypeId} {vs : List Value} {ds : List (DataW H)} {ps : List MemPlace}, (∀ t ∈ ts, t < Try.prog.types.size) →
    DataW.TrodAll enc Try.prog W 0 (fun _ => true) true ts vs ds ps → (∀ p ∈ ps, p.block < W.heap.size) → DataW.TrodAll enc Try.prog W' 0 (fun b => decide (b < W.heap.size)) true ts vs ds ps
  | [], [], [], _, _, h, _ => h
  | t :: _, _ :: _, _ :: _, _, hT, ⟨p, q, ⟨n, h1⟩, h2, e⟩, hs => by
    have hp : ∀ x ∈ p, x.block < W.heap.size := fun x hx => hs x (by rw [e]; exact List.mem_append_left _ hx)
    have hz : ∀ {t e : TypeId}, t < Try.prog.types.size → Try.prog.underlying t = some (.slice e) → 0 < Try.prog.cellsOf e := fun {t e} a b => slices_full t e a b
    refine ⟨p, q, ⟨n, ?_⟩, trodAll_kept hk (fun t ht => hT t (List.mem_cons.2 (Or.inr ht))) h2 (fun x hx => hs x (by rw [e]; exact List.mem_append_right _ hx)), e⟩
    exact DataW.trod_stays (T := fun t => t < Try.prog.types.size) (kids_rows laid_out maps_rowed) hz (fun h => by cases h) (hT t (List.mem_cons.2 (Or.inl rfl))) h1 (fun x hx => hk.same (hp x hx)) (fun x hx => by simpa using hp x hx)
  | [], _ :: _, _, _, _, h, _ => h.elim
  | [], [], _ :: _, _, _, h, _ => h.elim
  | _ :: _, [], _, _, _, h, _ => h.elim
  | _ :: _, _ :: _, [], _, _, h, _ => h.elim

/-- what a law's statement asks, behind its call -/
theorem law_post {H : Type} {enc : TypeId × Value → H} {fn : Func} {s : ChangeSpec} {W W' : World} {args : Array Value} {ds gs : List (DataW H)} {before : List MemPlace} {tb : TypeId} {apart : Bool}
    (hr : fn.resultTypes = #[tb]) (hb : Try.prog.underlying tb = some .bool) (hT : ∀ t ∈ fn.params.toList, t < Try.prog.types.size)
    (hW : DataW.Whole enc Try.prog fn.params.toList s.vars apart W args.toList ds gs before) (hv : s.vars = []) (hs : s.fn H ds = { results := [.lit (.bool true)], args := ds })
    (hk : Kept W W') : s.post enc Try.prog fn apart true false false W args (.bool true) W' := by
  have hlt := hW.lt
  have hW' := hW
  obtain ⟨p, q, h1, h2, h3, h4, h5⟩ := hW
  rw [hv] at h2
  obtain ⟨rfl, rfl⟩ := trodVars_none h2
  rw [List.append_nil] at h3
  subst h3
  have e : s.fn H (ds ++ []) = { results := [.lit (.bool true)], args := ds } := by rw [List.append_nil]; exact hs
  refine ⟨ds, [], before, [], before, [], hW', ?_, ?_, ?_, hk.but _, fun h => by cases h⟩
  · rw [e, hr]
    exact trodAll_cons_mk (shut_bool hb true) trodAll_mk0
  · rw [e]
    exact trodAll_kept hk hT h1 hlt
  · rw [hv, e]; rfl

/-- a call whose arguments are plain -/
theorem calls_of_gives {f : FuncId} {args : List LV} {vals : Array Value} {b : Bool} (h : Gives Try.prog f args (.one (cBool.wr b))) (W : World) (hv : ∀ (β : Nat → Nat) (L : Nat → Prop), All2 (LV.den β L) args vals.toList) :
    Calls Try.prog f vals W fun e W' => e = .returned (.bool b) ∧ Kept W W' := by
  have h0 : HRel W (Live []) (fun _ => 0) (fun _ => 0) [] W := ⟨fun i blk h => by simp at h, fun i j ⟨_, h⟩ => by simp at h, fun i ⟨_, h⟩ => by simp at h, fun i _ ⟨_, h⟩ => by simp at h, rfl, rfl, Nat.le_refl _, fun _ _ _ => rfl⟩
  have key := h W (Live []) (fun _ => 0) (fun _ => 0) W vals.toList h0 (hv _ _)
  rw [show vals.toList.toArray = vals from by simp] at key
  refine key.mono ?_
  rintro e W' ⟨val, β', r, hp', rfl, rfl, h3, h4, _⟩
  have : val = .bool b := h3
  subst this
  exact ⟨rfl, h4.os, h4.output, h4.size, fun b hb => h4.keep b hb fun i ⟨_, hi⟩ => by simp at hi⟩

/-! ### Arguments -/
theorem ints_vec {k : IntKind} : ∀ {n : Nat} {l : List Value}, l.length = n → (∀ x ∈ l, ∃ z, x = .int k z ∧ (Lit.int k z).wf = true) → ∃ u : Vec Int n, l = u.toList.map (.int k) ∧ ∀ z ∈ u.toList, (Lit.int k z).wf = true
  | 0, [], _, _ => ⟨(), rfl, fun _ h => by simp [Vec.toList] at h⟩
  | 0, _ :: _, h, _ => by simp at h
  | n + 1, [], h, _ => by simp at h
  | n + 1, x :: l, h, hx => by
    obtain ⟨z, rfl, hz⟩ := hx x (by simp)
    obtain ⟨u, e, hu⟩ := ints_vec (n := n) (l := l) (by simpa using h) fun y hy => hx y (by simp [hy])
    refine ⟨(z, u), by rw [e]; rfl, fun y hy => ?_⟩
    rcases List.mem_cons.1 hy with rfl | hy
    · exact hz
    · exact hu y hy
theorem vec_den {k : IntKind} {β : Nat → Nat} {L : Nat → Prop} : ∀ {n : Nat} (u : Vec Int n), All2 (SV.den β L) ((ccVec (ccInt k) n).wr u) (u.toList.map (.int k))
  | 0, _ => .nil
  | _ + 1, u => .cons rfl (vec_den u.2)
section
variable {H : Type} {enc : TypeId × Value → H} {W : World} {base : Nat} {t : TypeId} {v : Value} {d : DataW H} {p : List MemPlace}
theorem open_vec {e : TypeId} {k : IntKind} {n : Nat} (ht : Try.prog.underlying t = some (.array n e)) (he : Try.prog.underlying e = some (.int k)) (hc : Try.prog.cellsOf e = 1) (hct : Try.prog.cellsOf t = n)
    (hval : Value.okWide Try.prog W .any base t v) (h : DataW.Trod enc Try.prog W 0 (fun _ => true) true t v d p) :
    ∃ u : Vec Int n, v = .agg (u.toList.map (.int k)).toArray ∧ ∀ z ∈ u.toList, (Lit.int k z).wf = true := by
  unfold Value.okWide at hval
  rw [ht] at hval
  obtain ⟨cs, rfl, hsz, _⟩ := hval
  obtain ⟨fuel, h⟩ := h
  obtain ⟨xs, m, _, _, hl, hlen, hx⟩ := DataW.trod_array ht h
  simp only [Value.cells] at hl hx
  rw [hc] at hx
  obtain ⟨u, e1, hu⟩ := ints_vec (k := k) (n := n) (l := cs.toList) (by rw [hl, hct]) fun x hxm => by
    obtain ⟨i, hi, rfl⟩ := List.getElem_of_mem hxm
    have hin : i < n := by rw [hl, hct] at hi; exact hi
    have hthis := hx i hin
    rw [List.getElem?_eq_getElem (by omega), Nat.mul_one] at hthis
    have hone : (cs.toList.drop i).take 1 = [cs.toList[i]] := by
      rw [List.drop_eq_getElem_cons hi]; rfl
    rw [hone] at hthis
    cases m with
    | zero => simp [DataW.trod] at hthis
    | succ m =>
      unfold DataW.trod at hthis
      rw [he] at hthis
      generalize cs.toList[i] = y at *
      cases y <;> simp at hthis
      rename_i k' z
      obtain ⟨⟨rfl, hz⟩, _⟩ := hthis
      exact ⟨z, rfl, hz⟩
  exact ⟨u, by rw [← e1], hu⟩
end
theorem vec_arg {k : IntKind} {n : Nat} (u : Vec Int n) (β : Nat → Nat) (L : Nat → Prop) : (LV.one ((cVec k n).wr u)).den β L (.agg (u.toList.map (.int k)).toArray) :=
  ⟨u.toList.map (.int k), rfl, vec_den u⟩
end Go.Proofs.Ytndiiabkoeblgaa
namespace Go.Proofs.Ytndiiabkoeblgaa
open Go Go.Ev Go.ChangeShapes Go.WideShapes Go.ChangeAt Go.RowKit
theorem params_in {fn : Func} (h : (fn.params.toList.all fun t => decide (t < Try.prog.types.size)) = true) : ∀ t ∈ fn.params.toList, t < Try.prog.types.size := fun t ht => by
  simpa using List.all_eq_true.1 h t ht
theorem wf_u8 {z : Int} (h : (Lit.int .u8 z).wf = true) : 0 ≤ z ∧ z < 256 := by
  have := bounds_u8 h
  omega
end Go.Proofs.Ytndiiabkoeblgaa
