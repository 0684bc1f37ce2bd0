/- A law's statement out of what its code gives: the answer is true, all else is as it was. -/
import Derived.Test.YtdpbkfmjknmmnaaM0
import Derived.Test.YtdpbkfmjknmmnaaBt
import Derived.Test.YtdpbkfmjknmmnaaRows
import Derived.WalkKit
import Derived.ProofKit
import Derived.OpenShut
import Derived.JoinedCond
import Derived.JoinedOf
import Derived.Handed
import Derived.ReadAgain
import Derived.ChangeStays
set_option linter.unusedVariables false
set_option linter.unusedSimpArgs false
namespace Go.Proofs.Ytdpbkfmjknmmnaa
open Go Go.Ev Go.ChangeShapes Go.WideShapes Go.ChangeAt Go.RowKit

set_option maxRecDepth 100000
theorem own_knob : ownKnob Try.prog.godebug = none := by kernel_rfl
theorem laid_out : laidOutB Try.prog = true := by kernel_rfl
theorem maps_rowed : mapsRowed Try.prog = true := by kernel_rfl
theorem slices_full : ∀ t e, t < Try.prog.types.size → Try.prog.underlying t = some (.slice e) → 0 < Try.prog.cellsOf e := slices_full_of Try.prog (by kernel_rfl)

/-- nothing that was there has turned -/
structure Kept (W W' : World) : Prop where
  os : W'.os = W.os
  output : W'.output = W.output
  size : W.heap.size ≤ W'.heap.size
  block : ∀ b, b < W.heap.size → W'.heap[b]? = W.heap[b]?
theorem Kept.same {W W' : World} (h : Kept W W') {p : MemPlace} (hp : p.block < W.heap.size) : W.sameAt W' p := by
  cases p with
  | cell b o => exact World.cell?_of_block (w := W) (h.block b hp)
  | map b => exact h.block b hp
theorem Kept.but {W W' : World} (h : Kept W W') (may : MemPlace → Prop) : W.keptBut W' may := by
  refine ⟨h.os, h.output, fun i hi => ?_⟩
  rw [h.block i hi]
  split <;> simp_all

theorem trodAll_kept {H : Type} {enc : TypeId × Value → H} {W W' : World} (hk : Kept W W') : ∀ {ts : List TypeId} {vs : List Value} {ds : List (DataW H)} {ps : List MemPlace}, (∀ t ∈ ts, t < Try.prog.types.size) →
    DataW.TrodAll enc Try.prog W 0 (fun _ => true) true ts vs ds ps → (∀ p ∈ ps, p.block < W.heap.size) → DataW.TrodAll enc Try.prog W' 0 (fun b => decide (b < W.heap.size)) true ts vs ds ps
  | [], [], [], _, _, h, _ => h
  | t :: _, _ :: _, _ :: _, _, hT, ⟨p, q, ⟨n, h1⟩, h2, e⟩, hs => by
    have hp : ∀ x ∈ p, x.block < W.heap.size := fun x hx => hs x (by rw [e]; exact List.mem_append_left _ hx)
    have hz : ∀ {t e : TypeId}, t < Try.prog.types.size → Try.prog.underlying t = some (.slice e) → 0 < Try.prog.cellsOf e := fun {t e} a b => slices_full t e a b
    refine ⟨p, q, ⟨n, ?_⟩, trodAll_kept hk (fun t ht => hT t (List.mem_cons.2 (Or.inr ht))) h2 (fun x hx => hs x (by rw [e]; exact List.mem_append_right _ hx)), e⟩
    exact DataW.trod_stays (T := fun t => t < Try.prog.types.size) (kids_rows laid_out maps_rowed) hz (fun h => by cases h) (hT t (List.mem_cons.2 (Or.inl rfl))) h1 (fun x hx => hk.same (hp x hx)) (fun x hx => by simpa using hp x hx)
  | [], _ :: _, _, _, _, h, _ => h.elim
  | [], [], _ :: _, _, _, h, _ => h.elim
  | _ :: _, [], _, _, _, h, _ => h.elim
  | _ :: _, _ :: _, [], _, _, h, _ => h.elim

/-- what a law's statement asks, behind its call -/
theorem law_post {H : Type} {enc : TypeId × Value → H} {fn : Func} {s : ChangeSpec} {W W' : World} {args : Array Value} {ds gs : List (DataW H)} {before : List MemPlace} {tb : TypeId} {apart : Bool}
    (hr : fn.resultTypes = #[tb]) (hb : Try.prog.underlying tb = some .bool) (hT : ∀ t ∈ fn.params.toList, t < Try.prog.types.size)
    (hW : DataW.Whole enc Try.prog fn.params.toList s.vars apart W args.toList ds gs before) (hv : s.vars = []) (hs : s.fn H ds = { results := [.lit (.bool true)], args := ds })
    (hk : Kept W W') : s.post enc Try.prog fn apart true false false W args (.bool true) W' := by
  have hlt := hW.lt
  have hW' := hW
  obtain ⟨p, q, h1, h2, h3, h4, h5⟩ := hW
  rw [hv] at h2
  obtain ⟨rfl, rfl⟩ := trodVars_none h2
  rw [List.append_nil] at h3
  subst h3
  have e : s.fn H (ds ++ []) = { results := [.lit (.bool true)], args := ds } := by rw [List.append_nil]; exact hs
  refine ⟨ds, [], before, [], before, [], hW', ?_, ?_, ?_, hk.but _, fun h => by cases h⟩
  · rw [e, hr]
    exact trodAll_cons_mk (shut_bool hb true) trodAll_mk0
  · rw [e]
    exact trodAll_kept hk hT h1 hlt
  · rw [hv, e]; rfl

/-! ### Calls -/
/-- what can be read at the beginning -/
def env00 : Env := ⟨fun _ => 0, fun _ => .nilIface, fun _ _ _ _ => False⟩
def env0 (W : World) : Env := ⟨fun _ => 0, fun _ => .nilIface, fun pm v t l => pm = false ∧ 0 < t.w ∧ ReadsAs env00 false W v t l⟩
theorem env0_rel (W : World) : HRel W [] (env0 W) (env0 W) [] W := by
  refine ⟨fun i x h => by simp at h, fun i j x y b h => by simp at h, Agree.refl _ _, fun i x b h => by simp at h, rfl, rfl, Nat.le_refl _, fun _ _ _ => rfl, fun pm v t l h => ?_, fun pm v t l b h1 h2 => .inr ⟨pm, v, t, l, id, h1, h2⟩⟩
  obtain ⟨rfl, hw, h⟩ := h
  refine ⟨h.mono (β' := env0 W) (fun _ _ _ _ (h : False) => h.elim), fun b hb => ⟨?_, fun ⟨i, x, hi, _⟩ => by simp at hi⟩⟩
  obtain ⟨a, n, c, rfl, hn, hc, _, hr⟩ := h
  cases a with
  | none => exact hb.elim
  | some a =>
    obtain ⟨h0, rfl⟩ := hb
    obtain ⟨a0, vss, e, h1, h2, h3⟩ := hr h0
    cases e
    refine h3.lt fun e => ?_
    have h4 := hasL_length h2
    rw [e, ← hn] at h4
    have := Nat.mul_pos h0 hw
    simp at h4
    omega
theorem calls_of_ent {f : FuncId} {e : Ent} (he : e.Ok Try.prog f) {args : List LV} {q : Option Prop} (hrun : e.run args [] = .leaf q (nB true) []) (hq : needs q) (W : World) {vals : Array Value} (hd : All2 (LV.den (env0 W) (kd [])) args vals.toList) :
    Calls Try.prog f vals W fun e W' => e = .returned (.bool true) ∧ Kept W W' := by
  have key := he.calls args [] (fun v d => v = nB true ∧ d = []) (by rw [hrun]; exact ⟨hq, rfl, rfl⟩) (env0 W) W vals.toList (env0_rel W) hd
  rw [show vals.toList.toArray = vals from by simp] at key
  refine key.mono ?_
  rintro e W' ⟨val, β', r, hp', rfl, ⟨d, ⟨rfl, rfl⟩, rfl⟩, h3, h4⟩
  have : val = .bool true := h3
  subst this
  exact ⟨rfl, h4.os, h4.output, h4.size, fun b hb => h4.keep b hb fun ⟨i, x, hi, _⟩ => by simp at hi⟩
theorem params_in {fn : Func} (h : (fn.params.toList.all fun t => decide (t < Try.prog.types.size)) = true) : ∀ t ∈ fn.params.toList, t < Try.prog.types.size := fun t ht => by
  simpa using List.all_eq_true.1 h t ht

/-! ### Values that are numbers, one behind the other -/
inductive Bt where
  | int (k : IntKind)
  | bool
def Bt.fits : Bt → Value → Prop
  | .int k, v => ∃ z, v = .int k z ∧ (Lit.int k z).wf = true
  | .bool, v => ∃ b, v = .bool b
/-- the kinds of a row of cells, where they are numbers alone -/
def flatT (P : Program) : Nat → TypeId → Option (List Bt)
  | 0, _ => none
  | n + 1, t => match P.underlying t with
    | some .bool => some [.bool]
    | some (.int k) => some [.int k]
    | some (.struct fs) => (fs.toList.foldl (fun acc f => match acc with
        | some l => if f.offset = l.length then match flatT P n f.type with
            | some m => if m.length = P.cellsOf f.type then some (l ++ m) else none
            | none => none
          else none
        | none => none) (some [])).bind fun l => if l.length = P.cellsOf t then some l else none
    | some (.array k e) => match flatT P n e with
        | some m => if m.length = P.cellsOf e ∧ P.cellsOf t = k * m.length then some ((List.replicate k m).flatten) else none
        | none => none
    | _ => none
section
variable {H : Type} {enc : TypeId × Value → H} {P : Program} {w : World} {base : Nat} {spare : Nat → Bool} {held : Bool}
theorem flat_ok : ∀ (n : Nat) {t : TypeId} {ks : List Bt}, flatT P n t = some ks → ∀ {fuel : Nat} {cs : List Value} {x : DataW H × List MemPlace}, DataW.trod enc P w base spare held fuel t cs = some x → All2 Bt.fits ks cs
  | 0, _, _, h, _, _, _, _ => by cases h
  | n + 1, t, ks, h, fuel, cs, x, hx => by
    simp only [flatT] at h
    cases hu : P.underlying t with
    | none => rw [hu] at h; cases h
    | some d =>
      rw [hu] at h
      cases d with
      | bool =>
        cases h
        cases fuel with
        | zero => simp [DataW.trod] at hx
        | succ m =>
          unfold DataW.trod at hx
          rw [hu] at hx
          split at hx <;> simp_all
          exact .cons ⟨_, rfl⟩ .nil
      | int k =>
        cases h
        cases fuel with
        | zero => simp [DataW.trod] at hx
        | succ m =>
          unfold DataW.trod at hx
          rw [hu] at hx
          split at hx <;> simp_all
          obtain ⟨⟨rfl, hz⟩, _⟩ := hx
          exact .cons ⟨_, rfl, hz⟩ .nil
      | struct fs =>
        obtain ⟨xs, m, _, _, hl, hlen, hf⟩ := DataW.trod_struct hu hx
        obtain ⟨l, hl1, hl2⟩ := Option.bind_eq_some_iff.1 h
        split at hl2
        · rename_i hle
          cases hl2
          have hfs : ∀ f ∈ fs.toList, ∃ y, DataW.trod enc P w base spare held m f.type ((cs.drop f.offset).take (P.cellsOf f.type)) = some y := by
            intro f hfm
            obtain ⟨i, hi, rfl⟩ := List.getElem_of_mem hfm
            have hi' : i < fs.size := by simpa using hi
            have := hf i fs[i] (by simp [hi'])
            rw [List.getElem?_eq_getElem (by omega)] at this
            exact ⟨_, this⟩
          have key : ∀ (fl : List Field) (acc l : List Bt), (∀ f ∈ fl, ∃ y, DataW.trod enc P w base spare held m f.type ((cs.drop f.offset).take (P.cellsOf f.type)) = some y) →
              fl.foldl (fun acc f => match acc with
                | some l => if f.offset = l.length then match flatT P n f.type with
                    | some m => if m.length = P.cellsOf f.type then some (l ++ m) else none
                    | none => none
                  else none
                | none => none) (some acc) = some l → All2 Bt.fits acc (cs.take acc.length) → All2 Bt.fits l (cs.take l.length) := by
            intro fl
            induction fl with
            | nil => intro acc l _ h1 h2; simp at h1; subst h1; exact h2
            | cons f fl ih =>
              intro acc l hfs h1 h2
              simp only [List.foldl_cons] at h1
              have hnone : ∀ fl : List Field, fl.foldl (fun acc f => match acc with
                | some l => if f.offset = l.length then match flatT P n f.type with
                    | some m => if m.length = P.cellsOf f.type then some (l ++ m) else none
                    | none => none
                  else none
                | none => none) (none : Option (List Bt)) = none := by
                intro fl
                induction fl with
                | nil => rfl
                | cons f fl ih => exact ih
              split at h1
              · rename_i ho
                split at h1
                · rename_i mk hmk
                  split at h1
                  · rename_i hmc
                    obtain ⟨y, hy⟩ := hfs f (by simp)
                    have hft := flat_ok n hmk hy
                    rw [ho, ← hmc] at hft
                    refine ih (acc ++ mk) l (fun f hf => hfs f (by simp [hf])) h1 ?_
                    rw [List.length_append, List.take_add]
                    exact h2.append hft
                  · rw [hnone] at h1; cases h1
                · rw [hnone] at h1; cases h1
              · rw [hnone] at h1; cases h1
          have := key fs.toList [] ks hfs hl1 .nil
          rwa [List.take_of_length_le (by omega)] at this
        · cases hl2
      | array k e =>
        simp only at h
        split at h
        · rename_i mk hmk
          split at h
          · rename_i hc
            cases h
            obtain ⟨xs, m, _, _, hl, hlen, hf⟩ := DataW.trod_array hu hx
            have hsub : ∀ i, i < k → All2 Bt.fits mk ((cs.drop (i * mk.length)).take mk.length) := by
              intro i hi
              have := hf i hi
              rw [List.getElem?_eq_getElem (by omega)] at this
              have h2 := flat_ok n hmk this
              rwa [← hc.1] at h2
            have key : ∀ (j : Nat), j ≤ k → All2 Bt.fits (List.replicate j mk).flatten (cs.take (j * mk.length)) := by
              intro j
              induction j with
              | zero => intro _; simp; exact .nil
              | succ j ih =>
                intro hj
                rw [List.replicate_succ', List.flatten_append, Nat.succ_mul, List.take_add]
                have := hsub j (by omega)
                exact (ih (by omega)).append (by simpa using this)
            have := key k (Nat.le_refl _)
            rwa [List.take_of_length_le (by omega)] at this
          · cases h
        · cases h
      | _ => cases h
end
/-- a row of numbers of one kind -/
theorem fits_row {k : IntKind} {β : Env} {pm : Bool} : ∀ (n : Nat) {ks : List Bt} {cs : List Value}, All2 Bt.fits (List.replicate n (.int k) ++ ks) cs →
    ∃ (l : List Int) (us rest : List Value), cs = us ++ rest ∧ l.length = n ∧ us = l.map (.int k) ∧ HasL ((Ty.int k).has β pm) l us ∧ (∀ z ∈ l, (Lit.int k z).wf = true) ∧ All2 Bt.fits ks rest
  | 0, _, cs, h => ⟨[], [], cs, rfl, rfl, rfl, .nil, (fun _ h => by cases h), h⟩
  | n + 1, ks, cs, h => by
    rw [List.replicate_succ, List.cons_append] at h
    cases h with
    | cons h1 h2 =>
      obtain ⟨z, rfl, hz⟩ := h1
      obtain ⟨l, us, rest, rfl, h3, h4, h5, h6, h7⟩ := fits_row n h2
      exact ⟨z :: l, .int k z :: us, rest, rfl, by simp [h3], by rw [h4]; rfl, HasL.cons (vs := [.int k z]) rfl h5, (fun y hy => by
        rcases List.mem_cons.1 hy with rfl | hy
        · exact hz
        · exact h6 y hy), h7⟩
theorem wf_u8 {z : Int} (h : (Lit.int .u8 z).wf = true) : By z := by
  have := bounds_u8 h
  unfold By; omega
theorem cells_u8 : Try.prog.cellsOf 5 = 1 := by kernel_rfl
theorem open_bytes {H : Type} {enc : TypeId × Value → H} {W : World} {base : Nat} {v : Value} {d : DataW H} {p : List MemPlace}
    (hval : Value.okWide Try.prog W .any base 31 v) (h : DataW.Trod enc Try.prog W 0 (fun _ => true) true 31 v d p) :
    ∃ l : List Int, AllBy l ∧ (LV.one (.sc (.rd false false u8 l))).den (env0 W) (kd []) v := by
  obtain ⟨fuel, h⟩ := h
  have hone : v.cells.toList = [v] := by
    unfold Value.okWide at hval
    rw [Try.underlying31] at hval
    cases v <;> first | rfl | (exfalso; simp [Cell.okWide, Cell.ok, Try.underlying31] at hval)
  rw [hone] at h
  rcases open_ints Try.underlying31 Try.underlying5 cells_u8 h with ⟨e, _⟩ | ⟨a, len, cap, zs, e, _, hlc, _, hzl, _, hcell, hwf⟩
  · obtain rfl : v = .slice none 0 0 := by simpa using e
    exact ⟨[], fun z hz => (by simp at hz), rfl, (fun e => by cases e), .inr (.inr ⟨rfl, rfl⟩)⟩
  · obtain rfl : v = .slice (some a) len cap := by simpa using e
    simp only [if_true] at hzl
    refine ⟨zs.take len, fun z hz => wf_u8 (hwf z (List.mem_of_mem_take hz)), rfl, (fun e => by cases e), .inr (.inl ⟨rfl, rfl, by decide, ?_⟩)⟩
    refine ⟨some a, len, cap, rfl, by simp; omega, hlc, (fun e => by cases e), fun h0 => ?_⟩
    have h00 := hcell 0 (by omega)
    have hsp : a.spot = none := by
      have : a.add 0 = a := by cases a; simp [Addr.add]
      rw [this] at h00
      exact World.cell?_spot h00
    refine ⟨a, (zs.take len).map (.int .u8), rfl, hsp, ?_, fun i u hu => ?_⟩
    · generalize zs.take len = l
      induction l with
      | nil => exact .nil
      | cons x l ih => exact HasL.cons (vs := [.int .u8 x]) rfl ih
    · rw [List.getElem?_map] at hu
      obtain ⟨z, hz, rfl⟩ := map_some hu
      have hil : i < len ∧ i < zs.length := by
        have := (List.getElem?_eq_some_iff.1 hz).1
        simp at this; omega
      rw [hcell i hil.2]
      rw [List.getElem?_take, if_pos hil.1] at hz
      rw [List.getD_eq_getElem?_getD, hz]; rfl
end Go.Proofs.Ytdpbkfmjknmmnaa
