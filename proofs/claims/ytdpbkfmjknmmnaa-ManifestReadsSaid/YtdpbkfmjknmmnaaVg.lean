/- A reader of code, third make: the operations' laws. -/
import Derived.Test.YtdpbkfmjknmmnaaVf
set_option linter.unusedVariables false
set_option linter.unusedSimpArgs false
namespace Go.Ev
open Go

theorem setAt_set : ∀ {hp : Hp} {i : Nat} {x : Item}, i < hp.length → setAt hp i x = hp.set i (some x)
  | [], _, _, h => by simp at h
  | _ :: _, 0, _, _ => rfl
  | _ :: l, i + 1, x, h => by simp only [setAt, List.set_cons_succ]; rw [setAt_set (by simpa using h)]
theorem setAt_at {hp : Hp} {i : Nat} {x y : Item} (h : hp[i]? = some (some y)) : setAt hp i x = hp.set i (some x) := setAt_set (List.getElem?_eq_some_iff.1 h).1

section
variable {W : World} {hp₀ : Hp} {β₀ β : Env} {hp : Hp} {w : World}
theorem HRel.newBlk (h : HRel W hp₀ β₀ β hp w) {id : Nat} (hid : kd hp id = none) {cells : List SV} {c : List Value} (t : TypeId) (hc : DenL β (kd hp) cells c) :
    ∃ β', HRel W hp₀ β₀ β' (setAt hp id (.blk cells t)) (w.alloc (.cells c.toArray t)) ∧ Agree β β' (kd hp) (kd (setAt hp id (.blk cells t))) ∧ β'.b id = w.heap.size := by
  have hb : (⟨fun j => if j = id then w.heap.size else β.b j, β.h, β.rd⟩ : Env).b id = w.heap.size := if_pos rfl
  obtain ⟨h1, h2⟩ := h.add hid (x := .blk cells t) (β' := ⟨fun j => if j = id then w.heap.size else β.b j, β.h, β.rd⟩) (w' := w.alloc (.cells c.toArray t)) (fun j hj => if_neg hj) (fun j _ => rfl) rfl (by simp) rfl rfl
    (fun b hb => heap_alloc_old w _ b hb) (fun b ho => by
      have ho' : b = if id = id then w.heap.size else β.b id := ho
      rw [if_pos rfl] at ho'; omega)
    fun hag => ⟨c, (0, 0), by rw [hb]; exact heap_alloc_new w _, .inl rfl, hc.mono hag⟩
  exact ⟨_, h1, h2, hb⟩
theorem HRel.newOwn (h : HRel W hp₀ β₀ β hp w) {id : Nat} (hid : kd hp id = none) {v : Value} {ver : Nat} {t : Ty} {l : List t.D} {w' : World} (hs : w.heap.size ≤ w'.heap.size) (hos : w'.os = w.os) (hout : w'.output = w.output)
    (hold : ∀ b, b < w.heap.size → w'.heap[b]? = w.heap[b]?) (hv : OwnOk β w' v t l) (hblk : ∀ a n c, v = .slice (some a) n c → 0 < c → w.heap.size ≤ a.block) :
    ∃ β', HRel W hp₀ β₀ β' (setAt hp id (.own ver t l)) w' ∧ Agree β β' (kd hp) (kd (setAt hp id (.own ver t l))) ∧ β'.h id = v := by
  have hb : (⟨β.b, fun j => if j = id then v else β.h j, β.rd⟩ : Env).h id = v := if_pos rfl
  obtain ⟨h1, h2⟩ := h.add hid (x := .own ver t l) (β' := ⟨β.b, fun j => if j = id then v else β.h j, β.rd⟩) (w' := w') (fun j hj => rfl) (fun j hj => if_neg hj) rfl hs hos hout hold
    (fun b ho => by
      obtain ⟨a, n, c, e, h0, rfl⟩ := ho
      rw [hb] at e
      exact hblk a n c e h0)
    fun hag => by show OwnOk _ w' _ t l; rw [hb]; exact hv.of hag.rd fun _ _ _ _ _ => rfl
  exact ⟨_, h1, h2, hb⟩
/-- an own slice that changes -/
theorem HRel.updOwn (h : HRel W hp₀ β₀ β hp w) {i : Nat} {ver ver' : Nat} {t : Ty} {l l' : List t.D} (hi : hp[i]? = some (some (.own ver t l))) {v : Value} {w' : World} (hver : ver < ver' ∨ (ver = ver' ∧ v = β.h i))
    (hs : w.heap.size ≤ w'.heap.size) (hos : w'.os = w.os) (hout : w'.output = w.output)
    (hold : ∀ b, b < w.heap.size → ¬ Owns β (.own ver t l) i b → w'.heap[b]? = w.heap[b]?) (hv : OwnOk β w' v t l')
    (hblk : ∀ a n c, v = .slice (some a) n c → 0 < c → Owns β (.own ver t l) i a.block ∨ w.heap.size ≤ a.block) :
    ∃ β', HRel W hp₀ β₀ β' (setAt hp i (.own ver' t l')) w' ∧ Agree β β' (kd hp) (kd (setAt hp i (.own ver' t l'))) ∧ β'.h i = v := by
  have hb : (⟨β.b, fun j => if j = i then v else β.h j, β.rd⟩ : Env).h i = v := if_pos rfl
  rw [setAt_at hi]
  obtain ⟨h1, h2⟩ := h.upd hi (x' := .own ver' t l') (β' := ⟨β.b, fun j => if j = i then v else β.h j, β.rd⟩) (w' := w') rfl (fun j hj => if_neg hj) rfl
    (.inr ⟨ver, ver', rfl, rfl, by omega, fun e => by rw [hb]; rcases hver with k | ⟨_, k⟩
                                                      · omega
                                                      · exact k⟩) hs hos hout hold
    (fun b ho => by
      obtain ⟨a, n, c, e, h0, rfl⟩ := ho
      rw [hb] at e
      exact hblk a n c e h0)
    fun hag => by show OwnOk _ w' _ t l'; rw [hb]; exact hv.of hag.rd fun _ _ _ _ _ => rfl
  exact ⟨_, h1, h2, hb⟩
/-- a block that changes -/
theorem HRel.updBlk (h : HRel W hp₀ β₀ β hp w) {i : Nat} {cells cells' : List SV} {elem : TypeId} (hi : hp[i]? = some (some (.blk cells elem))) {w' : World}
    (hs : w.heap.size ≤ w'.heap.size) (hos : w'.os = w.os) (hout : w'.output = w.output) (hold : ∀ b, b ≠ β.b i → w'.heap[b]? = w.heap[b]?)
    {c : List Value} {fz : Nat × Nat} (hc : w'.heap[β.b i]? = some (.cells c.toArray elem fz)) (hfz : FzOk fz c.length) (hd : DenL β (kd hp) cells' c) :
    HRel W hp₀ β₀ β (setAt hp i (.blk cells' elem)) w' ∧ Agree β β (kd hp) (kd (setAt hp i (.blk cells' elem))) := by
  rw [setAt_at hi]
  exact h.upd hi (x' := .blk cells' elem) rfl (fun _ _ => rfl) rfl (.inl ⟨rfl, rfl⟩) hs hos hout (fun b _ ho => hold b ho) (fun b ho => .inl ho) fun hag => ⟨c, fz, hc, hfz, hd.mono hag⟩

theorem HRel.blkAt (h : HRel W hp₀ β₀ β hp w) {i : Nat} {cells : List SV} {elem : TypeId} (hi : hp[i]? = some (some (.blk cells elem))) :
    ∃ (c : List Value) (fz : Nat × Nat), w.heap[β.b i]? = some (.cells c.toArray elem fz) ∧ FzOk fz c.length ∧ DenL β (kd hp) cells c ∧ HoldsAt w ⟨β.b i, 0, none⟩ c := by
  obtain ⟨c, fz, h1, h2, h3⟩ := h.items i _ hi
  refine ⟨c, fz, h1, h2, h3, ?_⟩
  have := holdsAt_cells (w := w) (b := β.b i) (pre := []) (mid := c) (post := []) (elem := elem) (fz := fz) (by simpa using h1)
  exact this

/-- cells stored into a block -/
theorem HRel.storeBlk {P : Program} (h : HRel W hp₀ β₀ β hp w) {i off : Nat} {cells cells' new : List SV} {elem : TypeId} (hi : hp[i]? = some (some (.blk cells elem))) (hp' : PutOk β (kd hp) cells cells' off new) {ws : List Value} (hn : DenL β (kd hp) new ws) :
    ∃ w', (storeCells ⟨β.b i, off, none⟩ ws).run P w = .ok () w' ∧ HRel W hp₀ β₀ β (setAt hp i (.blk cells' elem)) w' ∧ Agree β β (kd hp) (kd (setAt hp i (.blk cells' elem))) := by
  obtain ⟨c, fz, h1, h2, h3, _⟩ := h.blkAt hi
  obtain ⟨pre, old, post, rfl, e1, e2, h4⟩ := hp' _ _ h3 hn
  obtain ⟨w', k1, k2, k3, k4, k5, k6⟩ := run_storeRow (P := P) (a := ⟨β.b i, off, none⟩) rfl (elem := elem) (fz := fz) ws 0 pre old post w h1 (by simpa using e1) e2 hn.oneCells
    (fun o k1 k2 => h2.not (by simp; omega))
  obtain ⟨m1, m2⟩ := h.updBlk hi (cells' := cells') (w' := w') (by omega) k5 k6 k3 k2 (by
    have : (pre ++ (ws ++ post)).length = (pre ++ (old ++ post)).length := by simp [e2]
    rw [this]; exact h2) h4
  exact ⟨w', k1, m1, m2⟩

theorem run_storeVar {P : Program} {t : TypeId} {a : Addr} {v : Value} {ws : List Value} {n : Nat} {w' : World} (hs : sizeT P t = some n) (hv : v.cells = ws.toArray) (hl : ws.length = n) (hr : (storeCells a ws).run P w = .ok () w') :
    (storeVar t a v).run P w = .ok () w' := by
  unfold storeVar
  rw [hv]
  simp only [Sem.run_bind, run_sizeOf hs, Result.andThen_ok]
  simpa [hl] using hr

/-! ### What an element's pointer is of -/
/-- a slice whose elements can be read -/
structure ElemAt (β : Env) (pm : Bool) (w : World) (a : Addr) (t : Ty) (l : List t.D) : Prop where
  spot : a.spot = none
  holds : ∃ vss, HasL (t.has β pm) l vss ∧ HoldsAt w a vss

theorem contOf_ok (h : HRel W hp₀ β₀ β hp w) {s : SV} {pm : Bool} {t : Ty} {l : List t.D} {v : Value} (hc : (contOf s).val hp = some (pm, ⟨t, l⟩)) (hd : s.den β (kd hp) v) : ReadsAs β pm w v t l := by
  unfold contOf at hc
  rw [Ask.val_bind] at hc
  split at hc
  · rename_i t' _
    rw [Ask.val_map] at hc
    obtain ⟨⟨pm', l'⟩, h1, h2⟩ := map_some hc
    simp at h2; obtain ⟨rfl, rfl, h2⟩ := h2
    simp at h2; subst h2
    exact contAs_ok h h1 hd
  · cases hc

theorem ep_reads (h : HRel W hp₀ β₀ β hp w) {s : SV} {pm : Bool} {t : Ty} {l : List t.D} {wd : Nat} {z : Int} {f : Nat} {v : Value} (hc : (contOf s).val hp = some (pm, ⟨t, l⟩)) (hd : (SV.ep s wd z f).den β (kd hp) v) :
    ∃ a vss, v = .pointer (some (a.add (z.toNat * wd + f))) ∧ a.spot = none ∧ HasL (t.has β pm) l vss ∧ HoldsAt w a vss ∧ 0 ≤ z ∧ z.toNat < l.length := by
  obtain ⟨a, n, c, h1, h2, h3, rfl⟩ := hd
  obtain ⟨a', n', c', e, hn, _, _, hr⟩ := contOf_ok h hc h1
  simp at e; obtain ⟨rfl, rfl, rfl⟩ := e
  obtain ⟨a0, vss, e, k1, k2, k3⟩ := hr (by omega)
  simp at e; subst e
  exact ⟨a, vss, rfl, k1, k2, k3, h2, by omega⟩
end

section
variable {P : Program} {st : St} {o : Oper} {q : Option Prop} {v : LV} {d : List (Nat × Item)}

theorem run_slicePart {P : Program} {w : World} {β : Env} {L : Nat → Option Kd} {isS : Bool} {len cap : Nat} {lo hi mx : Option LV} {lov hiv mxv : Option Value} {r : Nat × Nat × Nat}
    (h : slicePart len cap lo hi mx = some r)
    (hlo : ∀ x, lo = some x → ∃ y, lov = some y ∧ x.den β L y) (hlo' : lo = none → lov = none)
    (hhi : ∀ x, hi = some x → ∃ y, hiv = some y ∧ x.den β L y) (hhi' : hi = none → hiv = none)
    (hmx' : mx = none → mxv = none) :
    (Instr.sliceBounds isS len cap lov hiv mxv).run P w = .ok r w := by
  unfold slicePart at h
  cases mx with
  | some x => simp at h
  | none =>
    simp only at h
    obtain rfl := hmx' rfl
    have hbound : ∀ (x : LV) (y : Value) (k : IntKind) (i c : Nat) (code : BoundsCode), litNat x = some (k, i) → x.den β L y → i ≤ c → (Instr.sliceBound y c code).run P w = .ok i w := by
      intro x y k i c code hl hd hle
      have := litNat_den hl hd
      subst this
      have h1 : (0 : Int) ≤ i ∧ (i : Int) ≤ c := by omega
      simp [Instr.sliceBound, asIntOf, h1]
    unfold Instr.sliceBounds
    cases hi with
    | none =>
      obtain rfl := hhi' rfl
      simp only at h
      cases lo with
      | none =>
        obtain rfl := hlo' rfl
        simp at h; subst h
        simp
      | some x =>
        obtain ⟨y, rfl, hd⟩ := hlo x rfl
        simp only at h
        cases hl : litNat x with
        | none => simp [hl] at h
        | some p =>
          obtain ⟨k, i⟩ := p
          simp only [hl] at h
          split at h
          · rename_i hle
            simp at h; subst h
            simp [hbound x y k i len _ hl hd hle]
          · simp at h
    | some z =>
      obtain ⟨u, rfl, hdz⟩ := hhi z rfl
      simp only at h
      cases hlz : litNat z with
      | none => simp [hlz] at h
      | some p =>
        obtain ⟨kz, iz⟩ := p
        simp only [hlz] at h
        split at h
        · simp at h
        · rename_i hh hle
          split at hle
          · rename_i hle2
            simp at hle; subst hle
            cases lo with
            | none =>
              obtain rfl := hlo' rfl
              simp at h; subst h
              simp [hbound z u kz iz cap _ hlz hdz hle2]
            | some x =>
              obtain ⟨y, rfl, hd⟩ := hlo x rfl
              simp only at h
              cases hl : litNat x with
              | none => simp [hl] at h
              | some p =>
                obtain ⟨k, i⟩ := p
                simp only [hl] at h
                split at h
                · rename_i hle
                  simp at h; subst h
                  simp [hbound z u kz iz cap _ hlz hdz hle2, hbound x y k i iz _ hl hd hle]
                · simp at h
          · simp at hle
theorem run_sliceSym {P : Program} {W : World} {hp₀ : Hp} {β₀ β : Env} {st : St} {a : Act} {w : World} (hr : Rel W hp₀ β₀ β st a w) {isS : Bool} {lo hi : Option Operand} {n c : Nat} {x y : Int}
    (hlo : boundEv 0 (lo.map (ev st)) = some x) (hhi : boundEv n (hi.map (ev st)) = some y) (h0 : 0 ≤ x) (h1 : x ≤ y) (h2 : y ≤ n) (hc : n ≤ c) :
    (Instr.sliceBounds isS n c (lo.map a.eval) (hi.map a.eval) none).run P w = .ok (x.toNat, y.toNat, c) w := by
  have hbnd : ∀ (z : Operand) (m : Int) (c : Nat) (code : BoundsCode), (anyInt (ev st z)).map (·.2) = some m → 0 ≤ m → m ≤ c → (Instr.sliceBound (a.eval z) c code).run P w = .ok m.toNat w := by
    intro z m c code hz h0 h1
    obtain ⟨⟨k', n'⟩, hz1, rfl⟩ := map_some hz
    have := anyInt_den hz1 (ev_den hr z)
    rw [this]
    simp [Instr.sliceBound, asIntOf, h0, h1]
  have hy : ∀ z, hi = some z → ∀ code, (Instr.sliceBound (a.eval z) c code).run P w = .ok y.toNat w := fun z hz code => by
    subst hz
    exact hbnd z y c _ (by simpa [boundEv] using hhi) (by omega) (by omega)
  have hx : ∀ z, lo = some z → ∀ code, (Instr.sliceBound (a.eval z) y.toNat code).run P w = .ok x.toNat w := fun z hz code => by
    subst hz
    exact hbnd z x _ _ (by simpa [boundEv] using hlo) h0 (by omega)
  have hy0 : hi = none → y.toNat = n := fun h => by
    subst h
    have : (n : Int) = y := by simpa [boundEv] using hhi
    omega
  have hx0 : lo = none → x.toNat = 0 := fun h => by
    subst h
    have : (0 : Int) = x := by simpa [boundEv] using hlo
    omega
  unfold Instr.sliceBounds
  cases hi with
  | none =>
    have e1 := hy0 rfl
    cases lo with
    | none => have e2 := hx0 rfl; simp [e1, e2]
    | some z => have e2 := hx z rfl; rw [e1] at e2; simp [e1, e2]
  | some z' =>
    have e1 := hy z' rfl
    cases lo with
    | none => have e2 := hx0 rfl; simp [e1, e2]
    | some z => have e2 := hx z rfl; simp [e1, e2]

theorem opOk_new {id : Nat} {cells : List SV} {t : TypeId} {mk : Act → Sem Value} (hop : ∀ a : Act, execOp a.eval o = (do pure (.value (← mk a))))
    (h : ∀ W hp₀ β₀ β a w, Rel W hp₀ β₀ β st a w → ∃ c : List Value, DenL β (kd st.hp) cells c ∧ (mk a).run P w = .ok (.pointer (some ⟨w.heap.size, 0, none⟩)) (w.alloc (.cells c.toArray t))) (hid : kd st.hp id = none) :
    OpOk P o st none (.one (.sc (.ptr id 0))) [(id, .blk cells t)] := by
  intro _ W hp₀ β₀ β a w hr
  obtain ⟨c, hd, hrun⟩ := h W hp₀ β₀ β a w hr
  obtain ⟨β', h1, h2, h3⟩ := hr.heap.newBlk hid t hd
  refine ⟨β', _, _, .pointer (some ⟨w.heap.size, 0, none⟩), ?_, .inl rfl, ?_, h1, h2⟩
  · rw [hop, Sem.run_bind, hrun]; rfl
  · refine ⟨?_, by rw [h3]⟩
    show kd (setAt st.hp id (.blk cells t)) id = some .blk
    rw [kd_setAt, if_pos rfl]; rfl
end
end Go.Ev
