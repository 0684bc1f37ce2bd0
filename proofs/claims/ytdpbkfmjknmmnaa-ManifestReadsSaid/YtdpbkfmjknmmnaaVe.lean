/- A reader of code, third make: one of many; what slices read as. -/
import Derived.Test.YtdpbkfmjknmmnaaVd
set_option linter.unusedVariables false
set_option linter.unusedSimpArgs false
namespace Go.Ev
open Go

/-! ### One of some values -/
def intOf (k : IntKind) : SV → Option Int
  | .int k' n => if k' = k then some n.val else none
  | _ => none
def boolOf : SV → Option Bool
  | .bool b => some b.val
  | _ => none
def selS (z : Int) (col : List SV) : SV :=
  match col with
  | .int k _ :: _ => match optAll (intOf k) col with
    | some l => .int k (.sym (l.getD z.toNat 0))
    | none => .junk
  | .bool _ :: _ => match optAll boolOf col with
    | some l => .bool (.sym (l.getD z.toNat false))
    | none => .junk
  | _ => .junk
theorem optAll_get {α β : Type} {f : α → Option β} : ∀ {l : List α} {m : List β}, optAll f l = some m → ∀ {i : Nat} {a : α}, l[i]? = some a → ∃ b, m[i]? = some b ∧ f a = some b
  | [], m, h, i, a, hi => by simp at hi
  | x :: l, m, h, i, a, hi => by
    simp only [optAll] at h
    split at h
    · rename_i y m' h1 h2
      simp at h; subst h
      cases i with
      | zero => simp at hi; subst hi; exact ⟨y, by simp, h1⟩
      | succ i => simp at hi; obtain ⟨b, hb, hf⟩ := optAll_get h2 hi; exact ⟨b, by simpa using hb, hf⟩
    · simp at h
theorem selS_ok {β : Env} {L : Nat → Option Kd} {z : Int} {col : List SV} {s : SV} {v : Value} (hs : col[z.toNat]? = some s) (h : s.den β L v) : (selS z col).den β L v := by
  have h1 := SV.den_oneCell h
  unfold selS
  split
  · rename_i k n rest
    split
    · rename_i l hl
      obtain ⟨b, hb, hf⟩ := optAll_get hl hs
      unfold intOf at hf
      split at hf
      · split at hf
        · rename_i hk; subst hk
          simp at hf; subst hf
          have e : v = .int _ _ := h
          show v = .int _ (l.getD z.toNat 0)
          rw [e, List.getD_eq_getElem?_getD, hb]; rfl
        · simp at hf
      · simp at hf
    · exact h1
  · rename_i n rest
    split
    · rename_i l hl
      obtain ⟨b, hb, hf⟩ := optAll_get hl hs
      unfold boolOf at hf
      split at hf
      · simp at hf; subst hf
        have e : v = .bool _ := h
        show v = .bool (l.getD z.toNat false)
        rw [e, List.getD_eq_getElem?_getD, hb]; rfl
      · simp at hf
    · exact h1
  · exact h1
def noRow (l : List SV) : Bool := l.all fun s => match s with | .arr _ _ _ => false | _ => true
def scOf : VV → Option SV
  | .sc s => some s
  | _ => none
def aggOf (n : Nat) : VV → Option (List SV)
  | .agg l => if l.length = n ∧ noRow l = true then some l else none
  | _ => none
def selV (z : Int) : List VV → Option VV
  | [] => none
  | .sc s :: l => (optAll scOf (.sc s :: l)).map fun col => .sc (selS z col)
  | .agg r :: l => (optAll (aggOf r.length) (.agg r :: l)).map fun rows => .agg ((List.range r.length).map fun c => selS z (rows.map (·.getD c .junk)))
theorem denL_noRow {β : Env} {L : Nat → Option Kd} : ∀ {l : List SV} {vs : List Value}, noRow l = true → DenL β L l vs → All2 (SV.den β L) l vs
  | [], _, _, h => by cases h; exact .nil
  | s :: l, _, hn, .cons h1 h2 => by
    simp only [noRow, List.all_cons, Bool.and_eq_true] at hn
    obtain ⟨v, rfl, hv⟩ := SV.den_of h1 (fun t n l e => by subst e; simp at hn)
    exact .cons hv (denL_noRow hn.2 h2)
theorem selV_ok {β : Env} {L : Nat → Option Kd} {z : Int} {items : List VV} {x y : VV} {v : Value} (hs : items[z.toNat]? = some x) (h : x.den β L v) (hy : selV z items = some y) : y.den β L v := by
  unfold selV at hy
  split at hy
  · simp at hy
  · obtain ⟨col, hc, rfl⟩ := map_some hy
    obtain ⟨s, h1, h2⟩ := optAll_get hc hs
    unfold scOf at h2
    split at h2
    · simp at h2; subst h2; exact selS_ok h1 h
    · simp at h2
  · rename_i r l
    obtain ⟨rows, hc, rfl⟩ := map_some hy
    obtain ⟨s, h1, h2⟩ := optAll_get hc hs
    unfold aggOf at h2
    split at h2
    · rename_i s
      split at h2
      · rename_i hlen
        simp at h2; subst h2
        obtain ⟨cs, rfl, hd⟩ := h
        refine ⟨cs, rfl, denL_of_all2 ?_⟩
        have key : ∀ (s : List SV) (cs : List Value) (k : Nat) (g : Nat → SV), All2 (SV.den β L) s cs → (∀ i a, s[i]? = some a → ∀ v, a.den β L v → (g (k + i)).den β L v) →
            All2 (SV.den β L) ((List.range' k s.length).map g) cs := by
          intro s
          induction s with
          | nil => intro cs k g hd _; cases hd; exact .nil
          | cons a s ih =>
            intro cs k g hd hg
            cases hd with
            | cons h3 h4 =>
              simp only [List.length_cons, List.range'_succ, List.map_cons]
              refine .cons (by have := hg 0 a (by simp) _ h3; simpa using this) (ih _ (k + 1) g h4 fun i b hb v hv => ?_)
              have := hg (i + 1) b (by simpa using hb) v hv
              rwa [show k + 1 + i = k + (i + 1) from by omega]
        rw [List.range_eq_range', ← hlen.1]
        refine key s cs 0 _ (denL_noRow hlen.2 hd) fun i a ha v hv => ?_
        rw [Nat.zero_add]
        refine selS_ok (s := a) ?_ hv
        simp [h1, ha]
      · simp at h2
    · simp at h2
/-- parts of a row of cells -/
def partsEv (P : Program) (t : TypeId) (l : List SV) (base stride n : Nat) : Option (List VV) := optAll (fun j => partEv P t l (base + j * stride)) (List.range n)
theorem partsEv_get {P : Program} {t : TypeId} {l : List SV} {base stride n : Nat} {items : List VV} (h : partsEv P t l base stride n = some items) {j : Nat} (hj : j < n) :
    ∃ x, items[j]? = some x ∧ partEv P t l (base + j * stride) = some x := by
  obtain ⟨x, h1, h2⟩ := optAll_get h (i := j) (a := j) (by simp [hj])
  exact ⟨x, h1, h2⟩

/-! ### What slices read as -/
/-- the row that begins at a place -/
def rowAt : List SV → Nat → Option SV
  | [], _ => none
  | .arr t n l :: r, off => if off = 0 then some (.arr t n l) else if n * t.w ≤ off then rowAt r (off - n * t.w) else none
  | _ :: _, 0 => none
  | _ :: r, off + 1 => rowAt r off
theorem rowAt_ok {β : Env} {L : Nat → Option Kd} : ∀ (l : List SV) (off : Nat) {t : Ty} {n : Nat} {x : List t.D} {vs : List Value}, rowAt l off = some (.arr t n x) → DenL β L l vs →
    ∃ pre mid post, vs = pre ++ (mid ++ post) ∧ pre.length = off ∧ x.length = n ∧ HasL (t.has β true) x mid
  | [], _, _, _, _, _, h, _ => by simp [rowAt] at h
  | s :: r, off, t, n, x, vs, h, hd => by
    have plain : (∀ t n l, s ≠ .arr t n l) → ∃ pre mid post, vs = pre ++ (mid ++ post) ∧ pre.length = off ∧ x.length = n ∧ HasL (t.has β true) x mid := by
      intro hs
      cases hd with
      | cons h1 h2 =>
        obtain ⟨v, rfl, _⟩ := SV.den_of h1 hs
        cases off with
        | zero =>
          exfalso
          cases s with
          | arr t n l => exact absurd rfl (hs t n l)
          | _ => simp [rowAt] at h
        | succ off =>
          have h' : rowAt r off = some (.arr t n x) := by
            cases s with
            | arr t n l => exact absurd rfl (hs t n l)
            | _ => exact h
          obtain ⟨pre, mid, post, rfl, e, h3⟩ := rowAt_ok r off h' h2
          exact ⟨v :: pre, mid, post, rfl, by simp [e], h3⟩
    cases s with
    | arr t' n' l' =>
      have h' : (if off = 0 then some (.arr t' n' l') else if n' * t'.w ≤ off then rowAt r (off - n' * t'.w) else none) = some (SV.arr t n x) := by cases off <;> exact h
      cases hd with
      | cons h1 h2 =>
        rename_i us ws
        split at h'
        · rename_i e0; simp at h'; obtain ⟨rfl, rfl, e⟩ := h'
          simp at e; subst e
          exact ⟨[], us, ws, rfl, by simp [e0], h1.1, h1.2⟩
        · split at h'
          · obtain ⟨pre, mid, post, rfl, e, h3⟩ := rowAt_ok r _ h' h2
            have hul := SV.dens_length h1
            simp only [SV.w] at hul
            exact ⟨us ++ pre, mid, post, by simp, by simp [hul, e]; omega, h3⟩
          · cases h'
    | _ => exact plain (by intros; simp)

/-- what a slice reads as, and whether for good -/
def contAs (t : Ty) : SV → Ask (Option (Bool × List t.D))
  | .rd pm _ t' l => .ret (if h : t' = t then some (pm, h ▸ l) else none)
  | .con (.slice none 0 0) => .ret (some (true, []))
  | .sl i ver => .get i fun x => .ret (match x with
    | some (.own ver' t' l) => if h : t' = t then (if ver = ver' then some (true, h ▸ l) else none) else none
    | _ => none)
  | .vw i ver w z n => .get i fun x => .ret (match x with
    | some (.own ver' t' l) => if h : t' = t then (if ver = ver' ∧ w = t.w then some (true, ((h ▸ l : List t.D).drop z.toNat).take n.toNat) else none) else none
    | _ => none)
  | .vb b o t' m z n => .get b fun x => .ret (match x with
    | some (.blk cells _) => match rowAt cells o with
      | some (.arr t'' n' l) => if h : t'' = t then (if t' = t ∧ n' = m then some (true, ((h ▸ l : List t.D).drop z.toNat).take n.toNat) else none) else none
      | _ => none
    | _ => none)
  | .slice b o len cap => .get b fun x => .ret (match x with
    | some (.blk cells _) => match (if len ≤ cap then subL cells o (len * t.w) else none) with
      | some s => (readN (t.read true) t.w len s).map fun l => (true, l)
      | none => none
    | _ => none)
  | _ => .ret none

theorem ReadsAs.weak {β : Env} {pm : Bool} {w : World} {v : Value} {t : Ty} {l : List t.D} (h : ReadsAs β true w v t l) : ReadsAs β pm w v t l := by
  obtain ⟨a, n, c, rfl, hn, hc, hz, hr⟩ := h
  refine ⟨a, n, c, rfl, hn, hc, hz, fun h0 => ?_⟩
  obtain ⟨a0, vss, rfl, h1, h2, h3⟩ := hr h0
  exact ⟨a0, vss, rfl, h1, h2.imp fun _ _ => t.has_weak, h3⟩
theorem readsAs_nil {β : Env} {pm : Bool} {w : World} {t : Ty} : ReadsAs β pm w (.slice none 0 0) t [] := ⟨none, 0, 0, rfl, rfl, Nat.le_refl _, fun _ => rfl, fun h => absurd h (by simp)⟩
theorem OwnOk.reads {β : Env} {w : World} {h : Value} {t : Ty} {l : List t.D} (hk : OwnOk β w h t l) : ReadsAs β true w h t l := by
  obtain ⟨a, n, c, rfl, h1, h2, h3, h4⟩ := hk
  refine ⟨a, n, c, rfl, h1, h2, h3, fun h0 => ?_⟩
  obtain ⟨a0, pre, vss, rest, elem, fz, rfl, k1, k2, k3, k4, k5⟩ := h4 (by omega)
  refine ⟨a0, vss, rfl, k1, k4, ?_⟩
  have := holdsAt_cells k2
  obtain ⟨b, o, s⟩ := a0
  simp at k1 k3; subst k1 k3
  exact this
theorem ReadsAs.sub {β : Env} {pm : Bool} {w : World} {h v : Value} {t : Ty} {l : List t.D} {z n : Int} (hk : ReadsAs β pm w h t l) (hs : SubOf h t.w z n v) : ReadsAs β pm w v t ((l.drop z.toNat).take n.toNat) := by
  obtain ⟨a, m, c, rfl, hm, hc, _, hr⟩ := hk
  obtain ⟨a1, m1, c1, a', c', e, z0, n0, hle, rfl, hc', hz, ha⟩ := hs
  simp at e; obtain ⟨rfl, rfl, rfl⟩ := e
  have hlen : ((l.drop z.toNat).take n.toNat).length = n.toNat := by simp; omega
  refine ⟨a', n.toNat, c', rfl, hlen.symm, hc', hz, fun h0 => ?_⟩
  obtain ⟨a0, e1, rfl⟩ := ha (by omega)
  obtain ⟨a2, vss, e2, h1, h2, h3⟩ := hr (by omega)
  subst e1; simp at e2; subst e2
  obtain ⟨v1, v2, rfl, k1, k2⟩ := hasL_take h2 z.toNat
  obtain ⟨v3, v4, rfl, k3, k4⟩ := hasL_take k2 n.toNat
  refine ⟨_, v3, rfl, add_spot h1 _, k3, ?_⟩
  have := HoldsAt.mid h1 h3
  rwa [hasL_length k1, List.length_take, Nat.min_eq_left (by omega)] at this
theorem ReadsAs.len {β : Env} {pm : Bool} {w : World} {v : Value} {t : Ty} {l : List t.D} (h : ReadsAs β pm w v t l) : ∃ a c, v = .slice a l.length c := by
  obtain ⟨a, n, c, rfl, rfl, _⟩ := h; exact ⟨a, c, rfl⟩

section
variable {W : World} {hp₀ : Hp} {β₀ β : Env} {hp : Hp} {w : World}
theorem HRel.rdOk (h : HRel W hp₀ β₀ β hp w) {pm : Bool} {v : Value} {t : Ty} {l : List t.D} (hr : RdOk β pm v t l) : ReadsAs β pm w v t l ∧ ∀ b, inBlock v b → b < w.heap.size ∧ ¬ Owned hp β b := by
  rcases hr with hr | ⟨rfl, hr⟩ | ⟨rfl, rfl⟩
  · exact ⟨(h.reads _ _ _ _ hr).1.weak, (h.reads _ _ _ _ hr).2⟩
  · exact h.reads _ _ _ _ hr
  · exact ⟨readsAs_nil, fun b hb => hb.elim⟩
/-- an own slice that a reference is good for -/
theorem HRel.ownOf (h : HRel W hp₀ β₀ β hp w) {i ver : Nat} {t : Ty} {l : List t.D} (hi : hp[i]? = some (some (.own ver t l))) {p : Value → Prop} (hd : ∃ c, kd hp i = some (.own c) ∧ ver ≤ c ∧ (ver = c → p (β.h i))) :
    OwnOk β w (β.h i) t l ∧ p (β.h i) := by
  obtain ⟨c, h1, h2, h3⟩ := hd
  rw [kd_of hi] at h1; simp [Item.kd] at h1
  exact ⟨h.items _ _ hi, h3 h1⟩
theorem contAs_ok (h : HRel W hp₀ β₀ β hp w) {t : Ty} {s : SV} {pm : Bool} {l : List t.D} {v : Value} (hc : (contAs t s).val hp = some (pm, l)) (hd : s.den β (kd hp) v) : ReadsAs β pm w v t l := by
  unfold contAs at hc
  split at hc
  · simp only [Ask.val] at hc
    split at hc
    · rename_i e; subst e; simp at hc; obtain ⟨rfl, rfl⟩ := hc
      exact (h.rdOk hd.2.2).1
    · cases hc
  · simp only [Ask.val] at hc
    simp at hc; obtain ⟨rfl, rfl⟩ := hc
    obtain ⟨_, rfl⟩ := hd
    exact readsAs_nil
  · rename_i i ver
    simp only [Ask.val] at hc
    split at hc
    · rename_i ver' t' l' hi
      split at hc
      · rename_i e; subst e
        split at hc
        · rename_i e; subst e
          simp at hc; obtain ⟨rfl, rfl⟩ := hc
          obtain ⟨_, hd⟩ := hd
          obtain ⟨h1, rfl⟩ := h.ownOf (p := fun x => v = x) (itemAt_some hi) hd
          exact h1.reads
        · cases hc
      · cases hc
    · cases hc
  · rename_i i ver w' z n
    simp only [Ask.val] at hc
    split at hc
    · rename_i ver' t' l' hi
      split at hc
      · rename_i e; subst e
        split at hc
        · rename_i e; obtain ⟨rfl, rfl⟩ := e
          simp at hc; obtain ⟨rfl, rfl⟩ := hc
          obtain ⟨_, hd⟩ := hd
          obtain ⟨h1, h2⟩ := h.ownOf (p := fun x => SubOf x t'.w z n v) (itemAt_some hi) hd
          exact h1.reads.sub h2
        · cases hc
      · cases hc
    · cases hc
  · rename_i b o t' m z n
    simp only [Ask.val] at hc
    split at hc
    · rename_i cells elem hi
      split at hc
      · rename_i t'' n' l' hrow
        split at hc
        · rename_i e; subst e
          split at hc
          · rename_i e; obtain ⟨rfl, rfl⟩ := e
            simp at hc; obtain ⟨rfl, rfl⟩ := hc
            obtain ⟨hb, z0, n0, zn, a', c', rfl, hc', hz, ha⟩ := hd
            obtain ⟨cs, fz, h1, h2, h3⟩ := h.items _ _ (itemAt_some hi)
            obtain ⟨pre, mid, post, rfl, e1, e2, h4⟩ := rowAt_ok _ _ hrow h3
            subst e1 e2
            have hbase : ReadsAs β true w (.slice (some ⟨β b, pre.length, none⟩) l'.length l'.length) t' l' := ⟨_, _, _, rfl, rfl, Nat.le_refl _, (fun e => by cases e), fun _ => ⟨_, mid, rfl, rfl, h4, holdsAt_cells h1⟩⟩
            exact hbase.sub ⟨_, _, _, _, _, rfl, z0, n0, zn, rfl, hc', hz, fun h0 => ⟨_, rfl, ha h0⟩⟩
          · cases hc
        · cases hc
      · cases hc
    · cases hc
  · rename_i b o len cap
    simp only [Ask.val] at hc
    split at hc
    · rename_i cells elem hi
      split at hc
      · rename_i s hs
        obtain ⟨l', hl, he⟩ := map_some hc
        simp at he; obtain ⟨rfl, rfl⟩ := he
        split at hs
        · rename_i hlc
          obtain ⟨_, rfl⟩ := hd
          obtain ⟨cs, fz, h1, h2, h3⟩ := h.items _ _ (itemAt_some hi)
          obtain ⟨pre, mid, post, rfl, e1, e2, h4⟩ := subL_ok hs h3
          obtain ⟨h5, h6⟩ := readN_ok (R := t.has β true) (fun a x vs h hd => t.read_ok h hd) _ hl h4
          subst e1
          exact ⟨_, _, _, rfl, h6.symm, hlc, (fun e => by cases e), fun _ => ⟨_, mid, rfl, rfl, h5, holdsAt_cells h1⟩⟩
        · cases hs
      · cases hc
    · cases hc
  · simp [Ask.val] at hc
end
end Go.Ev
