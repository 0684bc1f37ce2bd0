/- A reader of code, third make: lists of cells with rows in them; what a slice reads as; stretches of memory. -/
import Derived.Test.YtdpbkfmjknmmnaaVa
set_option linter.unusedVariables false
set_option linter.unusedSimpArgs false
namespace Go.Ev
open Go

/-! ### Looks at items, kept in a list -/
inductive Ask (α : Type) where
  | ret (a : α)
  | get (i : Nat) (k : Option Item → Ask α)
def itemAt (hp : Hp) (i : Nat) : Option Item := match hp[i]? with | some (some x) => some x | _ => none
def Ask.val {α : Type} (hp : Hp) : Ask α → α
  | .ret a => a
  | .get i k => (k (itemAt hp i)).val hp
def Ask.log {α : Type} (hp : Hp) : Ask α → List Nat
  | .ret _ => []
  | .get i k => i :: (k (itemAt hp i)).log hp
def Ask.bind {α β : Type} : Ask α → (α → Ask β) → Ask β
  | .ret a, f => f a
  | .get i k, f => .get i fun x => (k x).bind f
def Ask.map {α β : Type} (f : α → β) (a : Ask α) : Ask β := a.bind fun x => .ret (f x)
theorem Ask.val_bind {α β : Type} (hp : Hp) : ∀ (a : Ask α) (f : α → Ask β), (a.bind f).val hp = (f (a.val hp)).val hp
  | .ret _, _ => rfl
  | .get i k, f => Ask.val_bind hp (k (itemAt hp i)) f
theorem Ask.val_map {α β : Type} (hp : Hp) (a : Ask α) (f : α → β) : (a.map f).val hp = f (a.val hp) := Ask.val_bind hp a _
theorem Ask.local_ {α : Type} {hp hp2 : Hp} : ∀ (a : Ask α), (∀ i ∈ a.log hp, itemAt hp2 i = itemAt hp i) → a.val hp2 = a.val hp ∧ a.log hp2 = a.log hp
  | .ret _, _ => ⟨rfl, rfl⟩
  | .get i k, h => by
    have h0 : itemAt hp2 i = itemAt hp i := h i (by simp [Ask.log])
    have := Ask.local_ (hp := hp) (hp2 := hp2) (k (itemAt hp i)) fun j hj => h j (by simp [Ask.log, hj])
    simp only [Ask.val, Ask.log, h0]
    exact ⟨this.1, by rw [this.2]⟩
theorem itemAt_some {hp : Hp} {i : Nat} {x : Item} (h : itemAt hp i = some x) : hp[i]? = some (some x) := by
  unfold itemAt at h; split at h
  · rename_i y hy; simp at h; subst h; exact hy
  · cases h
theorem itemAt_of {hp : Hp} {i : Nat} {x : Item} (h : hp[i]? = some (some x)) : itemAt hp i = some x := by unfold itemAt; rw [h]

/-! ### Elements as cells, cells as elements -/
/-- no slice in it -/
def Ty.flat : Ty → Bool
  | .int _ | .bool | .flt | .str => true
  | .sl _ => false
  | .pair a b => a.flat && b.flat
  | .arr t _ => t.flat
theorem Ty.has_pm {β : Env} {pm pm' : Bool} : ∀ (t : Ty) {x : t.D} {vs : List Value}, t.flat = true → t.has β pm x vs → t.has β pm' x vs
  | .int _, _, _, _, h => h
  | .bool, _, _, _, h => h
  | .flt, _, _, _, h => h
  | .str, _, _, _, h => h
  | .sl _, _, _, hf, _ => by cases hf
  | .pair a b, _, _, hf, h => by
    simp only [Ty.flat, Bool.and_eq_true] at hf
    obtain ⟨u, w, h, h1, h2⟩ := h
    exact ⟨u, w, h, a.has_pm hf.1 h1, b.has_pm hf.2 h2⟩
  | .arr t _, _, _, hf, ⟨h1, h2⟩ => ⟨h1, h2.imp fun _ _ => t.has_pm hf⟩
theorem RdOk.weak {β : Env} {pm : Bool} {v : Value} {t : Ty} {l : List t.D} (h : RdOk β true v t l) : RdOk β pm v t l := by
  rcases h with h | ⟨h, _⟩ | h
  · exact .inl h
  · cases h
  · exact .inr (.inr h)
theorem Ty.has_weak {β : Env} {pm : Bool} : ∀ (t : Ty) {x : t.D} {vs : List Value}, t.has β true x vs → t.has β pm x vs
  | .int _, _, _, h => h
  | .bool, _, _, h => h
  | .flt, _, _, h => h
  | .str, _, _, h => h
  | .sl _, _, _, ⟨v, h1, h2, h3⟩ => ⟨v, h1, h2, h3.weak⟩
  | .pair a b, _, _, ⟨u, w, h, h1, h2⟩ => ⟨u, w, h, a.has_weak h1, b.has_weak h2⟩
  | .arr t _, _, _, ⟨h1, h2⟩ => ⟨h1, h2.imp fun _ _ => t.has_weak⟩

/-- an element's cells -/
def Ty.svs (pm : Bool) : (t : Ty) → t.D → List SV
  | .int k, n => [.int k (.sym n)]
  | .bool, b => [.bool (.sym b)]
  | .flt, n => [.flt n]
  | .str, l => [.str l]
  | .sl t, l => [.rd pm false t l]
  | .pair a b, x => a.svs pm x.1 ++ b.svs pm x.2
  | .arr t n, l => if pm || t.flat then [.arr t n l] else List.replicate (n * t.w) .junk
theorem denL_junk {β : Env} {L : Nat → Option Kd} : ∀ {vs : List Value} {n : Nat}, vs.length = n → (∀ v ∈ vs, v.oneCell' = true) → DenL β L (List.replicate n .junk) vs
  | [], _, h, _ => by simp at h; subst h; exact .nil
  | v :: vs, n, h, h1 => by
    cases n with
    | zero => simp at h
    | succ n =>
      rw [List.replicate_succ]
      exact DenL.cons1 (h1 v (by simp)) (denL_junk (by simpa using h) fun u hu => h1 u (by simp [hu]))
theorem Ty.svs_ok {β : Env} {L : Nat → Option Kd} {pm : Bool} : ∀ (t : Ty) {x : t.D} {vs : List Value}, t.has β pm x vs → DenL β L (t.svs pm x) vs
  | .int _, _, _, h => by simp only [Ty.has] at h; subst h; exact DenL.cons1 rfl .nil
  | .bool, _, _, h => by simp only [Ty.has] at h; subst h; exact DenL.cons1 rfl .nil
  | .flt, _, _, h => by simp only [Ty.has] at h; subst h; exact DenL.cons1 rfl .nil
  | .str, _, _, h => by simp only [Ty.has] at h; subst h; exact DenL.cons1 rfl .nil
  | .sl _, _, _, h => by
    simp only [Ty.has] at h; obtain ⟨v, rfl, h1, h2⟩ := h
    exact DenL.cons1 ⟨h1, fun h => by (cases h), h2⟩ .nil
  | .pair a b, _, _, h => by
    simp only [Ty.has] at h; obtain ⟨u, w, rfl, h1, h2⟩ := h
    exact (a.svs_ok h1).append (b.svs_ok h2)
  | .arr t n, x, vs, h => by
    have hall := h
    simp only [Ty.has] at h; obtain ⟨h1, h2⟩ := h
    simp only [Ty.svs]
    split
    · rename_i hp
      refine HasL.one (R := SV.dens β L) ⟨h1, ?_⟩
      cases pm with
      | true => exact h2
      | false => exact h2.imp fun _ _ => t.has_pm (by simpa using hp)
    · exact denL_junk (Ty.has_length _ hall) (Ty.has_one _ hall)

/-- a list of cells, cut at a place -/
def cutL : List SV → Nat → Option (List SV × List SV)
  | l, 0 => some ([], l)
  | [], _ + 1 => none
  | .arr t n x :: r, k + 1 =>
    if n * t.w ≤ k + 1 then (cutL r (k + 1 - n * t.w)).map fun p => (.arr t n x :: p.1, p.2)
    else if t.w ≠ 0 ∧ (k + 1) % t.w = 0 then some ([.arr t ((k + 1) / t.w) (x.take ((k + 1) / t.w))], .arr t (n - (k + 1) / t.w) (x.drop ((k + 1) / t.w)) :: r)
    else none
  | s :: r, k + 1 => (cutL r k).map fun p => (s :: p.1, p.2)

theorem hasL_take {β : Env} {t : Ty} {pm : Bool} {l : List t.D} {vs : List Value} (h : HasL (t.has β pm) l vs) (j : Nat) : ∃ v1 v2, vs = v1 ++ v2 ∧ HasL (t.has β pm) (l.take j) v1 ∧ HasL (t.has β pm) (l.drop j) v2 := by
  rw [← List.take_append_drop j l] at h
  exact h.split

theorem cutL_ok {β : Env} {L : Nat → Option Kd} : ∀ (l : List SV) (k : Nat) {a b : List SV} {vs : List Value}, cutL l k = some (a, b) → DenL β L l vs →
    ∃ va vb, vs = va ++ vb ∧ va.length = k ∧ DenL β L a va ∧ DenL β L b vb
  | l, 0, a, b, vs, h, hd => by
    have : cutL l 0 = some ([], l) := by cases l <;> rfl
    rw [this] at h; simp at h; obtain ⟨rfl, rfl⟩ := h
    exact ⟨[], vs, rfl, rfl, .nil, hd⟩
  | [], k + 1, a, b, vs, h, _ => by simp [cutL] at h
  | s :: r, k + 1, a, b, vs, h, hd => by
    have plain : (∀ t n l, s ≠ .arr t n l) → ∃ va vb, vs = va ++ vb ∧ va.length = k + 1 ∧ DenL β L a va ∧ DenL β L b vb := by
      intro hs
      have h' : (cutL r k).map (fun p => (s :: p.1, p.2)) = some (a, b) := by
        cases s with
        | arr t n l => exact absurd rfl (hs t n l)
        | _ => exact h
      obtain ⟨⟨a', b'⟩, h1, h2⟩ := Option.map_eq_some_iff.1 h'
      simp at h2; obtain ⟨rfl, rfl⟩ := h2
      cases hd with
      | cons h3 h4 =>
        obtain ⟨v, rfl, h5⟩ := SV.den_of h3 hs
        obtain ⟨va, vb, rfl, e, h6, h7⟩ := cutL_ok r k h1 h4
        exact ⟨v :: va, vb, rfl, by simp [e], DenL.cons1 h5 h6, h7⟩
    cases s with
    | arr t n x =>
      simp only [cutL] at h
      cases hd with
      | cons h3 h4 =>
        rename_i us ws
        have hul := SV.dens_length h3
        simp only [SV.w] at hul
        split at h
        · rename_i hle
          obtain ⟨⟨a', b'⟩, h1, h2⟩ := Option.map_eq_some_iff.1 h
          simp at h2; obtain ⟨rfl, rfl⟩ := h2
          obtain ⟨va, vb, rfl, e, h6, h7⟩ := cutL_ok r (k + 1 - n * t.w) h1 h4
          exact ⟨us ++ va, vb, by simp, by simp [hul, e]; omega, .cons h3 h6, h7⟩
        · rename_i hlt
          split at h
          · rename_i hw
            simp at h; obtain ⟨rfl, rfl⟩ := h
            obtain ⟨h5, h6⟩ := h3
            obtain ⟨v1, v2, rfl, h7, h8⟩ := hasL_take h6 ((k + 1) / t.w)
            have hdiv : (k + 1) / t.w * t.w = k + 1 := Nat.div_mul_cancel (Nat.dvd_of_mod_eq_zero hw.2)
            have hlt2 : (k + 1) / t.w < n := Nat.lt_of_not_le fun hle => hlt (by
              have := Nat.mul_le_mul_right t.w hle
              omega)
            have hl1 : (x.take ((k + 1) / t.w)).length = (k + 1) / t.w := by simp; omega
            refine ⟨v1, v2 ++ ws, by simp, by rw [hasL_length h7, hl1, hdiv], HasL.one (R := SV.dens β L) ⟨hl1, h7⟩, .cons (R := SV.dens β L) ⟨by simp; omega, h8⟩ h4⟩
          · simp at h
    | _ => exact plain (by intros; simp)

/-- m cells from a place on -/
def subL (l : List SV) (off m : Nat) : Option (List SV) :=
  match cutL l off with
  | some (_, b) => (cutL b m).map (·.1)
  | none => none
theorem subL_ok {β : Env} {L : Nat → Option Kd} {l : List SV} {off m : Nat} {s : List SV} {vs : List Value} (h : subL l off m = some s) (hd : DenL β L l vs) :
    ∃ pre mid post, vs = pre ++ (mid ++ post) ∧ pre.length = off ∧ mid.length = m ∧ DenL β L s mid := by
  unfold subL at h; split at h
  · rename_i a b hc
    obtain ⟨⟨x, y⟩, h1, rfl⟩ := Option.map_eq_some_iff.1 h
    obtain ⟨va, vb, rfl, e1, h2, h3⟩ := cutL_ok _ _ hc hd
    obtain ⟨vc, ve, rfl, e2, h4, h5⟩ := cutL_ok _ _ h1 h3
    exact ⟨va, vc, ve, rfl, e1, e2, h4⟩
  · cases h

/-- the description of one cell -/
def elemL : List SV → Nat → Option SV
  | [], _ => none
  | .arr t n x :: r, off =>
    if off < n * t.w then
      (if t.w = 1 then match t.svs true (x.getD off t.z) with | [.arr _ _ _] => none | [s] => some s | _ => none
       else if (t.svs true (x.getD (off / t.w) t.z)).all (fun s => match s with | .arr _ _ _ => false | _ => true) then (t.svs true (x.getD (off / t.w) t.z))[off % t.w]? else none)
    else elemL r (off - n * t.w)
  | s :: _, 0 => some s
  | _ :: r, off + 1 => elemL r off

theorem hasL_elem {β : Env} {t : Ty} {pm : Bool} {l : List t.D} {vs : List Value} (h : HasL (t.has β pm) l vs) {j : Nat} (hj : j < l.length) :
    ∃ a u b, vs = a ++ (u ++ b) ∧ a.length = j * t.w ∧ t.has β pm (l.getD j t.z) u ∧ HasL (t.has β pm) (l.take j) a ∧ HasL (t.has β pm) (l.drop (j + 1)) b := by
  have e : l[j]? = some (l.getD j t.z) := by simp [List.getD, hj]
  obtain ⟨a, u, b, rfl, h1, h2, h3⟩ := h.get e
  exact ⟨a, u, b, rfl, by rw [hasL_length h2, List.length_take, Nat.min_eq_left (Nat.le_of_lt hj)], h1, h2, h3⟩

theorem denL_plain_get {β : Env} {L : Nat → Option Kd} : ∀ {l : List SV} {vs : List Value} {i : Nat} {s : SV}, l.all (fun s => match s with | .arr _ _ _ => false | _ => true) = true → DenL β L l vs → l[i]? = some s → ∃ v, vs[i]? = some v ∧ s.den β L v
  | [], _, _, _, _, _, h => by simp at h
  | x :: l, _, i, s, ha, .cons h1 h2, h => by
    simp only [List.all_cons, Bool.and_eq_true] at ha
    obtain ⟨v, rfl, hv⟩ := SV.den_of h1 (fun t n l e => by subst e; simp at ha)
    cases i with
    | zero => simp at h; subst h; exact ⟨v, by simp, hv⟩
    | succ i =>
      simp at h
      obtain ⟨u, h3, h4⟩ := denL_plain_get ha.2 h2 h
      exact ⟨u, by simpa using h3, h4⟩

theorem elemL_ok {β : Env} {L : Nat → Option Kd} : ∀ (l : List SV) (off : Nat) {s : SV} {vs : List Value}, elemL l off = some s → DenL β L l vs → ∃ v, vs[off]? = some v ∧ s.den β L v
  | [], _, _, _, h, _ => by simp [elemL] at h
  | x :: r, off, s, vs, h, hd => by
    have plain : (∀ t n l, x ≠ .arr t n l) → ∃ v, vs[off]? = some v ∧ s.den β L v := by
      intro hs
      cases hd with
      | cons h1 h2 =>
        obtain ⟨v, rfl, h3⟩ := SV.den_of h1 hs
        cases off with
        | zero =>
          have : s = x := by
            cases x with
            | arr t n l => exact absurd rfl (hs t n l)
            | _ => simp [elemL] at h; exact h.symm
          subst this
          exact ⟨v, rfl, h3⟩
        | succ off =>
          have : elemL r off = some s := by
            cases x with
            | arr t n l => exact absurd rfl (hs t n l)
            | _ => exact h
          obtain ⟨u, h4, h5⟩ := elemL_ok r off this h2
          exact ⟨u, by simpa using h4, h5⟩
    cases x with
    | arr t n x =>
      have h' : (if off < n * t.w then
      (if t.w = 1 then match t.svs true (x.getD off t.z) with | [.arr _ _ _] => none | [s] => some s | _ => none
       else if (t.svs true (x.getD (off / t.w) t.z)).all (fun s => match s with | .arr _ _ _ => false | _ => true) then (t.svs true (x.getD (off / t.w) t.z))[off % t.w]? else none)
    else elemL r (off - n * t.w)) = some s := by
        cases off <;> exact h
      clear h
      cases hd with
      | cons h1 h2 =>
        rename_i us ws
        have hul := SV.dens_length h1
        simp only [SV.w] at hul
        obtain ⟨h3, h4⟩ := h1
        split at h'
        · rename_i hlt
          split at h'
          · rename_i hw
            have hj : off < x.length := by rw [h3]; rw [hw] at hlt; omega
            obtain ⟨a, u, b, rfl, e1, h5, _⟩ := hasL_elem h4 hj
            have h6 := t.svs_ok (L := L) h5
            rw [hw, Nat.mul_one] at e1
            split at h'
            · cases h'
            · rename_i s' _ hse
              simp at h'; subst h'
              rw [hse] at h6
              obtain ⟨v, rfl, h7⟩ := SV.den_of (HasL.of_one h6) (by assumption)
              exact ⟨v, by rw [← e1]; simp, h7⟩
            · cases h'
          · split at h'
            · rename_i hw hall
              have hpos : 0 < t.w := by rcases Nat.eq_zero_or_pos t.w with e | e
                                        · rw [e] at hlt; omega
                                        · exact e
              have hj : off / t.w < x.length := by rw [h3]; exact (Nat.div_lt_iff_lt_mul hpos).2 hlt
              obtain ⟨a, u, b, rfl, e1, h5, _⟩ := hasL_elem h4 hj
              obtain ⟨v, h7, h8⟩ := denL_plain_get hall (t.svs_ok (L := L) h5) h'
              refine ⟨v, ?_, h8⟩
              have hm : off = a.length + off % t.w := by rw [e1, Nat.mul_comm]; exact (Nat.div_add_mod off t.w).symm
              have hlt' := (List.getElem?_eq_some_iff.1 h7).1
              rw [hm, List.append_assoc, List.getElem?_append_right (by omega), Nat.add_sub_cancel_left, List.append_assoc, List.getElem?_append_left hlt']
              exact h7
            · cases h'
        · rename_i hge
          obtain ⟨v, h5, h6⟩ := elemL_ok r (off - n * t.w) h' h2
          exact ⟨v, by rw [List.getElem?_append_right (by omega), hul]; exact h5, h6⟩
    | _ => exact plain (by intros; simp)

/-- parts of the same width, each read -/
def readN {α : Type} (f : List SV → Option α) (w : Nat) : Nat → List SV → Option (List α)
  | 0, [] => some []
  | 0, _ :: _ => none
  | n + 1, l => match cutL l w with
    | some (a, b) => match f a, readN f w n b with
      | some x, some m => some (x :: m)
      | _, _ => none
    | none => none
theorem readN_ok {β : Env} {L : Nat → Option Kd} {α : Type} {R : α → List Value → Prop} {f : List SV → Option α} {w : Nat} (hf : ∀ a x vs, f a = some x → DenL β L a vs → R x vs) :
    ∀ (n : Nat) {l : List SV} {m : List α} {vs : List Value}, readN f w n l = some m → DenL β L l vs → HasL R m vs ∧ m.length = n
  | 0, [], m, vs, h, hd => by simp [readN] at h; subst h; cases hd; exact ⟨.nil, rfl⟩
  | 0, _ :: _, _, _, h, _ => by simp [readN] at h
  | n + 1, l, m, vs, h, hd => by
    simp only [readN] at h
    split at h
    · rename_i a b hc
      split at h
      · rename_i x m' h1 h2
        simp at h; subst h
        obtain ⟨va, vb, rfl, _, h3, h4⟩ := cutL_ok _ _ hc hd
        obtain ⟨h5, h6⟩ := readN_ok hf n h2 h4
        exact ⟨.cons (hf _ _ _ h1 h3) h5, by simp [h6]⟩
      · cases h
    · cases h

def strInts (s : ByteArray) : List Int := s.data.toList.map fun x => (x.toNat : Int)
theorem strOf_strInts (s : ByteArray) : strOf (strInts s) = s := by
  unfold strOf strInts
  rw [List.map_map]
  have : ((fun n : Int => UInt8.ofNat n.toNat) ∘ fun x : UInt8 => (x.toNat : Int)) = id := by
    funext x; simp
  rw [this]
  simp
theorem strInts_length (s : ByteArray) : (strInts s).length = s.size := by unfold strInts; rw [List.length_map, Array.length_toList]; rfl
theorem strOf_size (l : List Int) : (strOf l).size = l.length := by unfold strOf; show Array.size _ = _; simp

/-- the element that cells stand for; pm: what its slices read as must hold for good -/
def Ty.read (pm : Bool) : (t : Ty) → List SV → Option t.D
  | .int k, l => match l with
    | [.int k' n] => if k' = k then some n.val else none
    | _ => none
  | .bool, l => match l with
    | [.bool b] => some b.val
    | _ => none
  | .flt, l => match l with
    | [.flt n] => some n
    | _ => none
  | .str, l => match l with
    | [.str s] => some s
    | [.con (.string s)] => some (strInts s)
    | _ => none
  | .sl t, l => match l with
    | [.rd pm' _ t' m] => if h : t' = t then (if pm' || !pm then some (h ▸ m) else none) else none
    | [.con (.slice none 0 0)] => some []
    | _ => none
  | .pair a b, l => match cutL l a.w with
    | some (x, y) => match a.read pm x, b.read pm y with
      | some u, some v => some (u, v)
      | _, _ => none
    | none => none
  | .arr t n, l => match l with
    | [.arr t' n' m] => if h : t' = t then (if n' = n then some (h ▸ m) else none) else none
    | l => readN (t.read pm) t.w n l

theorem Ty.read_ok {β : Env} {L : Nat → Option Kd} {pm : Bool} : ∀ (t : Ty) {l : List SV} {x : t.D} {vs : List Value}, t.read pm l = some x → DenL β L l vs → t.has β pm x vs
  | .int k, l, x, vs, h, hd => by
    simp only [Ty.read] at h
    split at h
    · split at h
      · rename_i hk; simp at h; subst h hk
        obtain ⟨v, rfl, rfl⟩ := HasL.of_one hd; rfl
      · cases h
    · cases h
  | .bool, l, x, vs, h, hd => by
    simp only [Ty.read] at h
    split at h
    · simp at h; subst h
      obtain ⟨v, rfl, rfl⟩ := HasL.of_one hd; rfl
    · cases h
  | .flt, l, x, vs, h, hd => by
    simp only [Ty.read] at h
    split at h
    · simp at h; subst h
      obtain ⟨v, rfl, rfl⟩ := HasL.of_one hd; rfl
    · cases h
  | .str, l, x, vs, h, hd => by
    simp only [Ty.read] at h
    split at h
    · simp at h; subst h
      obtain ⟨v, rfl, rfl⟩ := HasL.of_one hd; rfl
    · simp at h; subst h
      obtain ⟨v, rfl, _, rfl⟩ := HasL.of_one hd
      simp only [Ty.has]; rw [strOf_strInts]
    · cases h
  | .sl t, l, x, vs, h, hd => by
    simp only [Ty.read] at h
    split at h
    · rename_i pm' nn t' m
      split at h
      · rename_i ht; subst ht
        split at h
        · rename_i hp; simp at h; subst h
          obtain ⟨v, rfl, h1, _, h2⟩ := HasL.of_one hd
          refine ⟨v, rfl, h1, ?_⟩
          cases pm'
          · simp at hp; subst hp; exact h2
          · exact h2.weak
        · cases h
      · cases h
    · simp at h; subst h
      obtain ⟨v, rfl, h1, rfl⟩ := HasL.of_one hd
      exact ⟨_, rfl, h1, .inr (.inr ⟨rfl, rfl⟩)⟩
    · cases h
  | .pair a b, l, x, vs, h, hd => by
    simp only [Ty.read] at h
    split at h
    · rename_i u w hc
      split at h
      · rename_i x1 x2 h1 h2
        simp at h; subst h
        obtain ⟨va, vb, rfl, _, h3, h4⟩ := cutL_ok _ _ hc hd
        exact ⟨va, vb, rfl, a.read_ok h1 h3, b.read_ok h2 h4⟩
      · cases h
    · cases h
  | .arr t n, l, x, vs, h, hd => by
    simp only [Ty.read] at h
    split at h
    · rename_i t' n' m
      split at h
      · rename_i ht; subst ht
        split at h
        · rename_i hn; simp at h; subst h hn
          obtain ⟨h1, h2⟩ := HasL.of_one hd
          exact ⟨h1, h2.imp fun _ _ => t'.has_weak⟩
        · cases h
      · cases h
    · obtain ⟨h1, h2⟩ := readN_ok (R := t.has β pm) (fun a x vs h hd => t.read_ok h hd) n h hd
      exact ⟨h2, h1⟩

/-- new cells in the place of others -/
def cutput (l : List SV) (off : Nat) (new : List SV) : Option (List SV) :=
  match cutL l off with
  | some (a, b) => (cutL b (wL new)).map fun p => a ++ new ++ p.2
  | none => none
def putL : List SV → Nat → List SV → Option (List SV)
  | [], off, new => cutput [] off new
  | .arr t n x :: r, off, new =>
    if n * t.w ≤ off then (putL r (off - n * t.w) new).map (.arr t n x :: ·)
    else match (if t.w ≠ 0 ∧ off % t.w = 0 ∧ wL new = t.w then t.read true new else none) with
      | some y => some (.arr t n (x.set (off / t.w) y) :: r)
      | none => cutput (.arr t n x :: r) off new
  | s :: r, 0, new => cutput (s :: r) 0 new
  | s :: r, off + 1, new => (putL r off new).map (s :: ·)

def PutOk (β : Env) (L : Nat → Option Kd) (l l' : List SV) (off : Nat) (new : List SV) : Prop :=
  ∀ vs ws, DenL β L l vs → DenL β L new ws → ∃ pre old post, vs = pre ++ (old ++ post) ∧ pre.length = off ∧ old.length = ws.length ∧ DenL β L l' (pre ++ (ws ++ post))
theorem cutput_ok {β : Env} {L : Nat → Option Kd} {l l' : List SV} {off : Nat} {new : List SV} (h : cutput l off new = some l') : PutOk β L l l' off new := by
  intro vs ws hd hn
  unfold cutput at h; split at h
  · rename_i a b hc
    obtain ⟨⟨x, y⟩, h1, rfl⟩ := Option.map_eq_some_iff.1 h
    obtain ⟨va, vb, rfl, e1, h2, h3⟩ := cutL_ok _ _ hc hd
    obtain ⟨vc, ve, rfl, e2, h4, h5⟩ := cutL_ok _ _ h1 h3
    refine ⟨va, vc, ve, rfl, e1, by rw [e2, hn.length], ?_⟩
    rw [List.append_assoc]
    exact h2.append (hn.append h5)
  · cases h
theorem putL_ok {β : Env} {L : Nat → Option Kd} : ∀ (l : List SV) (off : Nat) {new l' : List SV}, putL l off new = some l' → PutOk β L l l' off new
  | [], off, new, l', h => cutput_ok h
  | s :: r, off, new, l', h => by
    have plain : (∀ t n l, s ≠ .arr t n l) → PutOk β L (s :: r) l' off new := by
      intro hs
      cases off with
      | zero =>
        refine cutput_ok ?_
        cases s with
        | arr t n l => exact absurd rfl (hs t n l)
        | _ => exact h
      | succ off =>
        have h' : (putL r off new).map (s :: ·) = some l' := by
          cases s with
          | arr t n l => exact absurd rfl (hs t n l)
          | _ => exact h
        obtain ⟨r', h1, rfl⟩ := Option.map_eq_some_iff.1 h'
        intro vs ws hd hn
        cases hd with
        | cons h2 h3 =>
          obtain ⟨v, rfl, h4⟩ := SV.den_of h2 hs
          obtain ⟨pre, old, post, rfl, e1, e2, h5⟩ := putL_ok r off h1 _ _ h3 hn
          exact ⟨v :: pre, old, post, rfl, by simp [e1], e2, DenL.cons1 h4 h5⟩
    cases s with
    | arr t n x =>
      have h' : (if n * t.w ≤ off then (putL r (off - n * t.w) new).map (.arr t n x :: ·)
        else match (if t.w ≠ 0 ∧ off % t.w = 0 ∧ wL new = t.w then t.read true new else none) with
          | some y => some (.arr t n (x.set (off / t.w) y) :: r)
          | none => cutput (.arr t n x :: r) off new) = some l' := by
        cases off <;> exact h
      clear h
      split at h'
      · rename_i hle
        obtain ⟨r', h1, rfl⟩ := Option.map_eq_some_iff.1 h'
        intro vs ws hd hn
        cases hd with
        | cons h2 h3 =>
          rename_i us vs
          have hul := SV.dens_length h2
          simp only [SV.w] at hul
          obtain ⟨pre, old, post, rfl, e1, e2, h5⟩ := putL_ok r _ h1 _ _ h3 hn
          refine ⟨us ++ pre, old, post, by simp, by simp [hul, e1]; omega, e2, ?_⟩
          rw [List.append_assoc]
          exact .cons h2 h5
      · rename_i hlt
        split at h'
        · rename_i y hy
          split at hy
          · rename_i hw
            simp at h'; subst h'
            intro vs ws hd hn
            cases hd with
            | cons h2 h3 =>
              rename_i us vs
              obtain ⟨h4, h5⟩ := h2
              have hj : off / t.w < x.length := by
                rw [h4]
                exact (Nat.div_lt_iff_lt_mul (by omega)).2 (by omega)
              obtain ⟨a, u, b, rfl, e1, h6, h7, h8⟩ := hasL_elem h5 hj
              have hy' := t.read_ok hy hn
              refine ⟨a, u, b ++ vs, by simp, ?_, by rw [t.has_length h6, t.has_length hy'], ?_⟩
              · rw [e1]; exact Nat.div_mul_cancel (Nat.dvd_of_mod_eq_zero hw.2.1)
              · have h9 : HasL (t.has β true) (x.set (off / t.w) y) (a ++ (ws ++ b)) := HasL.of_get hj hy' h7 h8
                have h10 := HasL.cons (R := SV.dens β L) (x := .arr t n (x.set (off / t.w) y)) ⟨by simpa using h4, h9⟩ h3
                simpa using h10
          · cases hy
        · exact cutput_ok h'
    | _ => exact plain (by intros; simp)

/-! ### Stretches of memory -/
theorem addr_add (b off k : Nat) : (⟨b, off, none⟩ : Addr).add k = ⟨b, off + k, none⟩ := by
  unfold Addr.add; split
  · rename_i e; subst e; simp
  · rfl
theorem add_add {a : Addr} (h : a.spot = none) (i j : Nat) : (a.add i).add j = a.add (i + j) := by
  obtain ⟨b, o, s⟩ := a
  simp at h; subst h
  rw [addr_add, addr_add, addr_add, Nat.add_assoc]
theorem add_spot {a : Addr} (h : a.spot = none) (i : Nat) : (a.add i).spot = none := by
  obtain ⟨b, o, s⟩ := a
  simp at h; subst h
  rw [addr_add]
theorem HoldsAt.mid {w : World} {a : Addr} (hs : a.spot = none) {pre mid post : List Value} (h : HoldsAt w a (pre ++ (mid ++ post))) : HoldsAt w (a.add pre.length) mid := by
  intro i u hu
  rw [add_add hs]
  refine h _ u ?_
  rw [List.getElem?_append_right (by omega), Nat.add_sub_cancel_left, List.getElem?_append_left (List.getElem?_eq_some_iff.1 hu).1]
  exact hu
theorem holdsAt_cells {w : World} {b : Nat} {pre mid post : List Value} {elem : TypeId} {fz : Nat × Nat} (h : w.heap[b]? = some (.cells (pre ++ (mid ++ post)).toArray elem fz)) : HoldsAt w ⟨b, pre.length, none⟩ mid := by
  intro i u hu
  rw [addr_add]
  simp only [World.cell?, h]
  have hlt := (List.getElem?_eq_some_iff.1 hu).1
  simp only [Option.isSome_none, Bool.false_eq_true, if_false, List.getElem?_toArray]
  rw [List.getElem?_append_right (by omega), Nat.add_sub_cancel_left, List.getElem?_append_left hlt]
  exact hu
theorem run_loadRow {P : Program} {w : World} {a : Addr} {vs : List Value} (h : HoldsAt w a vs) : (loadCells a vs.length).run P w = .ok vs.toArray w :=
  run_loadCells_list w a vs h

theorem run_storeRow {P : Program} {a : Addr} (hs : a.spot = none) {elem : TypeId} {fz : Nat × Nat} : ∀ (ws : List Value) (k : Nat) (pre old post : List Value) (w : World), w.heap[a.block]? = some (.cells (pre ++ (old ++ post)).toArray elem fz) → pre.length = a.off + k → old.length = ws.length →
    (∀ v ∈ ws, v.oneCell' = true) → (∀ off, pre.length ≤ off → off < pre.length + ws.length → ¬ (fz.1 ≤ off ∧ off < fz.2)) →
    ∃ w', (storeCells a ws k).run P w = .ok () w' ∧ w'.heap[a.block]? = some (.cells (pre ++ (ws ++ post)).toArray elem fz) ∧ (∀ b, b ≠ a.block → w'.heap[b]? = w.heap[b]?) ∧ w'.heap.size = w.heap.size ∧ w'.os = w.os ∧ w'.output = w.output
  | [], k, pre, old, post, w, h, _, hl, _, _ => by
    have : old = [] := List.eq_nil_of_length_eq_zero (by simpa using hl)
    subst this
    exact ⟨w, rfl, h, fun _ _ => rfl, rfl, rfl, rfl⟩
  | v :: ws, k, pre, old, post, w, h, hp, hl, h1, hf => by
    cases old with
    | nil => simp at hl
    | cons o old =>
      obtain ⟨b, of, s⟩ := a
      simp at hs; subst hs
      simp only at h hp hl ⊢
      have hadd : (⟨b, of, none⟩ : Addr).add k = ⟨b, pre.length, none⟩ := by rw [addr_add]; congr 1; exact hp.symm
      have hc : w.cell? ⟨b, pre.length, none⟩ = some o := by
        simp only [World.cell?, h]
        simp
      have hfz : w.frozen? ⟨b, pre.length, none⟩ = false := by
        simp only [World.frozen?, h]
        have := hf pre.length (Nat.le_refl _) (by simp)
        simpa using this
      have hset : (w.setCell ⟨b, pre.length, none⟩ v).heap[b]? = some (.cells ((pre ++ [v]) ++ (old ++ post)).toArray elem fz) := by
        simp only [World.setCell, Array.getElem?_modify, h]
        simp
      obtain ⟨w', e1, e2, e3, e4, e5, e6⟩ := run_storeRow (P := P) (a := ⟨b, of, none⟩) rfl (elem := elem) (fz := fz) ws (k + 1) (pre ++ [v]) old post (w.setCell ⟨b, pre.length, none⟩ v) hset (by simp; omega) (by simpa using hl) (fun u hu => h1 u (by simp [hu]))
        (fun off k1 k2 => hf off (by simp at k1; omega) (by simp at k2 ⊢; omega))
      refine ⟨w', ?_, by simpa using e2, fun c hc' => ?_, ?_, ?_, ?_⟩
      · simp only [storeCells, Sem.run_bind, hadd, run_store P w _ v _ (h1 v (by simp)), hc, hfz]
        simpa using e1
      · rw [e3 c hc']; exact heap_setCell_other w _ c v hc'
      · rw [e4]; simp
      · rw [e5]; rfl
      · rw [e6]; rfl

end Go.Ev
