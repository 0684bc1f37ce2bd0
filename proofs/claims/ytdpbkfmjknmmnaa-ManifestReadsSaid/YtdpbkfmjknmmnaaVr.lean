/- A reader of code, third make: items that get other numbers. -/
import Derived.Test.YtdpbkfmjknmmnaaVq
set_option linter.unusedVariables false
set_option linter.unusedSimpArgs false
namespace Go.Ev
open Go

/-! ### Other numbers -/
/-- the place in a list -/
def posn : List Nat → Nat → Option Nat
  | [], _ => none
  | x :: l, i => if x = i then some 0 else (posn l i).map (· + 1)
theorem posn_get : ∀ {l : List Nat} {i j : Nat}, posn l i = some j → l[j]? = some i
  | [], _, _, h => by cases h
  | x :: l, i, j, h => by
    simp only [posn] at h
    split at h
    · rename_i e; subst e; simp at h; subst h; rfl
    · obtain ⟨k, hk, rfl⟩ := map_some h
      simpa using posn_get hk
theorem posn_mem : ∀ {l : List Nat} {i : Nat}, i ∈ l → ∃ j, posn l i = some j
  | x :: l, i, h => by
    simp only [posn]
    split
    · exact ⟨0, rfl⟩
    · rename_i hne
      obtain ⟨j, hj⟩ := posn_mem (l := l) (i := i) (by simpa [Ne.symm hne] using h)
      exact ⟨j + 1, by rw [hj]; rfl⟩
theorem posn_of : ∀ {l : List Nat} {j i : Nat}, l.Nodup → l[j]? = some i → posn l i = some j
  | [], _, _, _, h => by simp at h
  | x :: l, 0, i, _, h => by simp at h; subst h; simp [posn]
  | x :: l, j + 1, i, hn, h => by
    simp at h
    have hi : i ∈ l := List.mem_of_getElem? h
    have hne : x ≠ i := fun e => by subst e; exact (List.nodup_cons.1 hn).1 hi
    simp only [posn, if_neg hne, posn_of (List.nodup_cons.1 hn).2 h]; rfl
theorem posn_none {l : List Nat} {i : Nat} (h : posn l i = none) : i ∉ l := fun hm => by
  obtain ⟨j, hj⟩ := posn_mem hm; rw [hj] at h; cases h

def SV.mapo (f : Nat → Option Nat) : SV → SV
  | .ptr b o => match f b with | some j => .ptr j o | none => .junk
  | .ptrx b base st n z => match f b with | some j => .ptrx j base st n z | none => .junk
  | .slice b o l c => match f b with | some j => .slice j o l c | none => .junk
  | .sl i v => match f i with | some j => .sl j v | none => .junk
  | .vw i v w z n => match f i with | some j => .vw j v w z n | none => .junk
  | .vb b o t m z n => match f b with | some j => .vb j o t m z n | none => .junk
  | .ep s w z g => .ep (s.mapo f) w z g
  | s => s
def VV.mapo (f : Nat → Option Nat) : VV → VV
  | .sc s => .sc (s.mapo f)
  | .agg l => .agg (l.map (SV.mapo f))
def LV.mapo (f : Nat → Option Nat) : LV → LV
  | .one x => .one (x.mapo f)
  | .tup l => .tup (l.map (VV.mapo f))
  | .junk => .junk
def Item.mapo (f : Nat → Option Nat) : Item → Item
  | .blk cells e => .blk (cells.map (SV.mapo f)) e
  | x => x
def SV.refs : SV → List Nat
  | .ptr b _ | .ptrx b _ _ _ _ | .slice b _ _ _ | .sl b _ | .vw b _ _ _ _ | .vb b _ _ _ _ _ => [b]
  | .ep s _ _ _ => s.refs
  | _ => []
def VV.refs : VV → List Nat
  | .sc s => s.refs
  | .agg l => l.flatMap SV.refs
def LV.refs : LV → List Nat
  | .one x => x.refs
  | .tup l => l.flatMap VV.refs
  | .junk => []
def Item.refs : Item → List Nat
  | .blk cells _ => cells.flatMap SV.refs
  | _ => []
/-- no slice that is read for now alone -/
def SV.nr : SV → Bool
  | .rd pm _ _ _ => pm
  | .ep s _ _ _ => s.nr
  | _ => true
def VV.nr : VV → Bool
  | .sc s => s.nr
  | .agg l => l.all SV.nr
def LV.nr : LV → Bool
  | .one x => x.nr
  | .tup l => l.all VV.nr
  | .junk => true
def Item.nr : Item → Bool
  | .blk cells _ => cells.all SV.nr
  | _ => true
theorem Item.mapo_kd (f : Nat → Option Nat) (x : Item) : (x.mapo f).kd = x.kd := by cases x <;> rfl

/-- what goes over to other numbers -/
structure Over (f : Nat → Option Nat) (β β' : Env) (L L' : Nat → Option Kd) (nr : Bool) : Prop where
  blk : ∀ b j, f b = some j → L b = some .blk → L' j = some .blk ∧ β'.b j = β.b b
  own : ∀ i j c, f i = some j → L i = some (.own c) → L' j = some (.own c) ∧ β'.h j = β.h i
  rdt : ∀ v t l, β.rd true v t l → β'.rd true v t l
  rdf : nr = false → ∀ v t l, β.rd false v t l → β'.rd false v t l
section
variable {f : Nat → Option Nat} {β β' : Env} {L L' : Nat → Option Kd} {nr : Bool}
theorem RdOk.over (h : Over f β β' L L' nr) {pm : Bool} {v : Value} {t : Ty} {l : List t.D} (hn : nr = true → pm = true) (hr : RdOk β pm v t l) : RdOk β' pm v t l := by
  rcases hr with hr | ⟨rfl, hr⟩ | hr
  · exact .inl (h.rdt _ _ _ hr)
  · cases nr with
    | true => exact absurd (hn rfl) (by simp)
    | false => exact .inr (.inl ⟨rfl, h.rdf rfl _ _ _ hr⟩)
  · exact .inr (.inr hr)
theorem Ty.has_over (h : ∀ v t l, β.rd true v t l → β'.rd true v t l) : ∀ (t : Ty) {x : t.D} {vs : List Value}, t.has β true x vs → t.has β' true x vs
  | .int _, _, _, h => h
  | .bool, _, _, h => h
  | .flt, _, _, h => h
  | .str, _, _, h => h
  | .sl _, _, _, ⟨v, h1, h2, h3⟩ => ⟨v, h1, h2, by
    rcases h3 with h3 | ⟨h3, _⟩ | h3
    · exact .inl (h _ _ _ h3)
    · cases h3
    · exact .inr (.inr h3)⟩
  | .pair a b, _, _, ⟨u, w, h0, h1, h2⟩ => ⟨u, w, h0, a.has_over h h1, b.has_over h h2⟩
  | .arr t _, _, _, ⟨h1, h2⟩ => ⟨h1, h2.imp fun _ _ => t.has_over h⟩
theorem SV.den_over (h : Over f β β' L L' nr) : ∀ {s : SV} {v : Value}, (nr = true → s.nr = true) → s.den β L v → (s.mapo f).den β' L' v
  | .int _ _, _, _, hd => hd
  | .bool _, _, _, hd => hd
  | .flt _, _, _, hd => hd
  | .str _, _, _, hd => hd
  | .con _, _, _, hd => hd
  | .junk, _, _, hd => hd
  | .arr _ _ _, _, _, hd => hd.elim
  | .rd _ _ _ _, _, hn, ⟨h1, h2, h3⟩ => ⟨h1, h2, h3.over h hn⟩
  | .ptr b o, v, _, hd => by
    simp only [SV.mapo]
    split
    · rename_i j hj
      obtain ⟨k1, k2⟩ := h.blk b j hj hd.1
      exact ⟨k1, by rw [k2]; exact hd.2⟩
    · exact SV.den_oneCell hd
  | .ptrx b base st n z, v, _, hd => by
    simp only [SV.mapo]
    split
    · rename_i j hj
      obtain ⟨k1, k2⟩ := h.blk b j hj hd.1
      exact ⟨k1, hd.2.1, by rw [k2]; exact hd.2.2⟩
    · exact SV.den_oneCell hd
  | .slice b o l c, v, _, hd => by
    simp only [SV.mapo]
    split
    · rename_i j hj
      obtain ⟨k1, k2⟩ := h.blk b j hj hd.1
      exact ⟨k1, by rw [k2]; exact hd.2⟩
    · exact SV.den_oneCell hd
  | .sl i ver, v, _, hd => by
    simp only [SV.mapo]
    split
    · rename_i j hj
      obtain ⟨h1, c, h2, h3, h4⟩ := hd
      obtain ⟨k1, k2⟩ := h.own i j c hj h2
      exact ⟨h1, c, k1, h3, fun e => by rw [k2]; exact h4 e⟩
    · exact SV.den_oneCell hd
  | .vw i ver w z n, v, _, hd => by
    simp only [SV.mapo]
    split
    · rename_i j hj
      obtain ⟨h1, c, h2, h3, h4⟩ := hd
      obtain ⟨k1, k2⟩ := h.own i j c hj h2
      exact ⟨h1, c, k1, h3, fun e => by rw [k2]; exact h4 e⟩
    · exact SV.den_oneCell hd
  | .vb b o t m z n, v, _, hd => by
    simp only [SV.mapo]
    split
    · rename_i j hj
      obtain ⟨h1, h2⟩ := hd
      obtain ⟨k1, k2⟩ := h.blk b j hj h1
      exact ⟨k1, by rw [k2]; exact h2⟩
    · exact SV.den_oneCell hd
  | .ep s w z g, v, hn, ⟨a, n, c, h1, h2⟩ => ⟨a, n, c, SV.den_over h hn h1, h2⟩
theorem DenL.over (h : Over f β β' L L' nr) {l : List SV} {vs : List Value} (hn : nr = true → l.all SV.nr = true) (hd : DenL β L l vs) : DenL β' L' (l.map (SV.mapo f)) vs := by
  induction l generalizing vs with
  | nil => cases hd; exact HasL.nil
  | cons s l ih =>
    have hn1 : nr = true → s.nr = true := fun e => by have := hn e; simp only [List.all_cons, Bool.and_eq_true] at this; exact this.1
    have hn2 : nr = true → l.all SV.nr = true := fun e => by have := hn e; simp only [List.all_cons, Bool.and_eq_true] at this; exact this.2
    cases hd with
    | cons h1 h2 =>
      refine HasL.cons ?_ (ih hn2 h2)
      cases s with
      | arr t n x => exact ⟨h1.1, h1.2.imp fun _ _ => t.has_over h.rdt⟩
      | _ =>
        obtain ⟨v, rfl, h3⟩ := h1
        exact SV.dens_of (SV.den_over h hn1 h3)
theorem VV.den_over (h : Over f β β' L L' nr) {s : VV} {v : Value} (hn : nr = true → s.nr = true) (hd : s.den β L v) : (s.mapo f).den β' L' v := by
  cases s with
  | sc s => exact SV.den_over h hn hd
  | agg l => obtain ⟨cs, rfl, hd⟩ := hd; exact ⟨cs, rfl, DenL.over h hn hd⟩
theorem LV.den_over (h : Over f β β' L L' nr) {s : LV} {v : Value} (hn : nr = true → s.nr = true) (hd : s.den β L v) : (s.mapo f).den β' L' v := by
  cases s with
  | one x => exact VV.den_over h hn hd
  | tup l =>
    obtain ⟨vs, rfl, hd⟩ := hd
    refine ⟨vs, rfl, ?_⟩
    simp only [LV.nr] at hn
    induction hd with
    | nil => exact .nil
    | cons h1 h2 ih =>
      exact .cons (VV.den_over h (fun e => by have := hn e; simp only [List.all_cons, Bool.and_eq_true] at this; exact this.1) h1) (ih fun e => by have := hn e; simp only [List.all_cons, Bool.and_eq_true] at this; exact this.2)
  | junk => trivial
theorem ItemOk.over (h : Over f β β' L L' nr) {w : World} {i j : Nat} {x : Item} (hn : nr = true → x.nr = true) (hb : x.kd = .blk → β'.b j = β.b i) (hh : ∀ c, x.kd = .own c → β'.h j = β.h i) (hd : ItemOk β L w i x) : ItemOk β' L' w j (x.mapo f) := by
  cases x with
  | blk cells e =>
    obtain ⟨c, fz, h1, h2, h3⟩ := hd
    exact ⟨c, fz, by rw [hb rfl]; exact h1, h2, DenL.over h hn h3⟩
  | own ver t l =>
    show OwnOk β' w (β'.h j) t l
    rw [hh ver rfl]
    obtain ⟨a, n, c, e, h1, h2, h3, h4⟩ := (hd : OwnOk β w (β.h i) t l)
    refine ⟨a, n, c, e, h1, h2, h3, fun h0 => ?_⟩
    obtain ⟨a0, pre, vss, rest, elem, fz, k0, k1, k2, k3, k4, k5⟩ := h4 h0
    exact ⟨a0, pre, vss, rest, elem, fz, k0, k1, k2, k3, k4.imp fun _ _ => t.has_over h.rdt, k5⟩
  | gone v => trivial
end

theorem mapo_back {f : Nat → Option Nat} {g : Nat → Nat} : ∀ {s : SV}, (∀ r ∈ s.refs, ∃ j, f r = some j ∧ g j = r) → (s.mapo f).mapo (fun j => some (g j)) = s
  | .ptr b o, h => by obtain ⟨j, h1, h2⟩ := h b (by simp [SV.refs]); simp only [SV.mapo, h1, h2]
  | .ptrx b base st n z, h => by obtain ⟨j, h1, h2⟩ := h b (by simp [SV.refs]); simp only [SV.mapo, h1, h2]
  | .slice b o l c, h => by obtain ⟨j, h1, h2⟩ := h b (by simp [SV.refs]); simp only [SV.mapo, h1, h2]
  | .sl b v, h => by obtain ⟨j, h1, h2⟩ := h b (by simp [SV.refs]); simp only [SV.mapo, h1, h2]
  | .vw b v w z n, h => by obtain ⟨j, h1, h2⟩ := h b (by simp [SV.refs]); simp only [SV.mapo, h1, h2]
  | .vb b o t m z n, h => by obtain ⟨j, h1, h2⟩ := h b (by simp [SV.refs]); simp only [SV.mapo, h1, h2]
  | .ep s w z g', h => by simp only [SV.mapo]; rw [mapo_back (s := s) h]
  | .int _ _, _ | .bool _, _ | .flt _, _ | .str _, _ | .con _, _ | .junk, _ | .arr _ _ _, _ | .rd _ _ _ _, _ => rfl
theorem item_back {f : Nat → Option Nat} {g : Nat → Nat} {x : Item} (h : ∀ r ∈ x.refs, ∃ j, f r = some j ∧ g j = r) : (x.mapo f).mapo (fun j => some (g j)) = x := by
  cases x with
  | blk cells e =>
    have hm : (cells.map (SV.mapo f)).map (SV.mapo fun j => some (g j)) = cells := by
      rw [List.map_map]
      have := List.map_congr_left (l := cells) (f := (SV.mapo fun j => some (g j)) ∘ SV.mapo f) (g := id) fun s hs => mapo_back fun r hr => h r (by simp only [Item.refs, List.mem_flatMap]; exact ⟨s, hs, hr⟩)
      rw [this, List.map_id]
    simp only [Item.mapo, hm]
  | _ => rfl
theorem SV.nr_mapo {f : Nat → Option Nat} : ∀ {s : SV}, s.nr = true → (s.mapo f).nr = true
  | .ptr b o, _ => by simp only [SV.mapo]; split <;> rfl
  | .ptrx .., _ => by simp only [SV.mapo]; split <;> rfl
  | .slice .., _ => by simp only [SV.mapo]; split <;> rfl
  | .sl .., _ => by simp only [SV.mapo]; split <;> rfl
  | .vw .., _ => by simp only [SV.mapo]; split <;> rfl
  | .vb .., _ => by simp only [SV.mapo]; split <;> rfl
  | .ep s w z g, h => SV.nr_mapo (s := s) h
  | .int _ _, h | .bool _, h | .flt _, h | .str _, h | .con _, h | .junk, h | .arr _ _ _, h | .rd _ _ _ _, h => h

/-! ### The items that are reached -/
def reachA : Nat → List Nat → List Nat → List Item → Ask (Option (List Nat × List Item))
  | 0, _, _, _ => .ret none
  | _ + 1, [], acc, its => .ret (some (acc, its))
  | n + 1, i :: todo, acc, its => if i ∈ acc then reachA n todo acc its else
      .get i fun x => match x with
        | some x => reachA n (x.refs ++ todo) (acc ++ [i]) (its ++ [x])
        | none => .ret none
structure Reached (hp : Hp) (roots acc : List Nat) (its : List Item) (todo : List Nat) : Prop where
  nodup : acc.Nodup
  len : acc.length = its.length
  at_ : ∀ (j : Nat) (i : Nat) (x : Item), acc[j]? = some i → its[j]? = some x → itemAt hp i = some x
  refs : ∀ x ∈ its, ∀ r ∈ x.refs, r ∈ acc ∨ r ∈ todo
  root : ∀ r ∈ roots, r ∈ acc ∨ r ∈ todo
theorem reach_ok {hp : Hp} {roots : List Nat} : ∀ (n : Nat) (todo acc : List Nat) (its : List Item) {ids : List Nat} {xs : List Item}, Reached hp roots acc its todo → (reachA n todo acc its).val hp = some (ids, xs) → Reached hp roots ids xs []
  | 0, _, _, _, _, _, _, h => by cases h
  | n + 1, [], acc, its, _, _, hr, h => by
    simp only [reachA, Ask.val] at h
    cases h
    exact hr
  | n + 1, i :: todo, acc, its, ids, xs, hr, h => by
    simp only [reachA] at h
    split at h
    · rename_i hm
      have hm' : i ∈ acc := hm
      refine reach_ok n todo acc its ⟨hr.nodup, hr.len, hr.at_, fun x hx r hr' => ?_, fun r hr' => ?_⟩ h
      · rcases hr.refs x hx r hr' with h1 | h1
        · exact .inl h1
        · rcases List.mem_cons.1 h1 with rfl | h1
          · exact .inl hm'
          · exact .inr h1
      · rcases hr.root r hr' with h1 | h1
        · exact .inl h1
        · rcases List.mem_cons.1 h1 with rfl | h1
          · exact .inl hm'
          · exact .inr h1
    · rename_i hm
      have hm' : i ∉ acc := hm
      simp only [Ask.val] at h
      split at h
      · rename_i x hx
        refine reach_ok n (x.refs ++ todo) (acc ++ [i]) (its ++ [x]) ⟨?_, by simp [hr.len], ?_, ?_, ?_⟩ h
        · rw [List.nodup_append]
          refine ⟨hr.nodup, by simp, fun a ha b hb => ?_⟩
          simp at hb; subst hb
          exact fun e => hm' (e ▸ ha)
        · intro j i' x' h1 h2
          by_cases hj : j < acc.length
          · rw [List.getElem?_append_left hj] at h1
            rw [List.getElem?_append_left (by rw [← hr.len]; exact hj)] at h2
            exact hr.at_ j i' x' h1 h2
          · rw [List.getElem?_append_right (by omega)] at h1
            rw [List.getElem?_append_right (by rw [← hr.len]; omega), ← hr.len] at h2
            have hj0 : j - acc.length = 0 := by
              have := (List.getElem?_eq_some_iff.1 h1).1
              simpa using this
            rw [hj0] at h1 h2
            simp at h1 h2; subst h1 h2
            exact hx
        · intro y hy r hr'
          rcases List.mem_append.1 hy with hy | hy
          · rcases hr.refs y hy r hr' with h1 | h1
            · exact .inl (by simp [h1])
            · rcases List.mem_cons.1 h1 with rfl | h1
              · exact .inl (by simp)
              · exact .inr (by simp [h1])
          · simp at hy; subst hy
            exact .inr (by simp [hr'])
        · intro r hr'
          rcases hr.root r hr' with h1 | h1
          · exact .inl (by simp [h1])
          · rcases List.mem_cons.1 h1 with rfl | h1
            · exact .inl (by simp)
            · exact .inr (by simp [h1])
      · simp [Ask.val] at h
end Go.Ev
