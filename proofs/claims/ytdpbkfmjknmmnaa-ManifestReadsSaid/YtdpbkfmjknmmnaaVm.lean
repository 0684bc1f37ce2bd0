/- A reader of code, third make: builtin functions. -/
import Derived.Test.YtdpbkfmjknmmnaaVl
import Derived.Deep.AppendSrc
import Derived.Lib.AppendZerosOnto
set_option linter.unusedVariables false
set_option linter.unusedSimpArgs false
namespace Go.Ev
open Go

/-- what is appended or copied -/
def srcAs (P : Program) (ty : Ty) (t : TypeId) (x : SV) : Ask (Option (Bool × List ty.D)) :=
  match sliceT P t with
  | some _ => contAs ty x
  | none => match P.underlying t with
    | some .string => .ret (if h : Ty.int .u8 = ty then (strOfS x).map fun l => (true, h ▸ (l.map fun n => ((UInt8.ofNat n.toNat).toNat : Int))) else none)
    | _ => .ret none
def lenS (P : Program) (t : TypeId) (x : SV) : Ask (Option SI) :=
  match x with
  | .con (.slice _ n _) => .ret ((sliceT P t).map fun _ => .lit n)
  | .slice _ _ n _ => .ret ((sliceT P t).map fun _ => .lit n)
  | .str l => .ret (if P.underlying t matches some .string then some (.sym l.length) else none)
  | .con (.string s) => .ret (if P.underlying t matches some .string then some (.lit s.size) else none)
  | x => match sliceT P t with
    | some _ => (contOf x).map fun c => c.map fun c => .sym c.2.2.length
    | none => .ret none
def minmax (f : Int → Int → Int) (k : IntKind) : SI → List SV → Option SI
  | x, [] => some x
  | x, .int k' y :: l => if k' = k then minmax f k (map2 f x y) l else none
  | _, _ => none
def min2I (x y : Int) : Int := if y < x then y else x
def max2I (x y : Int) : Int := if y > x then y else x
/-- n elements put over others, from z on, no more than up to z + len -/
def overL {α : Type} (l : List α) (z len : Nat) (m : List α) : List α := l.take z ++ (m.take len ++ l.drop (z + min len m.length))

def appEv (P : Program) (id : Nat) (t u : TypeId) (s x : SV) : Ask Stp :=
  match sliceT P t with
  | none => .ret none
  | some el => match tyOf P 8 el, sizeT P el, zeroT P el, bytesT P el with
    | some ty, some sz, some z, some by_ =>
      if sz = ty.w ∧ 0 < ty.w ∧ wL z = ty.w then
        (srcAs P ty u x).bind fun c => match c with
          | some (pm, m) => if pm || ty.flat then
              match s with
              | .con (.slice none 0 0) => .ret (some (some (m.length * by_ ≤ 70368744177664 ∧ m.length ≤ 70368744177664), .one (.sc (.sl id 0)), [(id, .own 0 ty m)]))
              | .sl i ver => .get i fun y => .ret (match y with
                | some (.own ver' ty' l) => if h : ty' = ty then (if ver = ver' then some (some ((l.length + m.length) * by_ ≤ 70368744177664 ∧ l.length + m.length ≤ 70368744177664), .one (.sc (.sl i (ver + 1))), [(i, .own (ver + 1) ty ((h ▸ l : List ty.D) ++ m))]) else none) else none
                | _ => none)
              | _ => .ret none
            else .ret none
          | none => .ret none
      else .ret none
    | _, _, _, _ => .ret none

/-- so many zero values appended -/
def appZEv (P : Program) (id : Nat) (t u : TypeId) (s : SV) (n : Int) : Ask Stp :=
  match sliceT P t, P.underlying u with
  | some el, some (.int _) => match tyOf P 8 el, sizeT P el, zeroT P el, bytesT P el with
    | some ty, some sz, some z, some by_ =>
      if sz = ty.w ∧ 0 < ty.w ∧ wL z = ty.w then
        match ty.read true z with
        | some z0 => match s with
          | .con (.slice none 0 0) => .ret (some (some (0 ≤ n ∧ n.toNat * by_ ≤ 70368744177664 ∧ n.toNat ≤ 70368744177664), .one (.sc (.sl id 0)), [(id, .own 0 ty (List.replicate n.toNat z0))]))
          | .sl i ver => .get i fun y => .ret (match y with
            | some (.own ver' ty' l) => if h : ty' = ty then (if ver = ver' then some (some (0 ≤ n ∧ (l.length + n.toNat) * by_ ≤ 70368744177664 ∧ l.length + n.toNat ≤ 70368744177664), .one (.sc (.sl i (ver + 1))), [(i, .own (ver + 1) ty ((h ▸ l : List ty.D) ++ List.replicate n.toNat z0))]) else none) else none
            | _ => none)
          | _ => .ret none
        | none => .ret none
      else .ret none
    | _, _, _, _ => .ret none
  | _, _ => .ret none

def copyEv (P : Program) (t u : TypeId) (d x : SV) : Ask Stp :=
  match sliceT P t with
  | none => .ret none
  | some el => match tyOf P 8 el, sizeT P el with
    | some ty, some sz =>
      if sz = ty.w ∧ 0 < ty.w then
        (match sliceT P u with | some _ => contAs ty x | none => .ret none).bind fun c => match c with
          | some (pm, m) => if pm || ty.flat then
              match d with
              | .sl i ver => .get i fun y => .ret (match y with
                | some (.own ver' ty' l) => if h : ty' = ty then (if ver = ver' then some (none, .one (.sc (.int .i64 (.sym (min m.length l.length : Nat)))), [(i, .own ver' ty (overL (h ▸ l) 0 l.length m))]) else none) else none
                | _ => none)
              | .vw i ver w z n => .get i fun y => .ret (match y with
                | some (.own ver' ty' l) => if h : ty' = ty then (if ver = ver' ∧ w = ty.w then some (none, .one (.sc (.int .i64 (.sym (min m.length n.toNat : Nat)))), [(i, .own ver' ty (overL (h ▸ l) z.toNat n.toNat m))]) else none) else none
                | _ => none)
              | .vb b o' ty' k z n => .get b fun y => .ret (match y with
                | some (.blk cells elem) => match rowAt cells o' with
                  | some (.arr ty'' k' l) => if h : ty'' = ty then (if ty' = ty ∧ k' = k then (setRowAt cells o' (.arr ty k' (overL (h ▸ l) z.toNat n.toNat m))).map fun c => (none, .one (.sc (.int .i64 (.sym (min m.length n.toNat : Nat)))), [(b, .blk c elem)]) else none) else none
                  | _ => none
                | _ => none)
              | .slice b o' n _ => .get b fun y => .ret (match y with
                | some (.blk cells elem) => match subL cells o' (n * ty.w) with
                  | some s => match readN (ty.read true) ty.w n s with
                    | some l => (cutput cells o' ((List.range n).flatMap fun j => ty.svs true ((overL l 0 n m).getD j ty.z))).map fun c => (none, .one (.sc (.int .i64 (.sym (min m.length n : Nat)))), [(b, .blk c elem)])
                    | none => none
                  | none => none
                | _ => none)
              | _ => .ret none
            else .ret none
          | none => .ret none
      else .ret none
    | _, _ => .ret none

def biEv (P : Program) (id : Nat) (b : Builtin) (ts : List TypeId) (xs : List LV) : Ask Stp :=
  match b, ts, xs with
  | .len, [t], [x] => match opSc x with
    | some x => (lenS P t x).map fun n => n.map fun n => (none, .one (.sc (.int .i64 n)), [])
    | none => .ret none
  | .append, [t, u], [s, x] => match opSc s, opSc x with
    | some s, some (.int _ n) => appZEv P id t u s n.val
    | some s, some x => appEv P id t u s x
    | _, _ => .ret none
  | .copy, [t, u], [s, x] => match opSc s, opSc x with
    | some s, some x => copyEv P t u s x
    | _, _ => .ret none
  | .min, _, x :: l => .ret (match opSc x, optAll opSc l with
    | some (.int k x), some l => (minmax min2I k x l).map fun n => (none, .one (.sc (.int k n)), [])
    | _, _ => none)
  | .max, _, x :: l => .ret (match opSc x, optAll opSc l with
    | some (.int k x), some l => (minmax max2I k x l).map fun n => (none, .one (.sc (.int k n)), [])
    | _, _ => none)
  | _, _, _ => .ret none

section
variable {P : Program} {W : World} {hp₀ : Hp} {β₀ β : Env} {hp : Hp} {w : World}

theorem src_slice {β : Env} {pm : Bool} {ty : Ty} {t e : TypeId} (hu : P.underlying t = some (.slice e)) {v : Value} {m : List ty.D} (h : ReadsAs β pm w v ty m) :
    ∃ news, Src P ty.w t v m.length news w ∧ HasL (ty.has β pm) m news := by
  obtain ⟨a, n, c, rfl, rfl, hc, _, hr⟩ := h
  rcases Nat.eq_zero_or_pos m.length with h0 | h0
  · have : m = [] := List.eq_nil_of_length_eq_zero h0
    subst this
    refine ⟨[], ?_, .nil⟩
    cases a with
    | none => exact Src.ofNil w hu c
    | some a => exact Src.ofSlice w hu a 0 c [] (by simp) (fun j u h => by simp at h) (fun u h => by cases h)
  · obtain ⟨a0, vss, rfl, h1, h2, h3⟩ := hr h0
    exact ⟨vss, Src.ofSlice w hu a0 m.length c vss (hasL_length h2) (fun j u hj => h3 j u hj) (hasL_one h2), h2⟩

theorem byteCells_has {β : Env} (l : List Int) : HasL ((Ty.int .u8).has β true) (l.map fun n => ((UInt8.ofNat n.toNat).toNat : Int)) (byteCells (strOf l)) := by
  have : byteCells (strOf l) = (l.map fun n => ((UInt8.ofNat n.toNat).toNat : Int)).map (Value.int .u8) := by
    simp [byteCells, strOf]
  rw [this]
  generalize (l.map fun n => ((UInt8.ofNat n.toNat).toNat : Int)) = m
  induction m with
  | nil => exact .nil
  | cons x m ih => exact HasL.cons (vs := [_]) rfl ih

theorem srcAs_ok (h : HRel W hp₀ β₀ β hp w) {ty : Ty} {t : TypeId} {x : SV} {pm : Bool} {m : List ty.D} (hs : (srcAs P ty t x).val hp = some (pm, m)) (hf : (pm || ty.flat) = true) {v : Value} (hd : x.den β (kd hp) v) :
    ∃ news, Src P ty.w t v m.length news w ∧ HasL (ty.has β true) m news := by
  unfold srcAs at hs
  split at hs
  · rename_i e hsl
    obtain ⟨news, h1, h2⟩ := src_slice (P := P) (sliceT_eq hsl) (contAs_ok h hs hd)
    refine ⟨news, h1, ?_⟩
    cases pm with
    | true => exact h2
    | false => exact h2.imp fun _ _ => ty.has_pm (by simpa using hf)
  · split at hs
    · rename_i hu
      simp only [Ask.val] at hs
      split at hs
      · rename_i e; subst e
        obtain ⟨l, hl, he⟩ := map_some hs
        cases he
        have hv := strOfS_den hl hd
        subst hv
        refine ⟨byteCells (strOf l), ?_, byteCells_has l⟩
        have := Src.ofString (P := P) w hu (strOf l)
        rw [strOf_size] at this
        rw [List.length_map]; exact this
      · cases hs
    · simp [Ask.val] at hs

theorem zero_cells {el : TypeId} {z : List SV} {n : Nat} (hz : zeroT P el = some z) (hw : wL z = n) : ∃ i zv, P.info? el = some i ∧ i.zero = some zv ∧ zv.cells.size = n := by
  unfold zeroT at hz
  split at hz
  · rename_i i lay hi _
    split at hz
    · rename_i zv hzv
      have := (zeroBy_ok (β := ⟨fun _ => 0, fun _ => .nilIface, fun _ _ _ _ => False⟩) (L := fun _ => none) _ _ hz).length
      exact ⟨i, zv, hi, hzv, by simpa [hw] using this⟩
    · cases hz
  · cases hz

/-- elements appended to an own slice, or to none -/
theorem append_own {t u el ty_ : TypeId} {ty : Ty} {z : List SV} {by_ : Nat} (hsl : sliceT P t = some el) (hs : sizeT P el = some ty.w) (hpos : 0 < ty.w) (hz : zeroT P el = some z) (hwz : wL z = ty.w) (hby : bytesT P el = some by_)
    {hd : Value} {l m : List ty.D} (hok : OwnOk β w hd ty l) {x : Value} {news : List Value} (hsrc : Src P ty.w u x m.length news w) (hnews : HasL (ty.has β true) m news)
    (hb1 : (l.length + m.length) * by_ ≤ 70368744177664) (hb2 : l.length + m.length ≤ 70368744177664) :
    ∃ v' w', (Builtin.append_ #[t, u] ty_ #[hd, x]).run P w = .ok v' w' ∧ OwnOk β w' v' ty (l ++ m) ∧ w.heap.size ≤ w'.heap.size ∧ w'.os = w.os ∧ w'.output = w.output ∧
      (∀ b, b < w.heap.size → ¬ (∃ a n c, hd = .slice (some a) n c ∧ 0 < c ∧ a.block = b) → w'.heap[b]? = w.heap[b]?) ∧
      (∀ a n c, v' = .slice (some a) n c → 0 < c → (∃ n' c', hd = .slice (some a) n' c' ∧ 0 < c') ∨ w.heap.size ≤ a.block) := by
  obtain ⟨base, n, c, rfl, hn, hnc, hnone, hrest⟩ := hok
  have hu := sliceT_eq hsl
  obtain ⟨i, zv, hi, hzv, hzs⟩ := zero_cells (P := P) hz hwz
  have his : i.size = ty.w := by unfold sizeT at hs; rw [hi] at hs; simpa using hs
  have hib : i.bytes = by_ := by unfold bytesT at hby; rw [hi] at hby; simpa using hby
  by_cases hroom : n + m.length ≤ c
  · -- room
    rcases Nat.eq_zero_or_pos c with h0 | h0
    · have hl0 : l = [] := List.eq_nil_of_length_eq_zero (by omega)
      have hm0 : m = [] := List.eq_nil_of_length_eq_zero (by omega)
      subst hl0 hm0
      have hnw : news = [] := by cases hnews; rfl
      subst hnw
      refine ⟨.slice base n c, w, ?_, ⟨base, n, c, rfl, hn, hnc, hnone, hrest⟩, Nat.le_refl _, rfl, rfl, fun _ _ _ => rfl, fun a n' c' e h => by simp at e; omega⟩
      have hle : n ≤ c := hnc
      have hcells := hsrc.cells
      have hlen := hsrc.len
      have hr2 : n + 0 ≤ c := by simpa using hnc
      simp only [List.length_nil] at hlen hcells
      rcases hsrc.kind with ⟨e', hk⟩ | hk <;> cases base <;> simp [Builtin.append_, run_underlying hu, run_underlying hk, sizeOf, typeInfo, hi, his, hlen, hcells, hle, storeCells]
    · obtain ⟨a0, pre, vss, rest, elem, fz, rfl, k1, k2, k3, k4, k5, k6⟩ := hrest h0
      have hnl : news.length = m.length * ty.w := hasL_length hnews
      have hvl : vss.length = n * ty.w := by rw [hasL_length k4, hn]
      have hrl : m.length * ty.w ≤ rest.length := Nat.le_trans (Nat.mul_le_mul_right _ (by omega)) k5
      obtain ⟨w', r1, r2, r3, r4, r5, r6⟩ := run_storeRow (P := P) (a := a0.add (n * ty.w)) (add_spot k1 _) (elem := elem) (fz := fz) news 0 (pre ++ vss) (rest.take (m.length * ty.w)) (rest.drop (m.length * ty.w)) w
        (by rw [add_block, k2]; simp) (by
          obtain ⟨b0, o0, s0⟩ := a0
          simp at k1 k3; subst k1
          rw [addr_add]; simp [k3, hvl]) (by rw [hnl, List.length_take, Nat.min_eq_left hrl]) (hasL_one hnews) (fun off q1 q2 => k6.not (by simp [hnl] at q2 ⊢; omega))
      rw [add_block] at r2 r3
      refine ⟨.slice (some a0) (n + m.length) c, w', ?_, ⟨some a0, n + m.length, c, rfl, by simp [hn], hroom, by simp, fun _ => ⟨a0, pre, vss ++ news, rest.drop (m.length * ty.w), elem, fz, rfl, k1, ?_, k3, k4.append hnews, ?_, ?_⟩⟩, by omega, r5, r6, fun b _ hno => r3 b fun e => hno ⟨a0, n, c, rfl, h0, e.symm⟩, fun a n' c' e _ => .inl (by simp at e; obtain ⟨rfl, _, _⟩ := e; exact ⟨n, c, rfl, h0⟩)⟩
      · rcases hsrc.kind with ⟨e', hk⟩ | hk <;> simp [Builtin.append_, run_underlying hu, run_underlying hk, sizeOf, typeInfo, hi, his, hsrc.len, hroom, hsrc.cells, r1]
      · rw [r2]; simp
      · rw [List.length_drop]
        have : (c - (n + m.length)) * ty.w = (c - n) * ty.w - m.length * ty.w := by rw [← Nat.sub_sub, Nat.sub_mul]
        omega
      · have : (pre ++ ((vss ++ news) ++ rest.drop (m.length * ty.w))).length = (pre ++ (vss ++ rest)).length := by simp [hnl]; omega
        rw [this]; exact k6
  · -- none
    have hg : c < n + m.length := by omega
    have hfit : Builtin.nextslicecap (n + m.length) c * i.bytes ≤ 281474976710656 := growslice_fits hg (by rw [hib, hn]; omega)
    have holds : ∃ olds, HasL (ty.has β true) l olds ∧ ∀ (w' : World), (∀ b, b < w.heap.size → w'.heap[b]? = w.heap[b]?) → (Builtin.firstCells i.size n (.slice base n c)).run P w' = .ok olds.toArray w' := by
      rcases Nat.eq_zero_or_pos c with h0 | h0
      · have hl0 : l = [] := List.eq_nil_of_length_eq_zero (by omega)
        have hn0 : n = 0 := by omega
        subst hl0 hn0
        refine ⟨[], .nil, fun w' _ => ?_⟩
        cases base with
        | none => simp [Builtin.firstCells]
        | some a => simp [Builtin.firstCells, loadCells, loadCellsFrom]
      · obtain ⟨a0, pre, vss, rest, elem, fz, rfl, k1, k2, k3, k4, k5, k6⟩ := hrest h0
        refine ⟨vss, k4, fun w' hw' => ?_⟩
        have hvl : vss.length = n * i.size := by rw [hasL_length k4, hn, his]
        have hlt : a0.block < w.heap.size := (Array.getElem?_eq_some_iff.1 k2).1
        refine run_firstCells_some (P := P) w' i.size n a0 n c vss hvl fun j u hj => ?_
        have hh : HoldsAt w a0 vss := by
          have := holdsAt_cells k2
          obtain ⟨b0, o0, s0⟩ := a0
          simp at k1 k3; subst k1 k3
          exact this
        exact hh.of (fun _ => hw' _ hlt) j u hj
    obtain ⟨olds, ho1, ho2⟩ := holds
    have hs' : Src P i.size u x m.length news w := by rw [his]; exact hsrc
    have hrun := run_append_grow_src (P := P) w t u ty_ el i zv hu hi hzv base n c olds (ho2 _ (fun _ _ => rfl)) x m.length news hs' hg (by omega) hfit
    have hcap := grownCap_ge w (n + m.length) c el
    have hzc : (Builtin.zeroCells zv.cells (grownCap w (n + m.length) c el - (n + m.length))).size = (grownCap w (n + m.length) c el - (n + m.length)) * ty.w := by simp [Builtin.zeroCells, hzs]
    generalize hcapg : grownCap w (n + m.length) c el = cap at hrun hcap hzc
    have harr : ((olds ++ news).toArray ++ Builtin.zeroCells zv.cells (cap - (n + m.length))) = ((olds ++ news) ++ (Builtin.zeroCells zv.cells (cap - (n + m.length))).toList).toArray := by
      apply Array.ext'; simp
    rw [harr] at hrun
    have hown := ownOk_new (β := β) (w := w.drew.alloc (.cells ((olds ++ news) ++ (Builtin.zeroCells zv.cells (cap - (n + m.length))).toList).toArray el)) (b := w.heap.size) (t := ty) (l := l ++ m) (elem := el) (fz := (0, 0)) (c := cap)
      (heap_alloc_new w.drew _) (ho1.append hnews) (by simp; omega) (Nat.le_of_eq (by rw [List.length_append, ← hn]; exact (Array.length_toList.trans hzc).symm)) (.inl rfl)
    refine ⟨_, _, hrun, ?_, ?_, rfl, rfl, fun b hb _ => heap_alloc_old w.drew _ b hb, fun a n' c' e _ => .inr (by simp at e; obtain ⟨rfl, _, _⟩ := e; exact Nat.le_refl _)⟩
    · rw [List.length_append, ← hn] at hown; exact hown
    · show w.heap.size ≤ (w.drew.alloc _).heap.size
      rw [World.size_alloc]; exact Nat.le_succ _
/-- zero values appended -/
theorem append_zeros {t u el ty_ : TypeId} {ty : Ty} {z : List SV} {by_ : Nat} (hsl : sliceT P t = some el) (hs : sizeT P el = some ty.w) (hpos : 0 < ty.w) (hz : zeroT P el = some z) (hwz : wL z = ty.w) (hby : bytesT P el = some by_)
    {hd : Value} {l : List ty.D} (hok : OwnOk β w hd ty l) {kn kq : IntKind} (hku : P.underlying u = some (.int kn)) {z0 : ty.D} (hz0 : ty.read true z = some z0) (k : Nat)
    (hb1 : (l.length + k) * by_ ≤ 70368744177664) (hb2 : l.length + k ≤ 70368744177664) :
    ∃ v' w', (Builtin.append_ #[t, u] ty_ #[hd, .int kq k]).run P w = .ok v' w' ∧ OwnOk β w' v' ty (l ++ List.replicate k z0) ∧ w.heap.size ≤ w'.heap.size ∧ w'.os = w.os ∧ w'.output = w.output ∧
      (∀ b, b < w.heap.size → ¬ (∃ a n c, hd = .slice (some a) n c ∧ 0 < c ∧ a.block = b) → w'.heap[b]? = w.heap[b]?) ∧
      (∀ a n c, v' = .slice (some a) n c → 0 < c → (∃ n' c', hd = .slice (some a) n' c' ∧ 0 < c') ∨ w.heap.size ≤ a.block) := by
  obtain ⟨base, n, c, rfl, hn, hnc, hnone, hrest⟩ := hok
  have hu := sliceT_eq hsl
  obtain ⟨i, zv, hi, hzv, hzs⟩ := zero_cells (P := P) hz hwz
  have his : i.size = ty.w := by unfold sizeT at hs; rw [hi] at hs; simpa using hs
  have hib : i.bytes = by_ := by unfold bytesT at hby; rw [hi] at hby; simpa using hby
  have hzr : (zeroValue el).run P w = .ok zv w := by simp [zeroValue, typeInfo, hi, hzv]
  obtain ⟨zv', hzv', hzd⟩ := run_zero (P := P) (w := w) (β := β) (L := fun _ => none) hz
  obtain rfl : zv' = zv := by rw [hzr] at hzv'; injection hzv' with e; exact e.symm
  have hzh := ty.read_ok hz0 hzd
  have hnews : HasL (ty.has β true) (List.replicate k z0) ((List.replicate k zv'.cells.toList).flatten) := hasL_rep hzh _
  have hzc0 : ∀ m, Builtin.zeroCells zv'.cells m = ((List.replicate m zv'.cells.toList).flatten).toArray := fun m => by
    rw [← arr_range_map m hzs]; unfold Builtin.zeroCells; rw [hzs]
  have hw64 : IntKind.i64.wrap (k : Int) = k := by rw [IntKind.wrap_i64]; omega
  have hneg : ¬ ((k : Int) < 0) := by omega
  have h48i : ¬ (281474976710656 < (k : Int) * (i.bytes : Int)) := by
    rw [← Int.natCast_mul, hib]
    have : k * by_ ≤ (l.length + k) * by_ := Nat.mul_le_mul_right _ (by omega)
    omega
  generalize hnw : (List.replicate k zv'.cells.toList).flatten = news at hnews
  by_cases hroom : n + k ≤ c
  · -- room
    rcases Nat.eq_zero_or_pos c with h0 | h0
    · have hl0 : l = [] := List.eq_nil_of_length_eq_zero (by omega)
      have hm0 : k = 0 := by omega
      subst hl0 hm0
      refine ⟨.slice base n c, w, ?_, ⟨base, n, c, rfl, hn, hnc, hnone, hrest⟩, Nat.le_refl _, rfl, rfl, fun _ _ _ => rfl, fun a n' c' e h => by simp at e; omega⟩
      have hle : n ≤ c := hnc
      have hw0 : IntKind.i64.wrap 0 = 0 := rfl
      cases base <;> simp [Builtin.append_, run_underlying hu, run_underlying hku, sizeOf, typeInfo, hi, his, hle, storeCells, asInt, asIntOf, hw0]
    · obtain ⟨a0, pre, vss, rest, elem, fz, rfl, k1, k2, k3, k4, k5, k6⟩ := hrest h0
      have hnl : news.length = k * ty.w := by rw [hasL_length hnews, List.length_replicate]
      have hvl : vss.length = n * ty.w := by rw [hasL_length k4, hn]
      have hrl : k * ty.w ≤ rest.length := Nat.le_trans (Nat.mul_le_mul_right _ (by omega)) k5
      obtain ⟨w', r1, r2, r3, r4, r5, r6⟩ := run_storeRow (P := P) (a := a0.add (n * ty.w)) (add_spot k1 _) (elem := elem) (fz := fz) news 0 (pre ++ vss) (rest.take (k * ty.w)) (rest.drop (k * ty.w)) w
        (by rw [add_block, k2]; simp) (by
          obtain ⟨b0, o0, s0⟩ := a0
          simp at k1 k3; subst k1
          rw [addr_add]; simp [k3, hvl]) (by rw [hnl, List.length_take, Nat.min_eq_left hrl]) (hasL_one hnews) (fun off q1 q2 => k6.not (by simp [hnl] at q2 ⊢; omega))
      rw [add_block] at r2 r3
      refine ⟨.slice (some a0) (n + k) c, w', ?_, ⟨some a0, n + k, c, rfl, by simp [hn], hroom, by simp, fun _ => ⟨a0, pre, vss ++ news, rest.drop (k * ty.w), elem, fz, rfl, k1, ?_, k3, k4.append hnews, ?_, ?_⟩⟩, by omega, r5, r6, fun b _ hno => r3 b fun e => hno ⟨a0, n, c, rfl, h0, e.symm⟩, fun a n' c' e _ => .inl (by simp at e; obtain ⟨rfl, _, _⟩ := e; exact ⟨n, c, rfl, h0⟩)⟩
      · rcases Nat.eq_zero_or_pos k with hk0 | hk0
        · subst hk0
          have hw0 : IntKind.i64.wrap 0 = 0 := rfl
          have hn0 : news = [] := by rw [← hnw]; rfl
          rw [hn0] at r1
          have hroom' : n ≤ c := hnc
          simp [Builtin.append_, run_underlying hu, run_underlying hku, sizeOf, typeInfo, hi, his, hroom', r1, asInt, asIntOf, hw0]
        · have hns : ¬ (k * ty.w = 0) := Nat.mul_ne_zero (by omega) (by omega)
          have hzk : Builtin.zeroCells zv'.cells k = news.toArray := by rw [hzc0 k, hnw]
          simp [Builtin.append_, run_underlying hu, run_underlying hku, sizeOf, typeInfo, hi, hzv, zeroValue, his, hroom, r1, asInt, asIntOf, hw64, hneg, h48i, hns, hzk]
      · rw [r2]; simp
      · rw [List.length_drop]
        have : (c - (n + k)) * ty.w = (c - n) * ty.w - k * ty.w := by rw [← Nat.sub_sub, Nat.sub_mul]
        omega
      · have : (pre ++ ((vss ++ news) ++ rest.drop (k * ty.w))).length = (pre ++ (vss ++ rest)).length := by simp [hnl]; omega
        rw [this]; exact k6
  · -- none
    have hg : c < n + k := by omega
    have hfit : Builtin.nextslicecap (n + k) c * i.bytes ≤ 281474976710656 := growslice_fits hg (by rw [hib, hn]; omega)
    have holds : ∃ olds, HasL (ty.has β true) l olds ∧ ∀ (w' : World), (∀ b, b < w.heap.size → w'.heap[b]? = w.heap[b]?) → (Builtin.firstCells i.size n (.slice base n c)).run P w' = .ok olds.toArray w' := by
      rcases Nat.eq_zero_or_pos c with h0 | h0
      · have hl0 : l = [] := List.eq_nil_of_length_eq_zero (by omega)
        have hn0 : n = 0 := by omega
        subst hl0 hn0
        refine ⟨[], .nil, fun w' _ => ?_⟩
        cases base with
        | none => simp [Builtin.firstCells]
        | some a => simp [Builtin.firstCells, loadCells, loadCellsFrom]
      · obtain ⟨a0, pre, vss, rest, elem, fz, rfl, k1, k2, k3, k4, k5, k6⟩ := hrest h0
        refine ⟨vss, k4, fun w' hw' => ?_⟩
        have hvl : vss.length = n * i.size := by rw [hasL_length k4, hn, his]
        have hlt : a0.block < w.heap.size := (Array.getElem?_eq_some_iff.1 k2).1
        refine run_firstCells_some (P := P) w' i.size n a0 n c vss hvl fun j u hj => ?_
        have hh : HoldsAt w a0 vss := by
          have := holdsAt_cells k2
          obtain ⟨b0, o0, s0⟩ := a0
          simp at k1 k3; subst k1 k3
          exact this
        exact hh.of (fun _ => hw' _ hlt) j u hj
    obtain ⟨olds, ho1, ho2⟩ := holds
    have hrun := Go.Lib.run_append_grow_zeros (P := P) w t u ty_ el i zv' kq kn hu hku hi hzv base n c olds (ho2 _ (fun _ _ => rfl)) k (by omega) (by omega) hg (by omega) (by
      have : k * by_ ≤ (l.length + k) * by_ := Nat.mul_le_mul_right _ (by omega)
      rw [hib]; omega) hfit
    rw [show (olds.toArray ++ Builtin.zeroCells zv'.cells k) = (olds ++ news).toArray from by rw [hzc0 k, hnw]; simp] at hrun
    have hcap := grownCap_ge w (n + k) c el
    have hzc : (Builtin.zeroCells zv'.cells (grownCap w (n + k) c el - (n + k))).size = (grownCap w (n + k) c el - (n + k)) * ty.w := by simp [Builtin.zeroCells, hzs]
    generalize hcapg : grownCap w (n + k) c el = cap at hrun hcap hzc
    have harr : ((olds ++ news).toArray ++ Builtin.zeroCells zv'.cells (cap - (n + k))) = ((olds ++ news) ++ (Builtin.zeroCells zv'.cells (cap - (n + k))).toList).toArray := by
      apply Array.ext'; simp
    rw [harr] at hrun
    have hown := ownOk_new (β := β) (w := w.drew.alloc (.cells ((olds ++ news) ++ (Builtin.zeroCells zv'.cells (cap - (n + k))).toList).toArray el)) (b := w.heap.size) (t := ty) (l := l ++ List.replicate k z0) (elem := el) (fz := (0, 0)) (c := cap)
      (heap_alloc_new w.drew _) (ho1.append hnews) (by simp; omega) (Nat.le_of_eq (by rw [List.length_append, List.length_replicate, ← hn]; exact (Array.length_toList.trans hzc).symm)) (.inl rfl)
    refine ⟨_, _, hrun, ?_, ?_, rfl, rfl, fun b hb _ => heap_alloc_old w.drew _ b hb, fun a n' c' e _ => .inr (by simp at e; obtain ⟨rfl, _, _⟩ := e; exact Nat.le_refl _)⟩
    · rw [List.length_append, List.length_replicate, ← hn] at hown; exact hown
    · show w.heap.size ≤ (w.drew.alloc _).heap.size
      rw [World.size_alloc]; exact Nat.le_succ _
end
end Go.Ev
