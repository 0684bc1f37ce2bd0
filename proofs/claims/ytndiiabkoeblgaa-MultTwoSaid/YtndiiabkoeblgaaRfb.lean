/- Powers, roots and points as the document has them: what each function gives. -/
import Derived.Test.YtndiiabkoeblgaaRfa
namespace Go.Proofs.Ytndiiabkoeblgaa
open Go Go.Ev

set_option maxRecDepth 1000000

noncomputable def bitFn9 (b : B32) (k : Nat) : Int := bitAnd .i64 (IntKind.i64.wrap (shr .u8 (b.get (k / 8)) ((k % 8 : Nat) : Int))) 1
theorem bit9_row : RowP Try.prog 72 (fnBit bitFn9) := by
  refine ⟨.inl ⟨Try.call72, fun args q v hg _ => ?_⟩, fun args q v hg => ?_⟩
  · unfold fnBit at hg
    split at hg
    · rename_i x i
      split at hg
      · rename_i b hb
        split at hg
        · rename_i hi
          simp at hg; obtain ⟨_, rfl⟩ := hg
          have h := gives_of_out (gam_ok (P := Try.prog) (t := []) trivial) mixed Try.func72 (of_range (bit9_out b) i.toNat (by omega))
          rw [Int.toNat_of_nonneg hi.1] at h
          refine (CallsEv.args h fun β L vals hv => ?_).mono fun _ _ e => ⟨e, by rw [e]; rfl⟩
          cases hv with
          | cons h1 h2 => exact .cons (rd1_ok hb h1) h2
        · simp at hg
      · simp at hg
    · simp at hg
  · unfold fnBit at hg
    split at hg
    · rename_i x i
      split at hg
      · rename_i b hb
        have := rd1_pl hb
        show (x.plain && (true && true)) = true
        rw [this]; rfl
      · simp at hg
    · simp at hg

/-! ### Exponents -/
noncomputable def onesAt (a b : Int) : Option B32 :=
  if a = 2 ∧ b = 0 then some (feExp 235 127) else if a = 1 ∧ b = 3 then some (feExp 253 15) else if a = 1 ∧ b = 2 then some (feExp 251 31) else none
noncomputable def fnOnes : PureFn
  | [.one (.sc (.int .i64 (.lit a))), .one (.sc (.int .i64 (.lit b)))] => (onesAt a b).map fun v => (none, .one (cB32.wr v))
  | _ => none
theorem ones1_out : outQ Try.prog (gam []) Try.f90 [.one (.sc (.int .i64 (.lit 2))), .one (.sc (.int .i64 (.lit 0)))] = some (none, .one (cB32.wr (feExp 235 127))) := by kernel_rfl
theorem ones2_out : outQ Try.prog (gam []) Try.f90 [.one (.sc (.int .i64 (.lit 1))), .one (.sc (.int .i64 (.lit 3)))] = some (none, .one (cB32.wr (feExp 253 15))) := by kernel_rfl
theorem ones3_out : outQ Try.prog (gam []) Try.f90 [.one (.sc (.int .i64 (.lit 1))), .one (.sc (.int .i64 (.lit 2)))] = some (none, .one (cB32.wr (feExp 251 31))) := by kernel_rfl
theorem ones_row : RowP Try.prog 90 fnOnes := by
  refine ⟨.inl ⟨Try.call90, fun args q v hg _ => ?_⟩, fun args q v hg => ?_⟩
  · unfold fnOnes at hg
    split at hg
    · rename_i a b
      obtain ⟨v', hv, he⟩ := map_some hg
      simp at he; obtain ⟨_, rfl⟩ := he
      refine CallsEv.mono (R := fun r' _ => r' = .one (cB32.wr v')) ?_ fun _ _ e => ⟨e, by rw [e]; exact cB32.plain v'⟩
      unfold onesAt at hv
      split at hv
      · rename_i h; obtain ⟨rfl, rfl⟩ := h; simp at hv; subst hv
        exact gives_of_out (gam_ok (P := Try.prog) (t := []) trivial) mixed Try.func90 ones1_out
      · split at hv
        · rename_i h; obtain ⟨rfl, rfl⟩ := h; simp at hv; subst hv
          exact gives_of_out (gam_ok (P := Try.prog) (t := []) trivial) mixed Try.func90 ones2_out
        · split at hv
          · rename_i h; obtain ⟨rfl, rfl⟩ := h; simp at hv; subst hv
            exact gives_of_out (gam_ok (P := Try.prog) (t := []) trivial) mixed Try.func90 ones3_out
          · simp at hv
    · simp at hg
  · unfold fnOnes at hg
    split at hg
    · rfl
    · simp at hg

abbrev Pn := Fn × Fn × Fn × Fn
abbrev ccPn : CC Pn := ccPair ccFn (ccPair ccFn (ccPair ccFn ccFn))
abbrev cPn : Codec Pn := cAgg ccPn
noncomputable def selPn (b : Bool) (p q : Pn) : Pn := (selN b p.1 q.1, selN b p.2.1 q.2.1, selN b p.2.2.1 q.2.2.1, selN b p.2.2.2 q.2.2.2)
theorem selPn_eq (b : Bool) (p q : Pn) : selPn b p q = bif b then p else q := by
  unfold selPn; rw [selN_eq, selN_eq, selN_eq, selN_eq]; cases b <;> rfl
theorem selPn_self (b : Bool) (p : Pn) : selPn b p p = p := by rw [selPn_eq]; cases b <;> rfl

section
variable (bit : B32 → Nat → Int) (small : Int → Fn) (mul add sub : Fn → Fn → Fn) (neg invert : Fn → Fn) (odd : Fn → Bool) (pow : Fn → B32 → Fn) (sqrt : Fn → Fn × Bool) (ratio : Fn → Fn → Fn × Bool) (edge : Fn)
  (frm : B32 → Fn) (bytes : Fn → B32) (canonical : B32 → Bool) (zero : Pn) (ofp : Fn → Fn → Pn) (xOf : Fn → Fn × Bool) (plus3 : Pn → Pn → Fn → Pn)

/-! ### Powers -/
def powTab9 : Tab := [(73, fn1 (cInt .u64) (one cFn) small), (67, fn2 cFn cFn (one cFn) mul), (72, fnBit bit)]
noncomputable def powStep9 (x : Fn) (e : B32) (k : Nat) (r : Fn) : Fn := selN (bit e (255 - k) == 1) (mul (mul r r) x) (mul r r)
noncomputable def powFn9 (x : Fn) (e : B32) : Fn := rnds (powStep9 bit mul x e) 256 (small 1)
noncomputable def fnBlank : List SV := (List.replicate 16 (.int .i64 (.lit 0)))
noncomputable def powS9 (x : Fn) (e : B32) (k : Nat) (r : Fn) : St :=
  ⟨[.junk, .junk, .one (.sc (.ptr 0 0)), .one (.sc (.ptr 1 0)), .one (.sc (.ptr 2 0)), .one (.sc (.ptr 3 0)), .one (.sc (.int .i64 (.lit (255 - k))))] ++ junks 16,
   [some ⟨ccFn.wr x, 44, false⟩, some ⟨(ccVec (ccInt .u8) 32).wr e, 22, false⟩, some ⟨fnBlank, 44, false⟩, some ⟨ccFn.wr r, 44, false⟩]⟩
noncomputable def powPre9 : List Code := cparts 2 (bodyOf Try.f89)
noncomputable def powR9 : Code := crest 2 (bodyOf Try.f89)
noncomputable def powC29 : Code := cfst (cfst powR9)
noncomputable def powL9 : Code := cinn (cinn (csnd (cfst powR9)))
noncomputable def powC39 : Code := csnd powR9
theorem powBody9 : Try.f89.body = some (chain powPre9 (.seq (.seq powC29 (.block 0 (.loop powL9))) powC39)) := by kernel_rfl
theorem pow09 (x : Fn) (e : B32) : (execL Try.prog (gam (powTab9 bit small mul)) [] (powPre9 ++ [powC29]) (entry Try.f89 [.one (cFn.wr x), .one (cB32.wr e)] [])).map (St.cut powKeep 4) = some (powS9 x e 0 (small 1)) := by kernel_rfl
theorem powRound9 (x : Fn) (e : B32) (r : Fn) : (List.range 256).map (fun k => cutR powKeep 4 (exec Try.prog (gam (powTab9 bit small mul)) [] powL9 (powS9 x e k r))) =
    (List.range 256).map (fun k => some (powS9 (selN (bit e (255 - k) == 1) x x) (selN (bit e (255 - k) == 1) e e) (k + 1) (powStep9 bit mul x e k r))) := by kernel_rfl
theorem powEnd9 (x : Fn) (e : B32) (r : Fn) : cutX powKeep 4 0 (exec Try.prog (gam (powTab9 bit small mul)) [] powL9 (powS9 x e 256 r)) = some (powS9 x e 256 r) := by kernel_rfl
theorem powPost9 (x : Fn) (e : B32) (r : Fn) : (((exec Try.prog (gam (powTab9 bit small mul)) [] powC39 (powS9 x e 256 r)).ends Try.prog Try.f89 []).one).map (fun p => (p.1, p.2.fr.map LV.norm)) = some (none, [.one (cFn.wr r)]) := by kernel_rfl
theorem pow9_gives (ht : TabOk Try.prog (powTab9 bit small mul)) (x : Fn) (e : B32) : Gives Try.prog 89 [.one (cFn.wr x), .one (cB32.wr e)] (.one (cFn.wr (powFn9 bit small mul x e))) := by
  refine gives_looped (gam_ok ht) mixed Try.func89 powBody9 powKeep 4 256 (fun k => powS9 x e k (rnds (powStep9 bit mul x e) k (small 1))) (pow09 bit small mul x e) (fun k hk => ?_) (powEnd9 bit small mul x e _) (powPost9 bit small mul x e _)
  have := of_range (powRound9 bit small mul x e (rnds (powStep9 bit mul x e) k (small 1))) k hk
  rw [this, selN_self, selN_self]; rfl

theorem invert9_out (x : Fn) : outQ Try.prog (gam [(89, fn2 cFn cB32 (one cFn) pow), (90, fnOnes)]) Try.f65 [.one (cFn.wr x)] = some (none, .one (cFn.wr (pow x (feExp 235 127)))) := by kernel_rfl
noncomputable def rootFn9 (x : Fn) : Fn × Bool :=
  let r := pow x (feExp 254 15)
  let b1 := !(eqV (mul r r) x)
  let r1 := selN b1 (mul r (pow (small 2) (feExp 251 31))) r
  let bad := !(eqV (mul r1 r1) (selN b1 x x))
  (selN bad zero9 (selN (odd r1) (neg r1) r1), bif bad then false else true)
theorem sqrt9_out (x : Fn) : outQ Try.prog (gam [(89, fn2 cFn cB32 (one cFn) pow), (73, fn1 (cInt .u64) (one cFn) small), (67, fn2 cFn cFn (one cFn) mul), (63, fn1 cFn (one cFn) neg),
    (68, fn1 cFn (one cBool) odd), (90, fnOnes)]) Try.f100 [.one (cFn.wr x)] = some (none, (two cFn cBool).wr (rootFn9 small mul neg odd pow x)) := by kernel_rfl
noncomputable def ratioFn9 (u v : Fn) : Fn × Bool := (selN (eqV v zero9) zero9 (sqrt (mul u (invert v))).1, bif eqV v zero9 then eqV u zero9 else (sqrt (mul u (invert v))).2)
theorem ratio9_out (u v : Fn) : outQ Try.prog (gam [(67, fn2 cFn cFn (one cFn) mul), (65, fn1 cFn (one cFn) invert), (100, fn1 cFn (two cFn cBool) sqrt)]) Try.f87 [.one (cFn.wr u), .one (cFn.wr v)] =
    some (none, (two cFn cBool).wr (ratioFn9 mul invert sqrt u v)) := by kernel_rfl

/-! ### Points -/
theorem edge9_out : outQ Try.prog (gam [(67, fn2 cFn cFn (one cFn) mul), (63, fn1 cFn (one cFn) neg), (73, fn1 (cInt .u64) (one cFn) small), (65, fn1 cFn (one cFn) invert)]) Try.f71 [] =
    some (none, .one (cFn.wr (mul (neg (small 121665)) (invert (small 121666))))) := by kernel_rfl
noncomputable def zeroPn : Pn := (zero9, small 1, small 1, zero9)
theorem zeroPn_out : outQ Try.prog (gam [(73, fn1 (cInt .u64) (one cFn) small)]) Try.f60 [] = some (none, .one (cPn.wr (zeroPn small))) := by kernel_rfl
noncomputable def ofPn (x y : Fn) : Pn := (x, y, small 1, mul x y)
theorem ofPn_out (x y : Fn) : outQ Try.prog (gam [(67, fn2 cFn cFn (one cFn) mul), (73, fn1 (cInt .u64) (one cFn) small)]) Try.f64 [.one (cFn.wr x), .one (cFn.wr y)] = some (none, .one (cPn.wr (ofPn small mul x y))) := by kernel_rfl
noncomputable def xOfFn (y : Fn) : Fn × Bool := ratio (sub (mul y y) (small 1)) (add (mul edge (mul y y)) (small 1))
theorem xOf_out (y : Fn) : outQ Try.prog (gam [(67, fn2 cFn cFn (one cFn) mul), (70, fn2 cFn cFn (one cFn) add), (88, fn2 cFn cFn (one cFn) sub), (73, fn1 (cInt .u64) (one cFn) small), (71, fn0 (one cFn) edge),
    (87, fn2 cFn cFn (two cFn cBool) ratio)]) Try.f62 [.one (cFn.wr y)] = some (none, (two cFn cBool).wr (xOfFn small mul add sub ratio edge y)) := by kernel_rfl
noncomputable def baseFn9 : Pn := ofp (xOf (mul (small 4) (invert (small 5)))).1 (mul (small 4) (invert (small 5)))
theorem base9_out : outQ Try.prog (gam [(67, fn2 cFn cFn (one cFn) mul), (73, fn1 (cInt .u64) (one cFn) small), (65, fn1 cFn (one cFn) invert), (62, fn1 cFn (two cFn cBool) xOf),
    (64, fn2 cFn cFn (one cPn) ofp)]) Try.f36 [] = some (none, .one (cPn.wr (baseFn9 small mul invert ofp xOf))) := by kernel_rfl
noncomputable def decodeFn9 (b : B32) : Pn × Bool :=
  let o := decide (b.get 31 > 127)
  let nc := !(canonical b)
  let y := frm b
  let x := (xOf y).1
  let b1 := (!(xOf y).2) == false
  let b2 := (eqV x zero9) == true
  let j (v : Fn) : Fn := selN b1 (selN b2 v v) v
  let o' := bif b1 then (bif b2 then o else o) else o
  let bad := bif b1 then (bif b2 then o else false) else true
  (selPn nc zero (selPn bad zero (ofp (selN o' (neg (j x)) (j x)) (selN o' (j y) (j y)))), bif nc then false else (bif bad then false else true))
theorem decode9_out (b : B32) : outQ Try.prog (gam [(59, fn1 cB32 (one cBool) canonical), (60, fn0 (one cPn) zero), (61, fn1 cB32 (one cFn) frm), (62, fn1 cFn (two cFn cBool) xOf), (63, fn1 cFn (one cFn) neg),
    (64, fn2 cFn cFn (one cPn) ofp)]) Try.f25 [.one (cB32.wr b)] = some (none, (two cPn cBool).wr (decodeFn9 neg frm canonical zero ofp xOf b)) := by kernel_rfl
noncomputable def encodeFn9 (p : Pn) : B32 :=
  let z := invert p.2.2.1
  let b := bytes (mul p.2.1 z)
  selN (odd (mul p.1 z)) (Vec.upd (fun x => IntKind.u8.wrap (x + 128)) 31 b) b
theorem encode9_out (p : Pn) : outQ Try.prog (gam [(67, fn2 cFn cFn (one cFn) mul), (65, fn1 cFn (one cFn) invert), (66, fn1 cFn (one cB32) bytes), (68, fn1 cFn (one cBool) odd)]) Try.f26 [.one (cPn.wr p)] =
    some (none, .one (cB32.wr (encodeFn9 mul invert odd bytes p))) := by kernel_rfl
noncomputable def plusFn9 (p q : Pn) (dd : Fn) : Pn :=
  let a := mul (sub p.2.1 p.1) (sub q.2.1 q.1)
  let b := mul (add p.2.1 p.1) (add q.2.1 q.1)
  let c := mul (mul p.2.2.2 q.2.2.2) dd
  let d := mul (add p.2.2.1 p.2.2.1) q.2.2.1
  let e := sub b a
  let f := sub d c
  let g := add d c
  let h := add b a
  (mul e f, mul g h, mul f g, mul e h)
theorem plus39_out (p q : Pn) (dd : Fn) : outQ Try.prog (gam [(67, fn2 cFn cFn (one cFn) mul), (70, fn2 cFn cFn (one cFn) add), (88, fn2 cFn cFn (one cFn) sub)]) Try.f69 [.one (cPn.wr p), .one (cPn.wr q), .one (cFn.wr dd)] =
    some (none, .one (cPn.wr (plusFn9 mul add sub p q dd))) := by kernel_rfl
theorem plus9_out (p q : Pn) : outQ Try.prog (gam [(71, fn0 (one cFn) edge), (70, fn2 cFn cFn (one cFn) add), (69, fn3 cPn cPn cFn (one cPn) plus3)]) Try.f28 [.one (cPn.wr p), .one (cPn.wr q)] =
    some (none, .one (cPn.wr (plus3 p q (add edge edge)))) := by kernel_rfl
theorem turn9_out (p : Pn) : outQ Try.prog (gam [(63, fn1 cFn (one cFn) neg)]) Try.f31 [.one (cPn.wr p)] = some (none, .one (cPn.wr (neg p.1, p.2.1, p.2.2.1, neg p.2.2.2))) := by kernel_rfl
noncomputable def alikeFn9 (p q : Pn) : Bool :=
  let e := eqV (mul p.1 q.2.2.1) (mul q.1 p.2.2.1)
  bif e == true then eqV (mul p.2.1 q.2.2.1) (mul q.2.1 p.2.2.1) else false
theorem alike9_out (p q : Pn) : outQ Try.prog (gam [(67, fn2 cFn cFn (one cFn) mul)]) Try.f32 [.one (cPn.wr p), .one (cPn.wr q)] = some (none, .one (cBool.wr (alikeFn9 mul p q))) := by kernel_rfl
end
end Go.Proofs.Ytndiiabkoeblgaa
