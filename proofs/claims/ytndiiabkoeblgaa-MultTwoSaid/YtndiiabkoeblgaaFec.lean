/- Powers modulo p as the program has them. -/
import Derived.Test.YtndiiabkoeblgaaFeb
import Derived.Test.YtndiiabkoeblgaaEvh
namespace Go.Proofs.Ytndiiabkoeblgaa
open Go Go.Ev

set_option maxRecDepth 1000000

noncomputable def feExp (lo hi : Int) : B32 := Vec.ofFn 32 fun j => if j = 0 then lo else if j = 31 then hi else 255
theorem feExp_out (lo hi : Int) : outQ Try.prog (gam []) Try.f96 [.one ((cInt .u8).wr lo), .one ((cInt .u8).wr hi)] = some (none, .one (cB32.wr (feExp lo hi))) := by kernel_rfl

/-- one of two, number by number -/
def selN (b : Bool) : {n : Nat} → Vec Int n → Vec Int n → Vec Int n
  | 0, _, _ => ()
  | _ + 1, v, u => (bif b then v.1 else u.1, selN b v.2 u.2)
theorem selN_eq : {n : Nat} → (b : Bool) → (v u : Vec Int n) → selN b v u = bif b then v else u
  | 0, b, v, u => by cases b <;> rfl
  | n + 1, b, v, u => by
    show ((bif b then v.1 else u.1), selN b v.2 u.2) = _
    rw [selN_eq b v.2 u.2]
    cases b <;> rfl

theorem selN_self {n : Nat} (b : Bool) (v : Vec Int n) : selN b v v = v := by rw [selN_eq]; cases b <;> rfl

def bitU8 (e : B32) (i : Nat) : Bool := bitAnd .u8 (shr .u8 (e.get (i / 8)) ((i % 8 : Nat) : Int)) 1 == 1

section
variable (small : Int → Fe) (square : Fe → Fe) (mul : Fe → Fe → Fe)
def powTab : Tab := [(50, fn1 (cInt .u64) (one cFe) small), (81, fn1 cFe (one cFe) square), (49, fn2 cFe cFe (one cFe) mul)]
def powStep (x : Fe) (e : B32) (k : Nat) (r : Fe) : Fe := selN (bitU8 e (255 - k)) (mul (square r) x) (square r)
noncomputable def powFn (x : Fe) (e : B32) : Fe := rnds (powStep square mul x e) 256 (small 1)

def powKeep : List Bool := [false, false, true, true, true, true, true]
noncomputable def powS (x : Fe) (e : B32) (k : Nat) (r : Fe) : St :=
  ⟨[.junk, .junk, .one (.sc (.ptr 0 0)), .one (.sc (.ptr 1 0)), .one (.sc (.ptr 2 0)), .one (.sc (.ptr 3 0)), .one (.sc (.int .i64 (.lit (255 - k)))),
    .junk, .junk, .junk, .junk, .junk, .junk, .junk, .junk, .junk, .junk, .junk, .junk, .junk, .junk, .junk, .junk, .junk, .junk, .junk, .junk],
   [some ⟨(ccVec (ccInt .u64) 5).wr x, 27, false⟩, some ⟨(ccVec (ccInt .u8) 32).wr e, 22, false⟩, some ⟨[.int .u64 (.lit 0), .int .u64 (.lit 0), .int .u64 (.lit 0), .int .u64 (.lit 0), .int .u64 (.lit 0)], 27, false⟩,
    some ⟨(ccVec (ccInt .u64) 5).wr r, 27, false⟩]⟩
noncomputable def powPre : List Code := cparts 2 (bodyOf Try.f95)
noncomputable def powR : Code := crest 2 (bodyOf Try.f95)
noncomputable def powC2 : Code := cfst (cfst powR)
noncomputable def powL : Code := cinn (cinn (csnd (cfst powR)))
noncomputable def powC3 : Code := csnd powR
theorem powBody : Try.f95.body = some (chain powPre (.seq (.seq powC2 (.block 0 (.loop powL))) powC3)) := by kernel_rfl

theorem pow0 (x : Fe) (e : B32) : (execL Try.prog (gam (powTab small square mul)) [] (powPre ++ [powC2]) (entry Try.f95 [.one (cFe.wr x), .one (cB32.wr e)] [])).map (St.cut powKeep 4) = some (powS x e 0 (small 1)) := by kernel_rfl
theorem powRound (x : Fe) (e : B32) (r : Fe) : (List.range 256).map (fun k => cutR powKeep 4 (exec Try.prog (gam (powTab small square mul)) [] powL (powS x e k r))) =
    (List.range 256).map (fun k => some (powS (selN (bitU8 e (255 - k)) x x) (selN (bitU8 e (255 - k)) e e) (k + 1) (powStep square mul x e k r))) := by kernel_rfl
theorem powEnd (x : Fe) (e : B32) (r : Fe) : cutX powKeep 4 0 (exec Try.prog (gam (powTab small square mul)) [] powL (powS x e 256 r)) = some (powS x e 256 r) := by kernel_rfl
theorem powPost (x : Fe) (e : B32) (r : Fe) : (((exec Try.prog (gam (powTab small square mul)) [] powC3 (powS x e 256 r)).ends Try.prog Try.f95 []).one).map (fun p => (p.1, p.2.fr.map LV.norm)) = some (none, [.one (cFe.wr r)]) := by kernel_rfl

theorem pow_gives (ht : TabOk Try.prog (powTab small square mul)) (x : Fe) (e : B32) : Gives Try.prog 95 [.one (cFe.wr x), .one (cB32.wr e)] (.one (cFe.wr (powFn small square mul x e))) := by
  refine gives_looped (gam_ok ht) mixed Try.func95 powBody powKeep 4 256 (fun k => powS x e k (rnds (powStep square mul x e) k (small 1))) (pow0 small square mul x e) (fun k hk => ?_) (powEnd small square mul x e _) (powPost small square mul x e _)
  have := of_range (powRound small square mul x e (rnds (powStep square mul x e) k (small 1))) k hk
  rw [this, selN_self, selN_self]; rfl
end

/-! ### Roots -/
section
variable (pow : Fe → B32 → Fe) (exp : Int → Int → B32) (mul : Fe → Fe → Fe) (square neg : Fe → Fe) (small : Int → Fe) (equal : Fe → Fe → Bool) (odd isZero : Fe → Bool) (invert : Fe → Fe)
theorem feInvert_out (x : Fe) : outQ Try.prog (gam [(95, fn2 cFe cB32 (one cFe) pow), (96, fn2 (cInt .u8) (cInt .u8) (one cB32) exp)]) Try.f80 [.one (cFe.wr x)] = some (none, .one (cFe.wr (pow x (exp 235 127)))) := by kernel_rfl

def rootTab : Tab := [(95, fn2 cFe cB32 (one cFe) pow), (96, fn2 (cInt .u8) (cInt .u8) (one cB32) exp), (49, fn2 cFe cFe (one cFe) mul), (81, fn1 cFe (one cFe) square), (45, fn1 cFe (one cFe) neg),
  (50, fn1 (cInt .u64) (one cFe) small), (48, fn2 cFe cFe (one cBool) equal), (53, fn1 cFe (one cBool) odd)]
noncomputable def rootFn (x : Fe) : Fe × Bool :=
  let r := pow x (exp 254 15)
  let r1 := selN (!(equal (square r) x)) (mul r (pow (small 2) (exp 251 31))) r
  let bad := !(equal (square r1) (selN (!(equal (square r) x)) x x))
  (selN bad feZero (selN (odd r1) (neg r1) r1), bif bad then false else true)
theorem feSqrt_out (x : Fe) : outQ Try.prog (gam (rootTab pow exp mul square neg small equal odd)) Try.f97 [.one (cFe.wr x)] = some (none, (two cFe cBool).wr (rootFn pow exp mul square neg small equal odd x)) := by kernel_rfl
end

end Go.Proofs.Ytndiiabkoeblgaa
