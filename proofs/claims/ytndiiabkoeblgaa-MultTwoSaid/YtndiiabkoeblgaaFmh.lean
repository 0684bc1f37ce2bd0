/- The program's points: what they stand for. -/
import Derived.Test.YtndiiabkoeblgaaFmg
import Derived.Test.YtndiiabkoeblgaaFed
namespace BJ
/-- a point's four numbers -/
abbrev E4 := F × F × F × F
def affE (x y : F) : E4 := (x, y, 1, x * y)
def zeroE : E4 := affE 0 1
def addE (p q : E4) : E4 :=
  let a := (p.2.1 - p.1) * (q.2.1 - q.1)
  let b := (p.2.1 + p.1) * (q.2.1 + q.1)
  let c := p.2.2.2 * q.2.2.2 * dd + p.2.2.2 * q.2.2.2 * dd
  let d := p.2.2.1 * q.2.2.1 + p.2.2.1 * q.2.2.1
  ((b - a) * (d - c), (d + c) * (b + a), (d - c) * (d + c), (b - a) * (b + a))
def negE (p : E4) : E4 := (-p.1, p.2.1, p.2.2.1, -p.2.2.2)
def eqE (p q : E4) : Bool := decide (p.1 * q.2.2.1 = q.1 * p.2.2.1) && decide (p.2.1 * q.2.2.1 = q.2.1 * p.2.2.1)
def xOfE (y : F) : F × Bool := ratioOf (y * y - 1) (dd * (y * y) + 1)
def baseE : E4 := affE (xOfE (4 * F.inv 5)).1 (4 * F.inv 5)
end BJ

namespace Go.Proofs.Ytndiiabkoeblgaa
open Go Go.Ev BJ

def Ok4 (p : Pt) : Prop := Ok5 p.2.1 ∧ Ok5 p.2.2.1 ∧ Ok5 p.2.2.2.1 ∧ Ok5 p.2.2.2.2
def OkPt (p : Pt) : Prop := p.1 = true → Ok4 p
noncomputable def ptF (p : Pt) : E4 := (fe p.2.1, fe p.2.2.1, fe p.2.2.2.1, fe p.2.2.2.2)
noncomputable def ptE (p : Pt) : E4 := if p.1 = true then ptF p else zeroE

noncomputable def edgeC : Fe := feFrom edgeBytes
theorem edge_fe : Ok5 edgeC ∧ fe edgeC = dd := by
  have hb : OkB edgeBytes := by simp [edgeBytes, OkB]
  obtain ⟨h1, h2⟩ := from_fe hb
  refine ⟨h1, h2.trans ?_⟩
  decide +kernel
noncomputable def affineC : Fe → Fe → Pt := affineFn mulC feSmall
theorem one_fe : Ok5 (feSmall 1) ∧ fe (feSmall 1) = 1 := by
  obtain ⟨h1, h2⟩ := small_fe (n := 1) ⟨by decide, by decide⟩
  exact ⟨h1, h2.trans toF_one⟩
theorem affine_pt {x y : Fe} (hx : Ok5 x) (hy : Ok5 y) : (affineC x y).1 = true ∧ Ok4 (affineC x y) ∧ ptF (affineC x y) = affE (fe x) (fe y) := by
  obtain ⟨m1, m2⟩ := mul_fe hx hy
  obtain ⟨o1, o2⟩ := one_fe
  refine ⟨rfl, ⟨hx, hy, o1, m1⟩, ?_⟩
  show (fe x, fe y, fe (feSmall 1), fe (mulC x y)) = _
  rw [o2, m2]; rfl
noncomputable def zeroC : Pt := affineC feZero (feSmall 1)
theorem zero_pt : zeroC.1 = true ∧ Ok4 zeroC ∧ ptF zeroC = zeroE := by
  obtain ⟨h1, h2, h3⟩ := affine_pt zero_fe.1 one_fe.1
  refine ⟨h1, h2, h3.trans ?_⟩
  rw [zero_fe.2, one_fe.2]; rfl
noncomputable def ownC : Pt → Pt := ownFn zeroC
theorem own_pt {p : Pt} (h : OkPt p) : (ownC p).1 = true ∧ Ok4 (ownC p) ∧ ptF (ownC p) = ptE p := by
  unfold ownC ownFn
  rw [selPt_eq]
  unfold ptE
  cases hp : p.1 with
  | false => simp only [Bool.not_false, cond_true, Bool.false_eq_true, if_false]; exact zero_pt
  | true => simp only [Bool.not_true, cond_false, if_true]; exact ⟨hp, h hp, trivial⟩
theorem ok_of {p : Pt} (h1 : p.1 = true) (h2 : Ok4 p) : OkPt p ∧ ptE p = ptF p := ⟨fun _ => h2, if_pos h1⟩

noncomputable def crossC : Fe → Fe → Fe → Fe → Pt := crossFn mulC
noncomputable def addPC : Pt → Pt → Pt := addFn mulC addC subC edgeC ownC crossC
theorem addC_fe {x y : Fe} (hx : Ok5 x) (hy : Ok5 y) : Ok5 (addC x y) ∧ fe (addC x y) = fe x + fe y := add_fe hx hy
theorem subC_fe {x y : Fe} (hx : Ok5 x) (hy : Ok5 y) : Ok5 (subC x y) ∧ fe (subC x y) = fe x - fe y := sub_fe hx hy
theorem mulC_fe {x y : Fe} (hx : Ok5 x) (hy : Ok5 y) : Ok5 (mulC x y) ∧ fe (mulC x y) = fe x * fe y := mul_fe hx hy
theorem cross_pt {e f g h : Fe} (he : Ok5 e) (hf : Ok5 f) (hg : Ok5 g) (hh : Ok5 h) : (crossC e f g h).1 = true ∧ Ok4 (crossC e f g h) ∧ ptF (crossC e f g h) = (fe e * fe f, fe g * fe h, fe f * fe g, fe e * fe h) := by
  obtain ⟨a1, a2⟩ := mulC_fe he hf
  obtain ⟨b1, b2⟩ := mulC_fe hg hh
  obtain ⟨c1, c2⟩ := mulC_fe hf hg
  obtain ⟨d1, d2⟩ := mulC_fe he hh
  refine ⟨rfl, ⟨a1, b1, c1, d1⟩, ?_⟩
  show (fe (mulC e f), fe (mulC g h), fe (mulC f g), fe (mulC e h)) = _
  rw [a2, b2, c2, d2]
theorem add_core {p q : Pt} (hp : Ok4 p) (hq : Ok4 q) :
    let r := crossC (subC (mulC (addC p.2.2.1 p.2.1) (addC q.2.2.1 q.2.1)) (mulC (subC p.2.2.1 p.2.1) (subC q.2.2.1 q.2.1)))
      (subC (addC (mulC p.2.2.2.1 q.2.2.2.1) (mulC p.2.2.2.1 q.2.2.2.1)) (addC (mulC (mulC p.2.2.2.2 q.2.2.2.2) edgeC) (mulC (mulC p.2.2.2.2 q.2.2.2.2) edgeC)))
      (addC (addC (mulC p.2.2.2.1 q.2.2.2.1) (mulC p.2.2.2.1 q.2.2.2.1)) (addC (mulC (mulC p.2.2.2.2 q.2.2.2.2) edgeC) (mulC (mulC p.2.2.2.2 q.2.2.2.2) edgeC)))
      (addC (mulC (addC p.2.2.1 p.2.1) (addC q.2.2.1 q.2.1)) (mulC (subC p.2.2.1 p.2.1) (subC q.2.2.1 q.2.1)))
    r.1 = true ∧ Ok4 r ∧ ptF r = addE (ptF p) (ptF q) := by
  obtain ⟨px, py, pz, pt⟩ := hp
  obtain ⟨qx, qy, qz, qt⟩ := hq
  have a1 := subC_fe py px
  have a2 := subC_fe qy qx
  have a := mulC_fe a1.1 a2.1
  have b1 := addC_fe py px
  have b2 := addC_fe qy qx
  have b := mulC_fe b1.1 b2.1
  have c1 := mulC_fe pt qt
  have c2 := mulC_fe c1.1 edge_fe.1
  have c := addC_fe c2.1 c2.1
  have d1 := mulC_fe pz qz
  have d := addC_fe d1.1 d1.1
  have e := subC_fe b.1 a.1
  have f := subC_fe d.1 c.1
  have g := addC_fe d.1 c.1
  have h := addC_fe b.1 a.1
  obtain ⟨r1, r2, r3⟩ := cross_pt e.1 f.1 g.1 h.1
  refine ⟨r1, r2, r3.trans ?_⟩
  rw [e.2, f.2, g.2, h.2, d.2, c.2, b.2, a.2, d1.2, c2.2, c1.2, b1.2, b2.2, a1.2, a2.2, edge_fe.2]
  rfl
theorem add_pt {p q : Pt} (hp : OkPt p) (hq : OkPt q) : OkPt (addPC p q) ∧ (addPC p q).1 = true ∧ ptE (addPC p q) = addE (ptE p) (ptE q) := by
  obtain ⟨p1, p2, p3⟩ := own_pt hp
  obtain ⟨q1, q2, q3⟩ := own_pt hq
  obtain ⟨r1, r2, r3⟩ := add_core p2 q2
  rw [p3, q3] at r3
  obtain ⟨s1, s2⟩ := ok_of r1 r2
  exact ⟨s1, r1, s2.trans r3⟩
noncomputable def negPC : Pt → Pt := negFn negC ownC
theorem neg_pt {p : Pt} (hp : OkPt p) : OkPt (negPC p) ∧ (negPC p).1 = true ∧ ptE (negPC p) = negE (ptE p) := by
  obtain ⟨p1, p2, p3⟩ := own_pt hp
  obtain ⟨n1, n2⟩ := neg_fe p2.1
  obtain ⟨m1, m2⟩ := neg_fe p2.2.2.2
  have h1 : (negPC p).1 = true := p1
  have h2 : Ok4 (negPC p) := ⟨n1, p2.2.1, p2.2.2.1, m1⟩
  obtain ⟨s1, s2⟩ := ok_of h1 h2
  refine ⟨s1, h1, s2.trans ?_⟩
  rw [← p3]
  show (fe (negC _), fe _, fe _, fe (negC _)) = _
  rw [n2, m2]; rfl
noncomputable def equalPC : Pt → Pt → Bool := equalFn mulC eqC ownC
theorem equal_pt {p q : Pt} (hp : OkPt p) (hq : OkPt q) : equalPC p q = eqE (ptE p) (ptE q) := by
  obtain ⟨p1, p2, p3⟩ := own_pt hp
  obtain ⟨q1, q2, q3⟩ := own_pt hq
  have a := mulC_fe p2.1 q2.2.2.1
  have b := mulC_fe q2.1 p2.2.2.1
  have c := mulC_fe p2.2.1 q2.2.2.1
  have d := mulC_fe q2.2.1 p2.2.2.1
  have e1 : eqC (mulC (ownC p).2.1 (ownC q).2.2.2.1) (mulC (ownC q).2.1 (ownC p).2.2.2.1) = decide ((ptE p).1 * (ptE q).2.2.1 = (ptE q).1 * (ptE p).2.2.1) := by
    unfold eqC; rw [equal_fe a.1 b.1, a.2, b.2, ← p3, ← q3]; rfl
  have e2 : eqC (mulC (ownC p).2.2.1 (ownC q).2.2.2.1) (mulC (ownC q).2.2.1 (ownC p).2.2.2.1) = decide ((ptE p).2.1 * (ptE q).2.2.1 = (ptE q).2.1 * (ptE p).2.2.1) := by
    unfold eqC; rw [equal_fe c.1 d.1, c.2, d.2, ← p3, ← q3]; rfl
  unfold equalPC equalFn
  simp only [e1, e2]
  unfold eqE
  cases decide ((ptE p).1 * (ptE q).2.2.1 = (ptE q).1 * (ptE p).2.2.1) <;> rfl
end Go.Proofs.Ytndiiabkoeblgaa
