/- What the laws lean on, part 5: a reader of code, plain facts, and what each function gives; no conditions. -/
import Derived.WalkKit
import Derived.Lib.Walk
import Derived.Lib.SliceRun
import Derived.Lib.AppendZerosOnto
import Derived.Test.YthdfifcgobfgdaaGreatA4
section
set_option linter.unusedVariables false
set_option linter.unusedSimpArgs false
namespace Go.Proofs.YthdfifcgobfgdaaGreat
open Go Go.Ev BJ
set_option maxRecDepth 1000000
abbrev rPn : Cod (List SV) Pn := vecA .i64 (vecA .i64 (vecA .i64 (vecL .i64 16) 16) 16) 16
abbrev cPn : Cod LV Pn := vAgg rPn
abbrev pnA : Cod (List LV) (Pn × Unit) := lCons cPn lNil
abbrev pn2A : Cod (List LV) (Pn × Pn × Unit) := lCons cPn (lCons cPn lNil)
abbrev nPB (r : Pn × Bool) : LV := .tup [.agg (rPn.wr r.1), .sc (.bool (.sym r.2))]
def e0P (c : Pn) : Ent := Ent.ofS [] lNil lNil fun _ _ => .leaf none (cPn.wr c) []
def e1Pn (g : Pn → Pn) : Ent := Ent.ofS [] pnA lNil fun x _ => .leaf none (cPn.wr (g x.1)) []
def e2Pn (g : Pn → Pn → Pn) : Ent := Ent.ofS [] pn2A lNil fun x _ => .leaf none (cPn.wr (g x.1 x.2.1)) []
def e3Pn (g : Pn → Pn → Fn → Pn) : Ent := Ent.ofS [] (lCons cPn (lCons cPn (lCons cFn lNil))) lNil fun x _ => .leaf none (cPn.wr (g x.1 x.2.1 x.2.2.1)) []
def eOfN (g : Fn → Fn → Pn) : Ent := Ent.ofS [] fn2A lNil fun x _ => .leaf none (cPn.wr (g x.1 x.2.1)) []
def eNE (g : Pn → List Int) : Ent := Ent.ofS [] pnA lNil fun x _ => .leaf none (nRow .u8 32 (g x.1)) []
def eND (g : List Int → Pn × Bool) : Ent := Ent.ofS [] bA32 lNil fun x _ => .leaf (some (x.1.length = 32)) (nPB (g x.1)) []
theorem leafP {u x : Pn} (h : x = u) : (Ev.End.leaf (cPn.wr u) []).sat fun v hp' => v = cPn.wr x ∧ hp' = [] := by subst h; exact ⟨rfl, rfl⟩
theorem leafNP {u x : Fn × Bool} (h : x = u) : (Ev.End.leaf (nPN u) []).sat fun v hp' => v = nPN x ∧ hp' = [] := by subst h; exact ⟨rfl, rfl⟩
theorem edge9_eq : edge9C = mul9C (neg9C (small9 121665)) (inv9C (small9 121666)) := by unfold edge9C; rfl
noncomputable abbrev nedgeE : Ent := e0N edge9C
theorem nedge_tree (mul : Fn → Fn → Fn) (neg inv : Fn → Fn) (sm : Int → Fn)  : fnT Tryz.prog [(79, e2N mul), (105, e1N neg), (77, e1N inv), (86, eNS sm)] [] Tryz.f82 ((lNil).wr ()) [] kK = .leaf (cFn.wr (mul (neg (sm 121665)) (inv (sm 121666)))) [] := by kernel_rfl
theorem nedge_tab_ : ∀ p_ ∈ ([(79, e2N mul9C), (105, e1N neg9C), (77, e1N inv9C), (86, eNS small9)] : List (FuncId × Ent)), p_.2.Ok Tryz.prog p_.1 := (tabC nmul_ok (tabC nneg_ok (tabC ninv_ok (tabC nsmall_ok tab0))))
theorem nedge_ok : nedgeE.Ok Tryz.prog 82 := by
  refine (Ent.ofOk Tryz.call82 fun x_ y_ Q H_ => ?_).sym
  have hq := H_.2
  refine (fnT_ok (tab := [(79, e2N mul9C), (105, e1N neg9C), (77, e1N inv9C), (86, eNS small9)]) mixed nedge_tab_ Tryz.func82 rfl (LT := []) (ks := kK) (LOk.nil _)).use (D := []) ?_ hq
  show (fnT _ _ _ _ ((lNil).wr ()) [] _).sat _
  rw [nedge_tree mul9C neg9C inv9C small9]
  exact leafN edge9_eq
theorem zero9_eq : zero9C = (zero9, small9 1, small9 1, zero9) := by unfold zero9C zeroPn; rfl
noncomputable abbrev nzeroE : Ent := e0P zero9C
theorem nzero_tree (sm : Int → Fn)  : fnT Tryz.prog [(86, eNS sm)] [] Tryz.f83 ((lNil).wr ()) [] kK = .leaf (cPn.wr (zero9, sm 1, sm 1, zero9)) [] := by kernel_rfl
theorem nzero_tab_ : ∀ p_ ∈ ([(86, eNS small9)] : List (FuncId × Ent)), p_.2.Ok Tryz.prog p_.1 := (tabC nsmall_ok tab0)
theorem nzero_ok : nzeroE.Ok Tryz.prog 83 := by
  refine (Ent.ofOk Tryz.call83 fun x_ y_ Q H_ => ?_).sym
  have hq := H_.2
  refine (fnT_ok (tab := [(86, eNS small9)]) mixed nzero_tab_ Tryz.func83 rfl (LT := []) (ks := kK) (LOk.nil _)).use (D := []) ?_ hq
  show (fnT _ _ _ _ ((lNil).wr ()) [] _).sat _
  rw [nzero_tree small9]
  exact leafP zero9_eq
theorem of9_eq (x y : Fn) : of9C x y = (x, y, small9 1, mul9C x y) := by unfold of9C ofPn; rfl
noncomputable abbrev nofE : Ent := eOfN of9C
theorem nof_tree (mul : Fn → Fn → Fn) (sm : Int → Fn) (x y : Fn) : fnT Tryz.prog [(79, e2N mul), (86, eNS sm)] [] Tryz.f88 ((fn2A).wr (x, y, ())) [] kK = .leaf (cPn.wr (x, y, sm 1, mul x y)) [] := by kernel_rfl
theorem nof_tab_ : ∀ p_ ∈ ([(79, e2N mul9C), (86, eNS small9)] : List (FuncId × Ent)), p_.2.Ok Tryz.prog p_.1 := (tabC nmul_ok (tabC nsmall_ok tab0))
theorem nof_ok : nofE.Ok Tryz.prog 88 := by
  refine (Ent.ofOk Tryz.call88 fun x_ y_ Q H_ => ?_).sym
  obtain ⟨x, y, _⟩ := x_
  have hq := H_.2
  refine (fnT_ok (tab := [(79, e2N mul9C), (86, eNS small9)]) mixed nof_tab_ Tryz.func88 rfl (LT := []) (ks := kK) (LOk.nil _)).use (D := []) ?_ hq
  show (fnT _ _ _ _ ((fn2A).wr (x, y, ())) [] _).sat _
  rw [nof_tree mul9C small9]
  exact leafP (of9_eq x y)
theorem xOf9_eq (y : Fn) : xOf9C y = ratio9C (sub9C (mul9C y y) (small9 1)) (add9C (mul9C edge9C (mul9C y y)) (small9 1)) := by unfold xOf9C xOfFn; rfl
noncomputable abbrev nxOfE : Ent := e1NP xOf9C
theorem nxOf_tree (mul add sub : Fn → Fn → Fn) (sm : Int → Fn) (ratio : Fn → Fn → Fn × Bool) (ed : Fn) (y : Fn) : fnT Tryz.prog [(79, e2N mul), (81, e2N add), (131, e2N sub), (86, eNS sm), (132, e2NP ratio), (82, e0N ed)] [] Tryz.f87 ((fnA).wr (y, ())) [] kK = .leaf (nPN (ratio (sub (mul y y) (sm 1)) (add (mul ed (mul y y)) (sm 1)))) [] := by kernel_rfl
theorem nxOf_tab_ : ∀ p_ ∈ ([(79, e2N mul9C), (81, e2N add9C), (131, e2N sub9C), (86, eNS small9), (132, e2NP ratio9C), (82, e0N edge9C)] : List (FuncId × Ent)), p_.2.Ok Tryz.prog p_.1 := (tabC nmul_ok (tabC nadd_ok (tabC nsub_ok (tabC nsmall_ok (tabC nratio_ok (tabC nedge_ok tab0))))))
theorem nxOf_ok : nxOfE.Ok Tryz.prog 87 := by
  refine (Ent.ofOk Tryz.call87 fun x_ y_ Q H_ => ?_).sym
  obtain ⟨y, _⟩ := x_
  have hq := H_.2
  refine (fnT_ok (tab := [(79, e2N mul9C), (81, e2N add9C), (131, e2N sub9C), (86, eNS small9), (132, e2NP ratio9C), (82, e0N edge9C)]) mixed nxOf_tab_ Tryz.func87 rfl (LT := []) (ks := kK) (LOk.nil _)).use (D := []) ?_ hq
  show (fnT _ _ _ _ ((fnA).wr (y, ())) [] _).sat _
  rw [nxOf_tree mul9C add9C sub9C small9 ratio9C edge9C]
  exact leafNP (xOf9_eq y)
theorem base9_eq : base9C = of9C (xOf9C (mul9C (small9 4) (inv9C (small9 5)))).1 (mul9C (small9 4) (inv9C (small9 5))) := by unfold base9C baseFn9; rfl
noncomputable abbrev nbaseE : Ent := e0P base9C
theorem nbase_tree (mul : Fn → Fn → Fn) (inv : Fn → Fn) (sm : Int → Fn) (xo : Fn → Fn × Bool) (of : Fn → Fn → Pn)  : fnT Tryz.prog [(79, e2N mul), (77, e1N inv), (86, eNS sm), (87, e1NP xo), (88, eOfN of)] [] Tryz.f40 ((lNil).wr ()) [] kK = .leaf (cPn.wr (of (xo (mul (sm 4) (inv (sm 5)))).1 (mul (sm 4) (inv (sm 5))))) [] := by kernel_rfl
theorem nbase_tab_ : ∀ p_ ∈ ([(79, e2N mul9C), (77, e1N inv9C), (86, eNS small9), (87, e1NP xOf9C), (88, eOfN of9C)] : List (FuncId × Ent)), p_.2.Ok Tryz.prog p_.1 := (tabC nmul_ok (tabC ninv_ok (tabC nsmall_ok (tabC nxOf_ok (tabC nof_ok tab0)))))
theorem nbase_ok : nbaseE.Ok Tryz.prog 40 := by
  refine (Ent.ofOk Tryz.call40 fun x_ y_ Q H_ => ?_).sym
  have hq := H_.2
  refine (fnT_ok (tab := [(79, e2N mul9C), (77, e1N inv9C), (86, eNS small9), (87, e1NP xOf9C), (88, eOfN of9C)]) mixed nbase_tab_ Tryz.func40 rfl (LT := []) (ks := kK) (LOk.nil _)).use (D := []) ?_ hq
  show (fnT _ _ _ _ ((lNil).wr ()) [] _).sat _
  rw [nbase_tree mul9C inv9C small9 xOf9C of9C]
  exact leafP base9_eq
theorem plus39_eq (p q : Pn) (d : Fn) : plus39C p q d = plusFn9 mul9C add9C sub9C p q d := by unfold plus39C; rfl
noncomputable abbrev nplus3E : Ent := e3Pn plus39C
theorem nplus3_tree (mul add sub : Fn → Fn → Fn) (p q : Pn) (d : Fn) : fnT Tryz.prog [(79, e2N mul), (81, e2N add), (131, e2N sub)] [] Tryz.f84 (((lCons cPn (lCons cPn (lCons cFn lNil)))).wr (p, q, d, ())) [] kK = .leaf (cPn.wr (plusFn9 mul add sub p q d)) [] := by kernel_rfl
theorem nplus3_tab_ : ∀ p_ ∈ ([(79, e2N mul9C), (81, e2N add9C), (131, e2N sub9C)] : List (FuncId × Ent)), p_.2.Ok Tryz.prog p_.1 := (tabC nmul_ok (tabC nadd_ok (tabC nsub_ok tab0)))
theorem nplus3_ok : nplus3E.Ok Tryz.prog 84 := by
  refine (Ent.ofOk Tryz.call84 fun x_ y_ Q H_ => ?_).sym
  obtain ⟨p, q, d, _⟩ := x_
  have hq := H_.2
  refine (fnT_ok (tab := [(79, e2N mul9C), (81, e2N add9C), (131, e2N sub9C)]) mixed nplus3_tab_ Tryz.func84 rfl (LT := []) (ks := kK) (LOk.nil _)).use (D := []) ?_ hq
  show (fnT _ _ _ _ (((lCons cPn (lCons cPn (lCons cFn lNil)))).wr (p, q, d, ())) [] _).sat _
  rw [nplus3_tree mul9C add9C sub9C]
  exact leafP (plus39_eq p q d)
theorem plus9_eq (p q : Pn) : plus9C p q = plus39C p q (add9C edge9C edge9C) := by unfold plus9C; rfl
noncomputable abbrev nplusE : Ent := e2Pn plus9C
theorem nplus_tree (p3 : Pn → Pn → Fn → Pn) (add : Fn → Fn → Fn) (ed : Fn) (p q : Pn) : fnT Tryz.prog [(84, e3Pn p3), (81, e2N add), (82, e0N ed)] [] Tryz.f48 ((pn2A).wr (p, q, ())) [] kK = .leaf (cPn.wr (p3 p q (add ed ed))) [] := by kernel_rfl
theorem nplus_tab_ : ∀ p_ ∈ ([(84, e3Pn plus39C), (81, e2N add9C), (82, e0N edge9C)] : List (FuncId × Ent)), p_.2.Ok Tryz.prog p_.1 := (tabC nplus3_ok (tabC nadd_ok (tabC nedge_ok tab0)))
theorem nplus_ok : nplusE.Ok Tryz.prog 48 := by
  refine (Ent.ofOk Tryz.call48 fun x_ y_ Q H_ => ?_).sym
  obtain ⟨p, q, _⟩ := x_
  have hq := H_.2
  refine (fnT_ok (tab := [(84, e3Pn plus39C), (81, e2N add9C), (82, e0N edge9C)]) mixed nplus_tab_ Tryz.func48 rfl (LT := []) (ks := kK) (LOk.nil _)).use (D := []) ?_ hq
  show (fnT _ _ _ _ ((pn2A).wr (p, q, ())) [] _).sat _
  rw [nplus_tree plus39C add9C edge9C]
  exact leafP (plus9_eq p q)
theorem turn9_eq (p : Pn) : turn9C p = (neg9C p.1, p.2.1, p.2.2.1, neg9C p.2.2.2) := by unfold turn9C; rfl
noncomputable abbrev nturnE : Ent := e1Pn turn9C
theorem nturn_tree (neg : Fn → Fn) (p : Pn) : fnT Tryz.prog [(105, e1N neg)] [] Tryz.f49 ((pnA).wr (p, ())) [] kK = .leaf (cPn.wr (neg p.1, p.2.1, p.2.2.1, neg p.2.2.2)) [] := by kernel_rfl
theorem nturn_tab_ : ∀ p_ ∈ ([(105, e1N neg9C)] : List (FuncId × Ent)), p_.2.Ok Tryz.prog p_.1 := (tabC nneg_ok tab0)
theorem nturn_ok : nturnE.Ok Tryz.prog 49 := by
  refine (Ent.ofOk Tryz.call49 fun x_ y_ Q H_ => ?_).sym
  obtain ⟨p, _⟩ := x_
  have hq := H_.2
  refine (fnT_ok (tab := [(105, e1N neg9C)]) mixed nturn_tab_ Tryz.func49 rfl (LT := []) (ks := kK) (LOk.nil _)).use (D := []) ?_ hq
  show (fnT _ _ _ _ ((pnA).wr (p, ())) [] _).sat _
  rw [nturn_tree neg9C]
  exact leafP (turn9_eq p)
noncomputable def encode9L (p : Pn) : List Int := (encode9C p).toList
theorem encode9_eq (p : Pn) : encode9L p = bif odd9 (mul9C p.1 (inv9C p.2.2.1)) then (bytes9L (mul9C p.2.1 (inv9C p.2.2.1))).set 31 (IntKind.u8.wrap ((bytes9L (mul9C p.2.1 (inv9C p.2.2.1))).getD 31 0 + 128)) else bytes9L (mul9C p.2.1 (inv9C p.2.2.1)) := by
  unfold encode9L encode9C encodeFn9 bytes9L
  simp only [selN_eq]
  generalize bytes9 (mul9C p.2.1 (inv9C p.2.2.1)) = v
  cases odd9 (mul9C p.1 (inv9C p.2.2.1))
  · rfl
  · exact upd_set v
noncomputable abbrev nencodeE : Ent := eNE encode9L
theorem nencode_tree (mul : Fn → Fn → Fn) (inv : Fn → Fn) (byt : Fn → List Int) (odd : Fn → Bool) (p : Pn) : fnT Tryz.prog [(79, e2N mul), (77, e1N inv), (78, eNY byt), (80, e1NB odd)] [] Tryz.f38 ((pnA).wr (p, ())) [] kK = .ite (odd (mul p.1 (inv p.2.2.1))) (.leaf (nRow .u8 32 ((byt (mul p.2.1 (inv p.2.2.1))).set 31 (IntKind.u8.wrap ((byt (mul p.2.1 (inv p.2.2.1))).getD 31 0 + 128)))) []) (.leaf (nRow .u8 32 (byt (mul p.2.1 (inv p.2.2.1)))) []) := by kernel_rfl
theorem nencode_tab_ : ∀ p_ ∈ ([(79, e2N mul9C), (77, e1N inv9C), (78, eNY bytes9L), (80, e1NB odd9)] : List (FuncId × Ent)), p_.2.Ok Tryz.prog p_.1 := (tabC nmul_ok (tabC ninv_ok (tabC nbytes_ok (tabC nodd_ok tab0))))
theorem nencode_ok : nencodeE.Ok Tryz.prog 38 := by
  refine (Ent.ofOk Tryz.call38 fun x_ y_ Q H_ => ?_).sym
  obtain ⟨p, _⟩ := x_
  have hq := H_.2
  refine (fnT_ok (tab := [(79, e2N mul9C), (77, e1N inv9C), (78, eNY bytes9L), (80, e1NB odd9)]) mixed nencode_tab_ Tryz.func38 rfl (LT := []) (ks := kK) (LOk.nil _)).use (D := []) ?_ hq
  show (fnT _ _ _ _ ((pnA).wr (p, ())) [] _).sat _
  rw [nencode_tree mul9C inv9C bytes9L odd9]
  exact two_sat (fun h => by rw [encode9_eq, h]; rfl) (fun h => by rw [encode9_eq, h]; rfl)
noncomputable def decode9L (b : List Int) : Pn × Bool := decode9C (v32 b)
theorem decFn9_eq (neg : Fn → Fn) (frm : B32 → Fn) (canon : B32 → Bool) (z : Pn) (of : Fn → Fn → Pn) (xo : Fn → Fn × Bool) (b : B32) :
    decodeFn9 neg frm canon z of xo b = bif canon b then (bif (xo (frm b)).2 then (bif decide (127 < b.get 31) then (bif eqV (xo (frm b)).1 zero9 then (z, false) else (of (neg (xo (frm b)).1) (frm b), true)) else (of (xo (frm b)).1 (frm b), true)) else (z, false)) else (z, false) := by
  unfold decodeFn9
  simp only [selN_eq, selPn_eq, gt_iff_lt]
  generalize xo (frm b) = r
  generalize frm b = y
  generalize decide (127 < b.get 31) = t
  obtain ⟨x, ok⟩ := r
  simp only
  cases canon b <;> cases ok <;> cases t <;> cases eqV x zero9 <;> rfl
theorem decode9_eq (b : List Int) : decode9L b = bif canonical9L b then (bif (xOf9C (from9L b)).2 then (bif decide (127 < b.getD 31 0) then (bif eqV (xOf9C (from9L b)).1 zero9 then (zero9C, false) else (of9C (neg9C (xOf9C (from9L b)).1) (from9L b), true)) else (of9C (xOf9C (from9L b)).1 (from9L b), true)) else (zero9C, false)) else (zero9C, false) := by
  unfold decode9L decode9C
  rw [decFn9_eq, v32_get b (show 31 < 32 by decide)]
  rfl
theorem dec9_sat {p : Prop} {canon ok odd isz : Bool} {Z P Q : Pn} (hp : p) {r : Pn × Bool} (hr : r = bif canon then (bif ok then (bif odd then (bif isz then (Z, false) else (P, true)) else (Q, true)) else (Z, false)) else (Z, false)) :
    (Ev.End.need p (.ite (!canon) (.leaf (nPB (Z, false)) []) (.ite ((!ok) == false) (.ite (isz == true) (.ite odd (.leaf (nPB (Z, false)) []) (.ite odd (.leaf (nPB (P, true)) []) (.leaf (nPB (Q, true)) []))) (.ite odd (.leaf (nPB (P, true)) []) (.leaf (nPB (Q, true)) []))) (.leaf (nPB (Z, false)) [])))).sat fun v hp' => v = nPB r ∧ hp' = [] := by
  subst hr
  refine ⟨hp, ?_⟩
  cases canon
  · exact ⟨fun _ => ⟨rfl, rfl⟩, fun h => (by cases h)⟩
  · refine ⟨fun h => (by cases h), fun _ => ?_⟩
    cases ok
    · exact ⟨fun h => (by cases h), fun _ => ⟨rfl, rfl⟩⟩
    · refine ⟨fun _ => ?_, fun h => (by cases h)⟩
      cases isz
      · refine ⟨fun h => (by cases h), fun _ => ?_⟩
        cases odd
        · exact ⟨fun h => (by cases h), fun _ => ⟨rfl, rfl⟩⟩
        · exact ⟨fun _ => ⟨rfl, rfl⟩, fun h => (by cases h)⟩
      · refine ⟨fun _ => ?_, fun h => (by cases h)⟩
        cases odd
        · exact ⟨fun h => (by cases h), fun _ => ⟨fun h => (by cases h), fun _ => ⟨rfl, rfl⟩⟩⟩
        · exact ⟨fun _ => ⟨rfl, rfl⟩, fun h => (by cases h)⟩
noncomputable abbrev ndecodeE : Ent := eND decode9L
theorem ndecode_tree (canon : List Int → Bool) (z : Pn) (frm : List Int → Fn) (xo : Fn → Fn × Bool) (neg : Fn → Fn) (of : Fn → Fn → Pn) (b : List Int) : fnT Tryz.prog [(103, eNC canon), (83, e0P z), (104, eNF frm), (87, e1NP xo), (105, e1N neg), (88, eOfN of)] [] Tryz.f46 ((bA32).wr (b, ())) [] kK = .need (b.length = 32) (.ite (!(canon b)) (.leaf (nPB (z, false)) []) (.ite ((!(xo (frm b)).2) == false) (.ite (eqV (xo (frm b)).1 zero9 == true) (.ite (decide (127 < b.getD 31 0)) (.leaf (nPB (z, false)) []) (.ite (decide (127 < b.getD 31 0)) (.leaf (nPB (of (neg (xo (frm b)).1) (frm b), true)) []) (.leaf (nPB (of (xo (frm b)).1 (frm b), true)) []))) (.ite (decide (127 < b.getD 31 0)) (.leaf (nPB (of (neg (xo (frm b)).1) (frm b), true)) []) (.leaf (nPB (of (xo (frm b)).1 (frm b), true)) []))) (.leaf (nPB (z, false)) []))) := by kernel_rfl
theorem ndecode_tab_ : ∀ p_ ∈ ([(103, eNC canonical9L), (83, e0P zero9C), (104, eNF from9L), (87, e1NP xOf9C), (105, e1N neg9C), (88, eOfN of9C)] : List (FuncId × Ent)), p_.2.Ok Tryz.prog p_.1 := (tabC ncanon_ok (tabC nzero_ok (tabC nfrom_ok (tabC nxOf_ok (tabC nneg_ok (tabC nof_ok tab0))))))
theorem ndecode_ok : ndecodeE.Ok Tryz.prog 46 := by
  refine (Ent.ofOk Tryz.call46 fun x_ y_ Q H_ => ?_).sym
  obtain ⟨b, _⟩ := x_
  obtain ⟨hn, hq⟩ := H_
  have hn : b.length = 32 := hn
  refine (fnT_ok (tab := [(103, eNC canonical9L), (83, e0P zero9C), (104, eNF from9L), (87, e1NP xOf9C), (105, e1N neg9C), (88, eOfN of9C)]) mixed ndecode_tab_ Tryz.func46 rfl (LT := []) (ks := kK) (LOk.nil _)).use (D := []) ?_ hq
  show (fnT _ _ _ _ ((bA32).wr (b, ())) [] _).sat _
  rw [ndecode_tree canonical9L zero9C from9L xOf9C neg9C of9C]
  exact dec9_sat hn (decode9_eq b)
noncomputable abbrev m9Fn : Func := Tryz.f39
abbrev m9C : Cod (List LV) (Int × Unit) := (jk 2 (lSkip (vOne (sPtr 0 0)) (lSkip (vOne (sPtr 1 0)) (lSkip (vOne (sPtr 2 0)) (lSkip (vOne (sPtr 3 0)) (lSkip (vOne (sPtr 4 0)) (lCons (vOne (sInt .i64)) (jk 21 lNil))))))))
abbrev m9Cf : Wk := .fr (fmS 29 [(2, .keep), (3, .keep), (4, .keep), (5, .keep), (6, .keep), (7, .sym)])
abbrev m9X : Cod (List LV) (Unit) := (jk 4 (lSkip (vOne (sPtr 0 0)) (jk 1 (lSkip (vOne (sPtr 1 0)) (jk 22 lNil)))))
abbrev iPn : Cod (Option Ev.Item) Pn := iBlk 74 rPn
abbrev m9H : Cod Hp (List Int × Pn × Pn × Fn × Pn × Unit) := lCons (iRow 22 .u8 32) (lCons iPn (lCons iPn (lCons iFn (lCons iPn lNil))))
abbrev m9HX : Cod Hp (Pn × Pn × Unit) := lCons iPn (lCons iPn lNil)
abbrev symPn (i : Nat) : Wk := .blk i (List.replicate 64 .sym)
def m9W : Exit → List Wk
  | .normal => [m9Cf, symPn 2, symN 3, symPn 4, .auto]
  | .exit 0 => [.fr (fmS 29 [(4, .keep), (6, .keep)]), .auto]
  | _ => []
theorem m9_rnd (bit : List Int → Int → Int) (p3 : Pn → Pn → Fn → Pn) (n : List Int) (p z q : Pn) (d : Fn) (i : Int) : rndT Tryz.prog [(85, eBi bit), (84, e3Pn p3)] [] m9Fn 0 [] m9W ((stC m9C m9H).wr ((i, ()), (n, p, z, d, q, ()))) =
  Res.ite (decide ((0 : Int) ≤ i)) (Res.need (n.length = (32 : Nat) ∧ (0 : Int) ≤ i ∧ i < (256 : Int)) (Res.ite (bit n i == (1 : Int)) (Res.leaf Exit.normal ((stC m9C m9H).wr ((IntKind.i64.wrap (i - (1 : Int)), PUnit.unit), n, p, z, d, p3 (p3 q q d) p d, PUnit.unit)))
    (Res.leaf Exit.normal ((stC m9C m9H).wr ((IntKind.i64.wrap (i - (1 : Int)), PUnit.unit), n, p, z, d, p3 q q d, PUnit.unit))))) (Res.leaf (Exit.exit (0 : Nat)) ((stC m9X m9HX).wr (PUnit.unit, z, q, PUnit.unit))) := by kernel_rfl
def mulG9 (bit : List Int → Int → Int) (p3 : Pn → Pn → Fn → Pn) (n : List Int) (p : Pn) (d : Fn) (k : Nat) (q : Pn) : Pn := bif bit n (255 - (k : Int)) == 1 then p3 (p3 q q d) p d else p3 q q d
theorem m9Tab_ok : ∀ p ∈ ([(85, eBi bit9L), (84, e3Pn plus39C)] : List (FuncId × Ent)), p.2.Ok Tryz.prog p.1 := tabC nbit'_ok (tabC nplus3_ok tab0)
abbrev m9T : Type := (Int × Unit) × List Int × Pn × Pn × Fn × Pn × Unit
def m9LF (w : List Int → Pn → Fn → Pn → Pn) (x : m9T) : Res := .need (x.1.1 = 255 ∧ x.2.1.length = 32) (.leaf (.exit 0) ((stC m9X m9HX).wr ((), (x.2.2.2.1, w x.2.1 x.2.2.1 x.2.2.2.2.1 x.2.2.2.2.2.1, ()))))
theorem mult9W_ex : ∃ f : List Int → Pn → Fn → Pn → Pn, ∀ (n : List Int) (p : Pn) (d : Fn) (z : Pn) , f n p d z = (rnds (mulG9 bit9L plus39C n p d) 256 z) := ⟨fun n p d z => rnds (mulG9 bit9L plus39C n p d) 256 z, fun _ _ _ _ => rfl⟩
noncomputable def mult9W : List Int → Pn → Fn → Pn → Pn := Classical.choose mult9W_ex
theorem mult9W_eq (n : List Int) (p : Pn) (d : Fn) (z : Pn)  : mult9W n p d z = (rnds (mulG9 bit9L plus39C n p d) 256 z) := Classical.choose_spec mult9W_ex n p d z
theorem m9_loop (x : m9T) : Ex Tryz.prog [] (.loop (loopAt m9Fn 0)) ((stC m9C m9H).wr x) (m9LF mult9W x) := by
  obtain ⟨⟨i, _⟩, n, p, z, d, q, _⟩ := x
  refine Ex.need fun ⟨h1, h2⟩ => ?_
  simp only at h1 h2
  subst h1
  have key := loopUp (fn := m9Fn) (id := 0) (j := 0) (ws := m9W) (hp := []) mixed m9Tab_ok (LOk.nil _) 256 (fun k o => (stC m9C m9H).wr ((255 - (k : Int), ()), (n, p, z, d, o, ()))) (fun o => (stC m9X m9HX).wr ((), (z, o, ()))) (mulG9 bit9L plus39C n p d) (fun _ _ => True)
    (fun k o R hk _ hn hx => ?_) (fun _ _ _ _ => trivial) 0 q (by omega) trivial
  · rw [Nat.sub_zero, rnds_upto, ← mult9W_eq] at key; exact key
  rw [m9_rnd bit9L plus39C]
  refine ⟨fun hb => ?_, fun hb => ?_⟩
  · have hk' : k < 256 := by have := of_decide_eq_true hb; omega
    have hn' := hn hk'
    have e3 : IntKind.i64.wrap ((255 - (k : Int)) - 1) = 255 - ((k + 1 : Nat) : Int) := by rw [wrap_ok (by omega) (by omega)]; omega
    rw [e3]
    refine ⟨⟨h2, by omega, by omega⟩, fun hc => ?_, fun hc => ?_⟩
    · have : mulG9 bit9L plus39C n p d k o = plus39C (plus39C o o d) p d := by unfold mulG9; rw [hc]; rfl
      rw [this] at hn'; exact hn'
    · have : mulG9 bit9L plus39C n p d k o = plus39C o o d := by unfold mulG9; rw [hc]; rfl
      rw [this] at hn'; exact hn'
  · have : k = 256 := by have := of_decide_eq_false hb; omega
    exact hx this
abbrev mp9A : Cod (List LV) (List Int × Pn × Unit) := lCons cB (lCons cPn lNil)
def eNM (g : List Int → Pn → Pn) : Ent := Ent.ofS [] mp9A lNil fun x _ => .leaf (some (x.1.length = 32)) (cPn.wr (g x.1 x.2.1)) []
abbrev m9LT (w : List Int → Pn → Fn → Pn → Pn) : LTab := [(0, loopF (stC m9C m9H) 0 [m9Cf, .auto, symPn 2, symN 3, symPn 4] (m9LF w))]
abbrev m9Tab (bit : List Int → Int → Int) (p3 : Pn → Pn → Fn → Pn) (ed : Fn) (add : Fn → Fn → Fn) (z : Pn) : List (FuncId × Ent) := [(85, eBi bit), (84, e3Pn p3), (82, e0N ed), (81, e2N add), (83, e0P z)]
theorem nmult_tree (w : List Int → Pn → Fn → Pn → Pn) (bit : List Int → Int → Int) (p3 : Pn → Pn → Fn → Pn) (ed : Fn) (add : Fn → Fn → Fn) (z : Pn) (n : List Int) (p : Pn) : fnT Tryz.prog (m9Tab bit p3 ed add z) (m9LT w) m9Fn (mp9A.wr (n, p, ())) [] kK =
    .need ((255 : Int) = 255 ∧ n.length = 32) (.leaf (cPn.wr (w n p (add ed ed) z)) []) := by kernel_rfl
theorem mult9L_ex : ∃ f : List Int → Pn → Pn, ∀ (n : List Int) (p : Pn) , f n p = (mult9C (v32 n) p) := ⟨fun n p => mult9C (v32 n) p, fun _ _ => rfl⟩
noncomputable def mult9L : List Int → Pn → Pn := Classical.choose mult9L_ex
theorem mult9L_eq (n : List Int) (p : Pn)  : mult9L n p = (mult9C (v32 n) p) := Classical.choose_spec mult9L_ex n p
noncomputable abbrev nmultE : Ent := eNM mult9L
theorem mult9_same (n : List Int) (p : Pn) : mult9W n p (add9C edge9C edge9C) zero9C = mult9L n p := by
  rw [mult9W_eq, mult9L_eq]
  unfold mult9C multFn9
  refine rnds_congr (fun k hk r => ?_) _ 256 (Nat.le_refl _)
  unfold mulG9 multStep9 bit9L
  rw [selPn_eq]
theorem m9L_ok : LOk Tryz.prog [] (m9LT mult9W) (bodyOf m9Fn) := LOk.ofTab (LTC rfl (loopF_ok (hp := []) m9_loop) LT0)
theorem nmult_ok : nmultE.Ok Tryz.prog 39 := by
  refine (Ent.ofOk Tryz.call39 fun x_ y_ Q H_ => ?_).sym
  obtain ⟨n, p, _⟩ := x_
  obtain ⟨hn, hq⟩ := H_
  have hn : n.length = 32 := hn
  have hc : CallsT Tryz.prog 39 (mp9A.wr (n, p, ())) [] (fnT Tryz.prog (m9Tab bit9L plus39C edge9C add9C zero9C) (m9LT mult9W) m9Fn (mp9A.wr (n, p, ())) [] kK) := fnT_ok mixed (tabC nbit'_ok (tabC nplus3_ok (tabC nedge_ok (tabC nadd_ok (tabC nzero_ok tab0))))) Tryz.func39 rfl m9L_ok
  rw [nmult_tree mult9W bit9L plus39C edge9C add9C zero9C] at hc
  exact hc.use (D := []) (show (Ev.End.need _ _).sat _ from ⟨⟨rfl, hn⟩, by rw [mult9_same], rfl⟩) hq
end Go.Proofs.YthdfifcgobfgdaaGreat
end

section
set_option linter.unusedVariables false
set_option linter.unusedSimpArgs false
namespace Go.Ev
open Go
/-- the number that digits are, the lowest first -/
def vd (B : Int) : List Int → Int
  | [] => 0
  | x :: l => x + B * vd B l
/-- a number's lowest digits -/
def dg (B : Int) : Nat → Int → List Int
  | 0, _ => []
  | n + 1, x => x % B :: dg B n (x / B)
def InB (B : Int) (l : List Int) : Prop := ∀ z ∈ l, 0 ≤ z ∧ z < B
section
variable {B : Int}
theorem InB.tail {x : Int} {l : List Int} (h : InB B (x :: l)) : InB B l := fun z hz => h z (List.mem_cons_of_mem _ hz)
theorem InB.head {x : Int} {l : List Int} (h : InB B (x :: l)) : 0 ≤ x ∧ x < B := h x (by simp)
theorem InB.take {l : List Int} (h : InB B l) (n : Nat) : InB B (l.take n) := fun z hz => h z (List.mem_of_mem_take hz)
theorem InB.drop {l : List Int} (h : InB B l) (n : Nat) : InB B (l.drop n) := fun z hz => h z (List.mem_of_mem_drop hz)
theorem InB.append {l m : List Int} (h : InB B l) (h' : InB B m) : InB B (l ++ m) := fun z hz => by
  rcases List.mem_append.1 hz with k | k
  · exact h z k
  · exact h' z k
theorem InB.set {l : List Int} (h : InB B l) {i : Nat} {x : Int} (hx : 0 ≤ x ∧ x < B) : InB B (l.set i x) := fun z hz => by
  rcases List.mem_or_eq_of_mem_set hz with k | k
  · exact h z k
  · subst k; exact hx
theorem InB.zeros (hB : 0 < B) (n : Nat) : InB B (List.replicate n 0) := fun z hz => by
  rw [List.eq_of_mem_replicate hz]; omega
theorem InB.getD {l : List Int} (hB : 0 < B) (h : InB B l) (i : Nat) : 0 ≤ l.getD i 0 ∧ l.getD i 0 < B := by
  rw [List.getD_eq_getElem?_getD]
  rcases Nat.lt_or_ge i l.length with h1 | h1
  · rw [List.getElem?_eq_getElem h1]; exact h _ (List.getElem_mem h1)
  · rw [List.getElem?_eq_none h1]; exact ⟨by simp, by simpa using hB⟩
theorem dg_length : ∀ (n : Nat) (x : Int), (dg B n x).length = n
  | 0, _ => rfl
  | n + 1, x => by simp [dg, dg_length n]
theorem dg_in (hB : 0 < B) : ∀ (n : Nat) (x : Int), InB B (dg B n x)
  | 0, _ => fun z hz => by cases hz
  | n + 1, x => fun z hz => by
    rcases List.mem_cons.1 hz with rfl | hz
    · exact ⟨Int.emod_nonneg _ (by omega), Int.emod_lt_of_pos _ hB⟩
    · exact dg_in hB n _ z hz
theorem pow_pos' (hB : 0 < B) (n : Nat) : 0 < B ^ n := Int.pow_pos hB
theorem vd_nonneg (hB : 0 < B) : ∀ {l : List Int}, InB B l → 0 ≤ vd B l
  | [], _ => by simp [vd]
  | x :: l, h => by
    have h1 := vd_nonneg hB h.tail
    have h2 := h.head
    have := Int.mul_nonneg (Int.le_of_lt hB) h1
    simp only [vd]; omega
theorem vd_lt (hB : 0 < B) : ∀ {l : List Int}, InB B l → vd B l < B ^ l.length
  | [], _ => by simp [vd]
  | x :: l, h => by
    have h1 := vd_lt hB h.tail
    have h2 := h.head
    simp only [vd, List.length_cons]
    have h3 : B * (vd B l + 1) ≤ B * B ^ l.length := Int.mul_le_mul_of_nonneg_left (by omega) (by omega)
    rw [Int.mul_add, Int.mul_one] at h3
    rw [Int.pow_succ, Int.mul_comm (B ^ l.length)]
    omega
theorem ediv_unit (hB : 0 < B) {x y : Int} (h : 0 ≤ x ∧ x < B) : (x + B * y) / B = y ∧ (x + B * y) % B = x := by
  rw [Int.add_mul_ediv_left _ _ (by omega), Int.add_mul_emod_self_left, Int.ediv_eq_zero_of_lt h.1 h.2, Int.emod_eq_of_lt h.1 h.2]
  exact ⟨by omega, rfl⟩
theorem dg_vd (hB : 0 < B) : ∀ {l : List Int}, InB B l → dg B l.length (vd B l) = l
  | [], _ => rfl
  | x :: l, h => by
    obtain ⟨h1, h2⟩ := ediv_unit hB (y := vd B l) h.head
    show (x + B * vd B l) % B :: dg B l.length ((x + B * vd B l) / B) = x :: l
    rw [h1, h2, dg_vd hB h.tail]
theorem emod_split (hB : 0 < B) {P : Int} (hP : 0 < P) (x : Int) : x % B + B * (x / B % P) = x % (B * P) := by
  have h1 := Int.emod_nonneg x (show B ≠ 0 by omega)
  have h2 := Int.emod_lt_of_pos x hB
  have h3 := Int.emod_nonneg (x / B) (show P ≠ 0 by omega)
  have h4 := Int.emod_lt_of_pos (x / B) hP
  have e1 := Int.emod_add_mul_ediv x B
  have e2 := Int.emod_add_mul_ediv (x / B) P
  have e : x = x % B + B * (x / B % P) + (B * P) * (x / B / P) := by
    rw [Int.mul_assoc, Int.add_assoc, ← Int.mul_add, e2, e1]
  have hlt : x % B + B * (x / B % P) < B * P := by
    have := Int.mul_le_mul_of_nonneg_left (show x / B % P + 1 ≤ P by omega) (show 0 ≤ B by omega)
    rw [Int.mul_add, Int.mul_one] at this
    omega
  have hnn : 0 ≤ x % B + B * (x / B % P) := by
    have := Int.mul_nonneg (show 0 ≤ B by omega) h3
    omega
  have key : x % (B * P) = (x % B + B * (x / B % P)) % (B * P) := by
    conv => lhs; rw [e]
    rw [Int.add_mul_emod_self_left]
  rw [key, Int.emod_eq_of_lt hnn hlt]
theorem vd_dg (hB : 0 < B) : ∀ (n : Nat) (x : Int), vd B (dg B n x) = x % B ^ n
  | 0, x => by simp [dg, vd, Int.emod_one]
  | n + 1, x => by
    show x % B + B * vd B (dg B n (x / B)) = _
    rw [vd_dg hB n, emod_split hB (pow_pos' hB n), Int.pow_succ, Int.mul_comm (B ^ n)]
theorem vd_inj (hB : 0 < B) {l m : List Int} (hl : InB B l) (hm : InB B m) (hn : l.length = m.length) (h : vd B l = vd B m) : l = m := by
  rw [← dg_vd hB hl, ← dg_vd hB hm, hn, h]
theorem eq_dg (hB : 0 < B) {l : List Int} {n : Nat} {x : Int} (hl : InB B l) (hn : l.length = n) (h : vd B l = x % B ^ n) : l = dg B n x :=
  vd_inj hB hl (dg_in hB n x) (by rw [dg_length, hn]) (by rw [vd_dg hB, h])
theorem eq_dg' (hB : 0 < B) {l : List Int} {n : Nat} {x : Int} (hl : InB B l) (hn : l.length = n) (h : vd B l = x) : l = dg B n x := by
  subst h hn; exact (dg_vd hB hl).symm
theorem dg_getD (hB : 0 < B) : ∀ {n : Nat} {x : Int} {k : Nat}, k < n → (dg B n x).getD k 0 = x / B ^ k % B
  | 0, _, k, h => absurd h (by omega)
  | n + 1, x, 0, _ => by simp [dg]
  | n + 1, x, k + 1, h => by
    show (x % B :: dg B n (x / B)).getD (k + 1) 0 = _
    rw [List.getD_cons_succ, dg_getD hB (by omega : k < n), Int.ediv_ediv_of_nonneg (by omega), Int.pow_succ, Int.mul_comm (B ^ k)]
theorem vd_getD (hB : 0 < B) {l : List Int} (h : InB B l) {k : Nat} (hk : k < l.length) : l.getD k 0 = vd B l / B ^ k % B := by
  conv => lhs; rw [← dg_vd hB h]
  exact dg_getD hB hk
theorem vd_append : ∀ (l m : List Int), vd B (l ++ m) = vd B l + B ^ l.length * vd B m
  | [], m => by simp [vd]
  | x :: l, m => by
    show x + B * vd B (l ++ m) = x + B * vd B l + B ^ (l.length + 1) * vd B m
    rw [vd_append l m, Int.mul_add, Int.pow_succ, Int.mul_assoc, Int.mul_left_comm B, Int.add_assoc]
theorem vd_set : ∀ {l : List Int} {k : Nat} {x : Int}, k < l.length → vd B (l.set k x) = vd B l + (x - l.getD k 0) * B ^ k
  | [], k, _, h => absurd h (by simp)
  | y :: l, 0, x, _ => by
    simp only [List.set_cons_zero, vd, List.getD_cons_zero, Int.pow_zero]; omega
  | y :: l, k + 1, x, h => by
    simp only [List.set_cons_succ, vd, List.getD_cons_succ]
    rw [vd_set (by simpa using h), Int.mul_add, Int.pow_succ, Int.mul_comm B ((x - l.getD k 0) * B ^ k), Int.mul_assoc, Int.add_assoc]
theorem vd_zeros (n : Nat) : vd B (List.replicate n 0) = 0 := by
  induction n with
  | zero => rfl
  | succ n ih => rw [List.replicate_succ]; simp [vd, ih]
theorem vd_take_succ {l : List Int} {k : Nat} (hk : k < l.length) : vd B (l.take (k + 1)) = vd B (l.take k) + l.getD k 0 * B ^ k := by
  rw [List.take_add_one, List.getElem?_eq_getElem hk, vd_append, List.length_take, Nat.min_eq_left (by omega), List.getD_eq_getElem?_getD, List.getElem?_eq_getElem hk]
  simp [vd, Int.mul_comm]
theorem vd_take (hB : 0 < B) {l : List Int} (h : InB B l) (k : Nat) (hk : k ≤ l.length) : vd B (l.take k) = vd B l % B ^ k := by
  have e : vd B l = vd B (l.take k) + B ^ k * vd B (l.drop k) := by
    conv => lhs; rw [← List.take_append_drop k l, vd_append, List.length_take, Nat.min_eq_left hk]
  have h1 := vd_nonneg hB (h.take k)
  have h2 := vd_lt hB (h.take k)
  rw [List.length_take, Nat.min_eq_left hk] at h2
  rw [e, Int.add_mul_emod_self_left, Int.emod_eq_of_lt h1 h2]
theorem dg_add (hB : 0 < B) (m : Nat) : ∀ (n : Nat) (x : Int), dg B (n + m) x = dg B n x ++ dg B m (x / B ^ n)
  | 0, x => by simp [dg]
  | n + 1, x => by
    rw [show n + 1 + m = (n + m) + 1 from by omega]
    show x % B :: dg B (n + m) (x / B) = x % B :: dg B n (x / B) ++ dg B m (x / B ^ (n + 1))
    rw [dg_add hB m n, Int.ediv_ediv_of_nonneg (by omega), Int.pow_succ, Int.mul_comm (B ^ n)]; rfl
theorem dg_take (hB : 0 < B) {n k : Nat} (h : k ≤ n) (x : Int) : (dg B n x).take k = dg B k x := by
  obtain ⟨m, rfl⟩ : ∃ m, n = k + m := ⟨n - k, by omega⟩
  rw [dg_add hB]
  simp [dg_length]
theorem dg_zero (hB : 0 < B) (n : Nat) : dg B n 0 = List.replicate n 0 :=
  (eq_dg hB (InB.zeros hB n) (by simp) (by rw [vd_zeros]; simp)).symm
end
/-- a digit of a number by greater digits -/
theorem ediv_emod_sub {x : Int} (A C : Int) (hA : 0 < A) (hC : 0 < C) (D : Int) (hDp : 0 < D) (hdiv : A * D ∣ C) : x % C / A % D = x / A % D := by
  obtain ⟨q, rfl⟩ := hdiv
  have hq : 0 < q := by
    rcases Int.lt_or_le 0 q with h | h
    · exact h
    · have := Int.mul_nonneg (Int.le_of_lt (Int.mul_pos hA hDp)) (show 0 ≤ -q by omega)
      rw [Int.mul_neg] at this; omega
  have e := emod_split (B := A) (P := D * q) hA (Int.mul_pos hDp hq) x
  rw [← Int.mul_assoc] at e
  rw [← e]
  have h1 := Int.emod_nonneg x (show A ≠ 0 by omega)
  have h2 := Int.emod_lt_of_pos x hA
  rw [(ediv_unit hA ⟨h1, h2⟩).1, Int.emod_emod_of_dvd _ (Int.dvd_mul_right D q)]
theorem half_step (V : Int) (k : Nat) : V / 2 ^ k = 2 * (V / 2 ^ (k + 1)) + V / 2 ^ k % 2 := by
  have e : V / 2 ^ (k + 1) = V / 2 ^ k / 2 := by rw [Int.pow_succ, Int.ediv_ediv_of_nonneg (by exact Int.le_of_lt (Int.pow_pos (by decide)))]
  rw [e]; omega
theorem mod_step {L r b : Int} (hL : 0 < L) (hr : 0 ≤ r ∧ r < L) (hb : 0 ≤ b ∧ b < 2) : (2 * r + b) % L = if 2 * r + b < L then 2 * r + b else 2 * r + b - L := by
  split
  · exact Int.emod_eq_of_lt (by omega) (by assumption)
  · have e : 2 * r + b = (2 * r + b - L) + L * 1 := by omega
    conv => lhs; rw [e]
    rw [Int.add_mul_emod_self_left, Int.emod_eq_of_lt (by omega) (by omega)]
theorem mod_two (L V b : Int) : (2 * V + b) % L = (2 * (V % L) + b) % L := by
  have e := Int.emod_add_mul_ediv V L
  have : 2 * V + b = 2 * (V % L) + b + L * (2 * (V / L)) := by
    conv => lhs; rw [← e]
    rw [Int.mul_add, Int.mul_left_comm]; omega
  rw [this, Int.add_mul_emod_self_left]
end Go.Ev
end

section
set_option linter.unusedVariables false
set_option linter.unusedSimpArgs false
namespace Go.Proofs.YthdfifcgobfgdaaGreat
open Go Go.Ev BJ
theorem sub64_val {x y c : Int} (hx : U64 x) (hy : U64 y) (hc : c = 0 ∨ c = 1) : sub64 x y c = ((x - y - c) % 18446744073709551616, if x < y + c then 1 else 0) := by
  unfold U64 at hx hy
  obtain ⟨a, rfl⟩ := Int.eq_ofNat_of_zero_le hx.1
  obtain ⟨b, rfl⟩ := Int.eq_ofNat_of_zero_le hy.1
  obtain ⟨d, rfl⟩ : ∃ d : Nat, c = (d : Int) := by rcases hc with rfl | rfl; exact ⟨0, rfl⟩; exact ⟨1, rfl⟩
  simp only [sub64, Int.toNat_natCast]
  have e : (2 : Nat) ^ 64 = 18446744073709551616 := by decide
  rw [e]
  refine Prod.ext ?_ ?_
  · show (((a + 18446744073709551616 - b - d) % 18446744073709551616 : Nat) : Int) = _
    omega
  · show (if a < b + d then (1 : Int) else 0) = _
    by_cases h : a < b + d
    · rw [if_pos h, if_pos (by omega)]
    · rw [if_neg h, if_neg (by omega)]
theorem ipow_le {B : Int} (hB : 1 ≤ B) {a b : Nat} (h : a ≤ b) : B ^ a ≤ B ^ b := by
  obtain ⟨d, rfl⟩ : ∃ d, b = a + d := ⟨b - a, by omega⟩
  rw [Int.pow_add]
  have h1 : 0 < B ^ a := Int.pow_pos (by omega)
  have h2 : 0 < B ^ d := Int.pow_pos (by omega)
  have := Int.mul_le_mul_of_nonneg_left (show 1 ≤ B ^ d by omega) (Int.le_of_lt h1)
  rwa [Int.mul_one] at this
theorem tmodN (k m : Nat) : (k : Int).tmod (m : Int) = ((k % m : Nat) : Int) := by rw [Int.tmod_eq_emod_of_nonneg (by omega), ← Int.natCast_emod]
abbrev qq : Int := 18446744073709551616
theorem qq_pos : 0 < qq := by decide
theorem qq_256 : qq = 256 ^ 8 := by decide
theorem qq_2 : qq = 2 ^ 64 := by decide
theorem two_pow8 (s : Nat) : ((2 ^ (s * 8) : Nat) : Int) = 256 ^ s := by
  rw [Nat.mul_comm, Nat.pow_mul, Int.natCast_pow]; rfl
/-- a part of a digit is a digit by smaller ones -/
theorem sub_digit {b : Int} (hb : 0 < b) {m : Nat} (hm : 0 < m) {l : List Int} (h : InB (b ^ m) l) {k : Nat} (hk : k / m < l.length) : l.getD (k / m) 0 / b ^ (k % m) % b = vd (b ^ m) l / b ^ k % b := by
  have hB : 0 < b ^ m := Int.pow_pos hb
  rw [vd_getD hB h hk]
  have hlt := Nat.mod_lt k hm
  have e1 : (b ^ m) = b ^ (k % m) * b * b ^ (m - (k % m + 1)) := by rw [← Int.pow_succ, ← Int.pow_add]; congr 1; omega
  rw [ediv_emod_sub (b ^ (k % m)) (b ^ m) (Int.pow_pos hb) hB b hb ⟨_, e1⟩]
  rw [Int.ediv_ediv_of_nonneg (Int.le_of_lt (Int.pow_pos hB)), ← Int.pow_mul, ← Int.pow_add]
  congr 3
  have := Nat.div_add_mod k m; exact this
theorem dg_map {B : Int} (hB : 0 < B) (n : Nat) (x : Int) : (List.range n).map (fun i => x / B ^ i % B) = dg B n x := by
  apply List.ext_getElem?
  intro i
  rcases Nat.lt_or_ge i n with h | h
  · have e := dg_getD hB (x := x) h
    rw [List.getD_eq_getElem?_getD, List.getElem?_eq_getElem (by rw [dg_length]; exact h)] at e
    rw [List.getElem?_eq_getElem (l := dg B n x) (by rw [dg_length]; exact h), List.getElem?_map, List.getElem?_range h]
    simpa using e.symm
  · rw [List.getElem?_eq_none (by simpa using h), List.getElem?_eq_none (by rw [dg_length]; exact h)]
noncomputable def ofL (b : List Int) : List Int := dg qq 8 (vd 256 b)
noncomputable def bytesW (w : List Int) : List Int := dg 256 32 (vd qq w)
theorem of_step {b : List Int} (hb : AllBy b) (hl : b.length ≤ 64) {k : Nat} (hk : k < b.length) :
    (ofL (b.take k)).set (k / 8) (bitOr .u64 ((ofL (b.take k)).getD (k / 8) 0) (shl .u64 (IntKind.u64.wrap (b.getD k 0)) ((k % 8 * 8 : Nat) : Int))) = ofL (b.take (k + 1)) := by
  have hb' : InB 256 b := hb
  have hc := InB.getD (by decide) hb' k
  have hV0 := vd_nonneg (by decide) (hb'.take k)
  have hV1 := vd_lt (by decide) (hb'.take k)
  rw [List.length_take, Nat.min_eq_left (by omega)] at hV1
  unfold ofL
  rw [vd_take_succ hk]
  generalize vd 256 (b.take k) = V at *
  generalize b.getD k 0 = c at *
  have hi : k / 8 < 8 := by omega
  have hs : k % 8 < 8 := by omega
  have hk' : k = 8 * (k / 8) + k % 8 := (Nat.div_add_mod k 8).symm
  have hp : (256 : Int) ^ k = qq ^ (k / 8) * 256 ^ (k % 8) := by rw [qq_256, ← Int.pow_mul, ← Int.pow_add, ← hk']
  have hQ : 0 < qq ^ (k / 8) := Int.pow_pos qq_pos
  have hle : (256 : Int) ^ (k % 8) * 256 ≤ qq := by
    rw [← Int.pow_succ, qq_256]; exact ipow_le (by decide) (by omega)
  have hP : (0 : Int) < 256 ^ (k % 8) := Int.pow_pos (by decide)
  have hdl : V / qq ^ (k / 8) < 256 ^ (k % 8) := Int.ediv_lt_of_lt_mul hQ (by rw [Int.mul_comm, ← hp]; exact hV1)
  have hd0 : 0 ≤ V / qq ^ (k / 8) := Int.ediv_nonneg hV0 (Int.le_of_lt hQ)
  have eg : (dg qq 8 V).getD (k / 8) 0 = V / qq ^ (k / 8) := by
    rw [dg_getD qq_pos hi, Int.emod_eq_of_lt hd0 (by omega)]
  rw [eg]
  have ew : IntKind.u64.wrap c = c := wrap_u64 hc.1 (by omega)
  have hcP : c * 256 ^ (k % 8) ≤ 255 * 256 ^ (k % 8) := Int.mul_le_mul_of_nonneg_right (by omega) (by omega)
  have hcP0 : 0 ≤ c * 256 ^ (k % 8) := Int.mul_nonneg hc.1 (by omega)
  have es : shl .u64 c ((k % 8 * 8 : Nat) : Int) = c * 256 ^ (k % 8) := by
    rw [shl_mul .u64 c _ (by simp [IntKind.bits]; omega), two_pow8, wrap_u64 hcP0 (by unfold qq at hle; omega)]
  have hdiv : c * 256 ^ (k % 8) % ((2 ^ (k % 8 * 8) : Nat) : Int) = 0 := by rw [two_pow8]; exact Int.mul_emod_left _ _
  have eo : bitOr .u64 (V / qq ^ (k / 8)) (c * 256 ^ (k % 8)) = V / qq ^ (k / 8) + c * 256 ^ (k % 8) := by
    rw [or_comm', or_u64 (m := k % 8 * 8) hcP0 hdiv hd0 (by rw [two_pow8]; exact hdl) (by unfold qq at hle; omega), Int.add_comm]
  rw [ew, es, eo]
  refine eq_dg qq_pos ((dg_in qq_pos 8 V).set ⟨by omega, by omega⟩) (by rw [List.length_set, dg_length]) ?_
  rw [vd_set (by rw [dg_length]; exact hi), eg, vd_dg qq_pos]
  have e2 : (256 : Int) ^ 64 = qq ^ 8 := by decide
  have hV2 : V < qq ^ 8 := Int.lt_of_lt_of_le hV1 (by rw [← e2]; exact ipow_le (by decide) (by omega))
  rw [Int.emod_eq_of_lt hV0 hV2]
  have e3 : (V / qq ^ (k / 8) + c * 256 ^ (k % 8) - V / qq ^ (k / 8)) * qq ^ (k / 8) = c * 256 ^ k := by
    rw [hp, Int.mul_comm (qq ^ (k / 8)), ← Int.mul_assoc]; congr 1; omega
  rw [e3]
  have hlt : V + c * 256 ^ k < qq ^ 8 := by
    have h1 : c * 256 ^ k ≤ 255 * 256 ^ k := Int.mul_le_mul_of_nonneg_right (by omega) (Int.le_of_lt (Int.pow_pos (by decide)))
    have h2 : (256 : Int) ^ (k + 1) ≤ 256 ^ 64 := ipow_le (by decide) (by omega)
    rw [Int.pow_succ] at h2
    rw [← e2]; omega
  exact (Int.emod_eq_of_lt (Int.add_nonneg hV0 (Int.mul_nonneg hc.1 (Int.le_of_lt (Int.pow_pos (by decide))))) hlt).symm
theorem by_digit {w : List Int} (h : InB qq w) (hl : w.length = 8) {k : Nat} (hk : k < 64) : IntKind.u8.wrap (shr .u64 (w.getD (k / 8) 0) ((k % 8 * 8 : Nat) : Int)) = vd qq w / 256 ^ k % 256 := by
  rw [shr_div .u64 _ _ (by simp [IntKind.bits]; omega), two_pow8, wrap_u8]
  have h' : InB (256 ^ 8) w := by rw [← qq_256]; exact h
  have := sub_digit (b := 256) (by decide) (by decide : 0 < 8) h' (k := k) (by omega)
  rw [this, ← qq_256]
noncomputable def bitW (w : List Int) (i : Int) : Int := vd qq w / 2 ^ i.toNat % 2
theorem bit_digit {w : List Int} (h : InB qq w) (hl : w.length = 8) {k : Nat} (hk : k < 512) : bitAnd .u64 (shr .u64 (w.getD (k / 64) 0) ((k % 64 : Nat) : Int)) 1 = bitW w (k : Int) := by
  rw [shr_div .u64 _ _ (by simp [IntKind.bits]; omega), and_u64 (m := 1) (by decide) _ 1 (by decide)]
  have h' : InB (2 ^ 64) w := by rw [← qq_2]; exact h
  have := sub_digit (b := 2) (by decide) (by decide : 0 < 64) h' (k := k) (by omega)
  unfold bitW
  rw [Int.toNat_natCast, qq_2, ← this]
  simp
structure Part (k : Nat) (w o : List Int) : Prop where
  len : o.length = 8
  inb : InB qq o
  rest : ∀ j, k ≤ j → o.getD j 0 = w.getD j 0
theorem Part.step {k : Nat} {w o : List Int} (h : Part k w o) {z : Int} (hk : k < 8) (hz : 0 ≤ z ∧ z < qq) : Part (k + 1) w (o.set k z) ∧ vd qq ((o.set k z).take (k + 1)) = vd qq (o.take k) + z * qq ^ k := by
  obtain ⟨h1, h2, h3⟩ := h
  have hg : (o.set k z).getD k 0 = z := by rw [List.getD_eq_getElem?_getD]; simp [show k < o.length by omega]
  refine ⟨⟨by rw [List.length_set, h1], h2.set hz, fun j hj => ?_⟩, ?_⟩
  · rw [← h3 j (by omega), List.getD_eq_getElem?_getD, List.getD_eq_getElem?_getD, List.getElem?_set_ne (by omega)]
  · rw [vd_take_succ (by rw [List.length_set]; omega), hg, List.take_set_of_le (Nat.le_refl _)]
noncomputable def lessW (w x : List Int) : List Int × Int := (dg qq 8 (vd qq w - vd qq x), if vd qq w < vd qq x then 1 else 0)
noncomputable def sumW (w x : List Int) : List Int := dg qq 8 (vd qq w + vd qq x)
def lessF (sb : Int → Int → Int → Int × Int) (x : List Int) (k : Nat) (o : List Int × Int) : List Int × Int := (o.1.set k (sb (o.1.getD k 0) (x.getD k 0) o.2).1, (sb (o.1.getD k 0) (x.getD k 0) o.2).2)
def LessI (w x : List Int) (k : Nat) (o : List Int × Int) : Prop := Part k w o.1 ∧ (o.2 = 0 ∨ o.2 = 1) ∧ vd qq (o.1.take k) = vd qq (w.take k) - vd qq (x.take k) + o.2 * qq ^ k
theorem less_step {w x : List Int} (hw : InB qq w) (hx : InB qq x) (lw : w.length = 8) (lx : x.length = 8) {k : Nat} {o : List Int × Int} (hk : k < 8) (h : LessI w x k o) : LessI w x (k + 1) (lessF sub64 x k o) := by
  obtain ⟨hp, hc, hv⟩ := h
  obtain ⟨o, c⟩ := o
  simp only at hp hc hv
  have h1 := InB.getD qq_pos hp.inb k
  have h2 := InB.getD qq_pos hx k
  have e := sub64_val (x := o.getD k 0) (y := x.getD k 0) (c := c) h1 h2 hc
  have hrest := hp.rest k (Nat.le_refl _)
  unfold lessF
  rw [e]
  have hz : 0 ≤ (o.getD k 0 - x.getD k 0 - c) % 18446744073709551616 ∧ (o.getD k 0 - x.getD k 0 - c) % 18446744073709551616 < qq := ⟨Int.emod_nonneg _ (by decide), Int.emod_lt_of_pos _ (by decide)⟩
  obtain ⟨p1, p2⟩ := hp.step hk hz
  refine ⟨p1, by simp only; split <;> simp, ?_⟩
  simp only
  rw [p2, hv, vd_take_succ (by omega), vd_take_succ (by omega), hrest, Int.pow_succ, Int.mul_comm (qq ^ k) qq, ← Int.mul_assoc]
  rw [hrest] at h1
  generalize w.getD k 0 = a at *
  generalize x.getD k 0 = b at *
  have key : c + (a - b - c) % 18446744073709551616 = a - b + (if a < b + c then (1 : Int) else 0) * qq := by
    unfold qq at *
    split <;> omega
  have e2 : c * qq ^ k + (a - b - c) % 18446744073709551616 * qq ^ k = (a - b + (if a < b + c then (1 : Int) else 0) * qq) * qq ^ k := by rw [← key, Int.add_mul]
  rw [Int.add_mul, Int.sub_mul] at e2
  omega
theorem less_all {w x : List Int} (hw : InB qq w) (hx : InB qq x) (lw : w.length = 8) (lx : x.length = 8) : upto (lessF sub64 x) 0 8 (w, 0) = lessW w x := by
  have h := upto_inv (f := lessF sub64 x) (LessI w x) (n := 8) (fun k o hk h => less_step hw hx lw lx hk h) 8 0 (w, 0) (by omega) ⟨⟨lw, hw, fun _ _ => rfl⟩, .inl rfl, by simp [vd]⟩
  generalize upto (lessF sub64 x) 0 8 (w, 0) = o at *
  obtain ⟨o, c⟩ := o
  obtain ⟨hp, hc, hv⟩ := h
  simp only at hp hc hv
  simp only [Nat.zero_add] at hp hv
  rw [List.take_of_length_le (by rw [hp.len]; decide), List.take_of_length_le (by omega), List.take_of_length_le (by omega)] at hv
  have b1 := vd_nonneg qq_pos hp.inb
  have b2 := vd_lt qq_pos hp.inb
  have b3 := vd_nonneg qq_pos hw
  have b4 := vd_lt qq_pos hw
  have b5 := vd_nonneg qq_pos hx
  have b6 := vd_lt qq_pos hx
  rw [hp.len] at b2
  rw [lw] at b4
  rw [lx] at b6
  unfold lessW
  refine Prod.ext (eq_dg qq_pos hp.inb hp.len ?_) ?_
  · rw [hv]
    have : vd qq w - vd qq x + c * qq ^ 8 = vd qq w - vd qq x + qq ^ 8 * c := by rw [Int.mul_comm]
    have e : vd qq o = vd qq o % qq ^ 8 := (Int.emod_eq_of_lt b1 b2).symm
    rw [hv, this, Int.add_mul_emod_self_left] at e
    rw [this]; exact e
  · simp only
    rcases hc with rfl | rfl
    · rw [if_neg (by omega)]
    · rw [if_pos (by omega)]
def addcF (ad : Int → Int → Int → Int × Int) (x : List Int) (k : Nat) (o : List Int × Int) : List Int × Int := (o.1.set k (ad (o.1.getD k 0) (x.getD k 0) o.2).1, (ad (o.1.getD k 0) (x.getD k 0) o.2).2)
def SumI (w x : List Int) (k : Nat) (o : List Int × Int) : Prop := Part k w o.1 ∧ (o.2 = 0 ∨ o.2 = 1) ∧ vd qq (o.1.take k) + o.2 * qq ^ k = vd qq (w.take k) + vd qq (x.take k)
theorem sum_step {w x : List Int} (hw : InB qq w) (hx : InB qq x) (lw : w.length = 8) (lx : x.length = 8) {k : Nat} {o : List Int × Int} (hk : k < 8) (h : SumI w x k o) : SumI w x (k + 1) (addcF add64 x k o) := by
  obtain ⟨hp, hc, hv⟩ := h
  obtain ⟨o, c⟩ := o
  simp only at hp hc hv
  have h1 := InB.getD qq_pos hp.inb k
  have h2 := InB.getD qq_pos hx k
  have e := add64_val (x := o.getD k 0) (y := x.getD k 0) (c := c) h1.1 h2.1 (by omega)
  have hrest := hp.rest k (Nat.le_refl _)
  unfold addcF
  rw [e]
  have hz : 0 ≤ (o.getD k 0 + x.getD k 0 + c) % 18446744073709551616 ∧ (o.getD k 0 + x.getD k 0 + c) % 18446744073709551616 < qq := ⟨Int.emod_nonneg _ (by decide), Int.emod_lt_of_pos _ (by decide)⟩
  obtain ⟨p1, p2⟩ := hp.step hk hz
  refine ⟨p1, by simp only; unfold qq at h1 h2; omega, ?_⟩
  simp only
  rw [p2, vd_take_succ (by omega), vd_take_succ (by omega), hrest, Int.pow_succ, Int.mul_comm (qq ^ k) qq, ← Int.mul_assoc]
  rw [hrest] at h1
  generalize w.getD k 0 = a at *
  generalize x.getD k 0 = b at *
  have key : (a + b + c) % 18446744073709551616 + (a + b + c) / 18446744073709551616 * qq = a + b + c := by
    unfold qq at *
    omega
  have e2 : (a + b + c) % 18446744073709551616 * qq ^ k + (a + b + c) / 18446744073709551616 * qq * qq ^ k = (a + b + c) * qq ^ k := by rw [← Int.add_mul, key]
  rw [Int.add_mul (a + b), Int.add_mul a] at e2
  omega
theorem sum_all {w x : List Int} (hw : InB qq w) (hx : InB qq x) (lw : w.length = 8) (lx : x.length = 8) : (upto (addcF add64 x) 0 8 (w, 0)).1 = sumW w x := by
  have h := upto_inv (f := addcF add64 x) (SumI w x) (n := 8) (fun k o hk h => sum_step hw hx lw lx hk h) 8 0 (w, 0) (by omega) ⟨⟨lw, hw, fun _ _ => rfl⟩, .inl rfl, by simp [vd]⟩
  generalize upto (addcF add64 x) 0 8 (w, 0) = o at *
  obtain ⟨o, c⟩ := o
  obtain ⟨hp, hc, hv⟩ := h
  simp only at hp hc hv
  simp only [Nat.zero_add] at hp hv
  rw [List.take_of_length_le (by rw [hp.len]; decide), List.take_of_length_le (by omega), List.take_of_length_le (by omega)] at hv
  have b1 := vd_nonneg qq_pos hp.inb
  have b2 := vd_lt qq_pos hp.inb
  rw [hp.len] at b2
  unfold sumW
  refine eq_dg qq_pos hp.inb hp.len ?_
  rw [← hv, Int.mul_comm, Int.add_mul_emod_self_left, Int.emod_eq_of_lt b1 b2]
end Go.Proofs.YthdfifcgobfgdaaGreat
end

section
set_option linter.unusedVariables false
set_option linter.unusedSimpArgs false
namespace Go.Proofs.YthdfifcgobfgdaaGreat
open Go Go.Ev BJ
def orderL : List Int := [6346243789798364141, 1503914060200516822, 0, 1152921504606846976, 0, 0, 0, 0]
def ll : Int := 7237005577332262213973186563042994240857116359379907606001950938285454250989
theorem ll_pos : 0 < ll := by decide
theorem order_val : vd qq orderL = ll := by decide +kernel
theorem order_in : orderL.length = 8 ∧ InB qq orderL := ⟨rfl, by unfold InB orderL; decide⟩
def putBit (r : List Int) (b : Int) : List Int := r.set 0 (bitOr .u64 (r.getD 0 0) b)
def redF (and : List Int → List Int → List Int) (less : List Int → List Int → List Int × Int) (bit : List Int → Int → Int) (o w : List Int) (k : Nat) (r : List Int) : List Int :=
  bif (less (putBit (and r r) (bit w (511 - (k : Int)))) o).2 == 0 then (less (putBit (and r r) (bit w (511 - (k : Int)))) o).1 else putBit (and r r) (bit w (511 - (k : Int)))
theorem bitW_01 (w : List Int) (i : Int) : 0 ≤ bitW w i ∧ bitW w i < 2 := by unfold bitW; omega
theorem qq8 : (2 : Int) ^ 254 ≤ qq ^ 8 := by decide +kernel
theorem ll_lt : ll + ll < 2 ^ 254 := by decide +kernel
theorem put_bit {R b : Int} (hR : 0 ≤ R ∧ R < ll) (hb : 0 ≤ b ∧ b < 2) : putBit (dg qq 8 (R + R)) b = dg qq 8 (2 * R + b) := by
  have h1 : 2 * R + b < qq ^ 8 := Int.lt_of_lt_of_le (by have := ll_lt; omega) qq8
  have h2 : R + R < qq ^ 8 := Int.lt_of_lt_of_le (by have := ll_lt; omega) qq8
  have hg : (dg qq 8 (R + R)).getD 0 0 = (R + R) % qq := by rw [dg_getD qq_pos (by decide)]; simp
  have hm : 0 ≤ (R + R) % qq := Int.emod_nonneg (R + R) (show qq ≠ 0 by decide)
  have hl : (R + R) % qq < 18446744073709551616 := Int.emod_lt_of_pos (R + R) qq_pos
  have hev : (R + R) % qq % 2 = 0 := by
    show (R + R) % 18446744073709551616 % 2 = 0
    omega
  have hv : vd qq (dg qq 8 (R + R)) = R + R := by rw [vd_dg qq_pos, Int.emod_eq_of_lt (by omega) h2]
  unfold putBit
  rw [hg]
  generalize (R + R) % qq = M at *
  rw [or_u64 (m := 1) hm (by simpa using hev) hb.1 (by simpa using hb.2) (by omega)]
  refine eq_dg qq_pos ((dg_in qq_pos 8 _).set ⟨by omega, (by omega : M + b < 18446744073709551616)⟩) (by rw [List.length_set, dg_length]) ?_
  rw [vd_set (by rw [dg_length]; decide), hg, hv, Int.emod_eq_of_lt (by omega) h1, Int.pow_zero, Int.mul_one]
  omega
theorem red_step {V : Int} {w : List Int} (hw : vd qq w = V) {k : Nat} (hk : k < 512) : redF sumW lessW bitW orderL w k (dg qq 8 (V / 2 ^ (512 - k) % ll)) = dg qq 8 (V / 2 ^ (512 - (k + 1)) % ll) := by
  have hlq : ∀ {x : Int}, x < ll + ll → x < qq ^ 8 := fun h => Int.lt_of_lt_of_le (Int.lt_trans h ll_lt) qq8
  have e0 := half_step V (512 - (k + 1))
  rw [show 512 - (k + 1) + 1 = 512 - k from by omega] at e0
  have eb : bitW w (511 - (k : Int)) = V / 2 ^ (512 - (k + 1)) % 2 := by
    unfold bitW
    rw [hw, show (511 - (k : Int)).toNat = 512 - (k + 1) from by omega]
  have hb : 0 ≤ V / 2 ^ (512 - (k + 1)) % 2 ∧ V / 2 ^ (512 - (k + 1)) % 2 < 2 := by omega
  have hR : 0 ≤ V / 2 ^ (512 - k) % ll ∧ V / 2 ^ (512 - k) % ll < ll := ⟨Int.emod_nonneg _ (by have := ll_pos; omega), Int.emod_lt_of_pos _ ll_pos⟩
  have em : (V / 2 ^ (512 - (k + 1))) % ll = (2 * (V / 2 ^ (512 - k) % ll) + V / 2 ^ (512 - (k + 1)) % 2) % ll := by
    conv => lhs; rw [e0]
    exact mod_two _ _ _
  rw [em, mod_step ll_pos hR hb]
  have es : sumW (dg qq 8 (V / 2 ^ (512 - k) % ll)) (dg qq 8 (V / 2 ^ (512 - k) % ll)) = dg qq 8 (V / 2 ^ (512 - k) % ll + V / 2 ^ (512 - k) % ll) := by
    unfold sumW
    rw [vd_dg qq_pos, Int.emod_eq_of_lt hR.1 (hlq (by omega))]
  unfold redF
  rw [eb, es, put_bit hR hb]
  generalize V / 2 ^ (512 - k) % ll = R at *
  generalize V / 2 ^ (512 - (k + 1)) % 2 = b at *
  have el : lessW (dg qq 8 (2 * R + b)) orderL = (dg qq 8 (2 * R + b - ll), if 2 * R + b < ll then 1 else 0) := by
    unfold lessW
    rw [order_val, vd_dg qq_pos, Int.emod_eq_of_lt (by omega) (hlq (by omega))]
  rw [el]
  by_cases h : 2 * R + b < ll
  · rw [if_pos h, if_pos h]; rfl
  · rw [if_neg h, if_neg h]; rfl
noncomputable def redW (w : List Int) : List Int := dg 256 32 (vd qq w % ll)
/-- a digit, and what goes on -/
def mulS (mu : Int → Int → Int × Int) (ad : Int → Int → Int → Int × Int) (x y c o : Int) : Int × Int :=
  ((ad o (ad (mu x y).2 c 0).1 0).1, IntKind.u64.wrap (IntKind.u64.wrap ((mu x y).1 + (ad (mu x y).2 c 0).2) + (ad o (ad (mu x y).2 c 0).1 0).2))
theorem mulS_val {x y c o : Int} (hx : U64 x) (hy : U64 y) (hc : U64 c) (ho : U64 o) : U64 (mulS mulFn add64 x y c o).1 ∧ U64 (mulS mulFn add64 x y c o).2 ∧ (mulS mulFn add64 x y c o).1 + qq * (mulS mulFn add64 x y c o).2 = o + x * y + c := by
  unfold mulS
  rw [mulFn_val hx hy]
  unfold U64 at *
  have hm0 : 0 ≤ x * y := Int.mul_nonneg hx.1 hy.1
  have hm1 : x * y ≤ 18446744073709551615 * 18446744073709551615 := Int.mul_le_mul (by omega) (by omega) hy.1 (by decide)
  simp only
  generalize x * y = m at *
  have q0 : 0 ≤ m % 18446744073709551616 := by omega
  rw [add64_val q0 hc.1 (by decide)]
  simp only
  rw [add64_val ho.1 (by omega) (by decide)]
  simp only
  rw [wrap_u64 (n := m / 18446744073709551616 + (m % 18446744073709551616 + c + 0) / 18446744073709551616) (by omega) (by omega), wrap_u64 (by omega) (by omega)]
  unfold qq
  omega
def timJ (mu : Int → Int → Int × Int) (ad : Int → Int → Int → Int × Int) (a b : List Int) (u : Nat) (j : Nat) (s : Int × List Int) : Int × List Int :=
  ((mulS mu ad (a.getD u 0) (b.getD j 0) s.1 (s.2.getD (u + j) 0)).2, s.2.set (u + j) (mulS mu ad (a.getD u 0) (b.getD j 0) s.1 (s.2.getD (u + j) 0)).1)
def timU (mu : Int → Int → Int × Int) (ad : Int → Int → Int → Int × Int) (a b : List Int) (u : Nat) (o : List Int) : List Int :=
  (upto (timJ mu ad a b u) 0 4 (0, o)).2.set (u + 4) (upto (timJ mu ad a b u) 0 4 (0, o)).1
structure TimI (a b o : List Int) (u j : Nat) (s : Int × List Int) : Prop where
  len : s.2.length = 8
  inb : InB qq s.2
  car : U64 s.1
  rest : ∀ i, u + 4 ≤ i → s.2.getD i 0 = o.getD i 0
  val : vd qq s.2 + s.1 * qq ^ (u + j) = vd qq o + a.getD u 0 * vd qq (b.take j) * qq ^ u
theorem timJ_step {a b o : List Int} (ha : InB qq a) (hb : InB qq b) (lb : b.length = 8) {u j : Nat} (hu : u < 4) (hj : j < 4) {s : Int × List Int} (h : TimI a b o u j s) : TimI a b o u (j + 1) (timJ mulFn add64 a b u j s) := by
  obtain ⟨h1, h2, h3, h4, h5⟩ := h
  obtain ⟨c, s⟩ := s
  simp only at h1 h2 h3 h4 h5
  have hlt : u + j < s.length := by omega
  obtain ⟨g1, g2, g3⟩ := mulS_val (InB.getD qq_pos ha u) (InB.getD qq_pos hb j) h3 (InB.getD qq_pos h2 (u + j))
  unfold timJ
  simp only
  generalize mulS mulFn add64 (a.getD u 0) (b.getD j 0) c (s.getD (u + j) 0) = p at *
  refine ⟨by rw [List.length_set]; exact h1, h2.set g1, g2, fun i hi => ?_, ?_⟩
  · rw [← h4 i hi, List.getD_eq_getElem?_getD, List.getD_eq_getElem?_getD, List.getElem?_set_ne (by omega)]
  · simp only
    rw [vd_set hlt, vd_take_succ (by omega), show u + (j + 1) = (u + j) + 1 from by omega, Int.pow_succ]
    generalize s.getD (u + j) 0 = o0 at *
    generalize a.getD u 0 = x at *
    generalize b.getD j 0 = y at *
    have e1 : x * (vd qq (b.take j) + y * qq ^ j) * qq ^ u = x * vd qq (b.take j) * qq ^ u + x * y * qq ^ (u + j) := by
      rw [Int.mul_add, Int.add_mul, Int.pow_add, Int.mul_comm (qq ^ u), ← Int.mul_assoc x y (qq ^ j), Int.mul_assoc (x * y) (qq ^ j)]
    have e2 : (p.1 + qq * p.2) * qq ^ (u + j) = (o0 + x * y + c) * qq ^ (u + j) := by rw [g3]
    have e3 : p.2 * (qq ^ (u + j) * qq) = qq * p.2 * qq ^ (u + j) := by
      rw [Int.mul_comm (qq ^ (u + j)), ← Int.mul_assoc, Int.mul_comm p.2]
    rw [e1, e3, Int.sub_mul]
    rw [Int.add_mul, Int.add_mul (o0 + x * y), Int.add_mul o0] at e2
    omega
structure TimO (a b : List Int) (u : Nat) (o : List Int) : Prop where
  len : o.length = 8
  inb : InB qq o
  rest : ∀ i, u + 4 ≤ i → o.getD i 0 = 0
  val : vd qq o = vd qq (a.take u) * vd qq (b.take 4)
theorem timU_step {a b o : List Int} (ha : InB qq a) (hb : InB qq b) (la : a.length = 8) (lb : b.length = 8) {u : Nat} (hu : u < 4) (h : TimO a b u o) : TimO a b (u + 1) (timU mulFn add64 a b u o) := by
  have k := upto_inv (f := timJ mulFn add64 a b u) (TimI a b o u) (n := 4) (fun j s hj hs => timJ_step ha hb lb hu hj hs) 4 0 (0, o) (by omega) ⟨h.len, h.inb, by unfold U64; omega, fun _ _ => rfl, by simp [vd]⟩
  unfold timU
  generalize upto (timJ mulFn add64 a b u) 0 4 (0, o) = s at *
  obtain ⟨c, s⟩ := s
  obtain ⟨k1, k2, k3, k4, k5⟩ := k
  simp only at k1 k2 k3 k4 k5
  simp only
  refine ⟨by rw [List.length_set]; exact k1, k2.set k3, fun i hi => ?_, ?_⟩
  · rw [List.getD_eq_getElem?_getD, List.getElem?_set_ne (by omega), ← List.getD_eq_getElem?_getD, k4 i (by omega), h.rest i (by omega)]
  · have e0 : s.getD (u + 4) 0 = 0 := by rw [k4 _ (Nat.le_refl _), h.rest _ (Nat.le_refl _)]
    rw [vd_set (by omega), e0, Int.sub_zero, show u + 4 = u + (0 + 4) from by omega, k5, h.val, vd_take_succ (l := a) (by omega), Nat.zero_add, Int.add_mul, Int.mul_assoc (a.getD u 0) (qq ^ u), Int.mul_comm (qq ^ u), Int.mul_assoc]
noncomputable def timesW (a b : List Int) : List Int := dg qq 8 (vd qq (a.take 4) * vd qq (b.take 4))
theorem times_all {a b : List Int} (ha : InB qq a) (hb : InB qq b) (la : a.length = 8) (lb : b.length = 8) : upto (timU mulFn add64 a b) 0 4 (List.replicate 8 0) = timesW a b := by
  have h := upto_inv (f := timU mulFn add64 a b) (TimO a b) (n := 4) (fun u o hu ho => timU_step ha hb la lb hu ho) 4 0 (List.replicate 8 0) (by omega) ⟨by simp, InB.zeros qq_pos 8, fun i _ => by
    rw [List.getD_eq_getElem?_getD, List.getElem?_replicate]; split <;> rfl, by rw [vd_zeros]; simp [vd]⟩
  exact eq_dg' qq_pos h.inb h.len h.val
theorem ofL_in (b : List Int) : (ofL b).length = 8 ∧ InB qq (ofL b) := ⟨dg_length _ _, dg_in qq_pos _ _⟩
theorem ofL_val {b : List Int} (hb : AllBy b) (hl : b.length ≤ 64) : vd qq (ofL b) = vd 256 b := by
  unfold ofL
  have h1 := vd_nonneg (by decide) (show InB 256 b from hb)
  have h2 := vd_lt (by decide) (show InB 256 b from hb)
  have e : (256 : Int) ^ 64 = qq ^ 8 := by decide +kernel
  have h3 : (256 : Int) ^ b.length ≤ 256 ^ 64 := ipow_le (by decide) hl
  rw [vd_dg qq_pos, Int.emod_eq_of_lt h1 (by rw [← e]; omega)]
theorem ofL_take {b : List Int} (hb : AllBy b) (hl : b.length = 32) : vd qq ((ofL b).take 4) = vd 256 b := by
  unfold ofL
  have h1 := vd_nonneg (by decide) (show InB 256 b from hb)
  have h2 := vd_lt (by decide) (show InB 256 b from hb)
  have e : (256 : Int) ^ 32 = qq ^ 4 := by decide +kernel
  rw [hl] at h2
  rw [dg_take qq_pos (by decide), vd_dg qq_pos, Int.emod_eq_of_lt h1 (by rw [← e]; exact h2)]
end Go.Proofs.YthdfifcgobfgdaaGreat
end

section
set_option linter.unusedVariables false
set_option linter.unusedSimpArgs false
namespace Go.Proofs.YthdfifcgobfgdaaGreat
open Go Go.Ev BJ
set_option maxRecDepth 1000000
abbrev cW : Cod LV (List Int) := vRow .u64 8
abbrev wA : Cod (List LV) (List Int × Unit) := lCons cW lNil
abbrev w2A : Cod (List LV) (List Int × List Int × Unit) := lCons cW (lCons cW lNil)
abbrev iW : Cod (Option Ev.Item) (List Int) := iRow 93 .u64 8
abbrev iB : Cod (Option Ev.Item) (List Int) := iRow 22 .u8 32
abbrev rwB (i : Nat) : Wk := .rowB i 0 8 .u64
abbrev nPW (r : List Int × Int) : LV := .tup [.agg [.arr (.int .u64) 8 r.1], .sc (.int .u64 (.sym r.2))]
def okW (w : List Int) : Prop := w.length = 8 ∧ InB 18446744073709551616 w
def okB (b : List Int) : Prop := b.length = 32 ∧ AllBy b
theorem take8 {w : List Int} (h : okW w) : List.take 8 (List.drop 0 w) = w := take_all h.1
def eWW (g : List Int → List Int → List Int) : Ent := Ent.ofS [] w2A lNil fun x _ => .leaf (some (okW x.1 ∧ okW x.2.1)) (nRow .u64 8 (g x.1 x.2.1)) []
def eLess (g : List Int → List Int → List Int × Int) : Ent := Ent.ofS [] w2A lNil fun x _ => .leaf (some (okW x.1 ∧ okW x.2.1)) (nPW (g x.1 x.2.1)) []
abbrev wiA : Cod (List LV) (List Int × Int × Unit) := lCons cW (lCons (vOne (sInt .i64)) lNil)
def eBit (g : List Int → Int → Int) : Ent := Ent.ofS [] wiA lNil fun x _ => .leaf (some (okW x.1 ∧ 0 ≤ x.2.1 ∧ x.2.1 < 512)) (nU (g x.1 x.2.1)) []
def e0W (c : List Int) : Ent := Ent.ofS [] lNil lNil fun _ _ => .leaf none (nRow .u64 8 c) []
def eWB (g : List Int → List Int) : Ent := Ent.ofS [] wA lNil fun x _ => .leaf (some (okW x.1)) (nRow .u8 32 (g x.1)) []
def eOf (g : List Int → List Int) : Ent := Ent.ofS [some u8] bA lNil fun x _ => .leaf (some (AllBy x.1 ∧ x.1.length ≤ 64)) (nRow .u64 8 (g x.1)) []
noncomputable abbrev soFn : Func := Tryz.f58
abbrev soC : Cod (List LV) (List Int × Int × Int × Unit) := (jk 2 (lSkip (vOne (sPtr 0 0)) (lSkip (vOne (sPtr 1 0)) (jk 2 (lCons (vOne (sRd false false u8)) (lCons (vOne (sInt .i64)) (lCons (vOne (sInt .i64)) (jk 18 lNil))))))))
abbrev soCf : Wk := .fr (fmS 27 [(2, .keep), (3, .keep), (6, .keep), (7, .sym), (8, .sym)])
abbrev soX : Cod (List LV) (Unit) := (jk 2 (lSkip (vOne (sPtr 0 0)) (lSkip (vOne (sPtr 1 0)) (jk 23 lNil))))
abbrev soXf : Wk := .fr (fmS 27 [(2, .keep), (3, .keep)])
abbrev soH : Cod Hp (List Int × List Int × Unit) := lCons iW (lCons iW lNil)
def soW : Exit → List Wk
  | .normal => [soCf, rwB 0, rwB 1, .auto]
  | .exit 0 => [soXf, rwB 0, rwB 1, .auto]
  | _ => []
theorem so_rnd (b : List Int) (n i : Int) (r m : List Int) : rndT Tryz.prog [] [] soFn 0 [] soW ((stC soC soH).wr ((b, n, i, ()), (r, m, ()))) =
  Res.ite (decide (i < n)) (Res.need ((0 : Int) ≤ i ∧ i < (↑b.length : Int)) (Res.need ((0 : Int) ≤ IntKind.i64.wrap (i.tdiv (8 : Int)) ∧
  IntKind.i64.wrap (i.tdiv (8 : Int)) < (8 : Int)) (Res.need ((0 : Int) ≤ IntKind.i64.wrap (i.tmod (8 : Int) * (8 : Int))) (Res.need ((0 : Int) ≤
  IntKind.i64.wrap (i.tdiv (8 : Int)) ∧ IntKind.i64.wrap (i.tdiv (8 : Int)) < (8 : Int)) (Res.leaf Exit.normal ((stC soC soH).wr ((b, n, IntKind.i64.wrap
  (i + (1 : Int)), PUnit.unit), r, m.set ((0 : Nat) + (IntKind.i64.wrap (i.tdiv (8 : Int))).toNat) (bitOr IntKind.u64 ((List.take (8 : Nat) (List.drop (0
  : Nat) m)).getD (IntKind.i64.wrap (i.tdiv (8 : Int))).toNat (0 : Int)) (shl IntKind.u64 (IntKind.u64.wrap (b.getD i.toNat (0 : Int))) (IntKind.i64.wrap
  (i.tmod (8 : Int) * (8 : Int))))), PUnit.unit))))))) (Res.leaf (Exit.exit (0 : Nat)) ((stC soX soH).wr (PUnit.unit, r, m, PUnit.unit))) := by kernel_rfl
def soLF (g : List Int → List Int) (x : (List Int × Int × Int × Unit) × List Int × List Int × Unit) : Res := .need (AllBy x.1.1 ∧ x.1.1.length ≤ 64 ∧ x.1.2.1 = x.1.1.length ∧ x.1.2.2.1 = 0 ∧ x.2.2.1 = List.replicate 8 0) (.leaf (.exit 0) ((stC soX soH).wr ((), (x.2.1, g x.1.1, ()))))
theorem tmod8 (k : Nat) : IntKind.i64.wrap ((k : Int).tmod 8 * 8) = ((k % 8 * 8 : Nat) : Int) := by
  rw [show (k : Int).tmod 8 = ((k % 8 : Nat) : Int) from tmodN k 8, wrap_ok (by omega) (by omega)]; omega
theorem ofL_nil : ofL [] = List.replicate 8 0 := dg_zero qq_pos 8
theorem so_loop (x) : Ex Tryz.prog [] (.loop (loopAt soFn 0)) ((stC soC soH).wr x) (soLF ofL x) := by
  obtain ⟨⟨b, n, i, _⟩, r, m, _⟩ := x
  refine Ex.need fun ⟨h1, h2, h3, h4, h5⟩ => ?_
  simp only at h1 h2 h3 h4 h5
  subst h3 h4 h5
  have key := loopUp (fn := soFn) (id := 0) (j := 0) (ws := soW) (hp := []) mixed tab0 (LOk.nil _) b.length (fun k (_ : Unit) => (stC soC soH).wr ((b, (b.length : Int), (k : Int), ()), (r, ofL (b.take k), ()))) (fun _ => (stC soX soH).wr ((), (r, ofL b, ()))) (fun _ u => u) (fun _ _ => True)
    (fun k o R hk _ hn hx => ?_) (fun _ _ _ _ => trivial) 0 () (by omega) trivial
  · rw [List.take_zero, ofL_nil] at key; exact key
  rw [so_rnd]
  refine ⟨fun hb => ?_, fun hb => ?_⟩
  · have hk' : k < b.length := by have := of_decide_eq_true hb; omega
    have e1 : IntKind.i64.wrap ((k : Int).tdiv 8) = ((k / 8 : Nat) : Int) := tdiv_nat k 8 (by omega)
    rw [e1, tmod8, take_all (ofL_in _).1, Int.toNat_natCast, Int.toNat_natCast, Nat.zero_add, of_step h1 h2 hk', wrap_succ k (by omega)]
    exact ⟨by omega, by omega, by omega, by omega, hn hk'⟩
  · have : k = b.length := by have := of_decide_eq_false hb; omega
    subst this
    have := hx rfl
    rw [List.take_length]; exact this
noncomputable abbrev soLT (g : List Int → List Int) : LTab := [(0, loopF (stC soC soH) 0 [soCf, rwB 0, rwB 1, .auto] (soLF g))]
noncomputable abbrev sofE : Ent := eOf ofL
theorem sof_tree (g : List Int → List Int) (b : List Int) : fnT Tryz.prog [] (soLT g) soFn (bA.wr (b, ())) [] [.fr [.sym], .rowF 0 0 8 .u64, .auto] =
  End.need (AllBy b ∧ b.length ≤ (64 : Nat) ∧ (↑b.length : Int) = (↑b.length : Int) ∧ (0 : Int) = (0 : Int) ∧ [(0 : Int), (0 : Int), (0 : Int), (0 :
  Int), (0 : Int), (0 : Int), (0 : Int), (0 : Int)] = List.replicate (8 : Nat) (0 : Int)) (End.leaf (LV.one (VV.agg [SV.arr (Ty.int IntKind.u64) (8 :
  Nat) (g b)])) []) := by kernel_rfl
theorem sof_ok : sofE.Ok Tryz.prog 58 := by
  refine (Ent.ofOk Tryz.call58 fun x_ y_ Q H_ => ?_).sym
  obtain ⟨b, _⟩ := x_
  obtain ⟨hn, hq⟩ := H_
  have hn : AllBy b ∧ b.length ≤ 64 := hn
  refine (fnT_ok mixed tab0 Tryz.func58 rfl (LT := soLT ofL) (ks := [.fr [.sym], .rowF 0 0 8 .u64, .auto]) (LOk.ofTab (LTC rfl (loopF_ok (hp := []) so_loop) LT0))).use (D := []) ?_ hq
  show (fnT _ _ _ _ (bA.wr (b, ())) [] _).sat _
  rw [sof_tree]
  exact ⟨⟨hn.1, hn.2, rfl, rfl, rfl⟩, rfl, rfl⟩
noncomputable abbrev byFn : Func := Tryz.f112
abbrev byC : Cod (List LV) (Int × Unit) := (jk 1 (lSkip (vOne (sPtr 0 0)) (lSkip (vOne (sPtr 1 0)) (lSkip (vOne (sPtr 2 0)) (jk 1 (lCons (vOne (sInt .i64)) (jk 15 lNil)))))))
abbrev byCf : Wk := .fr (fmS 21 [(1, .keep), (2, .keep), (3, .keep), (5, .sym)])
abbrev byX : Cod (List LV) (Unit) := (jk 2 (lSkip (vOne (sPtr 1 0)) (lSkip (vOne (sPtr 2 0)) (jk 17 lNil))))
abbrev byXf : Wk := .fr (fmS 21 [(2, .keep), (3, .keep)])
abbrev byH : Cod Hp (List Int × List Int × List Int × Unit) := lCons iW (lCons iB (lCons iB lNil))
def byW : Exit → List Wk
  | .normal => [byCf, rwB 0, .rowB 1 0 32 .u8, .rowB 2 0 32 .u8, .auto]
  | .exit 0 => [byXf, rwB 0, .rowB 1 0 32 .u8, .rowB 2 0 32 .u8]
  | _ => []
theorem by_rnd (i : Int) (w r o : List Int) : rndT Tryz.prog [] [] byFn 0 [] byW ((stC byC byH).wr ((i, ()), (w, r, o, ()))) =
  Res.ite (decide (i < (32 : Int))) (Res.need ((0 : Int) ≤ IntKind.i64.wrap (i.tdiv (8 : Int)) ∧ IntKind.i64.wrap (i.tdiv (8 : Int)) < (8 : Int))
  (Res.need ((0 : Int) ≤ IntKind.i64.wrap (i.tmod (8 : Int) * (8 : Int))) (Res.need ((0 : Int) ≤ i ∧ i < (32 : Int)) (Res.leaf Exit.normal ((stC byC
  byH).wr ((IntKind.i64.wrap (i + (1 : Int)), PUnit.unit), w, r, o.set ((0 : Nat) + i.toNat) (IntKind.u8.wrap (shr IntKind.u64 ((List.take (8 : Nat)
  (List.drop (0 : Nat) w)).getD (IntKind.i64.wrap (i.tdiv (8 : Int))).toNat (0 : Int)) (IntKind.i64.wrap (i.tmod (8 : Int) * (8 : Int))))),
  PUnit.unit)))))) (Res.leaf (Exit.exit (0 : Nat)) ((stC byX byH).wr (PUnit.unit, w, r, o, PUnit.unit))) := by kernel_rfl
def byLF (g : List Int → List Int) (x : (Int × Unit) × List Int × List Int × List Int × Unit) : Res := .need (x.1.1 = 0 ∧ okW x.2.1 ∧ x.2.2.2.1.length = 32) (.leaf (.exit 0) ((stC byX byH).wr ((), (x.2.1, x.2.2.1, g x.2.1, ()))))
theorem by_loop (x) : Ex Tryz.prog [] (.loop (loopAt byFn 0)) ((stC byC byH).wr x) (byLF bytesW x) := by
  obtain ⟨⟨i, _⟩, w, r, o, _⟩ := x
  refine Ex.need fun ⟨h1, h2, h3⟩ => ?_
  simp only at h1 h2 h3
  subst h1
  have key := loopUp (fn := byFn) (id := 0) (j := 0) (ws := byW) (hp := []) mixed tab0 (LOk.nil _) 32 (fun k o => (stC byC byH).wr (((k : Int), ()), (w, r, o, ()))) (fun o => (stC byX byH).wr ((), (w, r, o, ()))) (fun k o => o.set k (vd qq w / 256 ^ k % 256)) (fun _ _ => True)
    (fun k o R hk _ hn hx => ?_) (fun _ _ _ _ => trivial) 0 o (by omega) trivial
  · rw [Nat.sub_zero, upto_fill (fun k => vd qq w / 256 ^ k % 256) h3, dg_map (by decide)] at key; exact key
  rw [by_rnd]
  refine ⟨fun hb => ?_, fun hb => ?_⟩
  · have hk' : k < 32 := by have := of_decide_eq_true hb; omega
    have e1 : IntKind.i64.wrap ((k : Int).tdiv 8) = ((k / 8 : Nat) : Int) := tdiv_nat k 8 (by omega)
    rw [e1, tmod8, take8 h2, Int.toNat_natCast, Int.toNat_natCast, Nat.zero_add, by_digit h2.2 h2.1 (by omega), wrap_succ k (by omega)]
    exact ⟨by omega, by omega, by omega, hn hk'⟩
  · have : k = 32 := by have := of_decide_eq_false hb; omega
    exact hx this
noncomputable abbrev byLT (g : List Int → List Int) : LTab := [(0, loopF (stC byC byH) 0 [byCf, rwB 0, .rowB 1 0 32 .u8, .rowB 2 0 32 .u8, .auto] (byLF g))]
noncomputable abbrev sbytesE : Ent := eWB bytesW
theorem sbytes_tree (g : List Int → List Int) (w : List Int) : fnT Tryz.prog [] (byLT g) byFn (wA.wr (w, ())) [] kR =
  End.need ((0 : Int) = (0 : Int) ∧ okW w ∧ (32 : Nat) = (32 : Nat)) (End.leaf (LV.one (VV.agg [SV.arr (Ty.int IntKind.u8) (32 : Nat) (g w)])) []) := by kernel_rfl
theorem sbytes_ok : sbytesE.Ok Tryz.prog 112 := by
  refine (Ent.ofOk Tryz.call112 fun x_ y_ Q H_ => ?_).sym
  obtain ⟨w, _⟩ := x_
  obtain ⟨hn, hq⟩ := H_
  have hn : okW w := hn
  refine (fnT_ok mixed tab0 Tryz.func112 rfl (LT := byLT bytesW) (ks := kR) (LOk.ofTab (LTC rfl (loopF_ok (hp := []) by_loop) LT0))).use (D := []) ?_ hq
  show (fnT _ _ _ _ (wA.wr (w, ())) [] _).sat _
  rw [sbytes_tree]
  exact ⟨⟨rfl, hn, rfl⟩, rfl, rfl⟩
noncomputable abbrev leFn : Func := Tryz.f96
abbrev leC : Cod (List LV) (Int × Int × Unit) := (jk 2 (lSkip (vOne (sPtr 0 0)) (lSkip (vOne (sPtr 1 0)) (lSkip (vOne (sPtr 2 0)) (jk 1 (lCons (vOne (sInt .u64)) (jk 1 (lCons (vOne (sInt .i64)) (jk 18 lNil)))))))))
abbrev leCf : Wk := .fr (fmS 27 [(2, .keep), (3, .keep), (4, .keep), (6, .sym), (8, .sym)])
abbrev leX : Cod (List LV) (Int × Unit) := (jk 2 (lSkip (vOne (sPtr 0 0)) (jk 1 (lSkip (vOne (sPtr 2 0)) (jk 1 (lCons (vOne (sInt .u64)) (jk 20 lNil)))))))
abbrev leXf : Wk := .fr (fmS 27 [(2, .keep), (4, .keep), (6, .sym)])
abbrev w3H : Cod Hp (List Int × List Int × List Int × Unit) := lCons iW (lCons iW (lCons iW lNil))
def leW : Exit → List Wk
  | .normal => [leCf, rwB 0, rwB 1, rwB 2, .auto]
  | .exit 0 => [leXf, rwB 0, rwB 1, rwB 2]
  | _ => []
theorem le_rnd (sb : Int → Int → Int → Int × Int) (c i : Int) (w x r : List Int) : rndT Tryz.prog [(139, (onceE sb).sym)] [] leFn 0 [] leW ((stC leC w3H).wr ((c, i, ()), (w, x, r, ()))) =
  Res.ite (decide (i < (8 : Int))) (Res.need ((0 : Int) ≤ i ∧ i < (8 : Int)) (Res.need ((0 : Int) ≤ i ∧ i < (8 : Int)) (Res.need ((0 : Int) ≤ c ∧ c ≤ (1
  : Int)) (Res.need ((0 : Int) ≤ i ∧ i < (8 : Int)) (Res.leaf Exit.normal ((stC leC w3H).wr (((sb ((List.take (8 : Nat) (List.drop (0 : Nat) w)).getD
  i.toNat (0 : Int)) ((List.take (8 : Nat) (List.drop (0 : Nat) x)).getD i.toNat (0 : Int)) c).snd, IntKind.i64.wrap (i + (1 : Int)), PUnit.unit), w.set
  ((0 : Nat) + i.toNat) (sb ((List.take (8 : Nat) (List.drop (0 : Nat) w)).getD i.toNat (0 : Int)) ((List.take (8 : Nat) (List.drop (0 : Nat) x)).getD
  i.toNat (0 : Int)) c).fst, x, r, PUnit.unit))))))) (Res.leaf (Exit.exit (0 : Nat)) ((stC leX w3H).wr ((c, PUnit.unit), w, x, r, PUnit.unit))) := by kernel_rfl
def leLF (g : List Int → List Int → List Int × Int) (x : (Int × Int × Unit) × List Int × List Int × List Int × Unit) : Res := .need (x.1.1 = 0 ∧ x.1.2.1 = 0 ∧ okW x.2.1 ∧ okW x.2.2.1) (.leaf (.exit 0) ((stC leX w3H).wr (((g x.2.1 x.2.2.1).2, ()), ((g x.2.1 x.2.2.1).1, x.2.2.1, x.2.2.2.1, ()))))
abbrev sub64E : Ent := (onceE sub64).sym
theorem sub64_ok : sub64E.Ok Tryz.prog 139 := (sub64_once Tryz.func139 (by kernel_rfl) (by kernel_rfl) (by kernel_rfl) (by kernel_rfl) rfl).sym
theorem sbTab_ok : ∀ p ∈ [(139, (onceE sub64).sym)], p.2.Ok Tryz.prog p.1 := tabC sub64_ok tab0
theorem le_loop (x) : Ex Tryz.prog [] (.loop (loopAt leFn 0)) ((stC leC w3H).wr x) (leLF lessW x) := by
  obtain ⟨⟨c, i, _⟩, w, x, r, _⟩ := x
  refine Ex.need fun ⟨h1, h2, h3, h4⟩ => ?_
  simp only at h1 h2 h3 h4
  subst h1 h2
  have key := loopUp (fn := leFn) (id := 0) (j := 0) (ws := leW) (hp := []) mixed sbTab_ok (LOk.nil _) 8 (fun k (o : List Int × Int) => (stC leC w3H).wr ((o.2, (k : Int), ()), (o.1, x, r, ()))) (fun (o : List Int × Int) => (stC leX w3H).wr ((o.2, ()), (o.1, x, r, ()))) (lessF sub64 x) (LessI w x)
    (fun k o R hk hi hn hx => ?_) (fun k o hk hi => less_step h3.2 h4.2 h3.1 h4.1 hk hi) 0 (w, 0) (by omega) ⟨⟨h3.1, h3.2, fun _ _ => rfl⟩, .inl rfl, by simp [vd]⟩
  · rw [Nat.sub_zero, less_all h3.2 h4.2 h3.1 h4.1] at key; exact key
  rw [le_rnd sub64]
  refine ⟨fun hb => ?_, fun hb => ?_⟩
  · have hk' : k < 8 := by have := of_decide_eq_true hb; omega
    rw [take_all hi.1.len, take8 h4, Int.toNat_natCast, Nat.zero_add, wrap_succ k (by omega)]
    exact ⟨by omega, by omega, (by rcases hi.2.1 with e | e <;> rw [e] <;> decide), by omega, hn hk'⟩
  · have : k = 8 := by have := of_decide_eq_false hb; omega
    exact hx this
noncomputable abbrev leLT (g : List Int → List Int → List Int × Int) : LTab := [(0, loopF (stC leC w3H) 0 [leCf, rwB 0, rwB 1, rwB 2, .auto] (leLF g))]
noncomputable abbrev slessE : Ent := eLess lessW
theorem sless_tree (sb : Int → Int → Int → Int × Int) (g : List Int → List Int → List Int × Int) (w x : List Int) : fnT Tryz.prog [(139, (onceE sb).sym)] (leLT g) leFn (w2A.wr (w, x, ())) [] [.fr [.sym], .rowF 0 0 8 .u64, .auto] =
  End.need ((0 : Int) = (0 : Int) ∧ (0 : Int) = (0 : Int) ∧ okW w ∧ okW x) (End.leaf (LV.tup [VV.agg [SV.arr (Ty.int IntKind.u64) (8 : Nat) (g w x).fst],
  VV.sc (SV.int IntKind.u64 (SI.sym (g w x).snd))]) []) := by kernel_rfl
theorem sless_ok : slessE.Ok Tryz.prog 96 := by
  refine (Ent.ofOk Tryz.call96 fun x_ y_ Q H_ => ?_).sym
  obtain ⟨w, x, _⟩ := x_
  obtain ⟨hn, hq⟩ := H_
  have hn : okW w ∧ okW x := hn
  refine (fnT_ok mixed sbTab_ok Tryz.func96 rfl (LT := leLT lessW) (ks := [.fr [.sym], .rowF 0 0 8 .u64, .auto]) (LOk.ofTab (LTC rfl (loopF_ok (hp := []) le_loop) LT0))).use (D := []) ?_ hq
  show (fnT _ _ _ _ (w2A.wr (w, x, ())) [] _).sat _
  rw [sless_tree sub64]
  exact ⟨⟨rfl, rfl, hn.1, hn.2⟩, rfl, rfl⟩
noncomputable abbrev anFn : Func := Tryz.f69
abbrev anC : Cod (List LV) (Int × Int × Unit) := (jk 2 (lSkip (vOne (sPtr 0 0)) (lSkip (vOne (sPtr 1 0)) (lSkip (vOne (sPtr 2 0)) (lCons (vOne (sInt .u64)) (jk 1 (lCons (vOne (sInt .i64)) (jk 17 lNil))))))))
abbrev anCf : Wk := .fr (fmS 25 [(2, .keep), (3, .keep), (4, .keep), (5, .sym), (7, .sym)])
abbrev anX : Cod (List LV) (Unit) := (jk 2 (lSkip (vOne (sPtr 0 0)) (jk 1 (lSkip (vOne (sPtr 2 0)) (jk 20 lNil)))))
abbrev anXf : Wk := .fr (fmS 25 [(2, .keep), (4, .keep)])
def anW : Exit → List Wk
  | .normal => [anCf, rwB 0, rwB 1, rwB 2, .auto]
  | .exit 0 => [anXf, rwB 0, rwB 1, rwB 2]
  | _ => []
theorem an_rnd (ad : Int → Int → Int → Int × Int) (c i : Int) (w x r : List Int) : rndT Tryz.prog [(123, (onceE ad).sym)] [] anFn 0 [] anW ((stC anC w3H).wr ((c, i, ()), (w, x, r, ()))) =
  Res.ite (decide (i < (8 : Int))) (Res.need ((0 : Int) ≤ i ∧ i < (8 : Int)) (Res.need ((0 : Int) ≤ i ∧ i < (8 : Int)) (Res.need ((0 : Int) ≤ c ∧ c ≤ (1
  : Int)) (Res.need ((0 : Int) ≤ i ∧ i < (8 : Int)) (Res.leaf Exit.normal ((stC anC w3H).wr (((ad ((List.take (8 : Nat) (List.drop (0 : Nat) w)).getD
  i.toNat (0 : Int)) ((List.take (8 : Nat) (List.drop (0 : Nat) x)).getD i.toNat (0 : Int)) c).snd, IntKind.i64.wrap (i + (1 : Int)), PUnit.unit), w.set
  ((0 : Nat) + i.toNat) (ad ((List.take (8 : Nat) (List.drop (0 : Nat) w)).getD i.toNat (0 : Int)) ((List.take (8 : Nat) (List.drop (0 : Nat) x)).getD
  i.toNat (0 : Int)) c).fst, x, r, PUnit.unit))))))) (Res.leaf (Exit.exit (0 : Nat)) ((stC anX w3H).wr (PUnit.unit, w, x, r, PUnit.unit))) := by kernel_rfl
def anLF (g : List Int → List Int → List Int) (x : (Int × Int × Unit) × List Int × List Int × List Int × Unit) : Res := .need (x.1.1 = 0 ∧ x.1.2.1 = 0 ∧ okW x.2.1 ∧ okW x.2.2.1) (.leaf (.exit 0) ((stC anX w3H).wr ((), (g x.2.1 x.2.2.1, x.2.2.1, x.2.2.2.1, ()))))
theorem adTab_ok : ∀ p ∈ [(123, (onceE add64).sym)], p.2.Ok Tryz.prog p.1 := tabC add64_ok tab0
theorem an_loop (x) : Ex Tryz.prog [] (.loop (loopAt anFn 0)) ((stC anC w3H).wr x) (anLF sumW x) := by
  obtain ⟨⟨c, i, _⟩, w, x, r, _⟩ := x
  refine Ex.need fun ⟨h1, h2, h3, h4⟩ => ?_
  simp only at h1 h2 h3 h4
  subst h1 h2
  have key := loopUp (fn := anFn) (id := 0) (j := 0) (ws := anW) (hp := []) mixed adTab_ok (LOk.nil _) 8 (fun k (o : List Int × Int) => (stC anC w3H).wr ((o.2, (k : Int), ()), (o.1, x, r, ()))) (fun (o : List Int × Int) => (stC anX w3H).wr ((), (o.1, x, r, ()))) (addcF add64 x) (SumI w x)
    (fun k o R hk hi hn hx => ?_) (fun k o hk hi => sum_step h3.2 h4.2 h3.1 h4.1 hk hi) 0 (w, 0) (by omega) ⟨⟨h3.1, h3.2, fun _ _ => rfl⟩, .inl rfl, by simp [vd]⟩
  · rw [Nat.sub_zero, sum_all h3.2 h4.2 h3.1 h4.1] at key; exact key
  rw [an_rnd add64]
  refine ⟨fun hb => ?_, fun hb => ?_⟩
  · have hk' : k < 8 := by have := of_decide_eq_true hb; omega
    rw [take_all hi.1.len, take8 h4, Int.toNat_natCast, Nat.zero_add, wrap_succ k (by omega)]
    exact ⟨by omega, by omega, (by rcases hi.2.1 with e | e <;> rw [e] <;> decide), by omega, hn hk'⟩
  · have : k = 8 := by have := of_decide_eq_false hb; omega
    exact hx this
noncomputable abbrev anLT (g : List Int → List Int → List Int) : LTab := [(0, loopF (stC anC w3H) 0 [anCf, rwB 0, rwB 1, rwB 2, .auto] (anLF g))]
noncomputable abbrev sandE : Ent := eWW sumW
theorem sand_tree (ad : Int → Int → Int → Int × Int) (g : List Int → List Int → List Int) (w x : List Int) : fnT Tryz.prog [(123, (onceE ad).sym)] (anLT g) anFn (w2A.wr (w, x, ())) [] [.fr [.sym], .rowF 0 0 8 .u64, .auto] =
  End.need ((0 : Int) = (0 : Int) ∧ (0 : Int) = (0 : Int) ∧ okW w ∧ okW x) (End.leaf (LV.one (VV.agg [SV.arr (Ty.int IntKind.u64) (8 : Nat) (g w x)]))
  []) := by kernel_rfl
theorem sand_ok : sandE.Ok Tryz.prog 69 := by
  refine (Ent.ofOk Tryz.call69 fun x_ y_ Q H_ => ?_).sym
  obtain ⟨w, x, _⟩ := x_
  obtain ⟨hn, hq⟩ := H_
  have hn : okW w ∧ okW x := hn
  refine (fnT_ok mixed adTab_ok Tryz.func69 rfl (LT := anLT sumW) (ks := [.fr [.sym], .rowF 0 0 8 .u64, .auto]) (LOk.ofTab (LTC rfl (loopF_ok (hp := []) an_loop) LT0))).use (D := []) ?_ hq
  show (fnT _ _ _ _ (w2A.wr (w, x, ())) [] _).sat _
  rw [sand_tree add64]
  exact ⟨⟨rfl, rfl, hn.1, hn.2⟩, rfl, rfl⟩
noncomputable abbrev swbitE : Ent := eBit bitW
theorem swbit_tree (w : List Int) (i : Int) : fnT Tryz.prog [] [] Tryz.f111 (wiA.wr (w, i, ())) [] kK =
  End.need ((0 : Int) ≤ IntKind.i64.wrap (i.tdiv (64 : Int)) ∧ IntKind.i64.wrap (i.tdiv (64 : Int)) < (8 : Int)) (End.need ((0 : Int) ≤ i.tmod (64 :
  Int)) (End.leaf (LV.one (VV.sc (SV.int IntKind.u64 (SI.sym (bitAnd IntKind.u64 (shr IntKind.u64 ((List.take (8 : Nat) (List.drop (0 : Nat) w)).getD
  (IntKind.i64.wrap (i.tdiv (64 : Int))).toNat (0 : Int)) (i.tmod (64 : Int))) (1 : Int)))))) [])) := by kernel_rfl
theorem swbit_ok : swbitE.Ok Tryz.prog 111 := by
  refine (Ent.ofOk Tryz.call111 fun x_ y_ Q H_ => ?_).sym
  obtain ⟨w, i, _⟩ := x_
  obtain ⟨hn, hq⟩ := H_
  have hn : okW w ∧ 0 ≤ i ∧ i < 512 := hn
  refine (fnT_ok mixed tab0 Tryz.func111 rfl (LT := []) (ks := kK) (LOk.nil _)).use (D := []) ?_ hq
  show (fnT _ _ _ _ (wiA.wr (w, i, ())) [] _).sat _
  rw [swbit_tree]
  obtain ⟨hw, h0, h1⟩ := hn
  obtain ⟨k, rfl⟩ := Int.eq_ofNat_of_zero_le h0
  have hk : k < 512 := by omega
  have e1 : IntKind.i64.wrap ((k : Int).tdiv 64) = ((k / 64 : Nat) : Int) := tdiv_nat k 64 (by omega)
  rw [e1, show (k : Int).tmod 64 = ((k % 64 : Nat) : Int) from tmodN k 64, take8 hw, Int.toNat_natCast, bit_digit hw.2 hw.1 hk]
  exact ⟨by omega, by omega, rfl, rfl⟩
noncomputable abbrev sorderE : Ent := e0W orderL
theorem sorder_tree : fnT Tryz.prog [] [] Tryz.f97 [] [] [.fr [.sym], .rowF 0 0 8 .u64, .auto] = .leaf (nRow .u64 8 orderL) [] := by kernel_rfl
theorem sorder_ok : sorderE.Ok Tryz.prog 97 := by
  refine (Ent.ofOk Tryz.call97 fun x_ y_ Q H_ => ?_).sym
  refine (fnT_ok mixed tab0 Tryz.func97 rfl (LT := []) (ks := [.fr [.sym], .rowF 0 0 8 .u64, .auto]) (LOk.nil _)).use (D := []) ?_ H_.2
  show (fnT _ _ _ _ [] [] _).sat _
  rw [sorder_tree]
  exact ⟨rfl, rfl⟩
noncomputable abbrev reFn : Func := Tryz.f59
abbrev reC : Cod (List LV) (Int × Unit) := (jk 1 (lSkip (vOne (sPtr 0 0)) (lSkip (vOne (sPtr 1 0)) (lSkip (vOne (sPtr 2 0)) (lCons (vOne (sInt .i64)) (jk 27 lNil))))))
abbrev reCf : Wk := .fr (fmS 32 [(1, .keep), (2, .keep), (3, .keep), (4, .sym)])
abbrev reX : Cod (List LV) (Unit) := (jk 2 (lSkip (vOne (sPtr 1 0)) (lSkip (vOne (sPtr 2 0)) (jk 28 lNil))))
abbrev reXf : Wk := .fr (fmS 32 [(2, .keep), (3, .keep)])
abbrev reH : Cod Hp (List Int × List Int × List Int × Unit) := lCons iW (lCons iB (lCons iW lNil))
def reW : Exit → List Wk
  | .normal => [reCf, rwB 0, .rowB 1 0 32 .u8, rwB 2, .auto]
  | .exit 0 => [reXf, rwB 0, .rowB 1 0 32 .u8, rwB 2]
  | _ => []
noncomputable abbrev reTab (and : List Int → List Int → List Int) (less : List Int → List Int → List Int × Int) (bit : List Int → Int → Int) (o : List Int) : List (FuncId × Ent) := [(69, eWW and), (111, eBit bit), (96, eLess less), (97, e0W o)]
theorem re_rnd (and : List Int → List Int → List Int) (less : List Int → List Int → List Int × Int) (bit : List Int → Int → Int) (o : List Int) (i : Int) (w b r : List Int) : rndT Tryz.prog (reTab and less bit o) [] reFn 0 [] reW ((stC reC reH).wr ((i, ()), (w, b, r, ()))) =
  Res.ite (decide ((0 : Int) ≤ i)) (Res.need (okW r ∧ okW r) (Res.need (okW w ∧ (0 : Int) ≤ i ∧ i < (512 : Int)) (Res.need (okW ((and r r).set (0 : Nat)
  (bitOr IntKind.u64 ((and r r).getD (0 : Nat) (0 : Int)) (bit w i))) ∧ okW o) (Res.ite ((less ((and r r).set (0 : Nat) (bitOr IntKind.u64 ((and r
  r).getD (0 : Nat) (0 : Int)) (bit w i))) o).snd == (0 : Int)) (Res.leaf Exit.normal ((stC reC reH).wr ((IntKind.i64.wrap (i - (1 : Int)), PUnit.unit),
  w, b, (less ((and r r).set (0 : Nat) (bitOr IntKind.u64 ((and r r).getD (0 : Nat) (0 : Int)) (bit w i))) o).fst, PUnit.unit))) (Res.leaf Exit.normal
  ((stC reC reH).wr ((IntKind.i64.wrap (i - (1 : Int)), PUnit.unit), w, b, (and r r).set (0 : Nat) (bitOr IntKind.u64 ((and r r).getD (0 : Nat) (0 :
  Int)) (bit w i)), PUnit.unit))))))) (Res.leaf (Exit.exit (0 : Nat)) ((stC reX reH).wr (PUnit.unit, w, b, r, PUnit.unit))) := by kernel_rfl
theorem reTab_ok : ∀ p ∈ reTab sumW lessW bitW orderL, p.2.Ok Tryz.prog p.1 := tabC sand_ok (tabC swbit_ok (tabC sless_ok (tabC sorder_ok tab0)))
def reLF (g : List Int → List Int) (x : (Int × Unit) × List Int × List Int × List Int × Unit) : Res := .need (x.1.1 = 511 ∧ okW x.2.1 ∧ x.2.2.2.1 = List.replicate 8 0) (.leaf (.exit 0) ((stC reX reH).wr ((), (x.2.1, x.2.2.1, g x.2.1, ()))))
noncomputable def redR (w : List Int) : List Int := dg qq 8 (vd qq w % ll)
noncomputable def redAt (V : Int) (k : Nat) : List Int := dg qq 8 (V / 2 ^ (512 - k) % ll)
theorem redAt_put (V : Int) (k : Nat) (hk : k < 512) (b : Int) (hb : 0 ≤ b ∧ b < 2) : okW (redAt V k) ∧ okW (putBit (sumW (redAt V k) (redAt V k)) b) := by
  refine ⟨⟨dg_length _ _, dg_in qq_pos _ _⟩, ?_⟩
  have hR : 0 ≤ V / 2 ^ (512 - k) % ll ∧ V / 2 ^ (512 - k) % ll < ll := ⟨Int.emod_nonneg _ (by have := ll_pos; omega), Int.emod_lt_of_pos _ ll_pos⟩
  have es : sumW (redAt V k) (redAt V k) = dg qq 8 (V / 2 ^ (512 - k) % ll + V / 2 ^ (512 - k) % ll) := by
    unfold sumW redAt
    rw [vd_dg qq_pos, Int.emod_eq_of_lt hR.1 (Int.lt_of_lt_of_le (Int.lt_trans (by omega) ll_lt) qq8)]
  rw [es, put_bit hR hb]
  exact ⟨dg_length _ _, dg_in qq_pos _ _⟩
theorem re_loop (x) : Ex Tryz.prog [] (.loop (loopAt reFn 0)) ((stC reC reH).wr x) (reLF redR x) := by
  obtain ⟨⟨i, _⟩, w, b, r, _⟩ := x
  refine Ex.need fun ⟨h1, h2, h3⟩ => ?_
  simp only at h1 h2 h3
  subst h1 h3
  have hw0 := vd_nonneg qq_pos h2.2
  have hw1 := vd_lt qq_pos h2.2
  rw [h2.1] at hw1
  have key := loopUp (fn := reFn) (id := 0) (j := 0) (ws := reW) (hp := []) mixed reTab_ok (LOk.nil _) 512 (fun k (_ : Unit) => (stC reC reH).wr ((511 - (k : Int), ()), (w, b, redAt (vd qq w) k, ()))) (fun _ => (stC reX reH).wr ((), (w, b, redR w, ()))) (fun _ u => u) (fun _ _ => True)
    (fun k o R hk _ hn hx => ?_) (fun _ _ _ _ => trivial) 0 () (by omega) trivial
  · have e : redAt (vd qq w) 0 = List.replicate 8 0 := by
      unfold redAt
      have e : qq ^ 8 = 2 ^ 512 := by decide +kernel
      rw [Nat.sub_zero, Int.ediv_eq_zero_of_lt hw0 (by rw [← e]; exact hw1), Int.zero_emod, dg_zero qq_pos]
    rw [e] at key; exact key
  rw [re_rnd]
  refine ⟨fun hb => ?_, fun hb => ?_⟩
  · have hk' : k < 512 := by have := of_decide_eq_true hb; omega
    have e3 : IntKind.i64.wrap ((511 - (k : Int)) - 1) = 511 - ((k + 1 : Nat) : Int) := by rw [wrap_ok (by omega) (by omega)]; omega
    obtain ⟨g1, g2⟩ := redAt_put (vd qq w) k hk' (bitW w (511 - (k : Int))) (bitW_01 _ _)
    have hs : redF sumW lessW bitW orderL w k (redAt (vd qq w) k) = redAt (vd qq w) (k + 1) := red_step rfl hk'
    have hn' := hn hk'
    rw [e3]
    refine ⟨⟨g1, g1⟩, ⟨h2, by omega, by omega⟩, ⟨g2, order_in⟩, fun hc => ?_, fun hc => ?_⟩
    · have : redF sumW lessW bitW orderL w k (redAt (vd qq w) k) = (lessW (putBit (sumW (redAt (vd qq w) k) (redAt (vd qq w) k)) (bitW w (511 - (k : Int)))) orderL).1 := by
        have hc' : ((lessW (putBit (sumW (redAt (vd qq w) k) (redAt (vd qq w) k)) (bitW w (511 - (k : Int)))) orderL).2 == 0) = true := hc
        unfold redF; rw [hc']; rfl
      rw [← hs, this] at hn'; exact hn'
    · have : redF sumW lessW bitW orderL w k (redAt (vd qq w) k) = putBit (sumW (redAt (vd qq w) k) (redAt (vd qq w) k)) (bitW w (511 - (k : Int))) := by
        have hc' : ((lessW (putBit (sumW (redAt (vd qq w) k) (redAt (vd qq w) k)) (bitW w (511 - (k : Int)))) orderL).2 == 0) = false := hc
        unfold redF; rw [hc']; rfl
      rw [← hs, this] at hn'; exact hn'
  · have : k = 512 := by have := of_decide_eq_false hb; omega
    subst this
    have := hx rfl
    have e : redAt (vd qq w) 512 = redR w := by unfold redAt redR; rw [Nat.sub_self, Int.pow_zero, Int.ediv_one]
    rw [e]; exact this
noncomputable abbrev reLT (g : List Int → List Int) : LTab := [(0, loopF (stC reC reH) 0 [reCf, rwB 0, .rowB 1 0 32 .u8, rwB 2, .auto] (reLF g))]
noncomputable abbrev sredE : Ent := eWB redW
noncomputable abbrev reTab' (and : List Int → List Int → List Int) (less : List Int → List Int → List Int × Int) (bit : List Int → Int → Int) (o : List Int) (byt : List Int → List Int) : List (FuncId × Ent) := (112, eWB byt) :: reTab and less bit o
theorem reTab'_ok : ∀ p ∈ reTab' sumW lessW bitW orderL bytesW, p.2.Ok Tryz.prog p.1 := tabC sbytes_ok reTab_ok
theorem sred_tree (and : List Int → List Int → List Int) (less : List Int → List Int → List Int × Int) (bit : List Int → Int → Int) (o : List Int) (byt : List Int → List Int) (g : List Int → List Int) (w : List Int) : fnT Tryz.prog (reTab' and less bit o byt) (reLT g) reFn (wA.wr (w, ())) [] kR =
  End.need ((511 : Int) = (511 : Int) ∧ okW w ∧ [(0 : Int), (0 : Int), (0 : Int), (0 : Int), (0 : Int), (0 : Int), (0 : Int), (0 : Int)] = List.replicate
  (8 : Nat) (0 : Int)) (End.need (okW (g w)) (End.leaf (LV.one (VV.agg [SV.arr (Ty.int IntKind.u8) (32 : Nat) (byt (g w))])) [])) := by kernel_rfl
theorem redR_in (w : List Int) : okW (redR w) := ⟨dg_length _ _, dg_in qq_pos _ _⟩
theorem red_eq (w : List Int) : bytesW (redR w) = redW w := by
  unfold bytesW redW redR
  rw [vd_dg qq_pos, Int.emod_eq_of_lt (Int.emod_nonneg _ (by have := ll_pos; omega)) (Int.lt_of_lt_of_le (Int.lt_trans (Int.emod_lt_of_pos _ ll_pos) (by have := ll_lt; have := ll_pos; omega)) qq8)]
theorem sred_ok : sredE.Ok Tryz.prog 59 := by
  refine (Ent.ofOk Tryz.call59 fun x_ y_ Q H_ => ?_).sym
  obtain ⟨w, _⟩ := x_
  obtain ⟨hn, hq⟩ := H_
  have hn : okW w := hn
  refine (fnT_ok mixed reTab'_ok Tryz.func59 rfl (LT := reLT redR) (ks := kR) (LOk.ofTab (LTC rfl (loopF_ok (hp := []) re_loop) LT0))).use (D := []) ?_ hq
  show (fnT _ _ _ _ (wA.wr (w, ())) [] _).sat _
  rw [sred_tree]
  refine ⟨⟨rfl, hn, rfl⟩, redR_in w, ?_, rfl⟩
  rw [red_eq]
end Go.Proofs.YthdfifcgobfgdaaGreat
end

section
set_option linter.unusedVariables false
set_option linter.unusedSimpArgs false
namespace Go.Proofs.YthdfifcgobfgdaaGreat
open Go Go.Ev BJ
set_option maxRecDepth 1000000
noncomputable abbrev tiFn : Func := Tryz.f68
abbrev tjC : Cod (List LV) (Int × Int × Int × Int × Unit) := (jk 2 (lSkip (vOne (sPtr 0 0)) (lSkip (vOne (sPtr 1 0)) (lSkip (vOne (sPtr 2 0)) (lSkip (vOne (sPtr 3 0)) (lCons (vOne (sInt .i64)) (lCons (vOne (sInt .u64)) (jk 4 (lCons (vOne (sInt .i64)) (jk 2 (lCons (vOne (sInt .i64)) (jk 45 lNil))))))))))))
abbrev tjCf : Wk := .fr (fmS 61 [(2, .keep), (3, .keep), (4, .keep), (5, .keep), (6, .sym), (7, .sym), (12, .sym), (15, .sym)])
abbrev tjX : Cod (List LV) (Int × Int × Int × Unit) := (jk 2 (lSkip (vOne (sPtr 0 0)) (lSkip (vOne (sPtr 1 0)) (lSkip (vOne (sPtr 2 0)) (lSkip (vOne (sPtr 3 0)) (lCons (vOne (sInt .i64)) (lCons (vOne (sInt .u64)) (jk 4 (lCons (vOne (sInt .i64)) (jk 48 lNil))))))))))
abbrev tjXf : Wk := .fr (fmS 61 [(2, .keep), (3, .keep), (4, .keep), (5, .keep), (6, .sym), (7, .sym), (12, .sym)])
abbrev tiC : Cod (List LV) (Int × Unit) := (jk 2 (lSkip (vOne (sPtr 0 0)) (lSkip (vOne (sPtr 1 0)) (lSkip (vOne (sPtr 2 0)) (lSkip (vOne (sPtr 3 0)) (jk 6 (lCons (vOne (sInt .i64)) (jk 48 lNil))))))))
abbrev tiCf : Wk := .fr (fmS 61 [(2, .keep), (3, .keep), (4, .keep), (5, .keep), (12, .sym)])
abbrev tiX : Cod (List LV) (Unit) := (jk 4 (lSkip (vOne (sPtr 2 0)) (lSkip (vOne (sPtr 3 0)) (jk 55 lNil))))
abbrev tiXf : Wk := .fr (fmS 61 [(4, .keep), (5, .keep)])
abbrev tiH : Cod Hp (List Int × List Int × List Int × List Int × Unit) := lCons iW (lCons iW (lCons iW (lCons iW lNil)))
def tjW : Exit → List Wk
  | .normal => [tjCf, rwB 0, rwB 1, rwB 2, rwB 3, .auto]
  | .exit 2 => [tjXf, rwB 0, rwB 1, rwB 2, rwB 3, .auto]
  | _ => []
def eMul (mu : Int → Int → Int × Int) : Ent := Ent.ofS [] (lCons (vOne (sInt .u64)) (lCons (vOne (sInt .u64)) lNil)) lNil fun x _ => .leaf none (.tup [.sc (.int .u64 (.sym (mu x.1 x.2.1).1)), .sc (.int .u64 (.sym (mu x.1 x.2.1).2))]) []
noncomputable abbrev tiTab (ad : Int → Int → Int → Int × Int) (mu : Int → Int → Int × Int) : List (FuncId × Ent) := [(123, (onceE ad).sym), (122, eMul mu)]
theorem tj_rnd (ad : Int → Int → Int → Int × Int) (mu : Int → Int → Int × Int) (u c i j : Int) (a b r o : List Int) : rndT Tryz.prog (tiTab ad mu) [] tiFn 2 [] tjW ((stC tjC tiH).wr ((u, c, i, j, ()), (a, b, r, o, ()))) =
  Res.ite (decide (j < (4 : Int))) (Res.need ((0 : Int) ≤ u ∧ u < (8 : Int)) (Res.need ((0 : Int) ≤ j ∧ j < (8 : Int)) (Res.need ((0 : Int) ≤ (0 : Int) ∧
  (0 : Int) ≤ (1 : Int)) (Res.need ((0 : Int) ≤ IntKind.i64.wrap (u + j) ∧ IntKind.i64.wrap (u + j) < (8 : Int)) (Res.need ((0 : Int) ≤ (0 : Int) ∧ (0 :
  Int) ≤ (1 : Int)) (Res.need ((0 : Int) ≤ IntKind.i64.wrap (u + j) ∧ IntKind.i64.wrap (u + j) < (8 : Int)) (Res.leaf Exit.normal ((stC tjC tiH).wr ((u,
  IntKind.u64.wrap (IntKind.u64.wrap ((mu ((List.take (8 : Nat) (List.drop (0 : Nat) a)).getD u.toNat (0 : Int)) ((List.take (8 : Nat) (List.drop (0 :
  Nat) b)).getD j.toNat (0 : Int))).fst + (ad (mu ((List.take (8 : Nat) (List.drop (0 : Nat) a)).getD u.toNat (0 : Int)) ((List.take (8 : Nat) (List.drop
  (0 : Nat) b)).getD j.toNat (0 : Int))).snd c (0 : Int)).snd) + (ad ((List.take (8 : Nat) (List.drop (0 : Nat) o)).getD (IntKind.i64.wrap (u + j)).toNat
  (0 : Int)) (ad (mu ((List.take (8 : Nat) (List.drop (0 : Nat) a)).getD u.toNat (0 : Int)) ((List.take (8 : Nat) (List.drop (0 : Nat) b)).getD j.toNat
  (0 : Int))).snd c (0 : Int)).fst (0 : Int)).snd), i, IntKind.i64.wrap (j + (1 : Int)), PUnit.unit), a, b, r, o.set ((0 : Nat) + (IntKind.i64.wrap (u +
  j)).toNat) (ad ((List.take (8 : Nat) (List.drop (0 : Nat) o)).getD (IntKind.i64.wrap (u + j)).toNat (0 : Int)) (ad (mu ((List.take (8 : Nat) (List.drop
  (0 : Nat) a)).getD u.toNat (0 : Int)) ((List.take (8 : Nat) (List.drop (0 : Nat) b)).getD j.toNat (0 : Int))).snd c (0 : Int)).fst (0 : Int)).fst,
  PUnit.unit))))))))) (Res.leaf (Exit.exit (2 : Nat)) ((stC tjX tiH).wr ((u, c, i, PUnit.unit), a, b, r, o, PUnit.unit))) := by kernel_rfl
theorem mul64_as : mul64E = eMul mulFn := by kernel_rfl
theorem mul64'_ok : (eMul mulFn).Ok Tryz.prog 122 := mul64_as ▸ mul64_ok
theorem tiTab_ok : ∀ p ∈ tiTab add64 mulFn, p.2.Ok Tryz.prog p.1 := tabC add64_ok (tabC mul64'_ok tab0)
abbrev tjT : Type := (Int × Int × Int × Int × Unit) × List Int × List Int × List Int × List Int × Unit
def tjLF (g : List Int → List Int → Int → List Int → Int × List Int) (x : tjT) : Res := .need (x.1.2.2.2.1 = 0 ∧ x.1.2.1 = 0 ∧ 0 ≤ x.1.1 ∧ x.1.1 < 4 ∧ okW x.2.1 ∧ okW x.2.2.1 ∧ okW x.2.2.2.2.1) (.leaf (.exit 2) ((stC tjX tiH).wr ((x.1.1, (g x.2.1 x.2.2.1 x.1.1 x.2.2.2.2.1).1, x.1.2.2.1, ()), (x.2.1, x.2.2.1, x.2.2.2.1, (g x.2.1 x.2.2.1 x.1.1 x.2.2.2.2.1).2, ()))))
noncomputable def tjG (a b : List Int) (u : Int) (o : List Int) : Int × List Int := upto (timJ mulFn add64 a b u.toNat) 0 4 (0, o)
theorem tj_loop (x : tjT) : Ex Tryz.prog [] (.loop (loopAt tiFn 2)) ((stC tjC tiH).wr x) (tjLF tjG x) := by
  obtain ⟨⟨u, c, i, j, _⟩, a, b, r, o, _⟩ := x
  refine Ex.need fun ⟨h1, h2, h3, h4, h5, h6, h7⟩ => ?_
  simp only at h1 h2 h3 h4 h5 h6 h7
  subst h1 h2
  obtain ⟨u, rfl⟩ := Int.eq_ofNat_of_zero_le h3
  have hu : u < 4 := by omega
  have key := loopUp (fn := tiFn) (id := 2) (j := 2) (ws := tjW) (hp := []) mixed tiTab_ok (LOk.nil _) 4 (fun k (s : Int × List Int) => (stC tjC tiH).wr (((u : Int), s.1, i, (k : Int), ()), (a, b, r, s.2, ()))) (fun (s : Int × List Int) => (stC tjX tiH).wr (((u : Int), s.1, i, ()), (a, b, r, s.2, ()))) (timJ mulFn add64 a b u) (TimI a b o u)
    (fun k s R hk hi hn hx => ?_) (fun k s hk hi => timJ_step h5.2 h6.2 h6.1 hu hk hi) 0 (0, o) (by omega) ⟨h7.1, h7.2, by unfold U64; omega, fun _ _ => rfl, by simp [vd]⟩
  · exact key
  rw [tj_rnd add64 mulFn]
  refine ⟨fun hb => ?_, fun hb => ?_⟩
  · have hk' : k < 4 := by have := of_decide_eq_true hb; omega
    have e : IntKind.i64.wrap ((u : Int) + (k : Int)) = ((u + k : Nat) : Int) := by rw [wrap_ok (by omega) (by omega)]; omega
    rw [e, take_all hi.len, take8 h5, take8 h6, Int.toNat_natCast, Int.toNat_natCast, Int.toNat_natCast, Nat.zero_add, wrap_succ k (by omega)]
    exact ⟨by omega, by omega, by decide, by omega, by decide, by omega, hn hk'⟩
  · have : k = 4 := by have := of_decide_eq_false hb; omega
    exact hx this
noncomputable abbrev tjLT (g : List Int → List Int → Int → List Int → Int × List Int) : LTab := [(2, loopF (stC tjC tiH) 0 [tjCf, rwB 0, rwB 1, rwB 2, rwB 3, .auto] (tjLF g))]
def tiW : Exit → List Wk
  | .normal => [tiCf, rwB 0, rwB 1, rwB 2, rwB 3, .auto]
  | .exit 0 => [tiXf, rwB 0, rwB 1, rwB 2, rwB 3]
  | _ => []
theorem ti_rnd (g : List Int → List Int → Int → List Int → Int × List Int) (ad : Int → Int → Int → Int × Int) (mu : Int → Int → Int × Int) (i : Int) (a b r o : List Int) : rndT Tryz.prog (tiTab ad mu) (tjLT g) tiFn 0 [] tiW ((stC tiC tiH).wr ((i, ()), (a, b, r, o, ()))) =
  Res.ite (decide (i < (4 : Int))) (Res.need ((0 : Int) = (0 : Int) ∧ (0 : Int) = (0 : Int) ∧ (0 : Int) ≤ i ∧ i < (4 : Int) ∧ okW a ∧ okW b ∧ okW o)
  (Res.need ((0 : Int) ≤ IntKind.i64.wrap (i + (4 : Int)) ∧ IntKind.i64.wrap (i + (4 : Int)) < (8 : Int)) (Res.leaf Exit.normal ((stC tiC tiH).wr
  ((IntKind.i64.wrap (i + (1 : Int)), PUnit.unit), a, b, r, (g a b i o).snd.set ((0 : Nat) + (IntKind.i64.wrap (i + (4 : Int))).toNat) (g a b i o).fst,
  PUnit.unit))))) (Res.leaf (Exit.exit (0 : Nat)) ((stC tiX tiH).wr (PUnit.unit, a, b, r, o, PUnit.unit))) := by kernel_rfl
abbrev tiT : Type := (Int × Unit) × List Int × List Int × List Int × List Int × Unit
def tiLF (g : List Int → List Int → List Int) (x : tiT) : Res := .need (x.1.1 = 0 ∧ okW x.2.1 ∧ okW x.2.2.1 ∧ x.2.2.2.2.1 = List.replicate 8 0) (.leaf (.exit 0) ((stC tiX tiH).wr ((), (x.2.1, x.2.2.1, x.2.2.2.1, g x.2.1 x.2.2.1, ()))))
theorem tjL_mem : ∀ p ∈ tjLT tjG, isLoop (blkAt (bodyOf tiFn) p.1) = true ∧ ∀ st, Ex Tryz.prog [] (.loop (loopAt tiFn p.1)) st (p.2 st) := LTC rfl (loopF_ok (hp := []) tj_loop) LT0
theorem ti_loop (x : tiT) : Ex Tryz.prog [] (.loop (loopAt tiFn 0)) ((stC tiC tiH).wr x) (tiLF timesW x) := by
  obtain ⟨⟨i, _⟩, a, b, r, o, _⟩ := x
  refine Ex.need fun ⟨h1, h2, h3, h4⟩ => ?_
  simp only at h1 h2 h3 h4
  subst h1 h4
  have key := loopUp (fn := tiFn) (id := 0) (j := 0) (ws := tiW) (hp := []) mixed tiTab_ok (LOk.inner rfl tjL_mem) 4 (fun k (o : List Int) => (stC tiC tiH).wr (((k : Int), ()), (a, b, r, o, ()))) (fun (o : List Int) => (stC tiX tiH).wr ((), (a, b, r, o, ()))) (timU mulFn add64 a b) (TimO a b)
    (fun k o R hk hi hn hx => ?_) (fun k o hk hi => timU_step h2.2 h3.2 h2.1 h3.1 hk hi) 0 (List.replicate 8 0) (by omega) ⟨by simp, InB.zeros qq_pos 8, fun i _ => by
    rw [List.getD_eq_getElem?_getD, List.getElem?_replicate]; split <;> rfl, by rw [vd_zeros]; simp [vd]⟩
  · rw [Nat.sub_zero, times_all h2.2 h3.2 h2.1 h3.1] at key; exact key
  rw [ti_rnd]
  refine ⟨fun hb => ?_, fun hb => ?_⟩
  · have hk' : k < 4 := by have := of_decide_eq_true hb; omega
    have e : IntKind.i64.wrap ((k : Int) + 4) = ((k + 4 : Nat) : Int) := by rw [wrap_ok (by omega) (by omega)]; omega
    have hs := timU_step h2.2 h3.2 h2.1 h3.1 hk' hi
    have hn' := hn hk'
    rw [e, wrap_succ k (by omega), Int.toNat_natCast, Nat.zero_add]
    exact ⟨⟨rfl, rfl, by omega, by omega, h2, h3, hi.len, hi.inb⟩, by omega, hn'⟩
  · have : k = 4 := by have := of_decide_eq_false hb; omega
    exact hx this
noncomputable abbrev tiLT (g : List Int → List Int → List Int) : LTab := [(0, loopF (stC tiC tiH) 0 [tiCf, rwB 0, rwB 1, rwB 2, rwB 3, .auto] (tiLF g))]
noncomputable abbrev stimesE : Ent := eWW timesW
theorem stimes_tree (g : List Int → List Int → List Int) (ad : Int → Int → Int → Int × Int) (mu : Int → Int → Int × Int) (w x : List Int) : fnT Tryz.prog (tiTab ad mu) (tiLT g) tiFn (w2A.wr (w, x, ())) [] [.fr [.sym], .rowF 0 0 8 .u64, .auto] =
  End.need ((0 : Int) = (0 : Int) ∧ okW w ∧ okW x ∧ [(0 : Int), (0 : Int), (0 : Int), (0 : Int), (0 : Int), (0 : Int), (0 : Int), (0 : Int)] =
  List.replicate (8 : Nat) (0 : Int)) (End.leaf (LV.one (VV.agg [SV.arr (Ty.int IntKind.u64) (8 : Nat) (g w x)])) []) := by kernel_rfl
theorem stimes_ok : stimesE.Ok Tryz.prog 68 := by
  refine (Ent.ofOk Tryz.call68 fun x_ y_ Q H_ => ?_).sym
  obtain ⟨w, x, _⟩ := x_
  obtain ⟨hn, hq⟩ := H_
  have hn : okW w ∧ okW x := hn
  refine (fnT_ok mixed tiTab_ok Tryz.func68 rfl (LT := tiLT timesW) (ks := [.fr [.sym], .rowF 0 0 8 .u64, .auto]) (LOk.ofTab (LTC rfl (loopF_ok (hp := []) ti_loop) LT0))).use (D := []) ?_ hq
  show (fnT _ _ _ _ (w2A.wr (w, x, ())) [] _).sat _
  rw [stimes_tree]
  exact ⟨⟨rfl, hn.1, hn.2, rfl⟩, rfl, rfl⟩
abbrev b3A : Cod (List LV) (List Int × List Int × List Int × Unit) := lCons cB (lCons cB (lCons cB lNil))
abbrev b64A : Cod (List LV) (List Int × Unit) := lCons (vRow .u8 64) lNil
noncomputable def ordB : List Int := dg 256 32 ll
noncomputable def canB (b : List Int) : Bool := decide (vd 256 b < ll)
noncomputable def redB (b : List Int) : List Int := dg 256 32 (vd 256 b % ll)
noncomputable def mulB (a b c : List Int) : List Int := dg 256 32 ((vd 256 a * vd 256 b + vd 256 c) % ll)
def e0B (c : List Int) : Ent := Ent.ofS [] lNil lNil fun _ _ => .leaf none (nRow .u8 32 c) []
def eBB (g : List Int → Bool) : Ent := Ent.ofS [] bA32 lNil fun x _ => .leaf (some (okB x.1)) (nB (g x.1)) []
def e64B (g : List Int → List Int) : Ent := Ent.ofS [] b64A lNil fun x _ => .leaf (some (x.1.length = 64 ∧ AllBy x.1)) (nRow .u8 32 (g x.1)) []
def eB3 (g : List Int → List Int → List Int → List Int) : Ent := Ent.ofS [] b3A lNil fun x _ => .leaf (some (okB x.1 ∧ okB x.2.1 ∧ okB x.2.2.1)) (nRow .u8 32 (g x.1 x.2.1 x.2.2.1)) []
theorem ofL_ok (b : List Int) : okW (ofL b) := ofL_in b
theorem sumW_ok (w x : List Int) : okW (sumW w x) := ⟨dg_length _ _, dg_in qq_pos _ _⟩
theorem timesW_ok (w x : List Int) : okW (timesW w x) := ⟨dg_length _ _, dg_in qq_pos _ _⟩
theorem okB.val {b : List Int} (h : okB b) : vd qq (ofL b) = vd 256 b := ofL_val h.2 (by rw [h.1]; decide)
theorem okB.range {b : List Int} (h : okB b) : 0 ≤ vd 256 b ∧ vd 256 b < 2 ^ 256 := by
  have h1 := vd_nonneg (by decide) (show InB 256 b from h.2)
  have h2 := vd_lt (by decide) (show InB 256 b from h.2)
  have e : (256 : Int) ^ 32 = 2 ^ 256 := by decide +kernel
  rw [h.1, e] at h2
  exact ⟨h1, h2⟩
noncomputable abbrev sCanonE : Ent := eBB canB
theorem sCanon_tree (o : List Int) (of : List Int → List Int) (less : List Int → List Int → List Int × Int) (b : List Int) : fnT Tryz.prog [(97, e0W o), (58, eOf of), (96, eLess less)] [] Tryz.f43 ((bA32).wr (b, ())) [] kK =
  End.need ((0 : Int) ≤ (0 : Int) ∧ (0 : Int) ≤ (32 : Int) ∧ (32 : Int) ≤ (32 : Int)) (End.need (AllBy (List.take (32 : Nat) (List.drop (0 : Nat) b)) ∧
  (List.take (32 : Nat) (List.drop (0 : Nat) b)).length ≤ (64 : Nat)) (End.need (okW (of (List.take (32 : Nat) (List.drop (0 : Nat) b))) ∧ okW o)
  (End.leaf (LV.one (VV.sc (SV.bool (SB.sym ((less (of (List.take (32 : Nat) (List.drop (0 : Nat) b))) o).snd == (1 : Int)))))) []))) := by kernel_rfl
theorem sCanon_tab_ : ∀ p_ ∈ ([(97, e0W orderL), (58, eOf ofL), (96, eLess lessW)] : List (FuncId × Ent)), p_.2.Ok Tryz.prog p_.1 := (tabC sorder_ok (tabC sof_ok (tabC sless_ok tab0)))
theorem sCanon_ok : sCanonE.Ok Tryz.prog 43 := by
  refine (Ent.ofOk Tryz.call43 fun x_ y_ Q H_ => ?_).sym
  obtain ⟨b, _⟩ := x_
  obtain ⟨hn, hq⟩ := H_
  have hn : okB b := hn
  refine (fnT_ok (tab := [(97, e0W orderL), (58, eOf ofL), (96, eLess lessW)]) mixed sCanon_tab_ Tryz.func43 rfl (LT := []) (ks := kK) (LOk.nil _)).use (D := []) ?_ hq
  show (fnT _ _ _ _ ((bA32).wr (b, ())) [] _).sat _
  rw [sCanon_tree orderL ofL lessW]
  rw [take_all hn.1]
  refine ⟨by decide, ⟨hn.2, by rw [hn.1]; decide⟩, ⟨ofL_ok b, order_in⟩, ?_, rfl⟩
  have : ((lessW (ofL b) orderL).2 == 1) = canB b := by
    unfold lessW canB
    rw [hn.val, order_val]
    by_cases h : vd 256 b < ll
    · rw [if_pos h, decide_eq_true h]; rfl
    · rw [if_neg h, decide_eq_false h]; rfl
  rw [this]
noncomputable abbrev sReduceE : Ent := e64B redB
theorem sReduce_tree (of : List Int → List Int) (red : List Int → List Int) (b : List Int) : fnT Tryz.prog [(58, eOf of), (59, eWB red)] [] Tryz.f27 ((b64A).wr (b, ())) [] kR =
  End.need ((0 : Int) ≤ (0 : Int) ∧ (0 : Int) ≤ (64 : Int) ∧ (64 : Int) ≤ (64 : Int)) (End.need (AllBy (List.take (64 : Nat) (List.drop (0 : Nat) b)) ∧
  (List.take (64 : Nat) (List.drop (0 : Nat) b)).length ≤ (64 : Nat)) (End.need (okW (of (List.take (64 : Nat) (List.drop (0 : Nat) b)))) (End.leaf
  (LV.one (VV.agg [SV.arr (Ty.int IntKind.u8) (32 : Nat) (red (of (List.take (64 : Nat) (List.drop (0 : Nat) b))))])) []))) := by kernel_rfl
theorem sReduce_tab_ : ∀ p_ ∈ ([(58, eOf ofL), (59, eWB redW)] : List (FuncId × Ent)), p_.2.Ok Tryz.prog p_.1 := (tabC sof_ok (tabC sred_ok tab0))
theorem sReduce_ok : sReduceE.Ok Tryz.prog 27 := by
  refine (Ent.ofOk Tryz.call27 fun x_ y_ Q H_ => ?_).sym
  obtain ⟨b, _⟩ := x_
  obtain ⟨hn, hq⟩ := H_
  have hn : b.length = 64 ∧ AllBy b := hn
  refine (fnT_ok (tab := [(58, eOf ofL), (59, eWB redW)]) mixed sReduce_tab_ Tryz.func27 rfl (LT := []) (ks := kR) (LOk.nil _)).use (D := []) ?_ hq
  show (fnT _ _ _ _ ((b64A).wr (b, ())) [] _).sat _
  rw [sReduce_tree ofL redW]
  rw [take_all hn.1]
  refine ⟨by decide, ⟨hn.2, by rw [hn.1]; decide⟩, ofL_ok b, ?_, rfl⟩
  have : redW (ofL b) = redB b := by unfold redW redB; rw [ofL_val hn.2 (by rw [hn.1]; decide)]
  rw [this]
theorem lt_qq8 {x : Int} (h : x < 2 ^ 512) : x < qq ^ 8 := by
  have e : qq ^ 8 = 2 ^ 512 := by decide +kernel
  rw [e]; exact h
noncomputable abbrev sMulAddE : Ent := eB3 mulB
theorem sMulAdd_tree (of : List Int → List Int) (and times : List Int → List Int → List Int) (red : List Int → List Int) (a b c : List Int) : fnT Tryz.prog [(58, eOf of), (69, eWW and), (68, eWW times), (59, eWB red)] [] Tryz.f31 ((b3A).wr (a, b, c, ())) [] kR =
  End.need ((0 : Int) ≤ (0 : Int) ∧ (0 : Int) ≤ (32 : Int) ∧ (32 : Int) ≤ (32 : Int)) (End.need (AllBy (List.take (32 : Nat) (List.drop (0 : Nat) a)) ∧
  (List.take (32 : Nat) (List.drop (0 : Nat) a)).length ≤ (64 : Nat)) (End.need ((0 : Int) ≤ (0 : Int) ∧ (0 : Int) ≤ (32 : Int) ∧ (32 : Int) ≤ (32 :
  Int)) (End.need (AllBy (List.take (32 : Nat) (List.drop (0 : Nat) b)) ∧ (List.take (32 : Nat) (List.drop (0 : Nat) b)).length ≤ (64 : Nat)) (End.need
  (okW (of (List.take (32 : Nat) (List.drop (0 : Nat) a))) ∧ okW (of (List.take (32 : Nat) (List.drop (0 : Nat) b)))) (End.need ((0 : Int) ≤ (0 : Int) ∧
  (0 : Int) ≤ (32 : Int) ∧ (32 : Int) ≤ (32 : Int)) (End.need (AllBy (List.take (32 : Nat) (List.drop (0 : Nat) c)) ∧ (List.take (32 : Nat) (List.drop (0
  : Nat) c)).length ≤ (64 : Nat)) (End.need (okW (times (of (List.take (32 : Nat) (List.drop (0 : Nat) a))) (of (List.take (32 : Nat) (List.drop (0 :
  Nat) b)))) ∧ okW (of (List.take (32 : Nat) (List.drop (0 : Nat) c)))) (End.need (okW (and (times (of (List.take (32 : Nat) (List.drop (0 : Nat) a)))
  (of (List.take (32 : Nat) (List.drop (0 : Nat) b)))) (of (List.take (32 : Nat) (List.drop (0 : Nat) c))))) (End.leaf (LV.one (VV.agg [SV.arr (Ty.int
  IntKind.u8) (32 : Nat) (red (and (times (of (List.take (32 : Nat) (List.drop (0 : Nat) a))) (of (List.take (32 : Nat) (List.drop (0 : Nat) b)))) (of
  (List.take (32 : Nat) (List.drop (0 : Nat) c)))))])) []))))))))) := by kernel_rfl
theorem sMulAdd_tab_ : ∀ p_ ∈ ([(58, eOf ofL), (69, eWW sumW), (68, eWW timesW), (59, eWB redW)] : List (FuncId × Ent)), p_.2.Ok Tryz.prog p_.1 := (tabC sof_ok (tabC sand_ok (tabC stimes_ok (tabC sred_ok tab0))))
theorem sMulAdd_ok : sMulAddE.Ok Tryz.prog 31 := by
  refine (Ent.ofOk Tryz.call31 fun x_ y_ Q H_ => ?_).sym
  obtain ⟨a, b, c, _⟩ := x_
  obtain ⟨hn, hq⟩ := H_
  have hn : okB a ∧ okB b ∧ okB c := hn
  refine (fnT_ok (tab := [(58, eOf ofL), (69, eWW sumW), (68, eWW timesW), (59, eWB redW)]) mixed sMulAdd_tab_ Tryz.func31 rfl (LT := []) (ks := kR) (LOk.nil _)).use (D := []) ?_ hq
  show (fnT _ _ _ _ ((b3A).wr (a, b, c, ())) [] _).sat _
  rw [sMulAdd_tree ofL sumW timesW redW]
  obtain ⟨ha, hb, hc⟩ := hn
  rw [take_all ha.1, take_all hb.1, take_all hc.1]
  refine ⟨by decide, ⟨ha.2, by rw [ha.1]; decide⟩, by decide, ⟨hb.2, by rw [hb.1]; decide⟩, ⟨ofL_ok a, ofL_ok b⟩, by decide, ⟨hc.2, by rw [hc.1]; decide⟩, ⟨timesW_ok _ _, ofL_ok c⟩, sumW_ok _ _, ?_, rfl⟩
  have : redW (sumW (timesW (ofL a) (ofL b)) (ofL c)) = mulB a b c := by
    unfold redW mulB sumW timesW
    have h1 := ha.range
    have h2 := hb.range
    have h3 := hc.range
    have h4 : ((2 : Int) ^ 256 - 1) * (2 ^ 256 - 1) + 2 ^ 256 < 2 ^ 512 := by decide +kernel
    have h5 : vd 256 a * vd 256 b ≤ (2 ^ 256 - 1) * (2 ^ 256 - 1) := Int.mul_le_mul (by omega) (by omega) h2.1 (by decide +kernel)
    have h6 : 0 ≤ vd 256 a * vd 256 b := Int.mul_nonneg h1.1 h2.1
    rw [ofL_take ha.2 ha.1, ofL_take hb.2 hb.1, vd_dg qq_pos, vd_dg qq_pos, hc.val, Int.emod_eq_of_lt (a := vd 256 a * vd 256 b) h6 (lt_qq8 (Int.lt_trans (by omega) h4)), Int.emod_eq_of_lt (by omega) (lt_qq8 (Int.lt_trans (by omega) h4))]
  rw [this]
end Go.Proofs.YthdfifcgobfgdaaGreat
end

section
set_option linter.unusedVariables false
set_option linter.unusedSimpArgs false
namespace Go.Proofs.YthdfifcgobfgdaaGreat
open Go Go.Ev BJ
set_option maxRecDepth 1000000
def hh : Int := 65536
theorem hh_pos : 0 < hh := by decide
theorem hh_256 : hh = 256 ^ 2 := by decide
noncomputable def dig9 (b : List Int) : List Int := dg hh 34 (vd 256 b)
theorem lt_hh34 {b : List Int} (hb : AllBy b) (hl : b.length ≤ 64) : 0 ≤ vd 256 b ∧ vd 256 b < 256 ^ 64 := by
  have h0 := vd_nonneg (by decide) (show InB 256 b from hb)
  have h1 := vd_lt (by decide) (show InB 256 b from hb)
  exact ⟨h0, Int.lt_of_lt_of_le h1 (ipow_le (by decide) hl)⟩
theorem p64_hh : (256 : Int) ^ 64 ≤ hh ^ 34 := by decide +kernel
theorem dig_step {b : List Int} (hb : AllBy b) (hl : b.length ≤ 64) {k : Nat} (hk : k < b.length) :
    (dig9 (b.take k)).set (k / 2) (IntKind.i64.wrap ((dig9 (b.take k)).getD (k / 2) 0 + shl .i64 (IntKind.i64.wrap (b.getD k 0)) ((k % 2 * 8 : Nat) : Int))) = dig9 (b.take (k + 1)) := by
  have hb' : InB 256 b := hb
  have hc := InB.getD (by decide) hb' k
  have hV0 := vd_nonneg (by decide) (hb'.take k)
  have hV1 := vd_lt (by decide) (hb'.take k)
  rw [List.length_take, Nat.min_eq_left (by omega)] at hV1
  unfold dig9
  rw [vd_take_succ hk]
  generalize vd 256 (b.take k) = V at *
  generalize b.getD k 0 = c at *
  have hi : k / 2 < 34 := by omega
  have hs : k % 2 < 2 := by omega
  have hk' : k = 2 * (k / 2) + k % 2 := (Nat.div_add_mod k 2).symm
  have hp : (256 : Int) ^ k = hh ^ (k / 2) * 256 ^ (k % 2) := by rw [hh_256, ← Int.pow_mul, ← Int.pow_add, ← hk']
  have hQ : 0 < hh ^ (k / 2) := Int.pow_pos hh_pos
  have hle : (256 : Int) ^ (k % 2) * 256 ≤ hh := by
    rw [← Int.pow_succ, hh_256]; exact ipow_le (by decide) (by omega)
  have hP : (0 : Int) < 256 ^ (k % 2) := Int.pow_pos (by decide)
  have hdl : V / hh ^ (k / 2) < 256 ^ (k % 2) := Int.ediv_lt_of_lt_mul hQ (by rw [Int.mul_comm, ← hp]; exact hV1)
  have hd0 : 0 ≤ V / hh ^ (k / 2) := Int.ediv_nonneg hV0 (Int.le_of_lt hQ)
  have eg : (dg hh 34 V).getD (k / 2) 0 = V / hh ^ (k / 2) := by
    rw [dg_getD hh_pos hi, Int.emod_eq_of_lt hd0 (by omega)]
  rw [eg]
  have ehh : hh = 65536 := rfl
  have ew : IntKind.i64.wrap c = c := wrap_ok (by omega) (by omega)
  have hcP : c * 256 ^ (k % 2) ≤ 255 * 256 ^ (k % 2) := Int.mul_le_mul_of_nonneg_right (by omega) (by omega)
  have hcP0 : 0 ≤ c * 256 ^ (k % 2) := Int.mul_nonneg hc.1 (by omega)
  have es : shl .i64 c ((k % 2 * 8 : Nat) : Int) = c * 256 ^ (k % 2) := by
    rw [shl_mul .i64 c _ (by simp [IntKind.bits]; omega), two_pow8, wrap_ok (by omega) (by omega)]
  rw [ew, es, wrap_ok (by omega) (by omega)]
  refine eq_dg hh_pos ((dg_in hh_pos 34 V).set ⟨by omega, by omega⟩) (by rw [List.length_set, dg_length]) ?_
  rw [vd_set (by rw [dg_length]; exact hi), eg, vd_dg hh_pos]
  have hV2 : V < hh ^ 34 := Int.lt_of_lt_of_le hV1 (Int.le_trans (ipow_le (by decide) (by omega)) p64_hh)
  rw [Int.emod_eq_of_lt hV0 hV2]
  have e3 : (V / hh ^ (k / 2) + c * 256 ^ (k % 2) - V / hh ^ (k / 2)) * hh ^ (k / 2) = c * 256 ^ k := by
    rw [hp, Int.mul_comm (hh ^ (k / 2)), ← Int.mul_assoc]; congr 1; omega
  rw [e3]
  have hlt : V + c * 256 ^ k < hh ^ 34 := by
    have h1 : c * 256 ^ k ≤ 255 * 256 ^ k := Int.mul_le_mul_of_nonneg_right (by omega) (Int.le_of_lt (Int.pow_pos (by decide)))
    have h2 : (256 : Int) ^ (k + 1) ≤ 256 ^ 64 := ipow_le (by decide) (by omega)
    have h3 := p64_hh
    rw [Int.pow_succ] at h2
    omega
  exact (Int.emod_eq_of_lt (Int.add_nonneg hV0 (Int.mul_nonneg hc.1 (Int.le_of_lt (Int.pow_pos (by decide))))) hlt).symm
def dblV : {n : Nat} → Int → Vec Int n → Vec Int n
  | 0, _, _ => ()
  | _ + 1, c, v => (lowBits (w (c + w (2 * v.1))) 65535, dblV (down (w (c + w (2 * v.1))) 16) v.2)
def subV : {n : Nat} → Nat → Vec Int n → List Int → Vec Int n
  | 0, _, _, _ => ()
  | _ + 1, k, v, l => (w (v.1 - l.getD k 0), subV (k + 1) v.2 l)
def dgV : (n : Nat) → Int → Vec Int n
  | 0, _ => ()
  | n + 1, x => (x % 65536, dgV n (x / 65536))
def dgT : (n : Nat) → Int → Vec Int (n + 1)
  | 0, x => (x, ())
  | n + 1, x => (x % 65536, dgT n (x / 65536))
def vdV : {n : Nat} → Vec Int n → Int
  | 0, _ => 0
  | _ + 1, v => v.1 + 65536 * vdV v.2
def Small9 : {n : Nat} → Vec Int n → Prop
  | 0, _ => True
  | _ + 1, v => (-65536 < v.1 ∧ v.1 < 65536) ∧ Small9 v.2
theorem dbl_dg : ∀ (n : Nat) (x c : Int), 0 ≤ x → 0 ≤ c → c ≤ 1 → dblV c (dgV n x) = dgV n (2 * x + c)
  | 0, _, _, _, _, _ => rfl
  | n + 1, x, c, hx, h0, h1 => by
    show (lowBits (w (c + w (2 * (x % 65536)))) 65535, dblV (down (w (c + w (2 * (x % 65536)))) 16) (dgV n (x / 65536))) = ((2 * x + c) % 65536, dgV n ((2 * x + c) / 65536))
    have e1 : w (2 * (x % 65536)) = 2 * (x % 65536) := wrap_ok (by omega) (by omega)
    have e2 : w (c + 2 * (x % 65536)) = c + 2 * (x % 65536) := wrap_ok (by omega) (by omega)
    rw [e1, e2, low_16, down_16, dbl_dg n (x / 65536) _ (by omega) (by omega) (by omega)]
    congr 1
    · omega
    · congr 1; omega
theorem subV_val : ∀ (n k : Nat) (x Y : Int) (l : List Int), (∀ j, j < n → l.getD (k + j) 0 = Y / 65536 ^ j % 65536) → vdV (subV k (dgV n x) l) = x % 65536 ^ n - Y % 65536 ^ n ∧ Small9 (subV k (dgV n x) l)
  | 0, _, x, Y, _, _ => by simp [subV, vdV, Small9, Int.emod_one]
  | n + 1, k, x, Y, l, h => by
    have h0 := h 0 (by omega)
    simp only [Nat.add_zero, Int.pow_zero, Int.ediv_one] at h0
    obtain ⟨i1, i2⟩ := subV_val n (k + 1) (x / 65536) (Y / 65536) l fun j hj => by
      have := h (j + 1) (by omega)
      rw [show k + (j + 1) = k + 1 + j from by omega] at this
      rw [this, Int.pow_succ, Int.mul_comm, ← Int.ediv_ediv_of_nonneg (by decide)]
    have e1 : w (x % 65536 - l.getD k 0) = x % 65536 - Y % 65536 := by rw [h0]; exact wrap_ok (by omega) (by omega)
    show w (x % 65536 - l.getD k 0) + 65536 * vdV (subV (k + 1) (dgV n (x / 65536)) l) = _ ∧ ((-65536 < w (x % 65536 - l.getD k 0) ∧ w (x % 65536 - l.getD k 0) < 65536) ∧ Small9 (subV (k + 1) (dgV n (x / 65536)) l))
    rw [e1, i1]
    refine ⟨?_, ⟨by omega, by omega⟩, i2⟩
    have s1 := emod_split (B := 65536) (by decide) (P := 65536 ^ n) (Int.pow_pos (by decide)) x
    have s2 := emod_split (B := 65536) (by decide) (P := 65536 ^ n) (Int.pow_pos (by decide)) Y
    rw [Int.pow_succ, Int.mul_comm ((65536 : Int) ^ n), ← s1, ← s2]
    omega
theorem carried_dg : ∀ (n : Nat) (x : Int) (v : Vec Int n), -4294967296 < x → x < 4294967296 → Small9 v → carried9 x v = dgT n (x + 65536 * vdV v)
  | 0, x, v, _, _, _ => by show (x, ()) = (x + 65536 * 0, ()); rw [Int.mul_zero, Int.add_zero]
  | n + 1, x, v, h1, h2, h3 => by
    obtain ⟨h4, h5⟩ := h3
    show (lowBits x 65535, carried9 (w (v.1 + down x 16)) v.2) = ((x + 65536 * (v.1 + 65536 * vdV v.2)) % 65536, dgT n ((x + 65536 * (v.1 + 65536 * vdV v.2)) / 65536))
    have e1 : w (v.1 + x / 65536) = v.1 + x / 65536 := wrap_ok (by omega) (by omega)
    rw [low_16, down_16, e1, carried_dg n _ v.2 (by omega) (by omega) h5]
    generalize vdV v.2 = Z
    congr 1
    · omega
    · congr 1; omega
theorem dgT_top : ∀ (n : Nat) (x : Int), (dgT n x).get n = x / 65536 ^ n
  | 0, x => by rw [Int.pow_zero, Int.ediv_one]; rfl
  | n + 1, x => by
    show (dgT n (x / 65536)).get n = _
    rw [dgT_top n, Int.pow_succ, Int.mul_comm, Int.ediv_ediv_of_nonneg (by decide)]
theorem dgT_succ (n : Nat) (x : Int) : dgT (n + 1) x = (x % 65536, dgT n (x / 65536)) := rfl
theorem dgV_succ (n : Nat) (x : Int) : dgV (n + 1) x = (x % 65536, dgV n (x / 65536)) := rfl
theorem dgT_dgV (n : Nat) : ∀ (x : Int), 0 ≤ x → x < 65536 ^ (n + 1) → dgT n x = dgV (n + 1) x := by
  induction n with
  | zero =>
    intro x h0 h1
    rw [dgV_succ, Int.emod_eq_of_lt h0 (by rwa [Int.pow_succ, Int.pow_zero, Int.one_mul] at h1)]
    rfl
  | succ n ih =>
    intro x h0 h1
    rw [Int.pow_succ] at h1
    have h2 : x / 65536 < 65536 ^ (n + 1) := Int.ediv_lt_of_lt_mul (by decide) h1
    rw [dgT_succ, dgV_succ, ih (x / 65536) (by omega) h2]
noncomputable def ordL9 : List Int := dg 256 32 ll
def carV (v : Vec Int 17) : Vec Int 17 := carried9 v.1 v.2
theorem ordL9_val : vd 256 ordL9 = ll := by
  unfold ordL9
  rw [vd_dg (by decide)]
  exact Int.emod_eq_of_lt (by have := ll_pos; omega) (by decide +kernel)
theorem llDig (j : Nat) (hj : j < 17) : (dig9 ordL9).getD (0 + j) 0 = ll / 65536 ^ j % 65536 := by
  unfold dig9
  rw [Nat.zero_add, dg_getD hh_pos (by omega), ordL9_val]
  rfl
theorem p17 : ll + ll < 65536 ^ 17 := by decide +kernel
theorem mod_dg {R c : Int} (hR : 0 ≤ R ∧ R < ll) (hc : 0 ≤ c ∧ c < 2) :
    (if 0 ≤ (carV (subV 0 (dblV c (dgV 17 R)) (dig9 ordL9))).get 16 then carV (subV 0 (dblV c (dgV 17 R)) (dig9 ordL9)) else dblV c (dgV 17 R)) = dgV 17 ((2 * R + c) % ll) := by
  have hp := p17
  rw [dbl_dg 17 R c hR.1 hc.1 (by omega)]
  obtain ⟨v1, v2⟩ := subV_val 17 0 (2 * R + c) ll (dig9 ordL9) llDig
  rw [Int.emod_eq_of_lt (by omega) (by omega), Int.emod_eq_of_lt (by have := ll_pos; omega) (by have := ll_pos; omega)] at v1
  have ec : carV (subV 0 (dgV 17 (2 * R + c)) (dig9 ordL9)) = dgT 16 (2 * R + c - ll) := by
    unfold carV
    rw [carried_dg 16 _ _ (by have := v2.1.1; omega) (by have := v2.1.2; omega) v2.2, ← v1]
    rfl
  rw [ec, dgT_top, mod_step ll_pos hR hc]
  have hq : (0 : Int) < 65536 ^ 16 := Int.pow_pos (by decide)
  by_cases h : 2 * R + c < ll
  · rw [if_pos h, if_neg]
    intro h'
    have := (Int.ediv_nonneg_iff_of_pos hq).1 h'
    omega
  · rw [if_neg h, if_pos ((Int.ediv_nonneg_iff_of_pos hq).2 (by omega)), dgT_dgV 16 _ (by omega) (by show _ < (65536 : Int) ^ 17; omega)]
end Go.Proofs.YthdfifcgobfgdaaGreat
end

section
set_option linter.unusedVariables false
set_option linter.unusedSimpArgs false
namespace Go.Proofs.YthdfifcgobfgdaaGreat
open Go Go.Ev Go.Lib Go.RowKit
set_option maxHeartbeats 4000000
theorem grow_none (w : World) : Calls Tryz.prog 70 #[.slice none 0 0, .int .i64 0] w fun e w' => e = .returned (.slice none 0 0) ∧ w' = w := by
  go_enter Tryz.func70, Tryz.ntmps70
  go_wp2
  go_ret
  exact ⟨rfl, rfl⟩
theorem grow_some (n : Nat) (w : World) (h0 : 0 < n) (h1 : n ≤ 140737488355328) : Calls Tryz.prog 70 #[.slice none 0 0, .int .i64 n] w fun e w' =>
    e = .returned (.slice (some ⟨w.heap.size, 0, none⟩) 0 (grownCap w n 0 5)) ∧
      w' = w.drew.alloc (.cells (#[] ++ Builtin.zeroCells (Value.int .u8 0).cells n ++ Builtin.zeroCells (Value.int .u8 0).cells (grownCap w n 0 5 - n)) 5) := by
  have h2 : ¬ ((n : Int) < 0) := by omega
  have h3 : wrap64 ((0 : Int) - (0 : Int)) = 0 := by unfold wrap64; omega
  have h4 : wrap64 ((n : Int) - 0) = (n : Int) := by unfold wrap64; omega
  have h5 : (n : Int) > 0 := by omega
  have hG63 : grownCap w n 0 5 ≤ 9223372036854775807 := by
    have := grownCap_le_maxLen w n 0 5 (by unfold maxLen; omega)
    unfold maxLen at this
    omega
  have hrz : ∀ ty, (Builtin.append_ #[23, 3] ty #[.slice none 0 0, .int .i64 n]).run Tryz.prog w =
      .ok (.slice (some ⟨w.heap.size, 0, none⟩) n (grownCap w n 0 5)) (w.drew.alloc (.cells (#[] ++ Builtin.zeroCells (Value.int .u8 0).cells n ++ Builtin.zeroCells (Value.int .u8 0).cells (grownCap w n 0 5 - n)) 5)) := fun ty => by
    have hi0 : (Tryz.prog.info? 5).map (fun i => (i.zero, i.size, i.bytes)) = some (some (.int .u8 0), 1, 1) := by kernel_rfl
    obtain ⟨i, hi, he⟩ := map_some hi0
    have e1 : i.zero = some (.int .u8 0) := congrArg Prod.fst he
    have e2 : i.size = 1 := congrArg (fun x => x.2.1) he
    have e3 : i.bytes = 1 := congrArg (fun x => x.2.2) he
    have hb : n * i.bytes ≤ 140737488355328 := by rw [e3]; omega
    have h := Lib.run_append_grow_zeros (P := Tryz.prog) w 23 3 ty 5 i (.int .u8 0) .i64 .i64 (by kernel_rfl) (by kernel_rfl) hi e1 none 0 0 [] (run_firstCells_none w.drew i.size 0 0 0) n h0 (by omega) (by omega) (by omega) (by omega)
      (growslice_fits (need := 0 + n) (old := 0) (by omega) (by rw [Nat.zero_add]; exact hb))
    rw [Nat.zero_add] at h
    exact h
  have hGn : n ≤ grownCap w n 0 5 := grownCap_ge w _ _ _
  generalize grownCap w n 0 5 = G at *
  go_enter Tryz.func70, Tryz.ntmps70
  go_wp2_with (at_builtin; refine Lib.wpList_append_run _ rfl _ _ _ _ rfl _ _ rfl rfl _ _ (hrz _) ?_)
  all_goals (go_ret; exact ⟨rfl, rfl⟩)
def growE : Ent := ⟨[], fun args hp => match args, hp with
  | [.one (.sc (.con (.slice none 0 0))), .one (.sc (.int .i64 n))], [] => .leaf (some (0 ≤ n.val ∧ n.val ≤ 140737488355328)) (.one (.sc (.sl 0 0))) [(0, .own 0 (.int .u8) [])]
  | _, _ => .fail⟩
theorem grow_ok : growE.Ok Tryz.prog 70 := by
  refine ⟨fun args hp Q h => CallsEv.done Tryz.call70 ?_⟩
  simp only [growE] at h
  split at h
  · rename_i args hp n
    obtain ⟨⟨h0, h1⟩, hq⟩ := h
    intro β w vals hh hargs
    cases hargs with
    | cons a1 t1 =>
      cases t1 with
      | cons a2 t2 =>
        cases t2
        rename_i v1 v2
        obtain rfl : v1 = .slice none 0 0 := a1.2
        have e : v2 = .int .i64 n.val := a2
        subst e
        rcases Int.lt_or_le 0 n.val with hn | hn
        · obtain ⟨k, hk⟩ : ∃ k : Nat, n.val = k := ⟨n.val.toNat, by omega⟩
          rw [hk] at h0 h1 hn ⊢
          refine (grow_some k w (by omega) (by omega)).mono ?_
          rintro e w' ⟨rfl, rfl⟩
          have hGn : k ≤ grownCap w k 0 5 := grownCap_ge w _ _ _
          generalize grownCap w k 0 5 = G at *
          generalize hcs : (#[] ++ Builtin.zeroCells (Value.int .u8 0).cells k ++ Builtin.zeroCells (Value.int .u8 0).cells (G - k)) = cs
          have hlen : cs.toList.length = G := by
            rw [← hcs]; simp [Builtin.zeroCells, Value.cells]; omega
          have hdr : HRel w [] β β [] w.drew := hh.drew _ _
          obtain ⟨β', k1, k2, k3⟩ := hdr.newOwn (id := 0) rfl (v := .slice (some ⟨w.heap.size, 0, none⟩) 0 G) (ver := 0) (t := .int .u8) (l := []) (w' := w.drew.alloc (.cells cs 5)) (by simp) rfl rfl (fun b hb => heap_alloc_old w.drew _ hb)
            ⟨_, _, _, rfl, rfl, Nat.zero_le _, fun e => (by cases e), fun _ => ⟨_, [], [], cs.toList, 5, (0, 0), rfl, rfl, by simpa using heap_alloc_new w.drew (.cells cs 5), rfl, .nil, by simp [Ty.w, hlen], .inl rfl⟩⟩
            (fun a n c e _ => by cases e; exact Nat.le_refl _)
          exact ⟨_, β', _, _, rfl, ⟨_, hq, rfl⟩, ⟨rfl, 0, by rw [show applyD _ [] = setAt [] 0 _ from rfl, kd_setAt, if_pos rfl]; rfl, Nat.le_refl _, fun _ => k3.symm⟩, k1⟩
        · have hn0 : n.val = 0 := by omega
          rw [hn0]
          refine (grow_none w).mono ?_
          rintro e w' ⟨rfl, rfl⟩
          obtain ⟨β', k1, k2, k3⟩ := hh.ownNil (.int .u8)
          exact ⟨_, β', _, _, rfl, ⟨_, hq, rfl⟩, k3, k1⟩
  · exact h.elim
end Go.Proofs.YthdfifcgobfgdaaGreat
end

section
set_option linter.unusedVariables false
set_option linter.unusedSimpArgs false
namespace Go.Proofs.YthdfifcgobfgdaaGreat
open Go Go.Ev
set_option maxRecDepth 100000
section
noncomputable abbrev catFn : Func := Tryz.f33
abbrev catC0 : Cod (List LV) (List (List Int) × Int × List (List Int) × Int × Int × Unit) := lCons (vOne (sRd false false (.sl u8))) (jk 2 (lCons (vOne (sInt .i64)) (jk 5 (lCons (vOne (sRd false false (.sl u8))) (lCons (vOne (sInt .i64)) (lCons (vOne (sInt .i64)) (jk 24 lNil)))))))
abbrev catK0 : List Wk := [.fr (fmS 36 [(0, .keep), (3, .sym), (9, .keep), (10, .sym), (11, .sym)])]
abbrev catE0 : Cod (List LV) (List (List Int) × Int × Unit) := lCons (vOne (sRd false false (.sl u8))) (jk 2 (lCons (vOne (sInt .i64)) (jk 32 lNil)))
abbrev catX0 : List Wk := [.fr (fmS 36 [(0, .keep), (3, .sym)])]
theorem cat_rnd0 (l0 ls : List (List Int)) (s n i : Int) : rndT Tryz.prog [] [] catFn 0 [] (wsE catK0 0 catX0) ((stC catC0 lNil).wr ((l0, s, ls, n, i, ()), ())) =
    .ite (decide (i < n)) (.need (0 ≤ i ∧ i < ls.length) (.ite (decide (IntKind.i64.wrap (s + (ls.getD i.toNat []).length) < 0)) .fail
      (.leaf .normal ((stC catC0 lNil).wr ((l0, IntKind.i64.wrap (s + (ls.getD i.toNat []).length), ls, n, IntKind.i64.wrap (i + 1), ()), ())))))
      (.leaf (.exit 0) ((stC catE0 lNil).wr ((l0, s, ()), ()))) := by kernel_rfl
theorem flat_take (ls : List (List Int)) (i : Nat) (h : i < ls.length) : (ls.take (i + 1)).flatten = (ls.take i).flatten ++ ls.getD i [] := by
  rw [List.take_add_one, List.flatten_append, List.getD_eq_getElem?_getD, List.getElem?_eq_getElem h]
  simp
theorem flat_le (ls : List (List Int)) (i : Nat) : (ls.take i).flatten.length ≤ ls.flatten.length := by
  have : ls.flatten = (ls.take i).flatten ++ (ls.drop i).flatten := by rw [← List.flatten_append, List.take_append_drop]
  rw [this, List.length_append]; omega
noncomputable def catF0 (x : (List (List Int) × Int × List (List Int) × Int × Int × Unit) × Unit) : Res :=
  .need (x.1.2.1 = 0 ∧ x.1.2.2.2.1 = x.1.2.2.1.length ∧ x.1.2.2.2.2.1 = 0 ∧ x.1.2.2.1.flatten.length ≤ 140737488355328 ∧ x.1.2.2.1.length ≤ 140737488355328) (.leaf (.exit 0) ((stC catE0 lNil).wr ((x.1.1, (x.1.2.2.1.flatten.length : Int), ()), ())))
theorem cat_loop0 (x) : Ex Tryz.prog [] (.loop (loopAt catFn 0)) ((stC catC0 lNil).wr x) (catF0 x) := by
  obtain ⟨⟨l0, s, ls, n, i, _⟩, _⟩ := x
  refine Ex.need fun ⟨h1, h2, h3, h4, h5⟩ => ?_
  simp only at h1 h2 h3 h4 h5
  subst h1 h2 h3
  refine loopR mixed tab0 (LOk.nil _) (fun k => ls.length - k) (fun k : Nat => (stC catC0 lNil).wr ((l0, ((ls.take k).flatten.length : Int), ls, (ls.length : Int), (k : Int), ()), ())) (fun k => k ≤ ls.length)
    (fun k => .leaf (.exit 0) ((stC catE0 lNil).wr ((l0, (ls.flatten.length : Int), ()), ()))) (fun k _ => cat_rnd0 l0 ls _ _ _) (fun k R hk hs => ?_) 0 (Nat.zero_le _)
  · have hle := flat_le ls k
    refine ⟨fun hb => ?_, fun hb => ?_⟩
    · have hlt : k < ls.length := by simpa using hb
      have hft := flat_take ls k hlt
      have hle1 := flat_le ls (k + 1)
      have hlen : ((ls.take (k + 1)).flatten.length : Int) = (ls.take k).flatten.length + (ls.getD k []).length := by rw [hft, List.length_append]; omega
      refine ⟨⟨by omega, by omega⟩, fun hb2 => ?_, fun _ => .inl ⟨rfl, k + 1, ?_, hlt, by omega, hs⟩⟩
      · rw [wrap_ok (by omega) (by simp only [Int.toNat_natCast]; omega)] at hb2
        simp at hb2; omega
      · rw [wrap_ok (by omega) (by simp only [Int.toNat_natCast]; omega), wrap_ok (by omega) (by omega)]
        simp only [Int.toNat_natCast]
        rw [← hlen]
        rfl
    · have hge : k = ls.length := by simp at hb; omega
      subst hge
      rw [List.take_length]
      exact .inr ⟨by simp, hs⟩
abbrev catC2 : Cod (List LV) (List (List Int) × Int × Int × Unit) := jk 6 (lSkip (vOne (sSl 0 0)) (jk 18 (lCons (vOne (sRd false false (.sl u8))) (lCons (vOne (sInt .i64)) (lCons (vOne (sInt .i64)) (jk 8 lNil))))))
abbrev catK2 : List Wk := [.fr (fmS 36 [(6, .keep), (25, .keep), (26, .sym), (27, .sym)]), .auto, .vers]
abbrev catE2 : Cod (List LV) Unit := jk 6 (lSkip (vOne (sSl 0 0)) (jk 29 lNil))
abbrev catX2 : List Wk := [.fr (fmS 36 [(6, .keep)]), .auto, .vers]
abbrev own1 : Cod Hp (List Int × Unit) := lCons (iOwn 0 u8) lNil
theorem cat_rnd2 (ls : List (List Int)) (acc : List Int) (n i : Int) : rndT Tryz.prog [] [] catFn 2 [] (wsE catK2 2 catX2) ((stC catC2 own1).wr ((ls, n, i, ()), (acc, ()))) =
    .ite (decide (i < n)) (.need (0 ≤ i ∧ i < ls.length) (.need ((acc.length + (ls.getD i.toNat []).length) * 1 ≤ 70368744177664 ∧ acc.length + (ls.getD i.toNat []).length ≤ 70368744177664)
      (.leaf .normal ((stC catC2 own1).wr ((ls, n, IntKind.i64.wrap (i + 1), ()), (acc ++ ls.getD i.toNat [], ()))))))
      (.leaf (.exit 2) ((stC catE2 own1).wr ((), (acc, ())))) := by kernel_rfl
noncomputable def catF2 (x : (List (List Int) × Int × Int × Unit) × List Int × Unit) : Res :=
  .need (x.1.2.1 = x.1.1.length ∧ x.1.2.2.1 = 0 ∧ x.2.1 = [] ∧ x.1.1.flatten.length ≤ 70368744177664 ∧ x.1.1.length ≤ 140737488355328) (.leaf (.exit 2) ((stC catE2 own1).wr ((), (x.1.1.flatten, ()))))
theorem cat_loop2 (x) : Ex Tryz.prog [] (.loop (loopAt catFn 2)) ((stC catC2 own1).wr x) (catF2 x) := by
  obtain ⟨⟨ls, n, i, _⟩, acc, _⟩ := x
  refine Ex.need fun ⟨h2, h3, h1, h4, h5⟩ => ?_
  simp only at h1 h2 h3 h4 h5
  subst h1 h2 h3
  refine loopR mixed tab0 (LOk.nil _) (fun k => ls.length - k) (fun k : Nat => (stC catC2 own1).wr ((ls, (ls.length : Int), (k : Int), ()), ((ls.take k).flatten, ()))) (fun k => k ≤ ls.length)
    (fun k => .leaf (.exit 2) ((stC catE2 own1).wr ((), (ls.flatten, ())))) (fun k _ => cat_rnd2 ls _ _ _) (fun k R hk hs => ?_) 0 (Nat.zero_le _)
  refine ⟨fun hb => ?_, fun hb => ?_⟩
  · have hlt : k < ls.length := by simpa using hb
    have hft := flat_take ls k hlt
    have hle1 := flat_le ls (k + 1)
    have hlen : (ls.take (k + 1)).flatten.length = (ls.take k).flatten.length + (ls.getD k []).length := by rw [hft, List.length_append]
    refine ⟨⟨by omega, by omega⟩, ⟨by simp only [Int.toNat_natCast]; omega, by simp only [Int.toNat_natCast]; omega⟩, .inl ⟨rfl, k + 1, ?_, hlt, by omega, hs⟩⟩
    rw [wrap_ok (by omega) (by omega)]
    simp only [Int.toNat_natCast]
    rw [← hft]
    rfl
  · have hge : k = ls.length := by simp at hb; omega
    subst hge
    rw [List.take_length]
    exact .inr ⟨by simp, hs⟩
abbrev catA : Cod (List LV) (List (List Int) × Unit) := lCons (vOne (sRd false false (.sl u8))) lNil
/-- all, one behind the other -/
noncomputable def catE : Ent := Ent.ofS [some (.sl u8)] catA lNil fun x _ => .leaf (some (x.1.flatten.length ≤ 70368744177664 ∧ x.1.length ≤ 140737488355328)) (.one (.sc (.sl 0 0))) [(0, .own 0 u8 x.1.flatten)]
noncomputable abbrev catLT : LTab := [(0, loopF (stC catC0 lNil) 0 catK0 catF0), (2, loopF (stC catC2 own1) 0 catK2 catF2)]
theorem cat_tree (ls : List (List Int)) : fnT Tryz.prog [(70, growE)] catLT catFn (catA.wr (ls, ())) [] [.auto, .vers] =
    .need ((0 : Int) = 0 ∧ (ls.length : Int) = ls.length ∧ (0 : Int) = 0 ∧ ls.flatten.length ≤ 140737488355328 ∧ ls.length ≤ 140737488355328) (.need (0 ≤ (ls.flatten.length : Int) ∧ (ls.flatten.length : Int) ≤ 140737488355328)
      (.need ((ls.length : Int) = ls.length ∧ (0 : Int) = 0 ∧ ([] : List Int) = [] ∧ ls.flatten.length ≤ 70368744177664 ∧ ls.length ≤ 140737488355328) (.leaf (.one (.sc (.sl 0 0))) [some (.own 0 u8 ls.flatten)]))) := by kernel_rfl
theorem cat_ok : catE.Ok Tryz.prog 33 := by
  refine (Ent.ofOk Tryz.call33 fun x y Q h => ?_).sym
  obtain ⟨ls, _⟩ := x
  obtain ⟨⟨h1, h2⟩, hq⟩ := h
  refine (fnT_ok mixed (tabC grow_ok tab0) Tryz.func33 rfl (LT := catLT) (ks := [.auto, .vers]) (LOk.ofTab (LTC rfl (loopF_ok (hp := []) cat_loop0) (LTC rfl (loopF_ok (hp := []) cat_loop2) LT0)))).use (D := [(0, .own 0 u8 ls.flatten)]) ?_ hq
  show (fnT _ _ _ _ (catA.wr (ls, ())) [] _).sat _
  rw [cat_tree]
  simp only at h1 h2
  exact ⟨⟨rfl, rfl, rfl, by omega, by omega⟩, ⟨by omega, by omega⟩, ⟨rfl, rfl, rfl, h1, h2⟩, rfl, rfl⟩
end
end Go.Proofs.YthdfifcgobfgdaaGreat
end

section
set_option linter.unusedVariables false
set_option linter.unusedSimpArgs false
namespace Go.Proofs.YthdfifcgobfgdaaGreat
open Go Go.Ev
set_option maxRecDepth 100000
end Go.Proofs.YthdfifcgobfgdaaGreat
end

section
set_option linter.unusedVariables false
set_option linter.unusedSimpArgs false
namespace Go.Proofs.YthdfifcgobfgdaaGreat
open Go Go.Ev
set_option maxRecDepth 100000
theorem nB_eq {b c : Bool} (h : b = c) : nB b = nB c := by rw [h]
end Go.Proofs.YthdfifcgobfgdaaGreat
end

section
set_option linter.unusedVariables false
set_option linter.unusedSimpArgs false
namespace Go.Proofs.YthdfifcgobfgdaaGreat
open Go Go.Ev BJ
set_option maxRecDepth 1000000
noncomputable abbrev rorderE : Ent := e0B ordB
theorem rorder_tree   : fnT Tryz.prog [] [] Tryz.f124 ((lNil).wr ()) [] [.rowF 0 0 32 .u8, .auto] = .leaf (nRow .u8 32 ordB) [] := by kernel_rfl
theorem rorder_tab_ : ∀ p_ ∈ ([] : List (FuncId × Ent)), p_.2.Ok Tryz.prog p_.1 := tab0
theorem rorder_ok : rorderE.Ok Tryz.prog 124 := by
  refine (Ent.ofOk Tryz.call124 fun x_ y_ Q H_ => ?_).sym
  have hq := H_.2
  refine (fnT_ok (tab := []) mixed rorder_tab_ Tryz.func124 rfl (LT := []) (ks := [.rowF 0 0 32 .u8, .auto]) (LOk.nil _)).use (D := []) ?_ hq
  show (fnT _ _ _ _ ((lNil).wr ()) [] _).sat _
  rw [rorder_tree ]
  exact ⟨rfl, rfl⟩
noncomputable abbrev dgFn : Func := Tryz.f72
abbrev dgC : Cod (List LV) (List Int × Int × Unit) := (lCons (vOne (sRd false false u8)) (jk 2 (lSkip (vOne (sSl 0 0)) (lCons (vOne (sInt .i64)) (jk 28 lNil)))))
abbrev dgCf : Wk := .fr (fmS 33 [(0, .keep), (3, .keep), (4, .sym)])
abbrev dgX : Cod (List LV) (Unit) := (jk 3 (lSkip (vOne (sSl 0 0)) (jk 29 lNil)))
abbrev dgXf : Wk := .fr (fmS 33 [(3, .keep)])
abbrev own64 : Cod Hp (List Int × Unit) := lCons (iOwn 0 (.int .i64)) lNil
def dgW : Exit → List Wk
  | .normal => [dgCf, .auto]
  | .exit 0 => [dgXf, .auto]
  | _ => []
theorem dg_rnd (b o : List Int) (i : Int) : rndT Tryz.prog [] [] dgFn 0 [] dgW ((stC dgC own64).wr ((b, i, ()), (o, ()))) =
  Res.ite (decide (i < (↑b.length : Int))) (Res.need ((0 : Int) ≤ IntKind.i64.wrap (i.tdiv (2 : Int)) ∧ IntKind.i64.wrap (i.tdiv (2 : Int)) < (↑o.length
  : Int)) (Res.need ((0 : Int) ≤ i ∧ i < (↑b.length : Int)) (Res.need ((0 : Int) ≤ IntKind.u64.wrap (IntKind.i64.wrap ((8 : Int) * i.tmod (2 : Int))))
  (Res.need ((0 : Int) ≤ IntKind.i64.wrap (i.tdiv (2 : Int)) ∧ IntKind.i64.wrap (i.tdiv (2 : Int)) < (↑o.length : Int)) (Res.leaf Exit.normal ((stC dgC
  own64).wr ((b, IntKind.i64.wrap (i + (1 : Int)), PUnit.unit), o.set (IntKind.i64.wrap (i.tdiv (2 : Int))).toNat (IntKind.i64.wrap (o.getD
  (IntKind.i64.wrap (i.tdiv (2 : Int))).toNat (0 : Int) + shl IntKind.i64 (IntKind.i64.wrap (b.getD i.toNat (0 : Int))) (IntKind.u64.wrap
  (IntKind.i64.wrap ((8 : Int) * i.tmod (2 : Int)))))), PUnit.unit))))))) (Res.leaf (Exit.exit (0 : Nat)) ((stC dgX own64).wr (PUnit.unit, o,
  PUnit.unit))) := by kernel_rfl
noncomputable abbrev mdFn : Func := Tryz.f71
abbrev mdC : Cod (List LV) (List Int × Int × Unit) := (lCons (vOne (sRd false false (.int .i64))) (jk 1 (lSkip (vOne (sPtr 0 0)) (jk 1 (lSkip (vOne (sSl 1 0)) (lSkip (vOne (sPtr 2 0)) (lCons (vOne (sInt .i64)) (jk 105 lNil))))))))
abbrev mdCf : Wk := .fr (fmS 112 [(0, .keep), (2, .keep), (4, .keep), (5, .keep), (6, .sym)])
abbrev mdX : Cod (List LV) (Unit) := (jk 2 (lSkip (vOne (sPtr 0 0)) (jk 2 (lSkip (vOne (sPtr 1 0)) (jk 106 lNil)))))
abbrev mdXf : Wk := .fr (fmS 112 [(2, .keep), (5, .keep)])
abbrev V17 := Vec Int 17
abbrev iV17 : Cod (Option Ev.Item) V17 := iBlk 150 (vecL .i64 17)
abbrev mdH : Cod Hp (List Int × List Int × V17 × Unit) := lCons (iRow 22 .u8 32) (lCons (iOwn 0 (.int .i64)) (lCons iV17 lNil))
abbrev mdHX : Cod Hp (List Int × V17 × Unit) := lCons (iRow 22 .u8 32) (lCons iV17 lNil)
def mdW : Exit → List Wk
  | .normal => [mdCf, .rowB 0 0 32 .u8, .blk 2 (List.replicate 17 .sym), .auto]
  | .exit 0 => [mdXf, .rowB 0 0 32 .u8, .blk 2 (List.replicate 17 .sym), .auto]
  | _ => []
def dgLF (g : List Int → List Int) (x : (List Int × Int × Unit) × List Int × Unit) : Res := .need (x.1.2.1 = 0 ∧ AllBy x.1.1 ∧ x.1.1.length ≤ 64 ∧ x.2.1 = List.replicate 34 0) (.leaf (.exit 0) ((stC dgX own64).wr ((), (g x.1.1, ()))))
theorem dig9_nil : dig9 [] = List.replicate 34 0 := dg_zero hh_pos 34
theorem dg_loop (x) : Ex Tryz.prog [] (.loop (loopAt dgFn 0)) ((stC dgC own64).wr x) (dgLF dig9 x) := by
  obtain ⟨⟨b, i, _⟩, o, _⟩ := x
  refine Ex.need fun ⟨h1, h2, h3, h4⟩ => ?_
  simp only at h1 h2 h3 h4
  subst h1 h4
  have key := loopUp (fn := dgFn) (id := 0) (j := 0) (ws := dgW) (hp := []) mixed tab0 (LOk.nil _) b.length (fun k (_ : Unit) => (stC dgC own64).wr ((b, (k : Int), ()), (dig9 (b.take k), ()))) (fun _ => (stC dgX own64).wr ((), (dig9 b, ()))) (fun _ u => u) (fun _ _ => True)
    (fun k o R hk _ hn hx => ?_) (fun _ _ _ _ => trivial) 0 () (by omega) trivial
  · rw [List.take_zero, dig9_nil] at key; exact key
  rw [dg_rnd]
  have e1 : IntKind.i64.wrap ((k : Int).tdiv 2) = ((k / 2 : Nat) : Int) := tdiv_nat k 2 (by omega)
  have e2 : IntKind.u64.wrap (IntKind.i64.wrap (8 * (k : Int).tmod 2)) = ((k % 2 * 8 : Nat) : Int) := by
    rw [show (k : Int).tmod 2 = ((k % 2 : Nat) : Int) from tmodN k 2, wrap_ok (by omega) (by omega), wrap_u64 (by omega) (by omega)]; omega
  have hl : (dig9 (b.take k)).length = 34 := dg_length _ _
  refine ⟨fun hb => ?_, fun hb => ?_⟩
  · have hk' : k < b.length := by have := of_decide_eq_true hb; omega
    rw [e1, e2, Int.toNat_natCast, Int.toNat_natCast, dig_step h2 h3 hk', wrap_succ k (by omega)]
    exact ⟨by omega, by omega, by omega, by omega, hn hk'⟩
  · have : k = b.length := by have := of_decide_eq_false hb; omega
    subst this
    have := hx rfl
    rw [List.take_length]; exact this
noncomputable abbrev dgLT (g : List Int → List Int) : LTab := [(0, loopF (stC dgC own64) 0 [dgCf, .auto] (dgLF g))]
def eDg (g : List Int → List Int) : Ent := Ent.ofS [some u8] bA lNil fun x _ => .leaf (some (AllBy x.1 ∧ x.1.length ≤ 64)) (.one (.sc (.sl 0 0))) [(0, .own 0 (.int .i64) (g x.1))]
theorem rdig_tree (g : List Int → List Int) (b : List Int) : fnT Tryz.prog [] (dgLT g) dgFn (bA.wr (b, ())) [] [.ownF 0 (.int .i64), .auto, .vers] =
  End.need ((34 : Int) = (34 : Int) ∧ (0 : Int) ≤ (34 : Int) ∧ (272 : Int) ≤ (70368744177664 : Int) ∧ (34 : Int) ≤ (70368744177664 : Int)) (End.need ((0
  : Int) = (0 : Int) ∧ AllBy b ∧ b.length ≤ (64 : Nat) ∧ List.replicate (34 : Nat) (0 : Int) = List.replicate (34 : Nat) (0 : Int)) (End.leaf (LV.one
  (VV.sc (SV.sl (0 : Nat) (0 : Nat)))) [some (Item.own (0 : Nat) (Ty.int IntKind.i64) (g b))])) := by kernel_rfl
noncomputable abbrev rdigE : Ent := eDg dig9
theorem rdig_ok : rdigE.Ok Tryz.prog 72 := by
  refine (Ent.ofOk Tryz.call72 fun x_ y_ Q H_ => ?_).sym
  obtain ⟨b, _⟩ := x_
  obtain ⟨hn, hq⟩ := H_
  refine (fnT_ok mixed tab0 Tryz.func72 rfl (LT := dgLT dig9) (ks := [.ownF 0 (.int .i64), .auto, .vers]) (LOk.ofTab (LTC rfl (loopF_ok (hp := []) dg_loop) LT0))).use (D := [(0, .own 0 (.int .i64) (dig9 b))]) ?_ hq
  show (fnT _ _ _ _ (bA.wr (b, ())) [] _).sat _
  rw [rdig_tree]
  exact ⟨by decide, ⟨rfl, hn.1, hn.2, rfl⟩, rfl, rfl⟩
def needsR (l : List Prop) (r : Res) : Res := l.foldr Res.need r
theorem needsR_sat {R : Exit → St → Prop} : ∀ {l : List Prop} {r : Res}, (∀ p ∈ l, p) → r.sat R → (needsR l r).sat R
  | [], _, _, h => h
  | p :: l, r, hl, h => ⟨hl p (by simp), needsR_sat (fun q hq => hl q (by simp [hq])) h⟩
def mdBit (d : List Int) (i : Int) : Int := bitAnd .i64 (shr .i64 (d.getD (IntKind.i64.wrap (i.tdiv 16)).toNat 0) (IntKind.u64.wrap (i.tmod 16))) 1
theorem md_rnd (d o l : List Int) (r : V17) (i : Int) : rndT Tryz.prog [] [] mdFn 0 [] mdW ((stC mdC mdH).wr ((d, i, ()), (o, l, r, ()))) =
  Res.ite (decide (0 ≤ i)) (needsR ([0 ≤ IntKind.i64.wrap (i.tdiv 16) ∧ IntKind.i64.wrap (i.tdiv 16) < (d.length : Int), 0 ≤ IntKind.u64.wrap (i.tmod 16)] ++ (List.range 17).map fun k : Nat => (0 ≤ (k : Int) ∧ (k : Int) < (l.length : Int)))
    (Res.ite (decide (0 ≤ (carV (subV 0 (dblV (mdBit d i) r) l)).get 16)) (Res.leaf .normal ((stC mdC mdH).wr ((d, IntKind.i64.wrap (i - 1), ()), (o, l, carV (subV 0 (dblV (mdBit d i) r) l), ()))))
      (Res.leaf .normal ((stC mdC mdH).wr ((d, IntKind.i64.wrap (i - 1), ()), (o, l, dblV (mdBit d i) r, ())))))) (Res.leaf (.exit 0) ((stC mdX mdHX).wr ((), (o, r, ())))) := by kernel_rfl
def okD (d : List Int) : Prop := d.length = 34 ∧ InB hh d
abbrev mdT : Type := (List Int × Int × Unit) × List Int × List Int × V17 × Unit
def mdLF (g : List Int → V17) (LL : List Int) (x : mdT) : Res := .need (x.1.2.1 = 543 ∧ okD x.1.1 ∧ x.2.2.1 = LL ∧ x.2.2.2.1 = dgV 17 0) (.leaf (.exit 0) ((stC mdX mdHX).wr ((), (x.2.1, g x.1.1, ()))))
noncomputable def modV (d : List Int) : V17 := dgV 17 (vd hh d % ll)
theorem md_bit {d : List Int} (h : okD d) {i : Nat} (hi : i < 544) : mdBit d (i : Int) = vd hh d / 2 ^ i % 2 := by
  have e1 : IntKind.i64.wrap ((i : Int).tdiv 16) = ((i / 16 : Nat) : Int) := tdiv_nat i 16 (by omega)
  have e2 : IntKind.u64.wrap ((i : Int).tmod 16) = ((i % 16 : Nat) : Int) := by
    rw [show (i : Int).tmod 16 = ((i % 16 : Nat) : Int) from tmodN i 16, wrap_u64 (by omega) (by omega)]
  unfold mdBit
  rw [e1, e2, Int.toNat_natCast, and_i64 (m := 1) (by decide) _ 1 (by decide), shr_div .i64 _ (i % 16) (by simp [IntKind.bits]; omega)]
  have := sub_digit (b := 2) (by decide) (m := 16) (by decide) (l := d) (show InB (2 ^ 16) d from h.2) (k := i) (by rw [h.1]; omega)
  have e3 : (((2 ^ (i % 16) : Nat)) : Int) = 2 ^ (i % 16) := by rw [Int.natCast_pow]; rfl
  rw [e3]
  exact this
theorem md_loop (x : mdT) : Ex Tryz.prog [] (.loop (loopAt mdFn 0)) ((stC mdC mdH).wr x) (mdLF modV (dig9 ordL9) x) := by
  obtain ⟨⟨d, i, _⟩, o, l, r, _⟩ := x
  refine Ex.need fun ⟨h1, h2, h3, h4⟩ => ?_
  simp only at h1 h2 h3 h4
  subst h1 h3 h4
  have hV0 := vd_nonneg hh_pos h2.2
  have hV1 := vd_lt hh_pos h2.2
  rw [h2.1, show hh ^ 34 = 2 ^ 544 from by decide +kernel] at hV1
  have key := loopUp (fn := mdFn) (id := 0) (j := 0) (ws := mdW) (hp := []) mixed tab0 (LOk.nil _) 544 (fun k (_ : Unit) => (stC mdC mdH).wr ((d, 543 - (k : Int), ()), (o, dig9 ordL9, dgV 17 (vd hh d / 2 ^ (544 - k) % ll), ()))) (fun _ => (stC mdX mdHX).wr ((), (o, modV d, ()))) (fun _ u => u) (fun _ _ => True)
    (fun k u R hk _ hn hx => ?_) (fun _ _ _ _ => trivial) 0 () (by omega) trivial
  · rw [show vd hh d / 2 ^ (544 - 0) = 0 from Int.ediv_eq_zero_of_lt hV0 hV1, Int.zero_emod] at key; exact key
  rw [md_rnd]
  refine ⟨fun hb => ?_, fun hb => ?_⟩
  · have hk' : k < 544 := by have := of_decide_eq_true hb; omega
    have e0 : (543 - (k : Int)) = ((544 - (k + 1) : Nat) : Int) := by omega
    have e3 : IntKind.i64.wrap (543 - (k : Int) - 1) = 543 - ((k + 1 : Nat) : Int) := by rw [wrap_ok (by omega) (by omega)]; omega
    have hn' := hn hk'
    have hbit := md_bit h2 (i := 544 - (k + 1)) (by omega)
    have e1 : IntKind.i64.wrap ((543 - (k : Int)).tdiv 16) = (((544 - (k + 1)) / 16 : Nat) : Int) := by rw [e0]; exact tdiv_nat _ 16 (by omega)
    have e2 : IntKind.u64.wrap ((543 - (k : Int)).tmod 16) = (((544 - (k + 1)) % 16 : Nat) : Int) := by
      rw [e0, show (((544 - (k + 1) : Nat) : Int)).tmod 16 = (((544 - (k + 1)) % 16 : Nat) : Int) from tmodN _ 16, wrap_u64 (by omega) (by omega)]
    rw [← e0] at hbit
    have hs := half_step (vd hh d) (544 - (k + 1))
    rw [show 544 - (k + 1) + 1 = 544 - k from by omega] at hs
    have em : (vd hh d / 2 ^ (544 - (k + 1))) % ll = (2 * (vd hh d / 2 ^ (544 - k) % ll) + vd hh d / 2 ^ (544 - (k + 1)) % 2) % ll := by
      conv => lhs; rw [hs]
      exact mod_two _ _ _
    have hb2 : 0 ≤ vd hh d / 2 ^ (544 - (k + 1)) % 2 ∧ vd hh d / 2 ^ (544 - (k + 1)) % 2 < 2 := by omega
    have hR : 0 ≤ vd hh d / 2 ^ (544 - k) % ll ∧ vd hh d / 2 ^ (544 - k) % ll < ll := ⟨Int.emod_nonneg _ (by have := ll_pos; omega), Int.emod_lt_of_pos _ ll_pos⟩
    have hm := mod_dg hR hb2
    rw [← em] at hm
    rw [← hm] at hn'
    rw [hbit, e3]
    refine needsR_sat (fun p hp => ?_) ⟨fun hc => ?_, fun hc => ?_⟩
    · rcases List.mem_append.1 hp with hp | hp
      · simp only [List.mem_cons, List.not_mem_nil, or_false] at hp
        rcases hp with rfl | rfl
        · rw [e1, h2.1]; omega
        · rw [e2]; omega
      · obtain ⟨j, hj, rfl⟩ := List.mem_map.1 hp
        have hj := List.mem_range.1 hj
        have : (dig9 ordL9).length = 34 := dg_length _ _
        rw [this]; omega
    · rw [if_pos (of_decide_eq_true hc)] at hn'; exact hn'
    · rw [if_neg (of_decide_eq_false hc)] at hn'; exact hn'
  · have : k = 544 := by have := of_decide_eq_false hb; omega
    subst this
    have := hx rfl
    simp only [Nat.sub_self, Int.pow_zero, Int.ediv_one]
    exact this
noncomputable abbrev mdLT (g : List Int → V17) (LL : List Int) : LTab := [(0, loopF (stC mdC mdH) 0 [mdCf, .auto, .rowB 0 0 32 .u8, .blk 2 (List.replicate 17 .sym)] (mdLF g LL))]
def outF (v : V17) : List Int := (List.range 32).map fun i => IntKind.u8.wrap (bitAnd .i64 (shr .i64 (v.get (i / 2)) ((8 * (i % 2) : Nat) : Int)) 255)
abbrev rd64A : Cod (List LV) (List Int × Unit) := lCons (vOne (sRd false false (.int .i64))) lNil
def eMd (g : List Int → List Int) : Ent := Ent.ofS [some (.int .i64)] rd64A lNil fun x _ => .leaf (some (okD x.1)) (nRow .u8 32 (g x.1)) []
theorem rmod_tree (g : List Int → V17) (LL o : List Int) (dig : List Int → List Int) (d : List Int) : fnT Tryz.prog [(124, e0B o), (72, eDg dig)] (mdLT g LL) mdFn (rd64A.wr (d, ())) [] [.fr [.sym], .rowF 0 0 32 .u8, .auto] =
    .need ((0 : Int) ≤ 0 ∧ (0 : Int) ≤ 32 ∧ (32 : Int) ≤ 32) (.need (AllBy (List.take 32 (List.drop 0 o)) ∧ (List.take 32 (List.drop 0 o)).length ≤ 64) (.need (IntKind.i64.wrap (IntKind.i64.wrap (16 * (d.length : Int)) - 1) = 543 ∧ okD d ∧ dig (List.take 32 (List.drop 0 o)) = LL ∧ (dgV 17 0) = dgV 17 0) (.leaf (nRow .u8 32 (outF (g d))) []))) := by kernel_rfl
theorem dgV_get : ∀ (n : Nat) (x : Int) (k : Nat), k < n → (dgV n x).get k = x / 65536 ^ k % 65536
  | 0, _, _, h => by omega
  | n + 1, x, 0, _ => by rw [Int.pow_zero, Int.ediv_one]; rfl
  | n + 1, x, k + 1, h => by
    have := dgV_get n (x / 65536) k (by omega)
    rw [Int.pow_succ, Int.mul_comm, ← Int.ediv_ediv_of_nonneg (by decide), ← this]; rfl
theorem out_eq {R : Int} (hR : 0 ≤ R ∧ R < ll) : outF (dgV 17 R) = dg 256 32 R := by
  rw [← dg_map (by decide) 32 R]
  unfold outF
  refine List.map_congr_left fun i hi => ?_
  have hi := List.mem_range.1 hi
  have hp := p17
  have hl := ll_pos
  rw [dgV_get 17 R (i / 2) (by omega), and_i64 (m := 8) (by decide) _ 255 (by decide), shr_div .i64 _ (8 * (i % 2)) (by simp [IntKind.bits]; omega)]
  have key := sub_digit (b := 256) (by decide) (m := 2) (by decide) (l := dg hh 17 R) (show InB (256 ^ 2) _ from dg_in hh_pos 17 R) (k := i) (by rw [dg_length]; omega)
  rw [dg_getD hh_pos (by omega), show vd (256 ^ 2) (dg hh 17 R) = R from by
    rw [← hh_256, vd_dg hh_pos]; exact Int.emod_eq_of_lt hR.1 (by show R < (65536 : Int) ^ 17; omega)] at key
  have e1 : (((2 ^ (8 * (i % 2)) : Nat)) : Int) = 256 ^ (i % 2) := by rw [Nat.pow_mul, Int.natCast_pow]; rfl
  have e2 : (((2 ^ 8 : Nat)) : Int) = 256 := by decide
  rw [e1, e2, wrap_u8, ← key, Int.emod_emod_of_dvd _ (by decide)]
  rfl
noncomputable def redD (d : List Int) : List Int := dg 256 32 (vd hh d % ll)
noncomputable abbrev rmodE : Ent := eMd redD
theorem ord_same : List.take 32 (List.drop 0 ordB) = ordL9 := take_all (dg_length _ _)
theorem rmod_ok : rmodE.Ok Tryz.prog 71 := by
  refine (Ent.ofOk Tryz.call71 fun x_ y_ Q H_ => ?_).sym
  obtain ⟨d, _⟩ := x_
  obtain ⟨hn, hq⟩ := H_
  have hn : okD d := hn
  refine (fnT_ok mixed (tabC rorder_ok (tabC rdig_ok tab0)) Tryz.func71 rfl (LT := mdLT modV (dig9 ordL9)) (ks := [.fr [.sym], .rowF 0 0 32 .u8, .auto]) (LOk.ofTab (LTC rfl (loopF_ok (hp := []) md_loop) LT0))).use (D := []) ?_ hq
  show (fnT _ _ _ _ (rd64A.wr (d, ())) [] _).sat _
  rw [rmod_tree, ord_same]
  have ho : AllBy ordL9 ∧ ordL9.length ≤ 64 := ⟨dg_in (by decide) _ _, by rw [show ordL9.length = 32 from dg_length _ _]; decide⟩
  refine ⟨by decide, ho, ⟨by rw [hn.1]; decide, hn, rfl, rfl⟩, ?_, rfl⟩
  unfold modV redD
  rw [out_eq ⟨Int.emod_nonneg _ (by have := ll_pos; omega), Int.emod_lt_of_pos _ ll_pos⟩]
theorem okD_dig (b : List Int) : okD (dig9 b) := ⟨dg_length _ _, dg_in hh_pos _ _⟩
theorem dig_val {b : List Int} (hb : AllBy b) (hl : b.length ≤ 64) : vd hh (dig9 b) = vd 256 b := by
  obtain ⟨h0, h1⟩ := lt_hh34 hb hl
  have := p64_hh
  unfold dig9
  rw [vd_dg hh_pos, Int.emod_eq_of_lt h0 (by omega)]
noncomputable abbrev rreduceE : Ent := e64B redB
theorem rreduce_tree (dig md : List Int → List Int) (b : List Int) : fnT Tryz.prog [(72, eDg dig), (71, eMd md)] [] Tryz.f35 ((b64A).wr (b, ())) [] kR =
  End.need ((0 : Int) ≤ (0 : Int) ∧ (0 : Int) ≤ (64 : Int) ∧ (64 : Int) ≤ (64 : Int)) (End.need (AllBy (List.take (64 : Nat) (List.drop (0 : Nat) b)) ∧
  (List.take (64 : Nat) (List.drop (0 : Nat) b)).length ≤ (64 : Nat)) (End.need (okD (dig (List.take (64 : Nat) (List.drop (0 : Nat) b)))) (End.leaf
  (LV.one (VV.agg [SV.arr (Ty.int IntKind.u8) (32 : Nat) (md (dig (List.take (64 : Nat) (List.drop (0 : Nat) b))))])) []))) := by kernel_rfl
theorem rreduce_tab_ : ∀ p_ ∈ ([(72, eDg dig9), (71, eMd redD)] : List (FuncId × Ent)), p_.2.Ok Tryz.prog p_.1 := (tabC rdig_ok (tabC rmod_ok tab0))
theorem rreduce_ok : rreduceE.Ok Tryz.prog 35 := by
  refine (Ent.ofOk Tryz.call35 fun x_ y_ Q H_ => ?_).sym
  obtain ⟨b, _⟩ := x_
  obtain ⟨hn, hq⟩ := H_
  have hn : b.length = 64 ∧ AllBy b := hn
  refine (fnT_ok (tab := [(72, eDg dig9), (71, eMd redD)]) mixed rreduce_tab_ Tryz.func35 rfl (LT := []) (ks := kR) (LOk.nil _)).use (D := []) ?_ hq
  show (fnT _ _ _ _ ((b64A).wr (b, ())) [] _).sat _
  rw [rreduce_tree dig9 redD]
  rw [take_all hn.1]
  have e : redD (dig9 b) = redB b := by unfold redD redB; rw [dig_val hn.2 (by omega)]
  rw [e]
  exact ⟨by decide, ⟨hn.2, by rw [hn.1]; decide⟩, okD_dig b, rfl, rfl⟩
noncomputable abbrev risSE : Ent := eBB canB
theorem risS_tree (dig md : List Int → List Int) (b : List Int) : fnT Tryz.prog [(72, eDg dig), (71, eMd md)] [] Tryz.f47 ((bA32).wr (b, ())) [] kK =
  End.need ((0 : Int) ≤ (0 : Int) ∧ (0 : Int) ≤ (32 : Int) ∧ (32 : Int) ≤ (32 : Int)) (End.need (AllBy (List.take (32 : Nat) (List.drop (0 : Nat) b)) ∧
  (List.take (32 : Nat) (List.drop (0 : Nat) b)).length ≤ (64 : Nat)) (End.need (okD (dig (List.take (32 : Nat) (List.drop (0 : Nat) b)))) (End.leaf
  (LV.one (VV.sc (SV.bool (SB.sym (decide (md (dig (List.take (32 : Nat) (List.drop (0 : Nat) b))) = b)))))) []))) := by kernel_rfl
theorem risS_tab_ : ∀ p_ ∈ ([(72, eDg dig9), (71, eMd redD)] : List (FuncId × Ent)), p_.2.Ok Tryz.prog p_.1 := (tabC rdig_ok (tabC rmod_ok tab0))
theorem risS_ok : risSE.Ok Tryz.prog 47 := by
  refine (Ent.ofOk Tryz.call47 fun x_ y_ Q H_ => ?_).sym
  obtain ⟨b, _⟩ := x_
  obtain ⟨hn, hq⟩ := H_
  have hn : okB b := hn
  refine (fnT_ok (tab := [(72, eDg dig9), (71, eMd redD)]) mixed risS_tab_ Tryz.func47 rfl (LT := []) (ks := kK) (LOk.nil _)).use (D := []) ?_ hq
  show (fnT _ _ _ _ ((bA32).wr (b, ())) [] _).sat _
  rw [risS_tree dig9 redD]
  rw [take_all hn.1]
  refine ⟨by decide, ⟨hn.2, by rw [hn.1]; decide⟩, okD_dig b, nB_eq ?_, rfl⟩
  unfold redD canB
  rw [dig_val hn.2 (by rw [hn.1]; decide)]
  have h0 := hn.range
  have hm : 0 ≤ vd 256 b % ll ∧ vd 256 b % ll < ll := ⟨Int.emod_nonneg _ (by have := ll_pos; omega), Int.emod_lt_of_pos _ ll_pos⟩
  have hp : ll < 256 ^ 32 := by decide +kernel
  refine decide_eq_decide.2 ⟨fun h => ?_, fun h => ?_⟩
  · have := congrArg (vd 256) h
    rw [vd_dg (by decide), Int.emod_eq_of_lt hm.1 (by omega)] at this
    show vd 256 b < ll
    omega
  · rw [Int.emod_eq_of_lt h0.1 h, ← hn.1]; exact dg_vd (by decide) hn.2
end Go.Proofs.YthdfifcgobfgdaaGreat
end

section
set_option linter.unusedVariables false
set_option linter.unusedSimpArgs false
namespace Go.Proofs.YthdfifcgobfgdaaGreat
open Go Go.Ev BJ
set_option maxRecDepth 1000000
theorem getD_set {l : List Int} {i : Nat} (h : i < l.length) (x : Int) (j : Nat) : (l.set i x).getD j 0 = if i = j then x else l.getD j 0 := by
  simp only [List.getD_eq_getElem?_getD, List.getElem?_set]
  by_cases e : i = j
  · subst e; simp [h]
  · simp [e]
theorem list_getD {l m : List Int} (h : l.length = m.length) (hj : ∀ j, j < l.length → l.getD j 0 = m.getD j 0) : l = m := by
  refine List.ext_getElem? fun i => ?_
  by_cases hi : i < l.length
  · have := hj i hi
    simp only [List.getD_eq_getElem?_getD, List.getElem?_eq_getElem hi, List.getElem?_eq_getElem (show i < m.length by omega), Option.getD_some] at this
    rw [List.getElem?_eq_getElem hi, List.getElem?_eq_getElem (show i < m.length by omega), this]
  · rw [List.getElem?_eq_none (by omega), List.getElem?_eq_none (by omega)]
def caS (k : Nat) (d : List Int) : List Int := (d.set (k + 1) (IntKind.i64.wrap (d.getD (k + 1) 0 + shr .i64 (d.getD k 0) 16))).set k (bitAnd .i64 ((d.set (k + 1) (IntKind.i64.wrap (d.getD (k + 1) 0 + shr .i64 (d.getD k 0) 16))).getD k 0) 65535)
def okC (d : List Int) : Prop := d.length = 34 ∧ InB 1099511627776 d ∧ vd hh d < hh ^ 34
noncomputable def carD (d : List Int) : List Int := dg hh 34 (vd hh d)
theorem vd_big : ∀ {l : List Int}, InB 1099511627776 l → 0 ≤ vd hh l ∧ vd hh l ≤ 1099511627776 * hh ^ l.length - 1099511627776
  | [], _ => by simp [vd]
  | x :: l, h => by
    obtain ⟨i1, i2⟩ := vd_big (l := l) h.tail
    have hx := h.head
    have e : hh = 65536 := rfl
    have hv : vd hh (x :: l) = x + hh * vd hh l := rfl
    have hp : (1 : Int) ≤ hh ^ l.length := Int.pow_pos hh_pos
    rw [hv, List.length_cons, Int.pow_succ]
    clear hv
    generalize hh ^ l.length = P at *
    generalize vd hh l = U at *
    rw [e]
    omega
def CaI (d : List Int) (k : Nat) (s : List Int) : Prop := s.length = 34 ∧ ∀ j, j < 34 → s.getD j 0 = if j < k then vd hh d / hh ^ j % hh else if j = k then d.getD j 0 + vd hh (d.take k) / hh ^ k else d.getD j 0
theorem ca_take {d : List Int} {k : Nat} (hk : k < d.length) : vd hh (d.take (k + 1)) / hh ^ k = d.getD k 0 + vd hh (d.take k) / hh ^ k := by
  rw [vd_take_succ hk, Int.add_mul_ediv_right _ _ (Int.ne_of_gt (Int.pow_pos hh_pos)), Int.add_comm]
theorem ca_dig {d : List Int} {k : Nat} (hk : k < d.length) : (d.getD k 0 + vd hh (d.take k) / hh ^ k) % hh = vd hh d / hh ^ k % hh := by
  rw [← ca_take hk]
  have e : vd hh d = vd hh (d.take (k + 1)) + hh ^ (k + 1) * vd hh (d.drop (k + 1)) := by
    have := vd_append (B := hh) (d.take (k + 1)) (d.drop (k + 1))
    rw [List.take_append_drop, List.length_take, Nat.min_eq_left (by omega)] at this
    exact this
  rw [e, Int.pow_succ, Int.mul_assoc, Int.add_mul_ediv_left _ _ (Int.ne_of_gt (Int.pow_pos hh_pos)), Int.add_mul_emod_self_left]
theorem ca_step {d s : List Int} (hd : okC d) {k : Nat} (hk : k < 33) (h : CaI d k s) : CaI d (k + 1) (caS k s) := by
  obtain ⟨h1, h2⟩ := h
  obtain ⟨d1, d2, d3⟩ := hd
  have hz := InB.getD (by decide) d2 k
  have hz1 := InB.getD (by decide) d2 (k + 1)
  obtain ⟨b1, b2⟩ := vd_big (l := d.take k) (d2.take k)
  rw [List.length_take, Nat.min_eq_left (by omega)] at b2
  have hp : 0 < hh ^ k := Int.pow_pos hh_pos
  have c0 : 0 ≤ vd hh (d.take k) / hh ^ k := Int.ediv_nonneg b1 (Int.le_of_lt hp)
  have c1 : vd hh (d.take k) / hh ^ k < 1099511627776 := Int.ediv_lt_of_lt_mul hp (by omega)
  have ek := h2 k (by omega)
  rw [if_neg (by omega), if_pos rfl] at ek
  have ek1 := h2 (k + 1) (by omega)
  rw [if_neg (by omega), if_neg (by omega)] at ek1
  have hdig := ca_dig (d := d) (k := k) (by omega)
  have hnext : vd hh (d.take (k + 1)) / hh ^ (k + 1) = (d.getD k 0 + vd hh (d.take k) / hh ^ k) / hh := by
    rw [Int.pow_succ, ← Int.ediv_ediv_of_nonneg (Int.le_of_lt hp), ca_take (by omega)]
  have ht : 0 ≤ d.getD k 0 + vd hh (d.take k) / hh ^ k ∧ d.getD k 0 + vd hh (d.take k) / hh ^ k < 2199023255552 := by omega
  generalize d.getD k 0 + vd hh (d.take k) / hh ^ k = t at *
  have e1 : shr .i64 (s.getD k 0) 16 = t / hh := by rw [ek]; exact shr_div .i64 t 16 (by decide)
  have eh : hh = 65536 := rfl
  have e2 : IntKind.i64.wrap (s.getD (k + 1) 0 + t / hh) = d.getD (k + 1) 0 + t / hh := by rw [ek1]; rw [eh]; exact wrap_ok (by omega) (by omega)
  unfold caS
  rw [e1, e2]
  have l1 : (s.set (k + 1) (d.getD (k + 1) 0 + t / hh)).length = 34 := by rw [List.length_set, h1]
  refine ⟨by rw [List.length_set, l1], fun j hj => ?_⟩
  have q : (s.set (k + 1) (d.getD (k + 1) 0 + t / hh)).getD k 0 = t := by rw [getD_set (l := s) (i := k + 1) (by omega) _ k, if_neg (by omega), ek]
  rw [q, getD_set (l := s.set (k + 1) (d.getD (k + 1) 0 + t / hh)) (i := k) (by omega) _ j]
  have e3 : bitAnd .i64 t 65535 = t % hh := and_i64 (m := 16) (by decide) t 65535 (by decide)
  by_cases hkj : k = j
  · subst hkj
    rw [if_pos rfl, if_pos (by omega), e3]; exact hdig
  · rw [if_neg hkj, getD_set (l := s) (i := k + 1) (by omega) _ j]
    by_cases hkj1 : k + 1 = j
    · subst hkj1
      rw [if_pos rfl, if_neg (by omega), if_pos rfl, hnext]
    · rw [if_neg hkj1, h2 j hj]
      by_cases h3 : j < k
      · rw [if_pos h3, if_pos (by omega)]
      · rw [if_neg h3, if_neg (by omega), if_neg (by omega), if_neg (by omega)]
theorem ca_start {d : List Int} (hd : okC d) : CaI d 0 d := ⟨hd.1, fun j hj => by
  rw [if_neg (by omega)]
  by_cases h : j = 0
  · subst h; rw [if_pos rfl, List.take_zero]; simp [vd]
  · rw [if_neg h]⟩
theorem ca_end {d s : List Int} (hd : okC d) (h : CaI d 33 s) : s = carD d := by
  obtain ⟨h1, h2⟩ := h
  refine list_getD (by rw [h1]; exact (dg_length _ _).symm) fun j hj => ?_
  rw [h1] at hj
  rw [h2 j hj]
  unfold carD
  rw [dg_getD hh_pos hj]
  by_cases h3 : j < 33
  · rw [if_pos h3]
  · have : j = 33 := by omega
    subst this
    rw [if_neg (by omega), if_pos rfl, ← ca_dig (d := d) (by rw [hd.1]; decide), ← ca_take (by rw [hd.1]; decide), show (33 : Nat) + 1 = 34 from rfl, List.take_of_length_le (by rw [hd.1]; decide)]
    refine (Int.emod_eq_of_lt (Int.ediv_nonneg (vd_big hd.2.1).1 (Int.le_of_lt (Int.pow_pos hh_pos))) ?_).symm
    refine Int.ediv_lt_of_lt_mul (Int.pow_pos hh_pos) ?_
    have := hd.2.2
    rwa [Int.pow_succ, Int.mul_comm] at this
def zI (x y : List Int) (i k : Nat) (z : List Int) : List Int := z.set (i + k) (IntKind.i64.wrap (z.getD (i + k) 0 + IntKind.i64.wrap (x.getD i 0 * y.getD k 0)))
def zRow (x y : List Int) (i : Nat) (z : List Int) : List Int := upto (zI x y i) 0 16 z
def zAll (x y z : List Int) : List Int := upto (zRow x y) 0 16 z
def okD' (d : List Int) : Prop := d.length = 34 ∧ InB hh d
def ZI (x y z0 : List Int) (i k : Nat) (z : List Int) : Prop := z.length = 34 ∧ vd hh z = vd hh z0 + vd hh (x.take i) * vd hh (y.take 16) + x.getD i 0 * vd hh (y.take k) * hh ^ i ∧ ∀ j, 0 ≤ z.getD j 0 ∧ z.getD j 0 ≤ 65535 + ((i : Int) + if j < i + k then 1 else 0) * 4294836225
theorem zI_step {x y z0 z : List Int} (hx : okD' x) (hy : okD' y) {i k : Nat} (hi : i < 16) (hk : k < 16) (h : ZI x y z0 i k z) : ZI x y z0 i (k + 1) (zI x y i k z) := by
  obtain ⟨h1, h2, h3⟩ := h
  have ax := InB.getD hh_pos hx.2 i
  have ay := InB.getD hh_pos hy.2 k
  have eh : hh = 65536 := rfl
  rw [eh] at ax ay
  have p0 : 0 ≤ x.getD i 0 * y.getD k 0 := Int.mul_nonneg ax.1 ay.1
  have p1 : x.getD i 0 * y.getD k 0 ≤ 4294836225 := by
    have := Int.mul_le_mul (show x.getD i 0 ≤ 65535 by omega) (show y.getD k 0 ≤ 65535 by omega) ay.1 (by decide)
    simpa using this
  have hz := h3 (i + k)
  rw [if_neg (by omega)] at hz
  have e1 : IntKind.i64.wrap (x.getD i 0 * y.getD k 0) = x.getD i 0 * y.getD k 0 := wrap_ok (by omega) (by omega)
  have e2 : IntKind.i64.wrap (z.getD (i + k) 0 + x.getD i 0 * y.getD k 0) = z.getD (i + k) 0 + x.getD i 0 * y.getD k 0 := wrap_ok (by omega) (by omega)
  unfold zI
  rw [e1, e2]
  refine ⟨by rw [List.length_set, h1], ?_, fun j => ?_⟩
  · rw [vd_set (by omega), h2, vd_take_succ (l := y) (k := k) (by rw [hy.1]; omega), Int.pow_add]
    generalize hh ^ i = P
    generalize hh ^ k = Q
    generalize x.getD i 0 = a
    generalize y.getD k 0 = b
    generalize vd hh (y.take k) = Y
    generalize vd hh (y.take 16) = W
    generalize vd hh (x.take i) = X
    generalize z.getD (i + k) 0 = c
    grobner
  · rw [getD_set (by omega)]
    have hj := h3 j
    by_cases e : i + k = j
    · subst e
      rw [if_pos rfl, if_pos (by omega)]
      omega
    · rw [if_neg e]
      by_cases h4 : j < i + k
      · rw [if_pos h4] at hj; rw [if_pos (by omega)]; exact hj
      · rw [if_neg h4] at hj; rw [if_neg (by omega)]; exact hj
theorem zRow_step {x y z0 z : List Int} (hx : okD' x) (hy : okD' y) {i : Nat} (hi : i < 16) (h : ZI x y z0 i 0 z) : ZI x y z0 (i + 1) 0 (zRow x y i z) := by
  have key : ZI x y z0 i 16 (zRow x y i z) := by
    have := upto_inv (f := zI x y i) (n := 16) (fun k s => ZI x y z0 i k s) (fun k s hk hs => zI_step hx hy hi hk hs) 16 0 z (by omega) h
    exact this
  obtain ⟨h1, h2, h3⟩ := key
  refine ⟨h1, ?_, fun j => ?_⟩
  · rw [h2, vd_take_succ (l := x) (k := i) (by rw [hx.1]; omega)]
    rw [show vd hh (y.take 0) = 0 from rfl]
    generalize hh ^ i = P
    generalize x.getD i 0 = a
    generalize vd hh (y.take 16) = W
    generalize vd hh (x.take i) = X
    generalize x.getD (i + 1) 0 = a'
    grobner
  · have hj := h3 j
    have hc : (((i + 1 : Nat)) : Int) = (i : Int) + 1 := by omega
    rw [hc]
    split at hj <;> split <;> omega
theorem zAll_val {x y z : List Int} (hx : okD' x) (hy : okD' y) (hz : okD' z) : (zAll x y z).length = 34 ∧ vd hh (zAll x y z) = vd hh z + vd hh (x.take 16) * vd hh (y.take 16) ∧ InB 1099511627776 (zAll x y z) := by
  have h0 : ZI x y z 0 0 z := by
    refine ⟨hz.1, ?_, fun j => ?_⟩
    · rw [List.take_zero, List.take_zero]; simp [vd]
    · have := InB.getD hh_pos hz.2 j
      rw [show hh = 65536 from rfl] at this
      rw [if_neg (by omega)]; omega
  have key := upto_inv (f := zRow x y) (n := 16) (fun i s => ZI x y z i 0 s) (fun i s hi hs => zRow_step hx hy hi hs) 16 0 z (by omega) h0
  obtain ⟨h1, h2, h3⟩ := (show ZI x y z 16 0 (zAll x y z) from key)
  refine ⟨h1, by rw [h2, List.take_zero]; simp [vd], fun u hu => ?_⟩
  obtain ⟨j, hj, rfl⟩ := List.mem_iff_getElem.1 hu
  have := h3 j
  rw [List.getD_eq_getElem?_getD, List.getElem?_eq_getElem hj, Option.getD_some] at this
  split at this <;> omega
end Go.Proofs.YthdfifcgobfgdaaGreat
end

section
set_option linter.unusedVariables false
set_option linter.unusedSimpArgs false
namespace Go.Proofs.YthdfifcgobfgdaaGreat
open Go Go.Ev BJ
set_option maxRecDepth 1000000
noncomputable abbrev caFn : Func := Tryz.f89
abbrev caC : Cod (List LV) (Int × Unit) := (lSkip (vOne (sSl 0 0)) (jk 2 (lCons (vOne (sInt .i64)) (jk 31 lNil))))
abbrev caCf : Wk := .fr (fmS 35 [(0, .keep), (3, .sym)])
abbrev caX : Cod (List LV) (Unit) := (lSkip (vOne (sSl 0 0)) (jk 34 lNil))
abbrev caXf : Wk := .fr (fmS 35 [(0, .keep)])
def caW : Exit → List Wk
  | .normal => [caCf, .auto]
  | .exit 0 => [caXf, .auto]
  | _ => []
theorem ca_rnd (d0 d : List Int) (i : Int) : rndT Tryz.prog [] [] caFn 0 (own64.wr (d0, ())) caW ((stC caC own64).wr ((i, ()), (d, ()))) =
  Res.ite (decide (IntKind.i64.wrap (i + (1 : Int)) < (↑d.length : Int))) (Res.need ((0 : Int) ≤ IntKind.i64.wrap (i + (1 : Int)) ∧ IntKind.i64.wrap (i +
  (1 : Int)) < (↑d.length : Int)) (Res.need ((0 : Int) ≤ i ∧ i < (↑d.length : Int)) (Res.need ((0 : Int) ≤ IntKind.i64.wrap (i + (1 : Int)) ∧
  IntKind.i64.wrap (i + (1 : Int)) < (↑d.length : Int)) (Res.need ((0 : Int) ≤ i ∧ i < (↑(d.set (IntKind.i64.wrap (i + (1 : Int))).toNat
  (IntKind.i64.wrap (d.getD (IntKind.i64.wrap (i + (1 : Int))).toNat (0 : Int) + shr IntKind.i64 (d.getD i.toNat (0 : Int)) (16 : Int)))).length : Int))
  (Res.need ((0 : Int) ≤ i ∧ i < (↑(d.set (IntKind.i64.wrap (i + (1 : Int))).toNat (IntKind.i64.wrap (d.getD (IntKind.i64.wrap (i + (1 : Int))).toNat (0
  : Int) + shr IntKind.i64 (d.getD i.toNat (0 : Int)) (16 : Int)))).length : Int)) (Res.leaf Exit.normal ((stC caC own64).wr ((IntKind.i64.wrap (i + (1 :
  Int)), PUnit.unit), (d.set (IntKind.i64.wrap (i + (1 : Int))).toNat (IntKind.i64.wrap (d.getD (IntKind.i64.wrap (i + (1 : Int))).toNat (0 : Int) + shr
  IntKind.i64 (d.getD i.toNat (0 : Int)) (16 : Int)))).set i.toNat (bitAnd IntKind.i64 ((d.set (IntKind.i64.wrap (i + (1 : Int))).toNat (IntKind.i64.wrap
  (d.getD (IntKind.i64.wrap (i + (1 : Int))).toNat (0 : Int) + shr IntKind.i64 (d.getD i.toNat (0 : Int)) (16 : Int)))).getD i.toNat (0 : Int)) (65535 :
  Int)), PUnit.unit)))))))) (Res.leaf (Exit.exit (0 : Nat)) ((stC caX own64).wr (PUnit.unit, d, PUnit.unit))) := by kernel_rfl
def caLFg (g : List Int → List Int) (x : (Int × Unit) × List Int × Unit) : Res := .need (x.1.1 = 0 ∧ okC x.2.1) (.leaf (.exit 0) ((stC caX own64).wr ((), (g x.2.1, ()))))
theorem ca_loop (d0 : List Int) (x) : Ex Tryz.prog (own64.wr (d0, ())) (.loop (loopAt caFn 0)) ((stC caC own64).wr x) (caLFg carD x) := by
  obtain ⟨⟨i, _⟩, d, _⟩ := x
  refine Ex.need fun ⟨h1, h2⟩ => ?_
  simp only at h1 h2
  subst h1
  have key := loopUp (fn := caFn) (id := 0) (j := 0) (ws := caW) (hp := own64.wr (d0, ())) mixed tab0 (LOk.nil _) 33 (fun k (o : List Int) => (stC caC own64).wr (((k : Int), ()), (o, ()))) (fun (o : List Int) => (stC caX own64).wr ((), (o, ()))) caS (CaI d)
    (fun k o R hk ho hn hx => ?_) (fun k o hk ho => ca_step h2 hk ho) 0 d (by omega) (ca_start h2)
  · rw [Nat.sub_zero, ca_end h2 (upto_inv (f := caS) (n := 33) (CaI d) (fun k s hk hs => ca_step h2 hk hs) 33 0 d (by omega) (ca_start h2))] at key
    exact key
  rw [ca_rnd]
  have hl := ho.1
  refine ⟨fun hb => ?_, fun hb => ?_⟩
  · have e1 : IntKind.i64.wrap ((k : Int) + 1) = ((k + 1 : Nat) : Int) := wrap_succ k (by omega)
    have hk' : k < 33 := by have := of_decide_eq_true hb; rw [e1, hl] at this; omega
    have hn' := hn hk'
    rw [e1, Int.toNat_natCast, Int.toNat_natCast, List.length_set]
    exact ⟨by omega, by omega, by omega, by omega, by omega, hn'⟩
  · have e1 : IntKind.i64.wrap ((k : Int) + 1) = ((k + 1 : Nat) : Int) := wrap_succ k (by omega)
    have : k = 33 := by have := of_decide_eq_false hb; rw [e1, hl] at this; omega
    exact hx this
noncomputable abbrev caLT (g : List Int → List Int) : LTab := [(0, loopF (stC caC own64) 1 [caCf, .auto] (caLFg g))]
abbrev slA : Cod (List LV) Unit := lSkip (vOne (sSl 0 0)) lNil
def eCa (g : List Int → List Int) : Ent := Ent.ofS [] slA own64 fun _ h => .leaf (some (okC h.1)) (.one (.sc (.sl 0 0))) [(0, .own 0 (.int .i64) (g h.1))]
theorem rcar_tree (g : List Int → List Int) (d : List Int) : fnT Tryz.prog [] (caLT g) caFn (slA.wr ()) (own64.wr (d, ())) [.auto] =
  End.need ((0 : Int) = (0 : Int) ∧ okC d) (End.leaf (LV.one (VV.sc (SV.sl (0 : Nat) (0 : Nat)))) [some (Item.own (0 : Nat) (Ty.int IntKind.i64) (g d))]) := by kernel_rfl
noncomputable abbrev rcarE : Ent := eCa carD
theorem rcar_ok : rcarE.Ok Tryz.prog 89 := by
  refine (Ent.ofOk Tryz.call89 fun x_ y_ Q H_ => ?_).sym
  obtain ⟨d, _⟩ := y_
  obtain ⟨hn, hq⟩ := H_
  refine (fnT_ok mixed tab0 Tryz.func89 rfl (LT := caLT carD) (ks := [.auto]) (LOk.ofTab (LTC rfl (loopF_ok (hp := own64.wr (d, ())) (ca_loop d)) LT0))).use (D := [(0, .own 0 (.int .i64) (carD d))]) ?_ hq
  show (fnT _ _ _ _ (slA.wr ()) (own64.wr (d, ())) _).sat _
  rw [rcar_tree]
  exact ⟨⟨rfl, hn⟩, rfl, rfl⟩
noncomputable abbrev zFn : Func := Tryz.f41
abbrev ziC : Cod (List LV) (Int × Int × Unit) := (jk 6 (lSkip (vOne (sPtr 0 0)) (lSkip (vOne (sSl 1 0)) (lSkip (vOne (sSl 2 0)) (lSkip (vOne (sSl 3 0)) (lCons (vOne (sInt .i64)) (lCons (vOne (sInt .i64)) (jk 38 lNil))))))))
abbrev ziCf : Wk := .fr (fmS 50 [(6, .keep), (7, .keep), (8, .keep), (9, .keep), (10, .sym), (11, .sym)])
abbrev ziX : Cod (List LV) (Int × Unit) := (jk 6 (lSkip (vOne (sPtr 0 0)) (lSkip (vOne (sSl 1 0)) (lSkip (vOne (sSl 2 0)) (lSkip (vOne (sSl 3 0)) (lCons (vOne (sInt .i64)) (jk 39 lNil)))))))
abbrev ziXf : Wk := .fr (fmS 50 [(6, .keep), (7, .keep), (8, .keep), (9, .keep), (10, .sym)])
abbrev zoX : Cod (List LV) (Unit) := (jk 6 (lSkip (vOne (sPtr 0 0)) (jk 2 (lSkip (vOne (sSl 1 0)) (jk 40 lNil)))))
abbrev zoXf : Wk := .fr (fmS 50 [(6, .keep), (9, .keep)])
abbrev o64 : Cod (Option Ev.Item) (List Int) := iOwn 0 (.int .i64)
abbrev zH : Cod Hp (List Int × List Int × List Int × List Int × Unit) := lCons (iRow 22 .u8 32) (lCons o64 (lCons o64 (lCons o64 lNil)))
abbrev zHX : Cod Hp (List Int × List Int × Unit) := lCons (iRow 22 .u8 32) (lCons o64 lNil)
def ziW : Exit → List Wk
  | .normal => [ziCf, .auto, .rowB 0 0 32 .u8]
  | .exit 2 => [ziXf, .auto, .rowB 0 0 32 .u8]
  | _ => []
theorem zi_rnd (o x y z : List Int) (i k : Int) : rndT Tryz.prog [] [] zFn 2 [] ziW ((stC ziC zH).wr ((i, k, ()), (o, x, y, z, ()))) =
  Res.ite (decide (k < (16 : Int))) (Res.need ((0 : Int) ≤ IntKind.i64.wrap (i + k) ∧ IntKind.i64.wrap (i + k) < (↑z.length : Int)) (Res.need ((0 : Int)
  ≤ i ∧ i < (↑x.length : Int)) (Res.need ((0 : Int) ≤ k ∧ k < (↑y.length : Int)) (Res.need ((0 : Int) ≤ IntKind.i64.wrap (i + k) ∧ IntKind.i64.wrap (i +
  k) < (↑z.length : Int)) (Res.leaf Exit.normal ((stC ziC zH).wr ((i, IntKind.i64.wrap (k + (1 : Int)), PUnit.unit), o, x, y, z.set (IntKind.i64.wrap (i
  + k)).toNat (IntKind.i64.wrap (z.getD (IntKind.i64.wrap (i + k)).toNat (0 : Int) + IntKind.i64.wrap (x.getD i.toNat (0 : Int) * y.getD k.toNat (0 :
  Int)))), PUnit.unit))))))) (Res.leaf (Exit.exit (2 : Nat)) ((stC ziX zH).wr ((i, PUnit.unit), o, x, y, z, PUnit.unit))) := by kernel_rfl
def l34 (x y z : List Int) : Prop := x.length = 34 ∧ y.length = 34 ∧ z.length = 34
abbrev ziT : Type := (Int × Int × Unit) × List Int × List Int × List Int × List Int × Unit
def ziLF (g : List Int → List Int → Nat → List Int → List Int) (x : ziT) : Res := .need (x.1.2.1 = 0 ∧ 0 ≤ x.1.1 ∧ x.1.1 < 16 ∧ l34 x.2.2.1 x.2.2.2.1 x.2.2.2.2.1) (.leaf (.exit 2) ((stC ziX zH).wr ((x.1.1, ()), (x.2.1, x.2.2.1, x.2.2.2.1, g x.2.2.1 x.2.2.2.1 x.1.1.toNat x.2.2.2.2.1, ()))))
theorem zi_loop (x : ziT) : Ex Tryz.prog [] (.loop (loopAt zFn 2)) ((stC ziC zH).wr x) (ziLF zRow x) := by
  obtain ⟨⟨i, k, _⟩, o, x, y, z, _⟩ := x
  refine Ex.need fun ⟨h1, h2, h3, h4, h5, h6⟩ => ?_
  simp only at h1 h2 h3 h4 h5 h6
  subst h1
  obtain ⟨i, rfl⟩ := Int.eq_ofNat_of_zero_le h2
  have hi : i < 16 := by omega
  have key := loopUp (fn := zFn) (id := 2) (j := 2) (ws := ziW) (hp := []) mixed tab0 (LOk.nil _) 16 (fun k (s : List Int) => (stC ziC zH).wr (((i : Int), (k : Int), ()), (o, x, y, s, ()))) (fun (s : List Int) => (stC ziX zH).wr (((i : Int), ()), (o, x, y, s, ()))) (zI x y i) (fun _ s => s.length = 34)
    (fun k s R hk hs hn hx => ?_) (fun k s hk hs => by unfold zI; rw [List.length_set]; exact hs) 0 z (by omega) h6
  · exact key
  rw [zi_rnd]
  refine ⟨fun hb => ?_, fun hb => ?_⟩
  · have hk' : k < 16 := by have := of_decide_eq_true hb; omega
    have e : IntKind.i64.wrap ((i : Int) + (k : Int)) = ((i + k : Nat) : Int) := by rw [wrap_ok (by omega) (by omega)]; omega
    have hn' := hn hk'
    rw [e, Int.toNat_natCast, Int.toNat_natCast, Int.toNat_natCast, wrap_succ k (by omega)]
    exact ⟨by omega, by omega, by omega, by omega, hn'⟩
  · have : k = 16 := by have := of_decide_eq_false hb; omega
    exact hx this
noncomputable abbrev ziLT (g : List Int → List Int → Nat → List Int → List Int) : LTab := [(2, loopF (stC ziC zH) 0 [ziCf, .auto, .rowB 0 0 32 .u8] (ziLF g))]
def zoW : Exit → List Wk
  | .normal => [ziXf, .auto, .rowB 0 0 32 .u8]
  | .exit 0 => [zoXf, .auto, .rowB 0 0 32 .u8]
  | _ => []
theorem zo_rnd (g : List Int → List Int → Nat → List Int → List Int) (o x y z : List Int) (i : Int) : rndT Tryz.prog [] (ziLT g) zFn 0 [] zoW ((stC ziX zH).wr ((i, ()), (o, x, y, z, ()))) =
  Res.ite (decide (i < (16 : Int))) (Res.need ((0 : Int) = (0 : Int) ∧ (0 : Int) ≤ i ∧ i < (16 : Int) ∧ l34 x y z) (Res.leaf Exit.normal ((stC ziX zH).wr
  ((IntKind.i64.wrap (i + (1 : Int)), PUnit.unit), o, x, y, g x y i.toNat z, PUnit.unit)))) (Res.leaf (Exit.exit (0 : Nat)) ((stC zoX zHX).wr
  (PUnit.unit, o, z, PUnit.unit))) := by kernel_rfl
theorem zRow_length (x y : List Int) (i : Nat) {z : List Int} (h : z.length = 34) : (zRow x y i z).length = 34 := upto_inv (f := zI x y i) (n := 16) (fun _ s => s.length = 34) (fun k s _ hs => by unfold zI; rw [List.length_set]; exact hs) 16 0 z (by omega) h
abbrev zoT : Type := (Int × Unit) × List Int × List Int × List Int × List Int × Unit
def zoLF (g : List Int → List Int → List Int → List Int) (x : zoT) : Res := .need (x.1.1 = 0 ∧ l34 x.2.2.1 x.2.2.2.1 x.2.2.2.2.1) (.leaf (.exit 0) ((stC zoX zHX).wr ((), (x.2.1, g x.2.2.1 x.2.2.2.1 x.2.2.2.2.1, ()))))
theorem ziL_mem : ∀ p ∈ ziLT zRow, isLoop (blkAt (bodyOf zFn) p.1) = true ∧ ∀ st, Ex Tryz.prog [] (.loop (loopAt zFn p.1)) st (p.2 st) := LTC rfl (loopF_ok (hp := []) zi_loop) LT0
theorem zo_loop (x : zoT) : Ex Tryz.prog [] (.loop (loopAt zFn 0)) ((stC ziX zH).wr x) (zoLF zAll x) := by
  obtain ⟨⟨i, _⟩, o, x, y, z, _⟩ := x
  refine Ex.need fun ⟨h1, h4, h5, h6⟩ => ?_
  simp only at h1 h4 h5 h6
  subst h1
  have key := loopUp (fn := zFn) (id := 0) (j := 0) (ws := zoW) (hp := []) mixed tab0 (LOk.inner rfl ziL_mem) 16 (fun k (s : List Int) => (stC ziX zH).wr (((k : Int), ()), (o, x, y, s, ()))) (fun (s : List Int) => (stC zoX zHX).wr ((), (o, s, ()))) (zRow x y) (fun _ s => s.length = 34)
    (fun k s R hk hs hn hx => ?_) (fun k s hk hs => zRow_length x y k hs) 0 z (by omega) h6
  · exact key
  rw [zo_rnd]
  refine ⟨fun hb => ?_, fun hb => ?_⟩
  · have hk' : k < 16 := by have := of_decide_eq_true hb; omega
    have hn' := hn hk'
    rw [Int.toNat_natCast, wrap_succ k (by omega)]
    exact ⟨⟨rfl, by omega, by omega, h4, h5, hs⟩, hn'⟩
  · have : k = 16 := by have := of_decide_eq_false hb; omega
    exact hx this
noncomputable abbrev zoLT (g : List Int → List Int → List Int → List Int) : LTab := [(0, loopF (stC ziX zH) 0 [ziXf, .auto, .rowB 0 0 32 .u8] (zoLF g))]
theorem rma_tree (g : List Int → List Int → List Int → List Int) (dig md car : List Int → List Int) (a b c : List Int) : fnT Tryz.prog [(72, eDg dig), (71, eMd md), (89, eCa car)] (zoLT g) zFn (b3A.wr (a, b, c, ())) [] [.fr [.sym], .rowF 0 0 32 .u8, .auto] =
  End.need ((0 : Int) ≤ (0 : Int) ∧ (0 : Int) ≤ (32 : Int) ∧ (32 : Int) ≤ (32 : Int)) (End.need (AllBy (List.take (32 : Nat) (List.drop (0 : Nat) a)) ∧
  (List.take (32 : Nat) (List.drop (0 : Nat) a)).length ≤ (64 : Nat)) (End.need ((0 : Int) ≤ (0 : Int) ∧ (0 : Int) ≤ (32 : Int) ∧ (32 : Int) ≤ (32 :
  Int)) (End.need (AllBy (List.take (32 : Nat) (List.drop (0 : Nat) b)) ∧ (List.take (32 : Nat) (List.drop (0 : Nat) b)).length ≤ (64 : Nat)) (End.need
  ((0 : Int) ≤ (0 : Int) ∧ (0 : Int) ≤ (32 : Int) ∧ (32 : Int) ≤ (32 : Int)) (End.need (AllBy (List.take (32 : Nat) (List.drop (0 : Nat) c)) ∧ (List.take
  (32 : Nat) (List.drop (0 : Nat) c)).length ≤ (64 : Nat)) (End.need ((0 : Int) = (0 : Int) ∧ l34 (dig (List.take (32 : Nat) (List.drop (0 : Nat) a)))
  (dig (List.take (32 : Nat) (List.drop (0 : Nat) b))) (dig (List.take (32 : Nat) (List.drop (0 : Nat) c)))) (End.need (okC (g (dig (List.take (32 : Nat)
  (List.drop (0 : Nat) a))) (dig (List.take (32 : Nat) (List.drop (0 : Nat) b))) (dig (List.take (32 : Nat) (List.drop (0 : Nat) c))))) (End.need (okD
  (car (g (dig (List.take (32 : Nat) (List.drop (0 : Nat) a))) (dig (List.take (32 : Nat) (List.drop (0 : Nat) b))) (dig (List.take (32 : Nat) (List.drop
  (0 : Nat) c)))))) (End.leaf (LV.one (VV.agg [SV.arr (Ty.int IntKind.u8) (32 : Nat) (md (car (g (dig (List.take (32 : Nat) (List.drop (0 : Nat) a)))
  (dig (List.take (32 : Nat) (List.drop (0 : Nat) b))) (dig (List.take (32 : Nat) (List.drop (0 : Nat) c))))))])) []))))))))) := by kernel_rfl
noncomputable abbrev rMulAddE : Ent := eB3 mulB
theorem p256_hh : (2 : Int) ^ 256 = hh ^ 16 := by decide +kernel
theorem p544 : ((2 : Int) ^ 256 - 1) * (2 ^ 256 - 1) + 2 ^ 256 < hh ^ 34 := by decide +kernel
theorem dig_take {a : List Int} (ha : okB a) : vd hh ((dig9 a).take 16) = vd 256 a := by
  have h := ha.range
  rw [vd_take hh_pos (okD_dig a).2 16 (by rw [(okD_dig a).1]; decide), dig_val ha.2 (by rw [ha.1]; decide), ← p256_hh]
  exact Int.emod_eq_of_lt h.1 h.2
theorem rMulAdd_ok : rMulAddE.Ok Tryz.prog 41 := by
  refine (Ent.ofOk Tryz.call41 fun x_ y_ Q H_ => ?_).sym
  obtain ⟨a, b, c, _⟩ := x_
  obtain ⟨hn, hq⟩ := H_
  obtain ⟨ha, hb, hc⟩ : okB a ∧ okB b ∧ okB c := hn
  refine (fnT_ok mixed (tabC rdig_ok (tabC rmod_ok (tabC rcar_ok tab0))) Tryz.func41 rfl (LT := zoLT zAll) (ks := [.fr [.sym], .rowF 0 0 32 .u8, .auto]) (LOk.ofTab (LTC rfl (loopF_ok (hp := []) zo_loop) LT0))).use (D := []) ?_ hq
  show (fnT _ _ _ _ (b3A.wr (a, b, c, ())) [] _).sat _
  rw [rma_tree, take_all ha.1, take_all hb.1, take_all hc.1]
  obtain ⟨z1, z2, z3⟩ := zAll_val (x := dig9 a) (y := dig9 b) (z := dig9 c) (okD_dig a) (okD_dig b) (okD_dig c)
  rw [dig_take ha, dig_take hb, dig_val hc.2 (by rw [hc.1]; decide)] at z2
  have r1 := ha.range
  have r2 := hb.range
  have r3 := hc.range
  have h5 : vd 256 a * vd 256 b ≤ (2 ^ 256 - 1) * (2 ^ 256 - 1) := Int.mul_le_mul (by omega) (by omega) r2.1 (by decide +kernel)
  have h6 : 0 ≤ vd 256 a * vd 256 b := Int.mul_nonneg r1.1 r2.1
  have hp := p544
  have hV : vd hh (zAll (dig9 a) (dig9 b) (dig9 c)) < hh ^ 34 := by rw [z2]; omega
  have hV0 : 0 ≤ vd hh (zAll (dig9 a) (dig9 b) (dig9 c)) := by rw [z2]; omega
  have e : redD (carD (zAll (dig9 a) (dig9 b) (dig9 c))) = mulB a b c := by
    unfold redD carD mulB
    rw [vd_dg hh_pos, Int.emod_eq_of_lt hV0 hV, z2, Int.add_comm (vd 256 c)]
  have l8 : (32 : Nat) ≤ 64 := by decide
  refine ⟨by decide, ⟨ha.2, by rw [ha.1]; exact l8⟩, by decide, ⟨hb.2, by rw [hb.1]; exact l8⟩, by decide, ⟨hc.2, by rw [hc.1]; exact l8⟩, ⟨rfl, (okD_dig a).1, (okD_dig b).1, (okD_dig c).1⟩, ⟨z1, z3, hV⟩, ⟨dg_length _ _, dg_in hh_pos _ _⟩, ?_, rfl⟩
  rw [e]
end Go.Proofs.YthdfifcgobfgdaaGreat
end

section
set_option linter.unusedVariables false
set_option linter.unusedSimpArgs false
namespace Go.Proofs.YthdfifcgobfgdaaGreat
open Go Go.Ev
set_option maxRecDepth 100000
abbrev uiC : Cod (List LV) (Int × Int × Unit) := lCons (vOne (sInt .u64)) (lCons (vOne (sInt .i64)) lNil)
abbrev u3C : Cod (List LV) (Int × Int × Int × Unit) := lCons (vOne (sInt .u64)) (lCons (vOne (sInt .u64)) (lCons (vOne (sInt .u64)) lNil))
abbrev ui3C : Cod (List LV) (Int × Int × Int × Int × Unit) := lCons (vOne (sInt .u64)) (lCons (vOne (sInt .i64)) (lCons (vOne (sInt .i64)) (lCons (vOne (sInt .i64)) lNil)))
def rotlF (x k : Int) : Int := bitOr .u64 (shl .u64 x (bitAnd .u64 (IntKind.u64.wrap k) 63)) (shr .u64 x (IntKind.u64.wrap (64 - bitAnd .u64 (IntKind.u64.wrap k) 63)))
theorem and63 (k : Int) : bitAnd .u64 (IntKind.u64.wrap k) 63 = k % 64 := by
  rw [and_u64 (m := 6) (by decide) _ _ (by decide), wrap_u64']
  exact Int.emod_emod_of_dvd _ (by decide)
/-- bits turned down -/
def rotr (x n : Int) : Int := bitOr .u64 (shl .u64 x (64 - n)) (shr .u64 x n)
theorem rotlF_eq {x n : Int} (h0 : 0 < n) (h1 : n < 64) : rotlF x (IntKind.i64.wrap (0 - n)) = rotr x n := by
  unfold rotlF rotr
  have e : bitAnd .u64 (IntKind.u64.wrap (IntKind.i64.wrap (0 - n))) 63 = 64 - n := by
    rw [and63, wrap_i64 (by omega) (by omega)]; omega
  rw [e, wrap_u64 (by omega) (by omega), show (64 : Int) - (64 - n) = n from by omega]
noncomputable def rotlE : Ent := Ent.ofS [] (uiC) (lNil) fun x_ y_ => (fun (x k : Int) => .leaf none (nU (rotlF x k)) []) x_.1 x_.2.1
theorem rotl_tree (x k : Int) : fnT Tryz.prog [] [] Tryz.f163 ((uiC).wr (x, k, ())) ((lNil).wr ()) [.fr [.sym], .auto] =
  End.need ((0 : Int) ≤ bitAnd IntKind.u64 (IntKind.u64.wrap k) (63 : Int)) (End.need ((0 : Int) ≤ IntKind.u64.wrap ((64 : Int) - bitAnd IntKind.u64
  (IntKind.u64.wrap k) (63 : Int))) (End.leaf (LV.one (VV.sc (SV.int IntKind.u64 (SI.sym (bitOr IntKind.u64 (shl IntKind.u64 x (bitAnd IntKind.u64
  (IntKind.u64.wrap k) (63 : Int))) (shr IntKind.u64 x (IntKind.u64.wrap ((64 : Int) - bitAnd IntKind.u64 (IntKind.u64.wrap k) (63 : Int))))))))) [])) := by kernel_rfl
theorem rotl_ok : rotlE.Ok Tryz.prog 163 := by
  refine (Ent.ofOk Tryz.call163 fun x_ y_ Q H_ => ?_).sym
  obtain ⟨x, k, _⟩ := x_
  have hq := H_.2
  refine (fnT_ok mixed tab0 Tryz.func163 rfl (LT := []) (ks := [.fr [.sym], .auto]) (LOk.nil _)).use (D := []) ?_ hq
  show (fnT _ _ _ _ ((uiC).wr (x, k, ())) ((lNil).wr ()) _).sat _
  rw [rotl_tree]
  have e := and63 k
  refine ⟨by omega, by rw [e, wrap_u64 (by omega) (by omega)]; omega, rfl, rfl⟩
noncomputable def rotrE : Ent := Ent.ofS [] (uiC) (lNil) fun x_ y_ => (fun (x k : Int) => .leaf (some (0 < k ∧ k < 64)) (nU (rotr x k)) []) x_.1 x_.2.1
theorem rotr_tree (x k : Int) : fnT Tryz.prog [(163, rotlE)] [] Tryz.f162 ((uiC).wr (x, k, ())) ((lNil).wr ()) [.fr [.sym], .auto] =
  End.leaf (LV.one (VV.sc (SV.int IntKind.u64 (SI.sym (rotlF x (IntKind.i64.wrap ((0 : Int) - k.tmod (64 : Int)))))))) [] := by kernel_rfl
theorem rotr_ok : rotrE.Ok Tryz.prog 162 := by
  refine (Ent.ofOk Tryz.call162 fun x_ y_ Q H_ => ?_).sym
  obtain ⟨x, k, _⟩ := x_
  obtain ⟨hn, hq⟩ := H_
  have hn : 0 < k ∧ k < 64 := hn
  refine (fnT_ok mixed ((tabC rotl_ok tab0)) Tryz.func162 rfl (LT := []) (ks := [.fr [.sym], .auto]) (LOk.nil _)).use (D := []) ?_ hq
  show (fnT _ _ _ _ ((uiC).wr (x, k, ())) ((lNil).wr ()) _).sat _
  rw [rotr_tree]
  have e : k.tmod 64 = k := by rw [Int.tmod_eq_emod_of_nonneg (by omega)]; omega
  rw [e, rotlF_eq hn.1 hn.2]
  exact ⟨rfl, rfl⟩
def chF (x y z : Int) : Int := bitXor .u64 (bitAnd .u64 x y) (bitAnd .u64 (bitXor .u64 18446744073709551615 x) z)
def majF (x y z : Int) : Int := bitXor .u64 (bitXor .u64 (bitAnd .u64 x y) (bitAnd .u64 x z)) (bitAnd .u64 y z)
noncomputable def chE : Ent := Ent.ofS [] (u3C) (lNil) fun x_ y_ => (fun (x y z : Int) => .leaf none (nU (chF x y z)) []) x_.1 x_.2.1 x_.2.2.1
theorem ch_tree (x y z : Int) : fnT Tryz.prog [] [] Tryz.f159 ((u3C).wr (x, y, z, ())) ((lNil).wr ()) [.fr [.sym], .auto] =
  End.leaf (LV.one (VV.sc (SV.int IntKind.u64 (SI.sym (bitXor IntKind.u64 (bitAnd IntKind.u64 x y) (bitAnd IntKind.u64 (bitXor IntKind.u64
  (18446744073709551615 : Int) x) z)))))) [] := by kernel_rfl
theorem ch_ok : chE.Ok Tryz.prog 159 := by
  refine (Ent.ofOk Tryz.call159 fun x_ y_ Q H_ => ?_).sym
  obtain ⟨x, y, z, _⟩ := x_
  have hq := H_.2
  refine (fnT_ok mixed tab0 Tryz.func159 rfl (LT := []) (ks := [.fr [.sym], .auto]) (LOk.nil _)).use (D := []) ?_ hq
  show (fnT _ _ _ _ ((u3C).wr (x, y, z, ())) ((lNil).wr ()) _).sat _
  rw [ch_tree]
  exact ⟨rfl, rfl⟩
noncomputable def majE : Ent := Ent.ofS [] (u3C) (lNil) fun x_ y_ => (fun (x y z : Int) => .leaf none (nU (majF x y z)) []) x_.1 x_.2.1 x_.2.2.1
theorem maj_tree (x y z : Int) : fnT Tryz.prog [] [] Tryz.f160 ((u3C).wr (x, y, z, ())) ((lNil).wr ()) [.fr [.sym], .auto] =
  End.leaf (LV.one (VV.sc (SV.int IntKind.u64 (SI.sym (bitXor IntKind.u64 (bitXor IntKind.u64 (bitAnd IntKind.u64 x y) (bitAnd IntKind.u64 x z)) (bitAnd
  IntKind.u64 y z)))))) [] := by kernel_rfl
theorem maj_ok : majE.Ok Tryz.prog 160 := by
  refine (Ent.ofOk Tryz.call160 fun x_ y_ Q H_ => ?_).sym
  obtain ⟨x, y, z, _⟩ := x_
  have hq := H_.2
  refine (fnT_ok mixed tab0 Tryz.func160 rfl (LT := []) (ks := [.fr [.sym], .auto]) (LOk.nil _)).use (D := []) ?_ hq
  show (fnT _ _ _ _ ((u3C).wr (x, y, z, ())) ((lNil).wr ()) _).sat _
  rw [maj_tree]
  exact ⟨rfl, rfl⟩
def smallF (x a b d : Int) : Int := bitXor .u64 (bitXor .u64 (rotr x a) (rotr x b)) (shr .u64 x d)
def greatF (x a b d : Int) : Int := bitXor .u64 (bitXor .u64 (rotr x a) (rotr x b)) (rotr x d)
noncomputable def smallE : Ent := Ent.ofS [] (ui3C) (lNil) fun x_ y_ => (fun (x a b d : Int) => .leaf (some (0 < a ∧ a < 64 ∧ 0 < b ∧ b < 64 ∧ 0 ≤ d)) (nU (smallF x a b d)) []) x_.1 x_.2.1 x_.2.2.1 x_.2.2.2.1
theorem small_tree (x a b d : Int) : fnT Tryz.prog [(162, rotrE)] [] Tryz.f161 ((ui3C).wr (x, a, b, d, ())) ((lNil).wr ()) [.fr [.sym], .auto] =
  End.need ((0 : Int) < a ∧ a < (64 : Int)) (End.need ((0 : Int) < b ∧ b < (64 : Int)) (End.need ((0 : Int) ≤ d) (End.leaf (LV.one (VV.sc (SV.int
  IntKind.u64 (SI.sym (bitXor IntKind.u64 (bitXor IntKind.u64 (rotr x a) (rotr x b)) (shr IntKind.u64 x d)))))) []))) := by kernel_rfl
theorem small_ok : smallE.Ok Tryz.prog 161 := by
  refine (Ent.ofOk Tryz.call161 fun x_ y_ Q H_ => ?_).sym
  obtain ⟨x, a, b, d, _⟩ := x_
  obtain ⟨hn, hq⟩ := H_
  have hn : 0 < a ∧ a < 64 ∧ 0 < b ∧ b < 64 ∧ 0 ≤ d := hn
  refine (fnT_ok mixed ((tabC rotr_ok tab0)) Tryz.func161 rfl (LT := []) (ks := [.fr [.sym], .auto]) (LOk.nil _)).use (D := []) ?_ hq
  show (fnT _ _ _ _ ((ui3C).wr (x, a, b, d, ())) ((lNil).wr ()) _).sat _
  rw [small_tree]
  exact ⟨⟨hn.1, hn.2.1⟩, ⟨hn.2.2.1, hn.2.2.2.1⟩, hn.2.2.2.2, rfl, rfl⟩
noncomputable def greatE : Ent := Ent.ofS [] (ui3C) (lNil) fun x_ y_ => (fun (x a b d : Int) => .leaf (some (0 < a ∧ a < 64 ∧ 0 < b ∧ b < 64 ∧ 0 < d ∧ d < 64)) (nU (greatF x a b d)) []) x_.1 x_.2.1 x_.2.2.1 x_.2.2.2.1
theorem great_tree (x a b d : Int) : fnT Tryz.prog [(162, rotrE)] [] Tryz.f158 ((ui3C).wr (x, a, b, d, ())) ((lNil).wr ()) [.fr [.sym], .auto] =
  End.need ((0 : Int) < a ∧ a < (64 : Int)) (End.need ((0 : Int) < b ∧ b < (64 : Int)) (End.need ((0 : Int) < d ∧ d < (64 : Int)) (End.leaf (LV.one
  (VV.sc (SV.int IntKind.u64 (SI.sym (bitXor IntKind.u64 (bitXor IntKind.u64 (rotr x a) (rotr x b)) (rotr x d)))))) []))) := by kernel_rfl
theorem great_ok : greatE.Ok Tryz.prog 158 := by
  refine (Ent.ofOk Tryz.call158 fun x_ y_ Q H_ => ?_).sym
  obtain ⟨x, a, b, d, _⟩ := x_
  obtain ⟨hn, hq⟩ := H_
  have hn : 0 < a ∧ a < 64 ∧ 0 < b ∧ b < 64 ∧ 0 < d ∧ d < 64 := hn
  refine (fnT_ok mixed ((tabC rotr_ok tab0)) Tryz.func158 rfl (LT := []) (ks := [.fr [.sym], .auto]) (LOk.nil _)).use (D := []) ?_ hq
  show (fnT _ _ _ _ ((ui3C).wr (x, a, b, d, ())) ((lNil).wr ()) _).sat _
  rw [great_tree]
  exact ⟨⟨hn.1, hn.2.1⟩, ⟨hn.2.2.1, hn.2.2.2.1⟩, hn.2.2.2.2, rfl, rfl⟩
end Go.Proofs.YthdfifcgobfgdaaGreat
end

section
set_option linter.unusedVariables false
set_option linter.unusedSimpArgs false
namespace Go.Proofs.YthdfifcgobfgdaaGreat
open Go Go.Ev
set_option maxRecDepth 100000
def roundsK : List Int := [4794697086780616226, 8158064640168781261, 13096744586834688815, 16840607885511220156, 4131703408338449720, 6480981068601479193, 10538285296894168987, 12329834152419229976, 15566598209576043074, 1334009975649890238, 2608012711638119052, 6128411473006802146, 8268148722764581231, 9286055187155687089, 11230858885718282805, 13951009754708518548, 16472876342353939154, 17275323862435702243, 1135362057144423861, 2597628984639134821, 3308224258029322869, 5365058923640841347, 6679025012923562964, 8573033837759648693, 10970295158949994411, 12119686244451234320, 12683024718118986047, 13788192230050041572, 14330467153632333762, 15395433587784984357, 489312712824947311, 1452737877330783856, 2861767655752347644, 3322285676063803686, 5560940570517711597, 5996557281743188959, 7280758554555802590, 8532644243296465576, 9350256976987008742, 10552545826968843579, 11727347734174303076, 12113106623233404929, 14000437183269869457, 14369950271660146224, 15101387698204529176, 15463397548674623760, 17586052441742319658, 1182934255886127544, 1847814050463011016, 2177327727835720531, 2830643537854262169, 3796741975233480872, 4115178125766777443, 5681478168544905931, 6601373596472566643, 7507060721942968483, 8399075790359081724, 8693463985226723168, 9568029438360202098, 10144078919501101548, 10430055236837252648, 11840083180663258601, 13761210420658862357, 14299343276471374635, 14566680578165727644, 15097957966210449927, 16922976911328602910, 17689382322260857208, 500013540394364858, 748580250866718886, 1242879168328830382, 1977374033974150939, 2944078676154940804, 3659926193048069267, 4368137639120453308, 4836135668995329356, 5532061633213252278, 6448918945643986474, 6902733635092675308, 7801388544844847127]
def beginK : List Int := [7640891576956012808, 13503953896175478587, 4354685564936845355, 11912009170470909681, 5840696475078001361, 11170449401992604703, 2270897969802886507, 6620516959819538809]
noncomputable def beginE : Ent := Ent.ofS [] lNil lNil fun _ _ => .leaf none (nRow .u64 8 beginK) []
noncomputable def roundsE : Ent := Ent.ofS [] lNil lNil fun _ _ => .leaf none (nRow .u64 80 roundsK) []
theorem begin_tree : fnT Tryz.prog [] [] Tryz.f113 (lNil.wr ()) (lNil.wr ()) [.fr [.sym], .rowF 0 0 8 .u64, .auto] = .leaf (nRow .u64 8 beginK) [] := by kernel_rfl
theorem rounds_tree : fnT Tryz.prog [] [] Tryz.f156 (lNil.wr ()) (lNil.wr ()) [.fr [.sym], .auto] = .leaf (nRow .u64 80 roundsK) [] := by kernel_rfl
theorem begin_ok : beginE.Ok Tryz.prog 113 := by
  refine (Ent.ofOk Tryz.call113 fun x_ y_ Q h => ?_).sym
  refine (fnT_ok mixed tab0 Tryz.func113 rfl (LT := []) (ks := [.fr [.sym], .rowF 0 0 8 .u64, .auto]) (LOk.nil _)).use (D := []) ?_ h.2
  show (fnT _ _ _ _ (lNil.wr ()) (lNil.wr ()) _).sat _
  rw [begin_tree]
  exact ⟨rfl, rfl⟩
theorem rounds_ok : roundsE.Ok Tryz.prog 156 := by
  refine (Ent.ofOk Tryz.call156 fun x_ y_ Q h => ?_).sym
  refine (fnT_ok mixed tab0 Tryz.func156 rfl (LT := []) (ks := [.fr [.sym], .auto]) (LOk.nil _)).use (D := []) ?_ h.2
  show (fnT _ _ _ _ (lNil.wr ()) (lNil.wr ()) _).sat _
  rw [rounds_tree]
  exact ⟨rfl, rfl⟩
def wordF (b : List Int) (k : Nat) (m : List Int) : List Int := m.set (k / 8) (bitOr .u64 (shl .u64 (m.getD (k / 8) 0) 8) (IntKind.u64.wrap (b.getD k 0)))
def wordsF (b : List Int) : List Int := upto (wordF b) 0 128 (List.replicate 16 0)
theorem wordF_length (b : List Int) (k : Nat) (m : List Int) : (wordF b k m).length = m.length := by simp [wordF]
noncomputable abbrev woFn : Func := Tryz.f143
abbrev woC : Cod (List LV) (List Int × Int × Int × Unit) := (jk 2 (lSkip (vOne (sPtr 0 0)) (jk 1 (lSkip (vOne (sPtr 1 0)) (jk 6 (lCons (vOne (sRd false false u8)) (lCons (vOne (sInt .i64)) (lCons (vOne (sInt .i64)) (jk 17 lNil)))))))))
abbrev woCf : Wk := .fr (fmS 31 [(2, .keep), (4, .keep), (11, .keep), (12, .sym), (13, .sym)])
abbrev woX : Cod (List LV) (Unit) := (jk 2 (lSkip (vOne (sPtr 0 0)) (jk 1 (lSkip (vOne (sPtr 1 0)) (jk 26 lNil)))))
abbrev woXf : Wk := .fr (fmS 31 [(2, .keep), (4, .keep)])
abbrev woH : Cod Hp (List Int × List Int × Unit) := lCons (iRow 152 .u64 16) (lCons (iRow 152 .u64 16) lNil)
def woW : Exit → List Wk
  | .normal => [woCf, .rowB 0 0 16 .u64, .rowB 1 0 16 .u64, .auto]
  | .exit 0 => [woXf, .auto]
  | _ => []
theorem wo_rnd (b : List Int) (n i : Int) (r m : List Int) : rndT Tryz.prog [] [] woFn 0 [] woW ((stC woC woH).wr ((b, n, i, ()), (r, m, ()))) =
  Res.ite (decide (i < n)) (Res.need ((0 : Int) ≤ i ∧ i < (↑b.length : Int)) (Res.need ((0 : Int) ≤ IntKind.i64.wrap (i.tdiv (8 : Int)) ∧
  IntKind.i64.wrap (i.tdiv (8 : Int)) < (16 : Int)) (Res.need ((0 : Int) ≤ IntKind.i64.wrap (i.tdiv (8 : Int)) ∧ IntKind.i64.wrap (i.tdiv (8 : Int)) <
  (16 : Int)) (Res.leaf Exit.normal ((stC woC woH).wr ((b, n, IntKind.i64.wrap (i + (1 : Int)), PUnit.unit), r, m.set ((0 : Nat) + (IntKind.i64.wrap
  (i.tdiv (8 : Int))).toNat) (bitOr IntKind.u64 (shl IntKind.u64 ((List.take (16 : Nat) (List.drop (0 : Nat) m)).getD (IntKind.i64.wrap (i.tdiv (8 :
  Int))).toNat (0 : Int)) (8 : Int)) (IntKind.u64.wrap (b.getD i.toNat (0 : Int)))), PUnit.unit)))))) (Res.leaf (Exit.exit (0 : Nat)) ((stC woX woH).wr
  (PUnit.unit, r, m, PUnit.unit))) := by kernel_rfl
noncomputable def woF (x : (List Int × Int × Int × Unit) × List Int × List Int × Unit) : Res :=
  .need (x.1.1.length = 128 ∧ x.1.2.1 = 128 ∧ x.1.2.2.1 = 0 ∧ x.2.2.1 = List.replicate 16 0) (.leaf (.exit 0) ((stC woX woH).wr ((), (x.2.1, wordsF x.1.1, ()))))
theorem wo_loop (x) : Ex Tryz.prog [] (.loop (loopAt woFn 0)) ((stC woC woH).wr x) (woF x) := by
  obtain ⟨⟨b, n, i, _⟩, r, m, _⟩ := x
  refine Ex.need fun ⟨h1, h2, h3, h4⟩ => ?_
  simp only at h1 h2 h3 h4
  subst h2 h3 h4
  refine loopUp (ws := woW) (hp := []) mixed tab0 (LOk.nil _) 128 (fun k m => (stC woC woH).wr ((b, 128, (k : Int), ()), (r, m, ()))) (fun m => (stC woX woH).wr ((), (r, m, ()))) (wordF b) (fun _ m => m.length = 16)
    (fun k m R hk hm hn hx => ?_) (fun k m _ hm => by rw [wordF_length]; exact hm) 0 (List.replicate 16 0) (by omega) (by simp)
  rw [wo_rnd]
  refine ⟨fun hb => ?_, fun hb => ?_⟩
  · have hlt : k < 128 := by have := of_decide_eq_true hb; omega
    have e : IntKind.i64.wrap ((k : Int).tdiv 8) = ((k / 8 : Nat) : Int) := tdiv_nat k 8 (by omega)
    rw [e, take_all hm, wrap_succ k (by omega)]
    simp only [Int.toNat_natCast, Nat.zero_add]
    exact ⟨by omega, by omega, by omega, hn hlt⟩
  · have : k = 128 := by have := of_decide_eq_false hb; omega
    exact hx this
noncomputable abbrev woLT : LTab := [(0, loopF (stC woC woH) 0 [woCf, .rowB 0 0 16 .u64, .rowB 1 0 16 .u64, .auto] woF)]
noncomputable def wordsE : Ent := Ent.ofS [some u8] (bA) (lNil) fun x_ y_ => (fun (b : List Int) => .leaf (some (b.length = 128)) (.tup [.agg [.arr (.int .u64) 16 (wordsF b)], .sc (.bool (.sym true))]) []) x_.1
theorem words_tree (b : List Int) : fnT Tryz.prog [] woLT Tryz.f143 ((bA).wr (b, ())) ((lNil).wr ()) [.fr [.sym], .rowF 0 0 16 .u64, .auto] =
  End.ite ((↑b.length : Int) != (128 : Int)) (End.leaf (LV.tup [VV.agg [SV.arr (Ty.int IntKind.u64) (16 : Nat) [(0 : Int), (0 : Int), (0 : Int), (0 :
  Int), (0 : Int), (0 : Int), (0 : Int), (0 : Int), (0 : Int), (0 : Int), (0 : Int), (0 : Int), (0 : Int), (0 : Int), (0 : Int), (0 : Int)]], VV.sc
  (SV.bool (SB.sym false))]) []) (End.need (b.length = (128 : Nat) ∧ (↑b.length : Int) = (128 : Int) ∧ (0 : Int) = (0 : Int) ∧ [(0 : Int), (0 : Int), (0
  : Int), (0 : Int), (0 : Int), (0 : Int), (0 : Int), (0 : Int), (0 : Int), (0 : Int), (0 : Int), (0 : Int), (0 : Int), (0 : Int), (0 : Int), (0 : Int)]
  = List.replicate (16 : Nat) (0 : Int)) (End.leaf (LV.tup [VV.agg [SV.arr (Ty.int IntKind.u64) (16 : Nat) (wordsF b)], VV.sc (SV.bool (SB.sym true))])
  [])) := by kernel_rfl
theorem words_ok : wordsE.Ok Tryz.prog 143 := by
  refine (Ent.ofOk Tryz.call143 fun x_ y_ Q H_ => ?_).sym
  obtain ⟨b, _⟩ := x_
  obtain ⟨hn, hq⟩ := H_
  have hn : b.length = 128 := hn
  refine (fnT_ok mixed tab0 Tryz.func143 rfl (LT := woLT) (ks := [.fr [.sym], .rowF 0 0 16 .u64, .auto]) (LOk.ofTab (LTC rfl (loopF_ok (hp := []) wo_loop) LT0))).use (D := []) ?_ hq
  show (fnT _ _ _ _ ((bA).wr (b, ())) ((lNil).wr ()) _).sat _
  rw [words_tree]
  refine ⟨fun h => ?_, fun h => ⟨⟨hn, by omega, rfl, rfl⟩, rfl, rfl⟩⟩
  simp [hn] at h
def schF (t : Nat) (w : List Int) : List Int := w.set t (IntKind.u64.wrap (IntKind.u64.wrap (IntKind.u64.wrap (smallF (w.getD (t - 2) 0) 19 61 6 + w.getD (t - 7) 0) + smallF (w.getD (t - 15) 0) 1 8 7) + w.getD (t - 16) 0))
def schedF (m : List Int) : List Int := upto schF 16 64 (m ++ List.replicate 64 0)
noncomputable abbrev scFn : Func := Tryz.f157
abbrev scA : Cod (List LV) (List Int × Unit) := lCons (vRow .u64 16) lNil
abbrev scC : Cod (List LV) (Int × Unit) := (jk 2 (lSkip (vOne (sPtr 0 0)) (lSkip (vOne (sPtr 1 0)) (lCons (vOne (sInt .i64)) (jk 31 lNil)))))
abbrev scCf : Wk := .fr (fmS 36 [(2, .keep), (3, .keep), (4, .sym)])
abbrev scX : Cod (List LV) (Unit) := (jk 2 (lSkip (vOne (sPtr 0 0)) (lSkip (vOne (sPtr 1 0)) (jk 32 lNil))))
abbrev scXf : Wk := .fr (fmS 36 [(2, .keep), (3, .keep)])
abbrev scH : Cod Hp (List Int × List Int × Unit) := lCons (iRow 171 .u64 80) (lCons (iRow 171 .u64 80) lNil)
noncomputable abbrev scTab : List (FuncId × Ent) := [(161, smallE)]
theorem scTab_ok : ∀ p ∈ scTab, p.2.Ok Tryz.prog p.1 := tabC small_ok tab0
def scW : Exit → List Wk
  | .normal => [scCf, .auto]
  | .exit 0 => [scXf, .auto]
  | _ => []
theorem sc_rnd (t : Int) (r w : List Int) : rndT Tryz.prog scTab [] scFn 0 [] scW ((stC scC scH).wr ((t, ()), (r, w, ()))) =
  Res.ite (decide (t < (80 : Int))) (Res.need ((0 : Int) ≤ IntKind.i64.wrap (t - (2 : Int)) ∧ IntKind.i64.wrap (t - (2 : Int)) < (80 : Int)) (Res.need
  ((0 : Int) < (19 : Int) ∧ (19 : Int) < (64 : Int) ∧ (0 : Int) < (61 : Int) ∧ (61 : Int) < (64 : Int) ∧ (0 : Int) ≤ (6 : Int)) (Res.need ((0 : Int) ≤
  IntKind.i64.wrap (t - (7 : Int)) ∧ IntKind.i64.wrap (t - (7 : Int)) < (80 : Int)) (Res.need ((0 : Int) ≤ IntKind.i64.wrap (t - (15 : Int)) ∧
  IntKind.i64.wrap (t - (15 : Int)) < (80 : Int)) (Res.need ((0 : Int) < (1 : Int) ∧ (1 : Int) < (64 : Int) ∧ (0 : Int) < (8 : Int) ∧ (8 : Int) < (64 :
  Int) ∧ (0 : Int) ≤ (7 : Int)) (Res.need ((0 : Int) ≤ IntKind.i64.wrap (t - (16 : Int)) ∧ IntKind.i64.wrap (t - (16 : Int)) < (80 : Int)) (Res.need ((0
  : Int) ≤ t ∧ t < (80 : Int)) (Res.leaf Exit.normal ((stC scC scH).wr ((IntKind.i64.wrap (t + (1 : Int)), PUnit.unit), r, w.set ((0 : Nat) + t.toNat)
  (IntKind.u64.wrap (IntKind.u64.wrap (IntKind.u64.wrap (smallF ((List.take (80 : Nat) (List.drop (0 : Nat) w)).getD (IntKind.i64.wrap (t - (2 :
  Int))).toNat (0 : Int)) (19 : Int) (61 : Int) (6 : Int) + (List.take (80 : Nat) (List.drop (0 : Nat) w)).getD (IntKind.i64.wrap (t - (7 : Int))).toNat
  (0 : Int)) + smallF ((List.take (80 : Nat) (List.drop (0 : Nat) w)).getD (IntKind.i64.wrap (t - (15 : Int))).toNat (0 : Int)) (1 : Int) (8 : Int) (7 :
  Int)) + (List.take (80 : Nat) (List.drop (0 : Nat) w)).getD (IntKind.i64.wrap (t - (16 : Int))).toNat (0 : Int))), PUnit.unit)))))))))) (Res.leaf
  (Exit.exit (0 : Nat)) ((stC scX scH).wr (PUnit.unit, r, w, PUnit.unit))) := by kernel_rfl
noncomputable def scF (x : (Int × Unit) × List Int × List Int × Unit) : Res :=
  .need (x.1.1 = 16 ∧ x.2.2.1.length = 80) (.leaf (.exit 0) ((stC scX scH).wr ((), (x.2.1, upto schF 16 64 x.2.2.1, ()))))
theorem schF_length (t : Nat) (w : List Int) : (schF t w).length = w.length := by simp [schF]
theorem sc_loop (x) : Ex Tryz.prog [] (.loop (loopAt scFn 0)) ((stC scC scH).wr x) (scF x) := by
  obtain ⟨⟨i, _⟩, r, w, _⟩ := x
  refine Ex.need fun ⟨h1, h2⟩ => ?_
  simp only at h1 h2
  subst h1
  refine loopUp (ws := scW) (hp := []) mixed scTab_ok (LOk.nil _) 80 (fun k w => (stC scC scH).wr (((k : Int), ()), (r, w, ()))) (fun w => (stC scX scH).wr ((), (r, w, ()))) schF (fun k w => 16 ≤ k ∧ w.length = 80)
    (fun k w R hk hm hn hx => ?_) (fun k m _ hm => ⟨by omega, by rw [schF_length]; exact hm.2⟩) 16 w (by omega) ⟨by omega, h2⟩
  obtain ⟨h16, hm⟩ := hm
  rw [sc_rnd]
  refine ⟨fun hb => ?_, fun hb => ?_⟩
  · have hlt : k < 80 := by have := of_decide_eq_true hb; omega
    have e2 : IntKind.i64.wrap ((k : Int) - 2) = ((k - 2 : Nat) : Int) := wrap_sub k 2 (by omega) (by omega)
    have e7 : IntKind.i64.wrap ((k : Int) - 7) = ((k - 7 : Nat) : Int) := wrap_sub k 7 (by omega) (by omega)
    have e15 : IntKind.i64.wrap ((k : Int) - 15) = ((k - 15 : Nat) : Int) := wrap_sub k 15 (by omega) (by omega)
    have e16 : IntKind.i64.wrap ((k : Int) - 16) = ((k - 16 : Nat) : Int) := wrap_sub k 16 (by omega) (by omega)
    rw [e2, e7, e15, e16, take_all hm, wrap_succ k (by omega)]
    simp only [Int.toNat_natCast, Nat.zero_add]
    exact ⟨by omega, by decide, by omega, by omega, by decide, by omega, by omega, hn hlt⟩
  · have : k = 80 := by have := of_decide_eq_false hb; omega
    exact hx this
noncomputable abbrev scLT : LTab := [(0, loopF (stC scC scH) 0 [scCf, .auto] scF)]
noncomputable def schedE : Ent := Ent.ofS [] (scA) (lNil) fun x_ y_ => (fun (m : List Int) => .leaf (some (m.length = 16)) (nRow .u64 80 (schedF m)) []) x_.1
theorem sched_tree (m : List Int) : fnT Tryz.prog scTab scLT Tryz.f157 ((scA).wr (m, ())) ((lNil).wr ()) [.fr [.sym], .auto] =
  End.need ((0 : Int) ≤ (0 : Int) ∧ (0 : Int) ≤ (80 : Int) ∧ (80 : Int) ≤ (80 : Int)) (End.need ((0 : Int) ≤ (0 : Int) ∧ (0 : Int) ≤ (16 : Int) ∧ (16 :
  Int) ≤ (16 : Int)) (End.need ((16 : Int) = (16 : Int) ∧ (List.take (0 : Nat) (List.replicate (80 : Nat) (0 : Int)) ++ (List.take (80 : Nat) (List.take
  (16 : Nat) (List.drop (0 : Nat) m)) ++ List.drop ((0 : Nat) + if (80 : Nat) ≤ (List.take (16 : Nat) (List.drop (0 : Nat) m)).length then (80 : Nat)
  else (List.take (16 : Nat) (List.drop (0 : Nat) m)).length) (List.replicate (80 : Nat) (0 : Int)))).length = (80 : Nat)) (End.leaf (LV.one (VV.agg
  [SV.arr (Ty.int IntKind.u64) (80 : Nat) (upto schF (16 : Nat) (64 : Nat) (List.take (0 : Nat) (List.replicate (80 : Nat) (0 : Int)) ++ (List.take (80 :
  Nat) (List.take (16 : Nat) (List.drop (0 : Nat) m)) ++ List.drop ((0 : Nat) + if (80 : Nat) ≤ (List.take (16 : Nat) (List.drop (0 : Nat) m)).length
  then (80 : Nat) else (List.take (16 : Nat) (List.drop (0 : Nat) m)).length) (List.replicate (80 : Nat) (0 : Int)))))])) []))) := by kernel_rfl
theorem sched_ok : schedE.Ok Tryz.prog 157 := by
  refine (Ent.ofOk Tryz.call157 fun x_ y_ Q H_ => ?_).sym
  obtain ⟨m, _⟩ := x_
  obtain ⟨hn, hq⟩ := H_
  have hn : m.length = 16 := hn
  refine (fnT_ok mixed scTab_ok Tryz.func157 rfl (LT := scLT) (ks := [.fr [.sym], .auto]) (LOk.ofTab (LTC rfl (loopF_ok (hp := []) sc_loop) LT0))).use (D := []) ?_ hq
  show (fnT _ _ _ _ ((scA).wr (m, ())) ((lNil).wr ()) _).sat _
  rw [sched_tree]
  have e : List.take 0 (List.replicate 80 (0 : Int)) ++ (List.take 80 (List.take 16 (List.drop 0 m)) ++ List.drop (0 + if 80 ≤ (List.take 16 (List.drop 0 m)).length then 80 else (List.take 16 (List.drop 0 m)).length) (List.replicate 80 0)) = m ++ List.replicate 64 0 := by
    rw [take_all hn, hn]
    simp [List.take_of_length_le (show m.length ≤ 80 by omega)]
  rw [e]
  refine ⟨by omega, by omega, ⟨rfl, by simp [hn]⟩, rfl, rfl⟩
def oneF (w : List Int) (t : Nat) (x : List Int) : Int :=
  IntKind.u64.wrap (IntKind.u64.wrap (IntKind.u64.wrap (IntKind.u64.wrap (x.getD 7 0 + greatF (x.getD 4 0) 14 18 41) + chF (x.getD 4 0) (x.getD 5 0) (x.getD 6 0)) + roundsK.getD t 0) + w.getD t 0)
def twoF (x : List Int) : Int := IntKind.u64.wrap (greatF (x.getD 0 0) 28 34 39 + majF (x.getD 0 0) (x.getD 1 0) (x.getD 2 0))
def rndF (w : List Int) (t : Nat) (x : List Int) : List Int :=
  [IntKind.u64.wrap (oneF w t x + twoF x), x.getD 0 0, x.getD 1 0, x.getD 2 0, IntKind.u64.wrap (x.getD 3 0 + oneF w t x), x.getD 4 0, x.getD 5 0, x.getD 6 0]
def addF (x s : List Int) : List Int := (List.range 8).map fun i => IntKind.u64.wrap (x.getD i 0 + s.getD i 0)
def allF (w x : List Int) : List Int := upto (rndF w) 0 80 x
def stepF (s m : List Int) : List Int := addF (allF (schedF m) s) s
theorem sched_length {m : List Int} (h : m.length = 16) : (schedF m).length = 80 := by
  unfold schedF
  exact upto_inv (f := schF) (n := 80) (fun (_ : Nat) (w : List Int) => w.length = 80) (fun t w _ h => by rw [schF_length]; exact h) 64 16 (m ++ List.replicate 64 0) (by omega) (by simp [h])
noncomputable abbrev stFn : Func := Tryz.f144
abbrev spC : Cod (List LV) (Int × Unit) := (jk 2 (lSkip (vOne (sPtr 0 0)) (jk 1 (lSkip (vOne (sPtr 1 0)) (lSkip (vOne (sPtr 2 0)) (lSkip (vOne (sPtr 3 0)) (lSkip (vOne (sPtr 4 0)) (jk 8 (lCons (vOne (sInt .i64)) (jk 69 lNil))))))))))
abbrev spCf : Wk := .fr (fmS 86 [(2, .keep), (4, .keep), (5, .keep), (6, .keep), (7, .keep), (16, .sym)])
abbrev spX : Cod (List LV) (Unit) := (jk 2 (lSkip (vOne (sPtr 0 0)) (jk 1 (lSkip (vOne (sPtr 1 0)) (jk 2 (lSkip (vOne (sPtr 2 0)) (jk 78 lNil)))))))
abbrev spXf : Wk := .fr (fmS 86 [(2, .keep), (4, .keep), (7, .keep)])
abbrev spHX : Cod Hp (List Int × List Int × List Int × Unit) := lCons (iRow 92 .u64 8) (lCons (iCells 92 .u64 8) (lCons (iCells 92 .u64 8) lNil))
abbrev spH : Cod Hp (List Int × List Int × List Int × List Int × List Int × Unit) := lCons (iRow 92 .u64 8) (lCons (iRow 92 .u64 8) (lCons (iRow 171 .u64 80) (lCons (iRow 171 .u64 80) (lCons (iRow 92 .u64 8) lNil))))
noncomputable abbrev spTab : List (FuncId × Ent) := [(156, roundsE), (157, schedE), (158, greatE), (159, chE), (160, majE)]
theorem spTab_ok : ∀ p ∈ spTab, p.2.Ok Tryz.prog p.1 := tabC rounds_ok (tabC sched_ok (tabC great_ok (tabC ch_ok (tabC maj_ok tab0))))
def spW : Exit → List Wk
  | .normal => [spCf, .rowB 4 0 8 .u64, .auto]
  | .exit 0 => [spXf, .auto, .cellB 1, .cellB 2]
  | _ => []
theorem sp_rnd (t : Int) (s r k w x : List Int) : rndT Tryz.prog spTab [] stFn 0 [] spW ((stC spC spH).wr ((t, ()), (s, r, k, w, x, ()))) =
  Res.ite (decide (t < (80 : Int))) (Res.need ((0 : Int) < (14 : Int) ∧ (14 : Int) < (64 : Int) ∧ (0 : Int) < (18 : Int) ∧ (18 : Int) < (64 : Int) ∧ (0 :
  Int) < (41 : Int) ∧ (41 : Int) < (64 : Int)) (Res.need ((0 : Int) ≤ t ∧ t < (80 : Int)) (Res.need ((0 : Int) ≤ t ∧ t < (80 : Int)) (Res.need ((0 : Int)
  < (28 : Int) ∧ (28 : Int) < (64 : Int) ∧ (0 : Int) < (34 : Int) ∧ (34 : Int) < (64 : Int) ∧ (0 : Int) < (39 : Int) ∧ (39 : Int) < (64 : Int)) (Res.leaf
  Exit.normal ((stC spC spH).wr ((IntKind.i64.wrap (t + (1 : Int)), PUnit.unit), s, r, k, w, [IntKind.u64.wrap (IntKind.u64.wrap (IntKind.u64.wrap
  (IntKind.u64.wrap (IntKind.u64.wrap (x.getD (7 : Nat) (0 : Int) + greatF (x.getD (4 : Nat) (0 : Int)) (14 : Int) (18 : Int) (41 : Int)) + chF (x.getD
  (4 : Nat) (0 : Int)) (x.getD (5 : Nat) (0 : Int)) (x.getD (6 : Nat) (0 : Int))) + (List.take (80 : Nat) (List.drop (0 : Nat) k)).getD t.toNat (0 :
  Int)) + (List.take (80 : Nat) (List.drop (0 : Nat) w)).getD t.toNat (0 : Int)) + IntKind.u64.wrap (greatF (x.getD (0 : Nat) (0 : Int)) (28 : Int) (34 :
  Int) (39 : Int) + majF (x.getD (0 : Nat) (0 : Int)) (x.getD (1 : Nat) (0 : Int)) (x.getD (2 : Nat) (0 : Int)))), x.getD (0 : Nat) (0 : Int), x.getD (1
  : Nat) (0 : Int), x.getD (2 : Nat) (0 : Int), IntKind.u64.wrap (x.getD (3 : Nat) (0 : Int) + IntKind.u64.wrap (IntKind.u64.wrap (IntKind.u64.wrap
  (IntKind.u64.wrap (x.getD (7 : Nat) (0 : Int) + greatF (x.getD (4 : Nat) (0 : Int)) (14 : Int) (18 : Int) (41 : Int)) + chF (x.getD (4 : Nat) (0 :
  Int)) (x.getD (5 : Nat) (0 : Int)) (x.getD (6 : Nat) (0 : Int))) + (List.take (80 : Nat) (List.drop (0 : Nat) k)).getD t.toNat (0 : Int)) + (List.take
  (80 : Nat) (List.drop (0 : Nat) w)).getD t.toNat (0 : Int))), x.getD (4 : Nat) (0 : Int), x.getD (5 : Nat) (0 : Int), x.getD (6 : Nat) (0 : Int)],
  PUnit.unit))))))) (Res.leaf (Exit.exit (0 : Nat)) ((stC spX spHX).wr (PUnit.unit, s, [r.getD (nat_lit 0) (0 : Int), r.getD (nat_lit 1) (0 : Int),
  r.getD (nat_lit 2) (0 : Int), r.getD (nat_lit 3) (0 : Int), r.getD (nat_lit 4) (0 : Int), r.getD (nat_lit 5) (0 : Int), r.getD (nat_lit 6) (0 : Int),
  r.getD (nat_lit 7) (0 : Int)], [x.getD (nat_lit 0) (0 : Int), x.getD (nat_lit 1) (0 : Int), x.getD (nat_lit 2) (0 : Int), x.getD (nat_lit 3) (0 : Int),
  x.getD (nat_lit 4) (0 : Int), x.getD (nat_lit 5) (0 : Int), x.getD (nat_lit 6) (0 : Int), x.getD (nat_lit 7) (0 : Int)], PUnit.unit))) := by kernel_rfl
noncomputable def spF (x : (Int × Unit) × List Int × List Int × List Int × List Int × List Int × Unit) : Res :=
  .need (x.1.1 = 0 ∧ x.2.2.2.1 = roundsK ∧ x.2.2.2.2.1.length = 80 ∧ x.2.2.2.2.2.1.length = 8) (.leaf (.exit 0) ((stC spX spHX).wr ((), (x.2.1, x.2.2.1, allF x.2.2.2.2.1 x.2.2.2.2.2.1, ()))))
theorem sp_loop (x) : Ex Tryz.prog [] (.loop (loopAt stFn 0)) ((stC spC spH).wr x) (spF x) := by
  obtain ⟨⟨i, _⟩, s, r, k, w, x, _⟩ := x
  refine Ex.need fun ⟨h1, h2, h3, h4⟩ => ?_
  simp only at h1 h2 h3 h4
  subst h1 h2
  refine loopUp (ws := spW) (hp := []) mixed spTab_ok (LOk.nil _) 80 (fun j x => (stC spC spH).wr (((j : Int), ()), (s, r, roundsK, w, x, ()))) (fun x => (stC spX spHX).wr ((), (s, r, x, ()))) (rndF w) (fun _ x => x.length = 8)
    (fun j x R hk hm hn hx => ?_) (fun k m _ hm => rfl) 0 x (by omega) h4
  rw [sp_rnd]
  refine ⟨fun hb => ?_, fun hb => ?_⟩
  · have hlt : j < 80 := by have := of_decide_eq_true hb; omega
    rw [take_all h3, take_all (l := roundsK) (n := 80) rfl, wrap_succ j (by omega)]
    simp only [Int.toNat_natCast]
    exact ⟨by decide, by omega, by omega, by decide, hn hlt⟩
  · have : j = 80 := by have := of_decide_eq_false hb; omega
    exact hx this
noncomputable abbrev spLT : LTab := [(0, loopF (stC spC spH) 0 [spCf, .auto, .rowB 1 0 8 .u64, .rowB 4 0 8 .u64] spF)]
abbrev stA : Cod (List LV) (List Int × List Int × Unit) := lCons (vRow .u64 8) (lCons (vRow .u64 16) lNil)
noncomputable def stepE : Ent := Ent.ofS [] (stA) (lNil) fun x_ y_ => (fun (s m : List Int) => .leaf (some (s.length = 8 ∧ m.length = 16)) (nRow .u64 8 (stepF s m)) []) x_.1 x_.2.1
theorem step_tree (s m : List Int) : fnT Tryz.prog spTab spLT Tryz.f144 ((stA).wr (s, m, ())) ((lNil).wr ()) [.fr [.sym], .rowF 0 0 8 .u64, .auto] =
  End.need (m.length = (16 : Nat)) (End.need ((0 : Int) = (0 : Int) ∧ roundsK = roundsK ∧ (schedF m).length = (80 : Nat) ∧ s.length = (8 : Nat))
  (End.leaf (LV.one (VV.agg [SV.arr (Ty.int IntKind.u64) (8 : Nat) [IntKind.u64.wrap ((allF (schedF m) s).getD (nat_lit 0) (0 : Int) + s.getD (0 : Nat)
  (0 : Int)), IntKind.u64.wrap ((allF (schedF m) s).getD (nat_lit 1) (0 : Int) + s.getD (1 : Nat) (0 : Int)), IntKind.u64.wrap ((allF (schedF m) s).getD
  (nat_lit 2) (0 : Int) + s.getD (2 : Nat) (0 : Int)), IntKind.u64.wrap ((allF (schedF m) s).getD (nat_lit 3) (0 : Int) + s.getD (3 : Nat) (0 : Int)),
  IntKind.u64.wrap ((allF (schedF m) s).getD (nat_lit 4) (0 : Int) + s.getD (4 : Nat) (0 : Int)), IntKind.u64.wrap ((allF (schedF m) s).getD (nat_lit 5)
  (0 : Int) + s.getD (5 : Nat) (0 : Int)), IntKind.u64.wrap ((allF (schedF m) s).getD (nat_lit 6) (0 : Int) + s.getD (6 : Nat) (0 : Int)),
  IntKind.u64.wrap ((allF (schedF m) s).getD (nat_lit 7) (0 : Int) + s.getD (7 : Nat) (0 : Int))]])) [])) := by kernel_rfl
theorem step_ok : stepE.Ok Tryz.prog 144 := by
  refine (Ent.ofOk Tryz.call144 fun x_ y_ Q H_ => ?_).sym
  obtain ⟨s, m, _⟩ := x_
  obtain ⟨hn, hq⟩ := H_
  have hn : s.length = 8 ∧ m.length = 16 := hn
  refine (fnT_ok mixed spTab_ok Tryz.func144 rfl (LT := spLT) (ks := [.fr [.sym], .rowF 0 0 8 .u64, .auto]) (LOk.ofTab (LTC rfl (loopF_ok (hp := []) sp_loop) LT0))).use (D := []) ?_ hq
  show (fnT _ _ _ _ ((stA).wr (s, m, ())) ((lNil).wr ()) _).sat _
  rw [step_tree]
  exact ⟨hn.2, ⟨rfl, rfl, sched_length hn.2, hn.1⟩, rfl, rfl⟩
theorem step_length (s m : List Int) : (stepF s m).length = 8 := rfl
end Go.Proofs.YthdfifcgobfgdaaGreat
end
