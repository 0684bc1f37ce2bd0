/- What the laws lean on, part 5: a reader of code, plain facts, and what each function gives; no conditions. -/
import Derived.Test.YthdfifcgobfgdaaA4
section
set_option linter.unusedVariables false
set_option linter.unusedSimpArgs false
namespace Go.Proofs.Ythdfifcgobfgdaa
open Go Go.Ev BJ
set_option maxRecDepth 1000000
abbrev cPt : Cod LV Pt := vAgg (lCons sBool (vecA .u64 (vecA .u64 (vecA .u64 (vecL .u64 5) 5) 5) 5))
abbrev ptA : Cod (List LV) (Pt × Unit) := lCons cPt lNil
abbrev pt2A : Cod (List LV) (Pt × Pt × Unit) := lCons cPt (lCons cPt lNil)
def eFr (g : List Int → Fe) : Ent := Ent.ofS [] bA32 lNil fun x _ => .leaf none (cFe.wr (g x.1)) []
def e0F (c : Fe) : Ent := Ent.ofS [] lNil lNil fun _ _ => .leaf none (cFe.wr c) []
def e0Q (c : Pt) : Ent := Ent.ofS [] lNil lNil fun _ _ => .leaf none (cPt.wr c) []
def eAf (g : Fe → Fe → Pt) : Ent := Ent.ofS [] fe2A lNil fun x _ => .leaf none (cPt.wr (g x.1 x.2.1)) []
def e1Q (g : Pt → Pt) : Ent := Ent.ofS [] ptA lNil fun x _ => .leaf none (cPt.wr (g x.1)) []
def e2Q (g : Pt → Pt → Pt) : Ent := Ent.ofS [] pt2A lNil fun x _ => .leaf none (cPt.wr (g x.1 x.2.1)) []
noncomputable def fromL (b : List Int) : Fe := feFrom (v32 b)
theorem ffrom_as : ffromE = eFr fromL := by kernel_rfl
theorem ffrom'_ok : (eFr fromL).Ok Try.prog 39 := ffrom_as ▸ ffrom_ok
theorem edge_from : edgeC = fromL edgeBytes.toList := by unfold fromL; rw [v32_of]; rfl
noncomputable abbrev qedgeE : Ent := e0F edgeC
theorem qedge_tree (frm : List Int → Fe)  : fnT Try.prog [(39, eFr frm)] [] Try.f56 ((lNil).wr ()) [] kK = .leaf (cFe.wr (frm edgeBytes.toList)) [] := by kernel_rfl
theorem qedge_tab_ : ∀ p_ ∈ ([(39, eFr fromL)] : List (FuncId × Ent)), p_.2.Ok Try.prog p_.1 := (tabC ffrom'_ok tab0)
theorem qedge_ok : qedgeE.Ok Try.prog 56 := by
  refine (Ent.ofOk Try.call56 fun x_ y_ Q H_ => ?_).sym
  have hq := H_.2
  refine (fnT_ok (tab := [(39, eFr fromL)]) mixed qedge_tab_ Try.func56 rfl (LT := []) (ks := kK) (LOk.nil _)).use (D := []) ?_ hq
  show (fnT _ _ _ _ ((lNil).wr ()) [] _).sat _
  rw [qedge_tree fromL]
  rw [edge_from]; exact ⟨rfl, rfl⟩
noncomputable abbrev qaffineE : Ent := eAf affineC
theorem qaffine_tree (mul : Fe → Fe → Fe) (sm : Int → Fe) (x y : Fe) : fnT Try.prog [(47, e2F mul), (48, eSm sm)] [] Try.f44 ((fe2A).wr (x, y, ())) [] kK = .leaf (cPt.wr (true, x, y, sm 1, mul x y)) [] := by kernel_rfl
theorem qaffine_tab_ : ∀ p_ ∈ ([(47, e2F mulC), (48, eSm feSmall)] : List (FuncId × Ent)), p_.2.Ok Try.prog p_.1 := (tabC fmul'_ok (tabC fsmall'_ok tab0))
theorem qaffine_ok : qaffineE.Ok Try.prog 44 := by
  refine (Ent.ofOk Try.call44 fun x_ y_ Q H_ => ?_).sym
  obtain ⟨x, y, _⟩ := x_
  have hq := H_.2
  refine (fnT_ok (tab := [(47, e2F mulC), (48, eSm feSmall)]) mixed qaffine_tab_ Try.func44 rfl (LT := []) (ks := kK) (LOk.nil _)).use (D := []) ?_ hq
  show (fnT _ _ _ _ ((fe2A).wr (x, y, ())) [] _).sat _
  rw [qaffine_tree mulC feSmall]
  exact ⟨rfl, rfl⟩
noncomputable abbrev qzeroE : Ent := e0Q zeroC
theorem qzero_tree (af : Fe → Fe → Pt) (sm : Int → Fe)  : fnT Try.prog [(44, eAf af), (48, eSm sm)] [] Try.f13 ((lNil).wr ()) [] kK = .leaf (cPt.wr (af feZero (sm 1))) [] := by kernel_rfl
theorem qzero_tab_ : ∀ p_ ∈ ([(44, eAf affineC), (48, eSm feSmall)] : List (FuncId × Ent)), p_.2.Ok Try.prog p_.1 := (tabC qaffine_ok (tabC fsmall'_ok tab0))
theorem qzero_ok : qzeroE.Ok Try.prog 13 := by
  refine (Ent.ofOk Try.call13 fun x_ y_ Q H_ => ?_).sym
  have hq := H_.2
  refine (fnT_ok (tab := [(44, eAf affineC), (48, eSm feSmall)]) mixed qzero_tab_ Try.func13 rfl (LT := []) (ks := kK) (LOk.nil _)).use (D := []) ?_ hq
  show (fnT _ _ _ _ ((lNil).wr ()) [] _).sat _
  rw [qzero_tree affineC feSmall]
  exact ⟨rfl, rfl⟩
theorem ownC_eq (p : Pt) : ownC p = bif !p.1 then zeroC else p := by unfold ownC ownFn; rw [selPt_eq]
theorem two_sat {t : Bool} {V W X : LV} (h1 : t = true → V = X) (h2 : t = false → W = X) : (Ev.End.ite t (.leaf V []) (.leaf W [])).sat fun v hp' => v = X ∧ hp' = [] := ⟨fun h => ⟨h1 h, rfl⟩, fun h => ⟨h2 h, rfl⟩⟩
noncomputable abbrev qownE : Ent := e1Q ownC
theorem qown_tree (z : Pt) (p : Pt) : fnT Try.prog [(13, e0Q z)] [] Try.f45 ((ptA).wr (p, ())) [] kK = .ite (!p.1) (.leaf (cPt.wr z) []) (.leaf (cPt.wr p) []) := by kernel_rfl
theorem qown_tab_ : ∀ p_ ∈ ([(13, e0Q zeroC)] : List (FuncId × Ent)), p_.2.Ok Try.prog p_.1 := (tabC qzero_ok tab0)
theorem qown_ok : qownE.Ok Try.prog 45 := by
  refine (Ent.ofOk Try.call45 fun x_ y_ Q H_ => ?_).sym
  obtain ⟨p, _⟩ := x_
  have hq := H_.2
  refine (fnT_ok (tab := [(13, e0Q zeroC)]) mixed qown_tab_ Try.func45 rfl (LT := []) (ks := kK) (LOk.nil _)).use (D := []) ?_ hq
  show (fnT _ _ _ _ ((ptA).wr (p, ())) [] _).sat _
  rw [qown_tree zeroC]
  exact two_sat (fun h => by rw [ownC_eq, h]; rfl) (fun h => by rw [ownC_eq, h]; rfl)
noncomputable abbrev qrootE : Ent := e1P rootC
theorem qroot_tree (mul add sub : Fe → Fe → Fe) (sq : Fe → Fe) (sm : Int → Fe) (ed : Fe) (ratio : Fe → Fe → Fe × Bool) (y : Fe) : fnT Try.prog [(47, e2F mul), (55, e2F add), (54, e2F sub), (76, e1F sq), (48, eSm sm), (56, e0F ed), (77, e2P ratio)] [] Try.f40 ((feA).wr (y, ())) [] kK = .leaf (nPair (ratio (sub (sq y) (sm 1)) (add (mul ed (sq y)) (sm 1)))) [] := by kernel_rfl
theorem qroot_tab_ : ∀ p_ ∈ ([(47, e2F mulC), (55, e2F addC), (54, e2F subC), (76, e1F (fun x => mulC x x)), (48, eSm feSmall), (56, e0F edgeC), (77, e2P ratioC)] : List (FuncId × Ent)), p_.2.Ok Try.prog p_.1 := (tabC fmul'_ok (tabC fadd'_ok (tabC fsub'_ok (tabC fsq'_ok (tabC fsmall'_ok (tabC qedge_ok (tabC pratio_ok tab0)))))))
theorem qroot_ok : qrootE.Ok Try.prog 40 := by
  refine (Ent.ofOk Try.call40 fun x_ y_ Q H_ => ?_).sym
  obtain ⟨y, _⟩ := x_
  have hq := H_.2
  refine (fnT_ok (tab := [(47, e2F mulC), (55, e2F addC), (54, e2F subC), (76, e1F (fun x => mulC x x)), (48, eSm feSmall), (56, e0F edgeC), (77, e2P ratioC)]) mixed qroot_tab_ Try.func40 rfl (LT := []) (ks := kK) (LOk.nil _)).use (D := []) ?_ hq
  show (fnT _ _ _ _ ((feA).wr (y, ())) [] _).sat _
  rw [qroot_tree mulC addC subC (fun x => mulC x x) feSmall edgeC ratioC]
  exact ⟨rfl, rfl⟩
noncomputable abbrev qbaseE : Ent := e0Q baseC
theorem qbase_tree (mul : Fe → Fe → Fe) (sm : Int → Fe) (inv : Fe → Fe) (root : Fe → Fe × Bool) (af : Fe → Fe → Pt)  : fnT Try.prog [(47, e2F mul), (48, eSm sm), (72, e1F inv), (40, e1P root), (44, eAf af)] [] Try.f37 ((lNil).wr ()) [] kK = .leaf (cPt.wr (af (root (mul (sm 4) (inv (sm 5)))).1 (mul (sm 4) (inv (sm 5))))) [] := by kernel_rfl
theorem qbase_tab_ : ∀ p_ ∈ ([(47, e2F mulC), (48, eSm feSmall), (72, e1F invC), (40, e1P rootC), (44, eAf affineC)] : List (FuncId × Ent)), p_.2.Ok Try.prog p_.1 := (tabC fmul'_ok (tabC fsmall'_ok (tabC pinv_ok (tabC qroot_ok (tabC qaffine_ok tab0)))))
theorem qbase_ok : qbaseE.Ok Try.prog 37 := by
  refine (Ent.ofOk Try.call37 fun x_ y_ Q H_ => ?_).sym
  have hq := H_.2
  refine (fnT_ok (tab := [(47, e2F mulC), (48, eSm feSmall), (72, e1F invC), (40, e1P rootC), (44, eAf affineC)]) mixed qbase_tab_ Try.func37 rfl (LT := []) (ks := kK) (LOk.nil _)).use (D := []) ?_ hq
  show (fnT _ _ _ _ ((lNil).wr ()) [] _).sat _
  rw [qbase_tree mulC feSmall invC rootC affineC]
  exact ⟨rfl, rfl⟩
def e4Q (g : Fe → Fe → Fe → Fe → Pt) : Ent := Ent.ofS [] (lCons cFe (lCons cFe (lCons cFe (lCons cFe lNil)))) lNil fun x _ => .leaf none (cPt.wr (g x.1 x.2.1 x.2.2.1 x.2.2.2.1)) []
noncomputable abbrev qcrossE : Ent := e4Q crossC
theorem qcross_tree (mul : Fe → Fe → Fe) (e f g h : Fe) : fnT Try.prog [(47, e2F mul)] [] Try.f57 (((lCons cFe (lCons cFe (lCons cFe (lCons cFe lNil))))).wr (e, f, g, h, ())) [] kK = .leaf (cPt.wr (true, mul e f, mul g h, mul f g, mul e h)) [] := by kernel_rfl
theorem qcross_tab_ : ∀ p_ ∈ ([(47, e2F mulC)] : List (FuncId × Ent)), p_.2.Ok Try.prog p_.1 := (tabC fmul'_ok tab0)
theorem qcross_ok : qcrossE.Ok Try.prog 57 := by
  refine (Ent.ofOk Try.call57 fun x_ y_ Q H_ => ?_).sym
  obtain ⟨e, f, g, h, _⟩ := x_
  have hq := H_.2
  refine (fnT_ok (tab := [(47, e2F mulC)]) mixed qcross_tab_ Try.func57 rfl (LT := []) (ks := kK) (LOk.nil _)).use (D := []) ?_ hq
  show (fnT _ _ _ _ (((lCons cFe (lCons cFe (lCons cFe (lCons cFe lNil))))).wr (e, f, g, h, ())) [] _).sat _
  rw [qcross_tree mulC]
  exact ⟨rfl, rfl⟩
noncomputable abbrev qaddE : Ent := e2Q addPC
theorem qadd_tree (mul add sub : Fe → Fe → Fe) (ed : Fe) (own : Pt → Pt) (cross : Fe → Fe → Fe → Fe → Pt) (p q : Pt) : fnT Try.prog [(47, e2F mul), (55, e2F add), (54, e2F sub), (56, e0F ed), (45, e1Q own), (57, e4Q cross)] [] Try.f20 ((pt2A).wr (p, q, ())) [] kK = .leaf (cPt.wr (addFn mul add sub ed own cross p q)) [] := by kernel_rfl
theorem qadd_tab_ : ∀ p_ ∈ ([(47, e2F mulC), (55, e2F addC), (54, e2F subC), (56, e0F edgeC), (45, e1Q ownC), (57, e4Q crossC)] : List (FuncId × Ent)), p_.2.Ok Try.prog p_.1 := (tabC fmul'_ok (tabC fadd'_ok (tabC fsub'_ok (tabC qedge_ok (tabC qown_ok (tabC qcross_ok tab0))))))
theorem qadd_ok : qaddE.Ok Try.prog 20 := by
  refine (Ent.ofOk Try.call20 fun x_ y_ Q H_ => ?_).sym
  obtain ⟨p, q, _⟩ := x_
  have hq := H_.2
  refine (fnT_ok (tab := [(47, e2F mulC), (55, e2F addC), (54, e2F subC), (56, e0F edgeC), (45, e1Q ownC), (57, e4Q crossC)]) mixed qadd_tab_ Try.func20 rfl (LT := []) (ks := kK) (LOk.nil _)).use (D := []) ?_ hq
  show (fnT _ _ _ _ ((pt2A).wr (p, q, ())) [] _).sat _
  rw [qadd_tree mulC addC subC edgeC ownC crossC]
  exact ⟨rfl, rfl⟩
noncomputable abbrev qdoubleE : Ent := e1Q doubleC
theorem qdouble_tree (add : Pt → Pt → Pt) (p : Pt) : fnT Try.prog [(20, e2Q add)] [] Try.f14 ((ptA).wr (p, ())) [] kK = .leaf (cPt.wr (add p p)) [] := by kernel_rfl
theorem qdouble_tab_ : ∀ p_ ∈ ([(20, e2Q addPC)] : List (FuncId × Ent)), p_.2.Ok Try.prog p_.1 := (tabC qadd_ok tab0)
theorem qdouble_ok : qdoubleE.Ok Try.prog 14 := by
  refine (Ent.ofOk Try.call14 fun x_ y_ Q H_ => ?_).sym
  obtain ⟨p, _⟩ := x_
  have hq := H_.2
  refine (fnT_ok (tab := [(20, e2Q addPC)]) mixed qdouble_tab_ Try.func14 rfl (LT := []) (ks := kK) (LOk.nil _)).use (D := []) ?_ hq
  show (fnT _ _ _ _ ((ptA).wr (p, ())) [] _).sat _
  rw [qdouble_tree addPC]
  exact ⟨rfl, rfl⟩
noncomputable abbrev qnegE : Ent := e1Q negPC
theorem qneg_tree (neg : Fe → Fe) (own : Pt → Pt) (p : Pt) : fnT Try.prog [(43, e1F neg), (45, e1Q own)] [] Try.f15 ((ptA).wr (p, ())) [] kK = .leaf (cPt.wr (negFn neg own p)) [] := by kernel_rfl
theorem qneg_tab_ : ∀ p_ ∈ ([(43, e1F negC), (45, e1Q ownC)] : List (FuncId × Ent)), p_.2.Ok Try.prog p_.1 := (tabC fneg'_ok (tabC qown_ok tab0))
theorem qneg_ok : qnegE.Ok Try.prog 15 := by
  refine (Ent.ofOk Try.call15 fun x_ y_ Q H_ => ?_).sym
  obtain ⟨p, _⟩ := x_
  have hq := H_.2
  refine (fnT_ok (tab := [(43, e1F negC), (45, e1Q ownC)]) mixed qneg_tab_ Try.func15 rfl (LT := []) (ks := kK) (LOk.nil _)).use (D := []) ?_ hq
  show (fnT _ _ _ _ ((ptA).wr (p, ())) [] _).sat _
  rw [qneg_tree negC ownC]
  exact ⟨rfl, rfl⟩
def ePl (g : Pt → Fe × Fe) : Ent := Ent.ofS [] ptA lNil fun x _ => .leaf none (.tup [.agg ((vecL .u64 5).wr (g x.1).1), .agg ((vecL .u64 5).wr (g x.1).2)]) []
noncomputable abbrev qplaceE : Ent := ePl placeC
theorem qplace_tree (mul : Fe → Fe → Fe) (inv : Fe → Fe) (own : Pt → Pt) (p : Pt) : fnT Try.prog [(47, e2F mul), (72, e1F inv), (45, e1Q own)] [] Try.f73 ((ptA).wr (p, ())) [] kK = .leaf (.tup [.agg ((vecL .u64 5).wr (mul (own p).2.1 (inv (own p).2.2.2.1))), .agg ((vecL .u64 5).wr (mul (own p).2.2.1 (inv (own p).2.2.2.1)))]) [] := by kernel_rfl
theorem qplace_tab_ : ∀ p_ ∈ ([(47, e2F mulC), (72, e1F invC), (45, e1Q ownC)] : List (FuncId × Ent)), p_.2.Ok Try.prog p_.1 := (tabC fmul'_ok (tabC pinv_ok (tabC qown_ok tab0)))
theorem qplace_ok : qplaceE.Ok Try.prog 73 := by
  refine (Ent.ofOk Try.call73 fun x_ y_ Q H_ => ?_).sym
  obtain ⟨p, _⟩ := x_
  have hq := H_.2
  refine (fnT_ok (tab := [(47, e2F mulC), (72, e1F invC), (45, e1Q ownC)]) mixed qplace_tab_ Try.func73 rfl (LT := []) (ks := kK) (LOk.nil _)).use (D := []) ?_ hq
  show (fnT _ _ _ _ ((ptA).wr (p, ())) [] _).sat _
  rw [qplace_tree mulC invC ownC]
  exact ⟨rfl, rfl⟩
def eBy (g : Fe → List Int) : Ent := Ent.ofS [] feA lNil fun x _ => .leaf none (nRow .u8 32 (g x.1)) []
def eLB (g : List Int → Bool) : Ent := Ent.ofS [] bA32 lNil fun x _ => .leaf (some (x.1.length = 32)) (nB (g x.1)) []
def eEn (g : Pt → List Int) : Ent := Ent.ofS [] ptA lNil fun x _ => .leaf none (nRow .u8 32 (g x.1)) []
abbrev nPt (r : Pt × Bool) : LV := .tup [.agg ((lCons sBool (vecA .u64 (vecA .u64 (vecA .u64 (vecL .u64 5) 5) 5) 5)).wr r.1), .sc (.bool (.sym r.2))]
def eDe (g : List Int → Pt × Bool) : Ent := Ent.ofS [] bA32 lNil fun x _ => .leaf (some (x.1.length = 32)) (nPt (g x.1)) []
noncomputable def bytesL (x : Fe) : List Int := (feBytes x).toList
noncomputable def canonL (b : List Int) : Bool := canonicalC (v32 b)
noncomputable def encodeL (p : Pt) : List Int := (encodeC p).toList
noncomputable def decodeL (b : List Int) : Pt × Bool := decodeC (v32 b)
theorem fbytes_as : fbytesE = eBy bytesL := by kernel_rfl
theorem fbytes'_ok : (eBy bytesL).Ok Try.prog 74 := fbytes_as ▸ fbytes_ok
theorem fcanon_as : fcanonE = eLB canonL := by kernel_rfl
theorem fcanon'_ok : (eLB canonL).Ok Try.prog 41 := fcanon_as ▸ fcanon_ok
theorem upd_set {f : Int → Int} (v : B32) : (Vec.upd f 31 v).toList = v.toList.set 31 (f (v.toList.getD 31 0)) := by
  have h := v32_set (Vec.toList_length v) (k := 31) (by omega) f
  rw [v32_of] at h
  rw [← h, v32_toList (by rw [List.length_set]; exact Vec.toList_length v)]
theorem encode_eq (p : Pt) : encodeL p = bif oddC (placeC p).1 then (bytesL (placeC p).2).set 31 (bitOr .u8 ((bytesL (placeC p).2).getD 31 0) 128) else bytesL (placeC p).2 := by
  unfold encodeL encodeC encodeFn bytesL
  simp only [selN_eq]
  generalize feBytes (placeC p).2 = v
  cases oddC (placeC p).1
  · rfl
  · exact upd_set v
noncomputable abbrev qencodeE : Ent := eEn encodeL
theorem qencode_tree (pl : Pt → Fe × Fe) (byt : Fe → List Int) (odd : Fe → Bool) (p : Pt) : fnT Try.prog [(73, ePl pl), (74, eBy byt), (75, e1B odd)] [] Try.f38 ((ptA).wr (p, ())) [] kK = .ite (odd (pl p).1) (.leaf (nRow .u8 32 ((byt (pl p).2).set 31 (bitOr .u8 ((byt (pl p).2).getD 31 0) 128))) []) (.leaf (nRow .u8 32 (byt (pl p).2)) []) := by kernel_rfl
theorem qencode_tab_ : ∀ p_ ∈ ([(73, ePl placeC), (74, eBy bytesL), (75, e1B oddC)] : List (FuncId × Ent)), p_.2.Ok Try.prog p_.1 := (tabC qplace_ok (tabC fbytes'_ok (tabC fodd'_ok tab0)))
theorem qencode_ok : qencodeE.Ok Try.prog 38 := by
  refine (Ent.ofOk Try.call38 fun x_ y_ Q H_ => ?_).sym
  obtain ⟨p, _⟩ := x_
  have hq := H_.2
  refine (fnT_ok (tab := [(73, ePl placeC), (74, eBy bytesL), (75, e1B oddC)]) mixed qencode_tab_ Try.func38 rfl (LT := []) (ks := kK) (LOk.nil _)).use (D := []) ?_ hq
  show (fnT _ _ _ _ ((ptA).wr (p, ())) [] _).sat _
  rw [qencode_tree placeC bytesL oddC]
  exact two_sat (fun h => by rw [encode_eq, h]; rfl) (fun h => by rw [encode_eq, h]; rfl)
theorem decFn_eq (neg : Fe → Fe) (isz : Fe → Bool) (frm : B32 → Fe) (canon : B32 → Bool) (af : Fe → Fe → Pt) (root : Fe → Fe × Bool) (b : B32) :
    decodeFn neg isz frm canon af root b = bif (root (frm b)).2 then (bif canon b then (bif topBit b then (bif isz (root (frm b)).1 then (ptNone, false) else (af (neg (root (frm b)).1) (frm b), true)) else (af (root (frm b)).1 (frm b), true)) else (ptNone, false)) else (ptNone, false) := by
  unfold decodeFn
  simp only [selN_eq, selPt_eq]
  generalize root (frm b) = r
  generalize frm b = y
  obtain ⟨x, ok⟩ := r
  simp only
  cases ok <;> cases canon b <;> cases topBit b <;> cases isz x <;> rfl
theorem decode_eq (b : List Int) : decodeL b = bif (rootC (fromL b)).2 then (bif canonL b then (bif bitAnd .u8 (b.getD 31 0) 128 != 0 then (bif isZeroC (rootC (fromL b)).1 then (ptNone, false) else (affineC (negC (rootC (fromL b)).1) (fromL b), true)) else (affineC (rootC (fromL b)).1 (fromL b), true)) else (ptNone, false)) else (ptNone, false) := decFn_eq negC isZeroC feFrom canonicalC affineC rootC (v32 b)
theorem dec_sat {p : Prop} {ok canon odd isz : Bool} {P Q : Pt} (hp : p) {r : Pt × Bool} (hr : r = bif ok then (bif canon then (bif odd then (bif isz then (ptNone, false) else (P, true)) else (Q, true)) else (ptNone, false)) else (ptNone, false)) :
    (Ev.End.ite ((!ok) == false) (.need p (.ite ((!canon) == false) (.ite (odd == true) (.ite isz (.leaf (nPt (ptNone, false)) []) (.ite odd (.leaf (nPt (P, true)) []) (.leaf (nPt (Q, true)) []))) (.ite odd (.leaf (nPt (P, true)) []) (.leaf (nPt (Q, true)) []))) (.leaf (nPt (ptNone, false)) []))) (.leaf (nPt (ptNone, false)) [])).sat fun v hp' => v = nPt r ∧ hp' = [] := by
  subst hr
  cases ok
  · exact ⟨fun h => (by cases h), fun _ => ⟨rfl, rfl⟩⟩
  · refine ⟨fun _ => ⟨hp, ?_⟩, fun h => (by cases h)⟩
    cases canon
    · exact ⟨fun h => (by cases h), fun _ => ⟨rfl, rfl⟩⟩
    · refine ⟨fun _ => ?_, fun h => (by cases h)⟩
      cases odd
      · exact ⟨fun h => (by cases h), fun _ => ⟨fun h => (by cases h), fun _ => ⟨rfl, rfl⟩⟩⟩
      · refine ⟨fun _ => ?_, fun h => (by cases h)⟩
        cases isz
        · exact ⟨fun h => (by cases h), fun _ => ⟨fun _ => ⟨rfl, rfl⟩, fun h => (by cases h)⟩⟩
        · exact ⟨fun _ => ⟨rfl, rfl⟩, fun h => (by cases h)⟩
noncomputable abbrev qdecodeE : Ent := eDe decodeL
theorem qdecode_tree (frm : List Int → Fe) (root : Fe → Fe × Bool) (canon : List Int → Bool) (isz : Fe → Bool) (neg : Fe → Fe) (af : Fe → Fe → Pt) (b : List Int) : fnT Try.prog [(39, eFr frm), (40, e1P root), (41, eLB canon), (42, e1B isz), (43, e1F neg), (44, eAf af)] [] Try.f11 ((bA32).wr (b, ())) [] kK = .ite ((!(root (frm b)).2) == false) (.need (b.length = 32) (.ite ((!canon b) == false) (.ite ((bitAnd .u8 (b.getD 31 0) 128 != 0) == true) (.ite (isz (root (frm b)).1) (.leaf (nPt (ptNone, false)) []) (.ite (bitAnd .u8 (b.getD 31 0) 128 != 0) (.leaf (nPt (af (neg (root (frm b)).1) (frm b), true)) []) (.leaf (nPt (af (root (frm b)).1 (frm b), true)) []))) (.ite (bitAnd .u8 (b.getD 31 0) 128 != 0) (.leaf (nPt (af (neg (root (frm b)).1) (frm b), true)) []) (.leaf (nPt (af (root (frm b)).1 (frm b), true)) []))) (.leaf (nPt (ptNone, false)) []))) (.leaf (nPt (ptNone, false)) []) := by kernel_rfl
theorem qdecode_tab_ : ∀ p_ ∈ ([(39, eFr fromL), (40, e1P rootC), (41, eLB canonL), (42, e1B isZeroC), (43, e1F negC), (44, eAf affineC)] : List (FuncId × Ent)), p_.2.Ok Try.prog p_.1 := (tabC ffrom'_ok (tabC qroot_ok (tabC fcanon'_ok (tabC fzero'_ok (tabC fneg'_ok (tabC qaffine_ok tab0))))))
theorem qdecode_ok : qdecodeE.Ok Try.prog 11 := by
  refine (Ent.ofOk Try.call11 fun x_ y_ Q H_ => ?_).sym
  obtain ⟨b, _⟩ := x_
  obtain ⟨hn, hq⟩ := H_
  have hn : b.length = 32 := hn
  refine (fnT_ok (tab := [(39, eFr fromL), (40, e1P rootC), (41, eLB canonL), (42, e1B isZeroC), (43, e1F negC), (44, eAf affineC)]) mixed qdecode_tab_ Try.func11 rfl (LT := []) (ks := kK) (LOk.nil _)).use (D := []) ?_ hq
  show (fnT _ _ _ _ ((bA32).wr (b, ())) [] _).sat _
  rw [qdecode_tree fromL rootC canonL isZeroC negC affineC]
  exact dec_sat hn (decode_eq b)
end Go.Proofs.Ythdfifcgobfgdaa
end

section
set_option linter.unusedVariables false
set_option linter.unusedSimpArgs false
namespace Go.Proofs.Ythdfifcgobfgdaa
open Go Go.Ev BJ
set_option maxRecDepth 1000000
abbrev biA : Cod (List LV) (List Int × Int × Unit) := lCons cB (lCons (vOne (sInt .i64)) lNil)
def eBi (g : List Int → Int → Int) : Ent := Ent.ofS [] biA lNil fun x _ => .leaf (some (x.1.length = 32 ∧ 0 ≤ x.2.1 ∧ x.2.1 < 256)) (nI (g x.1 x.2.1)) []
noncomputable def bitL (a : List Int) (i : Int) : Int := bitFn (v32 a) i.toNat
noncomputable def sbitE : Ent := Ent.ofS [] (biA) (lNil) fun x_ y_ => (fun (a : List Int) (i : Int) => .leaf (some (a.length = 32 ∧ 0 ≤ i ∧ i < 256)) (nI (bitL a i)) []) x_.1 x_.2.1
theorem sbit_tree (a : List Int) (i : Int) : fnT Try.prog [] [] Try.f58 ((biA).wr (a, i, ())) ((lNil).wr ()) [.fr [.sym], .auto] =
    End.ite (decide (i < (0 : Int)) == false)
      (End.ite (decide ((256 : Int) ≤ i)) (End.leaf (LV.one (VV.sc (SV.int IntKind.i64 (SI.sym (0 : Int))))) [])
        (End.need ((0 : Int) ≤ IntKind.i64.wrap (i.tdiv (8 : Int)) ∧ IntKind.i64.wrap (i.tdiv (8 : Int)) < (32 : Int))
          (End.need ((0 : Int) ≤ i.tmod (8 : Int))
            (End.leaf
              (LV.one
                (VV.sc
                  (SV.int IntKind.i64
                    (SI.sym
                      (IntKind.i64.wrap
                        (bitAnd IntKind.u8
                          (shr IntKind.u8
                            ((List.take (32 : Nat) (List.drop (0 : Nat) a)).getD (IntKind.i64.wrap (i.tdiv (8 : Int))).toNat
                              (0 : Int))
                            (i.tmod (8 : Int)))
                          (1 : Int)))))))
              []))))
      (End.leaf (LV.one (VV.sc (SV.int IntKind.i64 (SI.sym (0 : Int))))) []) := by kernel_rfl
theorem sbit_ok : sbitE.Ok Try.prog 58 := by
  refine (Ent.ofOk Try.call58 fun x_ y_ Q H_ => ?_).sym
  obtain ⟨a, i, _⟩ := x_
  obtain ⟨hn, hq⟩ := H_
  have hn : a.length = 32 ∧ 0 ≤ i ∧ i < 256 := hn
  refine (fnT_ok mixed tab0 Try.func58 rfl (LT := []) (ks := [.fr [.sym], .auto]) (LOk.nil _)).use (D := []) ?_ hq
  show (fnT _ _ _ _ ((biA).wr (a, i, ())) ((lNil).wr ()) _).sat _
  rw [sbit_tree]
  obtain ⟨ha, h0, h1⟩ := hn
  obtain ⟨k, rfl⟩ := Int.eq_ofNat_of_zero_le h0
  have hk : k < 256 := by omega
  have e1 : IntKind.i64.wrap ((k : Int).tdiv 8) = ((k / 8 : Nat) : Int) := tdiv_nat k 8 (by omega)
  have e2 : (k : Int).tmod 8 = ((k % 8 : Nat) : Int) := tmod_nat k 8
  have e : bitL a (k : Int) = IntKind.i64.wrap (bitAnd .u8 (shr .u8 (a.getD (k / 8) 0) ((k % 8 : Nat) : Int)) 1) := by
    unfold bitL bitFn
    rw [Int.toNat_natCast, v32_get a (show k / 8 < 32 by omega)]
  rw [e1, e2, take_all ha, Int.toNat_natCast, e]
  refine ⟨fun _ => ⟨fun h => ?_, fun _ => ⟨by omega, by omega, rfl, rfl⟩⟩, fun h => ?_⟩
  · have := of_decide_eq_true h; omega
  · exfalso; revert h; simp
noncomputable abbrev muFn : Func := Try.f21
abbrev muC : Cod (List LV) (Int × Unit) := (jk 2 (lSkip (vOne (sPtr 0 0)) (lSkip (vOne (sPtr 1 0)) (lSkip (vOne (sPtr 2 0)) (lSkip (vOne (sPtr 3 0)) (lCons (vOne (sInt .i64)) (jk 15 lNil)))))))
abbrev muCf : Wk := .fr (fmS 22 [(2, .keep), (3, .keep), (4, .keep), (5, .keep), (6, .sym)])
abbrev muX : Cod (List LV) (Unit) := (jk 4 (lSkip (vOne (sPtr 0 0)) (lSkip (vOne (sPtr 1 0)) (jk 16 lNil))))
abbrev iPt : Cod (Option Ev.Item) Pt := iBlk 30 (lCons sBool (vecA .u64 (vecA .u64 (vecA .u64 (vecL .u64 5) 5) 5) 5))
abbrev muH : Cod Hp (List Int × Pt × Pt × Pt × Unit) := lCons (iRow 23 .u8 32) (lCons iPt (lCons iPt (lCons iPt lNil)))
abbrev muHX : Cod Hp (Pt × Pt × Unit) := lCons iPt (lCons iPt lNil)
abbrev symQ (i : Nat) : Wk := .blk i (List.replicate 21 .sym)
def muW : Exit → List Wk
  | .normal => [muCf, symQ 2, symQ 3, .auto]
  | .exit 0 => [.fr (fmS 22 [(4, .keep), (5, .keep)]), .auto]
  | _ => []
theorem mu_rnd (bit : List Int → Int → Int) (dbl : Pt → Pt) (add : Pt → Pt → Pt) (n : List Int) (p r o : Pt) (i : Int) : rndT Try.prog [(58, eBi bit), (14, e1Q dbl), (20, e2Q add)] [] muFn 0 [] muW ((stC muC muH).wr ((i, ()), (n, p, r, o, ()))) =
    Res.ite (decide ((0 : Int) ≤ i))
      (Res.need (n.length = (32 : Nat) ∧ (0 : Int) ≤ i ∧ i < (256 : Int))
        (Res.ite (bit n i == (1 : Int))
          (Res.leaf Exit.normal
            ((stC muC muH).wr ((IntKind.i64.wrap (i - (1 : Int)), PUnit.unit), n, p, r, add (dbl o) p, PUnit.unit)))
          (Res.leaf Exit.normal
            ((stC muC muH).wr ((IntKind.i64.wrap (i - (1 : Int)), PUnit.unit), n, p, r, dbl o, PUnit.unit)))))
      (Res.leaf (Exit.exit (0 : Nat)) ((stC muX muHX).wr (PUnit.unit, r, o, PUnit.unit))) := by kernel_rfl
noncomputable abbrev muTab : List (FuncId × Ent) := [(58, eBi bitL), (14, e1Q doubleC), (20, e2Q addPC)]
theorem sbit_as : sbitE = eBi bitL := by kernel_rfl
theorem sbit'_ok : (eBi bitL).Ok Try.prog 58 := sbit_as ▸ sbit_ok
theorem muTab_ok : ∀ p ∈ muTab, p.2.Ok Try.prog p.1 := tabC sbit'_ok (tabC qdouble_ok (tabC qadd_ok tab0))
def mulG (bit : List Int → Int → Int) (dbl : Pt → Pt) (add : Pt → Pt → Pt) (n : List Int) (p : Pt) (k : Nat) (r : Pt) : Pt := bif bit n (255 - (k : Int)) == 1 then add (dbl r) p else dbl r
theorem mu_loop (x : (Int × Unit) × List Int × Pt × Pt × Pt × Unit) : Ex Try.prog [] (.loop (loopAt muFn 0)) ((stC muC muH).wr x) (.need (x.1.1 = 255 ∧ x.2.1.length = 32) (.leaf (.exit 0) ((stC muX muHX).wr ((), (x.2.2.2.1, rnds (mulG bitL doubleC addPC x.2.1 x.2.2.1) 256 x.2.2.2.2.1, ()))))) := by
  obtain ⟨⟨i, _⟩, n, p, r, o, _⟩ := x
  refine Ex.need fun ⟨h1, h2⟩ => ?_
  simp only at h1 h2
  subst h1
  have key := loopUp (fn := muFn) (id := 0) (j := 0) (ws := muW) (hp := []) mixed muTab_ok (LOk.nil _) 256 (fun k o => (stC muC muH).wr ((255 - (k : Int), ()), (n, p, r, o, ()))) (fun o => (stC muX muHX).wr ((), (r, o, ()))) (mulG bitL doubleC addPC n p) (fun _ _ => True)
    (fun k o R hk _ hn hx => ?_) (fun _ _ _ _ => trivial) 0 o (by omega) trivial
  · rw [Nat.sub_zero, rnds_upto] at key; exact key
  rw [mu_rnd]
  refine ⟨fun hb => ?_, fun hb => ?_⟩
  · have hk' : k < 256 := by have := of_decide_eq_true hb; omega
    have hn' := hn hk'
    have e3 : IntKind.i64.wrap ((255 - (k : Int)) - 1) = 255 - ((k + 1 : Nat) : Int) := by rw [wrap_ok (by omega) (by omega)]; omega
    rw [e3]
    refine ⟨⟨h2, by omega, by omega⟩, fun hc => ?_, fun hc => ?_⟩
    · have : mulG bitL doubleC addPC n p k o = addPC (doubleC o) p := by unfold mulG; rw [hc]; rfl
      rw [this] at hn'; exact hn'
    · have : mulG bitL doubleC addPC n p k o = doubleC o := by unfold mulG; rw [hc]; rfl
      rw [this] at hn'; exact hn'
  · have : k = 256 := by have := of_decide_eq_false hb; omega
    exact hx this
abbrev mpA : Cod (List LV) (List Int × Pt × Unit) := lCons cB (lCons cPt lNil)
def eMu (g : List Int → Pt → Pt) : Ent := Ent.ofS [] mpA lNil fun x _ => .leaf (some (x.1.length = 32)) (cPt.wr (g x.1 x.2.1)) []
def muLF (w : List Int → Pt → Pt → Pt) (x : (Int × Unit) × List Int × Pt × Pt × Pt × Unit) : Res := .need (x.1.1 = 255 ∧ x.2.1.length = 32) (.leaf (.exit 0) ((stC muX muHX).wr ((), (x.2.2.2.1, w x.2.1 x.2.2.1 x.2.2.2.2.1, ()))))
abbrev muLT (w : List Int → Pt → Pt → Pt) : LTab := [(0, loopF (stC muC muH) 0 [muCf, .auto, symQ 2, symQ 3] (muLF w))]
theorem mmult_tree (z : Pt) (w : List Int → Pt → Pt → Pt) (bit : List Int → Int → Int) (dbl : Pt → Pt) (add : Pt → Pt → Pt) (n : List Int) (p : Pt) : fnT Try.prog [(58, eBi bit), (14, e1Q dbl), (20, e2Q add), (13, e0Q z)] (muLT w) muFn (mpA.wr (n, p, ())) [] kK =
    .need ((255 : Int) = 255 ∧ n.length = 32) (.leaf (cPt.wr (w n p z)) []) := by kernel_rfl
theorem multL_ex : ∃ f : List Int → Pt → Pt, ∀ n p, f n p = multC (v32 n) p := ⟨fun n p => multC (v32 n) p, fun _ _ => rfl⟩
/-- never opened: its rounds are many -/
noncomputable def multL : List Int → Pt → Pt := Classical.choose multL_ex
theorem multL_eq (n : List Int) (p : Pt) : multL n p = multC (v32 n) p := Classical.choose_spec multL_ex n p
noncomputable def multW (n : List Int) (p z : Pt) : Pt := rnds (mulG bitL doubleC addPC n p) 256 z
noncomputable abbrev mmultE : Ent := eMu multL
theorem mulG_eq (n : List Int) (p : Pt) (k : Nat) (hk : k < 256) (r : Pt) : mulG bitL doubleC addPC n p k r = multStep bitFn doubleC addPC (v32 n) p k r := by
  unfold mulG multStep bitL
  rw [selPt_eq, show (255 - (k : Int)).toNat = 255 - k from by omega]
theorem rnds_congr {α : Type} {f g : Nat → α → α} {n : Nat} (h : ∀ k, k < n → ∀ r, f k r = g k r) (a : α) : ∀ m, m ≤ n → rnds f m a = rnds g m a
  | 0, _ => rfl
  | m + 1, hm => by
    show f m (rnds f m a) = g m (rnds g m a)
    rw [rnds_congr h a m (by omega), h m (by omega)]
theorem mult_eq (n : List Int) (p : Pt) : multW n p zeroC = multL n p := by
  rw [multL_eq]
  unfold multW multC multFn
  exact rnds_congr (fun k hk r => mulG_eq n p k hk r) zeroC 256 (Nat.le_refl _)
theorem muT4_ok : ∀ p ∈ ([(58, eBi bitL), (14, e1Q doubleC), (20, e2Q addPC), (13, e0Q zeroC)] : List (FuncId × Ent)), p.2.Ok Try.prog p.1 := tabC sbit'_ok (tabC qdouble_ok (tabC qadd_ok (tabC qzero_ok tab0)))
theorem mult_sat {n : List Int} {V W : Pt} (hn : n.length = 32) (h : V = W) : (Ev.End.need ((255 : Int) = 255 ∧ n.length = 32) (.leaf (cPt.wr V) [])).sat fun v hp' => v = cPt.wr W ∧ hp' = [] := by
  subst h; exact ⟨⟨rfl, hn⟩, rfl, rfl⟩
theorem multW_def (n : List Int) (p z : Pt) : multW n p z = rnds (mulG bitL doubleC addPC n p) 256 z := rfl
theorem mu_loop' (x : (Int × Unit) × List Int × Pt × Pt × Pt × Unit) : Ex Try.prog [] (.loop (loopAt muFn 0)) ((stC muC muH).wr x) (muLF multW x) := by
  unfold muLF
  rw [multW_def]
  exact mu_loop x
theorem muL_ok : LOk Try.prog [] (muLT multW) (bodyOf muFn) := LOk.ofTab (LTC rfl (loopF_ok (hp := []) mu_loop') LT0)
theorem mmult_ok : mmultE.Ok Try.prog 21 := by
  refine (Ent.ofOk Try.call21 fun x_ y_ Q H_ => ?_).sym
  obtain ⟨n, p, _⟩ := x_
  obtain ⟨hn, hq⟩ := H_
  have hn : n.length = 32 := hn
  have hc : CallsT Try.prog 21 (mpA.wr (n, p, ())) [] (fnT Try.prog [(58, eBi bitL), (14, e1Q doubleC), (20, e2Q addPC), (13, e0Q zeroC)] (muLT multW) muFn (mpA.wr (n, p, ())) [] kK) :=
    fnT_ok mixed muT4_ok Try.func21 rfl muL_ok
  rw [mmult_tree zeroC multW bitL doubleC addPC] at hc
  exact hc.use (D := []) (mult_sat hn (mult_eq n p)) hq
def eMb (g : List Int → Pt) : Ent := Ent.ofS [] bA32 lNil fun x _ => .leaf (some (x.1.length = 32)) (cPt.wr (g x.1)) []
noncomputable def mbaseL (n : List Int) : Pt := multL n baseC
noncomputable abbrev mbaseE : Ent := eMb mbaseL
theorem mbase_tree (mu : List Int → Pt → Pt) (b : Pt) (n : List Int) : fnT Try.prog [(21, eMu mu), (37, e0Q b)] [] Try.f18 ((bA32).wr (n, ())) [] kK = .need (n.length = 32) (.leaf (cPt.wr (mu n b)) []) := by kernel_rfl
theorem mbase_tab_ : ∀ p_ ∈ ([(21, eMu multL), (37, e0Q baseC)] : List (FuncId × Ent)), p_.2.Ok Try.prog p_.1 := (tabC mmult_ok (tabC qbase_ok tab0))
theorem mbase_ok : mbaseE.Ok Try.prog 18 := by
  refine (Ent.ofOk Try.call18 fun x_ y_ Q H_ => ?_).sym
  obtain ⟨n, _⟩ := x_
  obtain ⟨hn, hq⟩ := H_
  have hn : n.length = 32 := hn
  refine (fnT_ok (tab := [(21, eMu multL), (37, e0Q baseC)]) mixed mbase_tab_ Try.func18 rfl (LT := []) (ks := kK) (LOk.nil _)).use (D := []) ?_ hq
  show (fnT _ _ _ _ ((bA32).wr (n, ())) [] _).sat _
  rw [mbase_tree multL baseC]
  exact ⟨hn, rfl, rfl⟩
end Go.Proofs.Ythdfifcgobfgdaa
end

section
set_option linter.unusedVariables false
set_option linter.unusedSimpArgs false
namespace Go.Proofs.Ythdfifcgobfgdaa
open Go Go.Ev BJ
set_option maxRecDepth 1000000
noncomputable abbrev twFn : Func := Try.f65
abbrev twC : Cod (List LV) (Int × Unit) := (jk 3 (lSkip (vOne (sPtr 0 0)) (jk 1 (lSkip (vOne (sPtr 1 0)) (lSkip (vOne (sPtr 2 0)) (jk 1 (lSkip (vOne (sPtr 3 0)) (lSkip (vOne (sPtr 4 0)) (lCons (vOne (sInt .i64)) (jk 32 lNil))))))))))
abbrev twCf : Wk := .fr (fmS 43 [(3, .keep), (5, .keep), (6, .keep), (8, .keep), (9, .keep), (10, .sym)])
abbrev twX : Cod (List LV) (Unit) := (jk 6 (lSkip (vOne (sPtr 0 0)) (jk 2 (lSkip (vOne (sPtr 1 0)) (jk 33 lNil)))))
abbrev twXf : Wk := .fr (fmS 43 [(6, .keep), (9, .keep)])
abbrev ptC {Y : Type} (r : Cod (List SV) Y) : Cod (List SV) (Pt × Y) := (lCons sBool (vecA .u64 (vecA .u64 (vecA .u64 (vecA .u64 r 5) 5) 5) 5)).iso (fun x => ((x.1, x.2.1, x.2.2.1, x.2.2.2.1, x.2.2.2.2.1), x.2.2.2.2.2)) (fun y => (y.1.1, y.1.2.1, y.1.2.2.1, y.1.2.2.2.1, y.1.2.2.2.2, y.2)) (fun _ => rfl)
abbrev pt4C : Cod (List SV) (Pt × Pt × Pt × Pt × Unit) := ptC (ptC (ptC (ptC lNil)))
abbrev twH : Cod Hp (List Int × List Int × Pt × (Pt × Pt × Pt × Pt × Unit) × Pt × Unit) := lCons (iRow 23 .u8 32) (lCons (iRow 23 .u8 32) (lCons iPt (lCons (iBlk 123 pt4C) (lCons iPt lNil))))
def twW : Exit → List Wk
  | .normal => [twCf, symQ 2, .blk 3 (List.replicate 84 .sym), symQ 4, .auto]
  | .exit 0 => [twXf, .auto]
  | _ => []
abbrev twI (bit : List Int → Int → Int) (a b : List Int) (i : Int) : Int := IntKind.i64.wrap (bit a i + IntKind.i64.wrap (2 * bit b i))
theorem tw_rnd (bit : List Int → Int → Int) (dbl : Pt → Pt) (add : Pt → Pt → Pt) (a b : List Int) (r p0 p1 p2 p3 o : Pt) (i : Int) : rndT Try.prog [(58, eBi bit), (14, e1Q dbl), (20, e2Q add)] [] twFn 0 [] twW ((stC twC twH).wr ((i, ()), (a, b, r, (p0, p1, p2, p3, ()), o, ()))) =
    .ite (decide (0 ≤ i)) (.need (a.length = 32 ∧ 0 ≤ i ∧ i < 256) (.need (b.length = 32 ∧ 0 ≤ i ∧ i < 256) (.ite (decide (0 < twI bit a b i))
      (.need (0 ≤ twI bit a b i ∧ twI bit a b i < 4) (.leaf .normal ((stC twC twH).wr ((IntKind.i64.wrap (i - 1), ()), (a, b, r, (p0, p1, p2, p3, ()), add (dbl o) (pickPt (twI bit a b i) [p0, p1, p2, p3]), ())))))
      (.leaf .normal ((stC twC twH).wr ((IntKind.i64.wrap (i - 1), ()), (a, b, r, (p0, p1, p2, p3, ()), dbl o, ())))))))
      (.leaf (.exit 0) ((stC twX muHX).wr ((), (r, o, ())))) := by kernel_rfl
noncomputable def twG (bit : List Int → Int → Int) (dbl : Pt → Pt) (add : Pt → Pt → Pt) (a b : List Int) (l : List Pt) (k : Nat) (r : Pt) : Pt := bif decide (0 < twI bit a b (255 - (k : Int))) then add (dbl r) (pickPt (twI bit a b (255 - (k : Int))) l) else dbl r
abbrev twT : Type := (Int × Unit) × List Int × List Int × Pt × (Pt × Pt × Pt × Pt × Unit) × Pt × Unit
def twLF (w : List Int → List Int → Pt → Pt → Pt → Pt → Pt → Pt) (x : twT) : Res := .need (x.1.1 = 255 ∧ x.2.1.length = 32 ∧ x.2.2.1.length = 32) (.leaf (.exit 0) ((stC twX muHX).wr ((), (x.2.2.2.1, w x.2.1 x.2.2.1 x.2.2.2.2.1.1 x.2.2.2.2.1.2.1 x.2.2.2.2.1.2.2.1 x.2.2.2.2.1.2.2.2.1 x.2.2.2.2.2.1, ()))))
theorem bitL_01 {a : List Int} {i : Int} : bitL a i = 0 ∨ bitL a i = 1 := bit_01 _
theorem twI_range (a b : List Int) (i : Int) : 0 ≤ twI bitL a b i ∧ twI bitL a b i < 4 := by
  rcases bitL_01 (a := a) (i := i) with h | h <;> rcases bitL_01 (a := b) (i := i) with h' | h' <;> unfold twI <;> rw [h, h'] <;> decide
theorem tw_loop (x : twT) : Ex Try.prog [] (.loop (loopAt twFn 0)) ((stC twC twH).wr x) (.need (x.1.1 = 255 ∧ x.2.1.length = 32 ∧ x.2.2.1.length = 32) (.leaf (.exit 0) ((stC twX muHX).wr ((), (x.2.2.2.1, rnds (twG bitL doubleC addPC x.2.1 x.2.2.1 [x.2.2.2.2.1.1, x.2.2.2.2.1.2.1, x.2.2.2.2.1.2.2.1, x.2.2.2.2.1.2.2.2.1]) 256 x.2.2.2.2.2.1, ()))))) := by
  obtain ⟨⟨i, _⟩, a, b, r, ⟨p0, p1, p2, p3, _⟩, o, _⟩ := x
  refine Ex.need fun ⟨h1, h2, h3⟩ => ?_
  simp only at h1 h2 h3
  subst h1
  have key := loopUp (fn := twFn) (id := 0) (j := 0) (ws := twW) (hp := []) mixed muTab_ok (LOk.nil _) 256 (fun k o => (stC twC twH).wr ((255 - (k : Int), ()), (a, b, r, (p0, p1, p2, p3, ()), o, ()))) (fun o => (stC twX muHX).wr ((), (r, o, ()))) (twG bitL doubleC addPC a b [p0, p1, p2, p3]) (fun _ _ => True)
    (fun k o R hk _ hn hx => ?_) (fun _ _ _ _ => trivial) 0 o (by omega) trivial
  · rw [Nat.sub_zero, rnds_upto] at key; exact key
  rw [tw_rnd]
  refine ⟨fun hb => ?_, fun hb => ?_⟩
  · have hk' : k < 256 := by have := of_decide_eq_true hb; omega
    have hn' := hn hk'
    have e3 : IntKind.i64.wrap ((255 - (k : Int)) - 1) = 255 - ((k + 1 : Nat) : Int) := by rw [wrap_ok (by omega) (by omega)]; omega
    rw [e3]
    refine ⟨⟨h2, by omega, by omega⟩, ⟨h3, by omega, by omega⟩, fun hc => ⟨twI_range _ _ _, ?_⟩, fun hc => ?_⟩
    · have : twG bitL doubleC addPC a b [p0, p1, p2, p3] k o = addPC (doubleC o) (pickPt (twI bitL a b (255 - (k : Int))) [p0, p1, p2, p3]) := by unfold twG; rw [hc]; rfl
      rw [this] at hn'; exact hn'
    · have : twG bitL doubleC addPC a b [p0, p1, p2, p3] k o = doubleC o := by unfold twG; rw [hc]; rfl
      rw [this] at hn'; exact hn'
  · have : k = 256 := by have := of_decide_eq_false hb; omega
    exact hx this
noncomputable abbrev twLT (w : List Int → List Int → Pt → Pt → Pt → Pt → Pt → Pt) : LTab := [(0, loopF (stC twC twH) 0 [twCf, .auto, symQ 2, .blk 3 (List.replicate 84 .sym), symQ 4] (twLF w))]
abbrev twA : Cod (List LV) (List Int × Pt × List Int × Unit) := lCons cB (lCons cPt (lCons cB lNil))
def eTw (g : List Int → Pt → List Int → Pt) : Ent := Ent.ofS [] twA lNil fun x _ => .leaf (some (x.1.length = 32 ∧ x.2.2.1.length = 32)) (cPt.wr (g x.1 x.2.1 x.2.2.1)) []
noncomputable abbrev twTab (z b : Pt) (bit : List Int → Int → Int) (dbl : Pt → Pt) (add : Pt → Pt → Pt) : List (FuncId × Ent) := [(58, eBi bit), (14, e1Q dbl), (20, e2Q add), (13, e0Q z), (37, e0Q b)]
theorem mtwo_tree (z b : Pt) (w : List Int → List Int → Pt → Pt → Pt → Pt → Pt → Pt) (bit : List Int → Int → Int) (dbl : Pt → Pt) (add : Pt → Pt → Pt) (n m : List Int) (p : Pt) : fnT Try.prog (twTab z b bit dbl add) (twLT w) twFn (twA.wr (n, p, m, ())) [] kK =
    .need ((255 : Int) = 255 ∧ n.length = 32 ∧ m.length = 32) (.leaf (cPt.wr (w n m z p b (add p b) z)) []) := by kernel_rfl
theorem twoL_ex : ∃ f : List Int → Pt → List Int → Pt, ∀ n p m, f n p m = twoC (v32 n) p (v32 m) := ⟨fun n p m => twoC (v32 n) p (v32 m), fun _ _ _ => rfl⟩
/-- never opened: its rounds are many -/
noncomputable def twoL : List Int → Pt → List Int → Pt := Classical.choose twoL_ex
theorem twoL_eq (n : List Int) (p : Pt) (m : List Int) : twoL n p m = twoC (v32 n) p (v32 m) := Classical.choose_spec twoL_ex n p m
noncomputable def twW' (a b : List Int) (p0 p1 p2 p3 o : Pt) : Pt := rnds (twG bitL doubleC addPC a b [p0, p1, p2, p3]) 256 o
theorem twG_eq (a b : List Int) (l : Vec Pt 4) (k : Nat) (hk : k < 256) (r : Pt) : twG bitL doubleC addPC a b l.toList k r = twoStep bitFn doubleC addPC (v32 a) (v32 b) l (255 - (k : Int)) r := by
  unfold twG twoStep twoK twI bitL
  rw [selPt_eq]
  rfl
theorem twoW_eq (n m : List Int) (p : Pt) : twW' n m zeroC p baseC (addPC p baseC) zeroC = twoL n p m := by
  rw [twoL_eq]
  unfold twW' twoC twoFn
  exact rnds_congr (fun k hk r => twG_eq n m (vec4 zeroC p baseC (addPC p baseC)) k hk r) zeroC 256 (Nat.le_refl _)
theorem two_sat' {n m : List Int} {V W : Pt} (hn : n.length = 32) (hm : m.length = 32) (h : V = W) : (Ev.End.need ((255 : Int) = 255 ∧ n.length = 32 ∧ m.length = 32) (.leaf (cPt.wr V) [])).sat fun v hp' => v = cPt.wr W ∧ hp' = [] := by
  subst h; exact ⟨⟨rfl, hn, hm⟩, rfl, rfl⟩
theorem twW'_def (a b : List Int) (p0 p1 p2 p3 o : Pt) : twW' a b p0 p1 p2 p3 o = rnds (twG bitL doubleC addPC a b [p0, p1, p2, p3]) 256 o := rfl
theorem tw_loop' (x : twT) : Ex Try.prog [] (.loop (loopAt twFn 0)) ((stC twC twH).wr x) (twLF twW' x) := by
  unfold twLF
  rw [twW'_def]
  exact tw_loop x
theorem twL_ok : LOk Try.prog [] (twLT twW') (bodyOf twFn) := LOk.ofTab (LTC rfl (loopF_ok (hp := []) tw_loop') LT0)
theorem twT_ok : ∀ p ∈ twTab zeroC baseC bitL doubleC addPC, p.2.Ok Try.prog p.1 := tabC sbit'_ok (tabC qdouble_ok (tabC qadd_ok (tabC qzero_ok (tabC qbase_ok tab0))))
noncomputable abbrev mtwoE : Ent := eTw twoL
theorem mtwo_ok : mtwoE.Ok Try.prog 65 := by
  refine (Ent.ofOk Try.call65 fun x_ y_ Q H_ => ?_).sym
  obtain ⟨n, p, m, _⟩ := x_
  obtain ⟨hn, hq⟩ := H_
  have hn : n.length = 32 ∧ m.length = 32 := hn
  have hc : CallsT Try.prog 65 (twA.wr (n, p, m, ())) [] (fnT Try.prog (twTab zeroC baseC bitL doubleC addPC) (twLT twW') twFn (twA.wr (n, p, m, ())) [] kK) :=
    fnT_ok mixed twT_ok Try.func65 rfl twL_ok
  rw [mtwo_tree zeroC baseC twW' bitL doubleC addPC] at hc
  exact hc.use (D := []) (two_sat' hn.1 hn.2 (twoW_eq n m p)) hq
end Go.Proofs.Ythdfifcgobfgdaa
end

section
set_option linter.unusedVariables false
set_option linter.unusedSimpArgs false
namespace Go.Ev
open Go
/-- the number that digits are, the lowest first -/
def vd (B : Int) : List Int → Int
  | [] => 0
  | x :: l => x + B * vd B l
/-- a number's lowest digits -/
def dg (B : Int) : Nat → Int → List Int
  | 0, _ => []
  | n + 1, x => x % B :: dg B n (x / B)
def InB (B : Int) (l : List Int) : Prop := ∀ z ∈ l, 0 ≤ z ∧ z < B
section
variable {B : Int}
theorem InB.tail {x : Int} {l : List Int} (h : InB B (x :: l)) : InB B l := fun z hz => h z (List.mem_cons_of_mem _ hz)
theorem InB.head {x : Int} {l : List Int} (h : InB B (x :: l)) : 0 ≤ x ∧ x < B := h x (by simp)
theorem InB.take {l : List Int} (h : InB B l) (n : Nat) : InB B (l.take n) := fun z hz => h z (List.mem_of_mem_take hz)
theorem InB.drop {l : List Int} (h : InB B l) (n : Nat) : InB B (l.drop n) := fun z hz => h z (List.mem_of_mem_drop hz)
theorem InB.append {l m : List Int} (h : InB B l) (h' : InB B m) : InB B (l ++ m) := fun z hz => by
  rcases List.mem_append.1 hz with k | k
  · exact h z k
  · exact h' z k
theorem InB.set {l : List Int} (h : InB B l) {i : Nat} {x : Int} (hx : 0 ≤ x ∧ x < B) : InB B (l.set i x) := fun z hz => by
  rcases List.mem_or_eq_of_mem_set hz with k | k
  · exact h z k
  · subst k; exact hx
theorem InB.zeros (hB : 0 < B) (n : Nat) : InB B (List.replicate n 0) := fun z hz => by
  rw [List.eq_of_mem_replicate hz]; omega
theorem InB.getD {l : List Int} (hB : 0 < B) (h : InB B l) (i : Nat) : 0 ≤ l.getD i 0 ∧ l.getD i 0 < B := by
  rw [List.getD_eq_getElem?_getD]
  rcases Nat.lt_or_ge i l.length with h1 | h1
  · rw [List.getElem?_eq_getElem h1]; exact h _ (List.getElem_mem h1)
  · rw [List.getElem?_eq_none h1]; exact ⟨by simp, by simpa using hB⟩
theorem dg_length : ∀ (n : Nat) (x : Int), (dg B n x).length = n
  | 0, _ => rfl
  | n + 1, x => by simp [dg, dg_length n]
theorem dg_in (hB : 0 < B) : ∀ (n : Nat) (x : Int), InB B (dg B n x)
  | 0, _ => fun z hz => by cases hz
  | n + 1, x => fun z hz => by
    rcases List.mem_cons.1 hz with rfl | hz
    · exact ⟨Int.emod_nonneg _ (by omega), Int.emod_lt_of_pos _ hB⟩
    · exact dg_in hB n _ z hz
theorem pow_pos' (hB : 0 < B) (n : Nat) : 0 < B ^ n := Int.pow_pos hB
theorem vd_nonneg (hB : 0 < B) : ∀ {l : List Int}, InB B l → 0 ≤ vd B l
  | [], _ => by simp [vd]
  | x :: l, h => by
    have h1 := vd_nonneg hB h.tail
    have h2 := h.head
    have := Int.mul_nonneg (Int.le_of_lt hB) h1
    simp only [vd]; omega
theorem vd_lt (hB : 0 < B) : ∀ {l : List Int}, InB B l → vd B l < B ^ l.length
  | [], _ => by simp [vd]
  | x :: l, h => by
    have h1 := vd_lt hB h.tail
    have h2 := h.head
    simp only [vd, List.length_cons]
    have h3 : B * (vd B l + 1) ≤ B * B ^ l.length := Int.mul_le_mul_of_nonneg_left (by omega) (by omega)
    rw [Int.mul_add, Int.mul_one] at h3
    rw [Int.pow_succ, Int.mul_comm (B ^ l.length)]
    omega
theorem ediv_unit (hB : 0 < B) {x y : Int} (h : 0 ≤ x ∧ x < B) : (x + B * y) / B = y ∧ (x + B * y) % B = x := by
  rw [Int.add_mul_ediv_left _ _ (by omega), Int.add_mul_emod_self_left, Int.ediv_eq_zero_of_lt h.1 h.2, Int.emod_eq_of_lt h.1 h.2]
  exact ⟨by omega, rfl⟩
theorem dg_vd (hB : 0 < B) : ∀ {l : List Int}, InB B l → dg B l.length (vd B l) = l
  | [], _ => rfl
  | x :: l, h => by
    obtain ⟨h1, h2⟩ := ediv_unit hB (y := vd B l) h.head
    show (x + B * vd B l) % B :: dg B l.length ((x + B * vd B l) / B) = x :: l
    rw [h1, h2, dg_vd hB h.tail]
theorem emod_split (hB : 0 < B) {P : Int} (hP : 0 < P) (x : Int) : x % B + B * (x / B % P) = x % (B * P) := by
  have h1 := Int.emod_nonneg x (show B ≠ 0 by omega)
  have h2 := Int.emod_lt_of_pos x hB
  have h3 := Int.emod_nonneg (x / B) (show P ≠ 0 by omega)
  have h4 := Int.emod_lt_of_pos (x / B) hP
  have e1 := Int.emod_add_mul_ediv x B
  have e2 := Int.emod_add_mul_ediv (x / B) P
  have e : x = x % B + B * (x / B % P) + (B * P) * (x / B / P) := by
    rw [Int.mul_assoc, Int.add_assoc, ← Int.mul_add, e2, e1]
  have hlt : x % B + B * (x / B % P) < B * P := by
    have := Int.mul_le_mul_of_nonneg_left (show x / B % P + 1 ≤ P by omega) (show 0 ≤ B by omega)
    rw [Int.mul_add, Int.mul_one] at this
    omega
  have hnn : 0 ≤ x % B + B * (x / B % P) := by
    have := Int.mul_nonneg (show 0 ≤ B by omega) h3
    omega
  have key : x % (B * P) = (x % B + B * (x / B % P)) % (B * P) := by
    conv => lhs; rw [e]
    rw [Int.add_mul_emod_self_left]
  rw [key, Int.emod_eq_of_lt hnn hlt]
theorem vd_dg (hB : 0 < B) : ∀ (n : Nat) (x : Int), vd B (dg B n x) = x % B ^ n
  | 0, x => by simp [dg, vd, Int.emod_one]
  | n + 1, x => by
    show x % B + B * vd B (dg B n (x / B)) = _
    rw [vd_dg hB n, emod_split hB (pow_pos' hB n), Int.pow_succ, Int.mul_comm (B ^ n)]
theorem vd_inj (hB : 0 < B) {l m : List Int} (hl : InB B l) (hm : InB B m) (hn : l.length = m.length) (h : vd B l = vd B m) : l = m := by
  rw [← dg_vd hB hl, ← dg_vd hB hm, hn, h]
theorem eq_dg (hB : 0 < B) {l : List Int} {n : Nat} {x : Int} (hl : InB B l) (hn : l.length = n) (h : vd B l = x % B ^ n) : l = dg B n x :=
  vd_inj hB hl (dg_in hB n x) (by rw [dg_length, hn]) (by rw [vd_dg hB, h])
theorem eq_dg' (hB : 0 < B) {l : List Int} {n : Nat} {x : Int} (hl : InB B l) (hn : l.length = n) (h : vd B l = x) : l = dg B n x := by
  subst h hn; exact (dg_vd hB hl).symm
theorem dg_getD (hB : 0 < B) : ∀ {n : Nat} {x : Int} {k : Nat}, k < n → (dg B n x).getD k 0 = x / B ^ k % B
  | 0, _, k, h => absurd h (by omega)
  | n + 1, x, 0, _ => by simp [dg]
  | n + 1, x, k + 1, h => by
    show (x % B :: dg B n (x / B)).getD (k + 1) 0 = _
    rw [List.getD_cons_succ, dg_getD hB (by omega : k < n), Int.ediv_ediv_of_nonneg (by omega), Int.pow_succ, Int.mul_comm (B ^ k)]
theorem vd_getD (hB : 0 < B) {l : List Int} (h : InB B l) {k : Nat} (hk : k < l.length) : l.getD k 0 = vd B l / B ^ k % B := by
  conv => lhs; rw [← dg_vd hB h]
  exact dg_getD hB hk
theorem vd_append : ∀ (l m : List Int), vd B (l ++ m) = vd B l + B ^ l.length * vd B m
  | [], m => by simp [vd]
  | x :: l, m => by
    show x + B * vd B (l ++ m) = x + B * vd B l + B ^ (l.length + 1) * vd B m
    rw [vd_append l m, Int.mul_add, Int.pow_succ, Int.mul_assoc, Int.mul_left_comm B, Int.add_assoc]
theorem vd_set : ∀ {l : List Int} {k : Nat} {x : Int}, k < l.length → vd B (l.set k x) = vd B l + (x - l.getD k 0) * B ^ k
  | [], k, _, h => absurd h (by simp)
  | y :: l, 0, x, _ => by
    simp only [List.set_cons_zero, vd, List.getD_cons_zero, Int.pow_zero]; omega
  | y :: l, k + 1, x, h => by
    simp only [List.set_cons_succ, vd, List.getD_cons_succ]
    rw [vd_set (by simpa using h), Int.mul_add, Int.pow_succ, Int.mul_comm B ((x - l.getD k 0) * B ^ k), Int.mul_assoc, Int.add_assoc]
theorem vd_zeros (n : Nat) : vd B (List.replicate n 0) = 0 := by
  induction n with
  | zero => rfl
  | succ n ih => rw [List.replicate_succ]; simp [vd, ih]
theorem vd_take_succ {l : List Int} {k : Nat} (hk : k < l.length) : vd B (l.take (k + 1)) = vd B (l.take k) + l.getD k 0 * B ^ k := by
  rw [List.take_add_one, List.getElem?_eq_getElem hk, vd_append, List.length_take, Nat.min_eq_left (by omega), List.getD_eq_getElem?_getD, List.getElem?_eq_getElem hk]
  simp [vd, Int.mul_comm]
theorem dg_add (hB : 0 < B) (m : Nat) : ∀ (n : Nat) (x : Int), dg B (n + m) x = dg B n x ++ dg B m (x / B ^ n)
  | 0, x => by simp [dg]
  | n + 1, x => by
    rw [show n + 1 + m = (n + m) + 1 from by omega]
    show x % B :: dg B (n + m) (x / B) = x % B :: dg B n (x / B) ++ dg B m (x / B ^ (n + 1))
    rw [dg_add hB m n, Int.ediv_ediv_of_nonneg (by omega), Int.pow_succ, Int.mul_comm (B ^ n)]; rfl
theorem dg_take (hB : 0 < B) {n k : Nat} (h : k ≤ n) (x : Int) : (dg B n x).take k = dg B k x := by
  obtain ⟨m, rfl⟩ : ∃ m, n = k + m := ⟨n - k, by omega⟩
  rw [dg_add hB]
  simp [dg_length]
theorem dg_zero (hB : 0 < B) (n : Nat) : dg B n 0 = List.replicate n 0 :=
  (eq_dg hB (InB.zeros hB n) (by simp) (by rw [vd_zeros]; simp)).symm
end
/-- a digit of a number by greater digits -/
theorem ediv_emod_sub {x : Int} (A C : Int) (hA : 0 < A) (hC : 0 < C) (D : Int) (hDp : 0 < D) (hdiv : A * D ∣ C) : x % C / A % D = x / A % D := by
  obtain ⟨q, rfl⟩ := hdiv
  have hq : 0 < q := by
    rcases Int.lt_or_le 0 q with h | h
    · exact h
    · have := Int.mul_nonneg (Int.le_of_lt (Int.mul_pos hA hDp)) (show 0 ≤ -q by omega)
      rw [Int.mul_neg] at this; omega
  have e := emod_split (B := A) (P := D * q) hA (Int.mul_pos hDp hq) x
  rw [← Int.mul_assoc] at e
  rw [← e]
  have h1 := Int.emod_nonneg x (show A ≠ 0 by omega)
  have h2 := Int.emod_lt_of_pos x hA
  rw [(ediv_unit hA ⟨h1, h2⟩).1, Int.emod_emod_of_dvd _ (Int.dvd_mul_right D q)]
theorem half_step (V : Int) (k : Nat) : V / 2 ^ k = 2 * (V / 2 ^ (k + 1)) + V / 2 ^ k % 2 := by
  have e : V / 2 ^ (k + 1) = V / 2 ^ k / 2 := by rw [Int.pow_succ, Int.ediv_ediv_of_nonneg (by exact Int.le_of_lt (Int.pow_pos (by decide)))]
  rw [e]; omega
theorem mod_step {L r b : Int} (hL : 0 < L) (hr : 0 ≤ r ∧ r < L) (hb : 0 ≤ b ∧ b < 2) : (2 * r + b) % L = if 2 * r + b < L then 2 * r + b else 2 * r + b - L := by
  split
  · exact Int.emod_eq_of_lt (by omega) (by assumption)
  · have e : 2 * r + b = (2 * r + b - L) + L * 1 := by omega
    conv => lhs; rw [e]
    rw [Int.add_mul_emod_self_left, Int.emod_eq_of_lt (by omega) (by omega)]
theorem mod_two (L V b : Int) : (2 * V + b) % L = (2 * (V % L) + b) % L := by
  have e := Int.emod_add_mul_ediv V L
  have : 2 * V + b = 2 * (V % L) + b + L * (2 * (V / L)) := by
    conv => lhs; rw [← e]
    rw [Int.mul_add, Int.mul_left_comm]; omega
  rw [this, Int.add_mul_emod_self_left]
end Go.Ev
end

section
set_option linter.unusedVariables false
set_option linter.unusedSimpArgs false
namespace Go.Proofs.Ythdfifcgobfgdaa
open Go Go.Ev BJ
theorem sub64_val {x y c : Int} (hx : U64 x) (hy : U64 y) (hc : c = 0 ∨ c = 1) : sub64 x y c = ((x - y - c) % 18446744073709551616, if x < y + c then 1 else 0) := by
  unfold U64 at hx hy
  obtain ⟨a, rfl⟩ := Int.eq_ofNat_of_zero_le hx.1
  obtain ⟨b, rfl⟩ := Int.eq_ofNat_of_zero_le hy.1
  obtain ⟨d, rfl⟩ : ∃ d : Nat, c = (d : Int) := by rcases hc with rfl | rfl; exact ⟨0, rfl⟩; exact ⟨1, rfl⟩
  simp only [sub64, Int.toNat_natCast]
  have e : (2 : Nat) ^ 64 = 18446744073709551616 := by decide
  rw [e]
  refine Prod.ext ?_ ?_
  · show (((a + 18446744073709551616 - b - d) % 18446744073709551616 : Nat) : Int) = _
    omega
  · show (if a < b + d then (1 : Int) else 0) = _
    by_cases h : a < b + d
    · rw [if_pos h, if_pos (by omega)]
    · rw [if_neg h, if_neg (by omega)]
theorem ipow_le {B : Int} (hB : 1 ≤ B) {a b : Nat} (h : a ≤ b) : B ^ a ≤ B ^ b := by
  obtain ⟨d, rfl⟩ : ∃ d, b = a + d := ⟨b - a, by omega⟩
  rw [Int.pow_add]
  have h1 : 0 < B ^ a := Int.pow_pos (by omega)
  have h2 : 0 < B ^ d := Int.pow_pos (by omega)
  have := Int.mul_le_mul_of_nonneg_left (show 1 ≤ B ^ d by omega) (Int.le_of_lt h1)
  rwa [Int.mul_one] at this
theorem tmodN (k m : Nat) : (k : Int).tmod (m : Int) = ((k % m : Nat) : Int) := by rw [Int.tmod_eq_emod_of_nonneg (by omega), ← Int.natCast_emod]
abbrev qq : Int := 18446744073709551616
theorem qq_pos : 0 < qq := by decide
theorem qq_256 : qq = 256 ^ 8 := by decide
theorem qq_2 : qq = 2 ^ 64 := by decide
theorem two_pow8 (s : Nat) : ((2 ^ (s * 8) : Nat) : Int) = 256 ^ s := by
  rw [Nat.mul_comm, Nat.pow_mul, Int.natCast_pow]; rfl
/-- a part of a digit is a digit by smaller ones -/
theorem sub_digit {b : Int} (hb : 0 < b) {m : Nat} (hm : 0 < m) {l : List Int} (h : InB (b ^ m) l) {k : Nat} (hk : k / m < l.length) : l.getD (k / m) 0 / b ^ (k % m) % b = vd (b ^ m) l / b ^ k % b := by
  have hB : 0 < b ^ m := Int.pow_pos hb
  rw [vd_getD hB h hk]
  have hlt := Nat.mod_lt k hm
  have e1 : (b ^ m) = b ^ (k % m) * b * b ^ (m - (k % m + 1)) := by rw [← Int.pow_succ, ← Int.pow_add]; congr 1; omega
  rw [ediv_emod_sub (b ^ (k % m)) (b ^ m) (Int.pow_pos hb) hB b hb ⟨_, e1⟩]
  rw [Int.ediv_ediv_of_nonneg (Int.le_of_lt (Int.pow_pos hB)), ← Int.pow_mul, ← Int.pow_add]
  congr 3
  have := Nat.div_add_mod k m; exact this
theorem dg_map {B : Int} (hB : 0 < B) (n : Nat) (x : Int) : (List.range n).map (fun i => x / B ^ i % B) = dg B n x := by
  apply List.ext_getElem?
  intro i
  rcases Nat.lt_or_ge i n with h | h
  · have e := dg_getD hB (x := x) h
    rw [List.getD_eq_getElem?_getD, List.getElem?_eq_getElem (by rw [dg_length]; exact h)] at e
    rw [List.getElem?_eq_getElem (l := dg B n x) (by rw [dg_length]; exact h), List.getElem?_map, List.getElem?_range h]
    simpa using e.symm
  · rw [List.getElem?_eq_none (by simpa using h), List.getElem?_eq_none (by rw [dg_length]; exact h)]
noncomputable def ofL (b : List Int) : List Int := dg qq 8 (vd 256 b)
noncomputable def bytesW (w : List Int) : List Int := dg 256 32 (vd qq w)
theorem of_step {b : List Int} (hb : AllBy b) (hl : b.length ≤ 64) {k : Nat} (hk : k < b.length) :
    (ofL (b.take k)).set (k / 8) (bitOr .u64 ((ofL (b.take k)).getD (k / 8) 0) (shl .u64 (IntKind.u64.wrap (b.getD k 0)) ((k % 8 * 8 : Nat) : Int))) = ofL (b.take (k + 1)) := by
  have hb' : InB 256 b := hb
  have hc := InB.getD (by decide) hb' k
  have hV0 := vd_nonneg (by decide) (hb'.take k)
  have hV1 := vd_lt (by decide) (hb'.take k)
  rw [List.length_take, Nat.min_eq_left (by omega)] at hV1
  unfold ofL
  rw [vd_take_succ hk]
  generalize vd 256 (b.take k) = V at *
  generalize b.getD k 0 = c at *
  have hi : k / 8 < 8 := by omega
  have hs : k % 8 < 8 := by omega
  have hk' : k = 8 * (k / 8) + k % 8 := (Nat.div_add_mod k 8).symm
  have hp : (256 : Int) ^ k = qq ^ (k / 8) * 256 ^ (k % 8) := by rw [qq_256, ← Int.pow_mul, ← Int.pow_add, ← hk']
  have hQ : 0 < qq ^ (k / 8) := Int.pow_pos qq_pos
  have hle : (256 : Int) ^ (k % 8) * 256 ≤ qq := by
    rw [← Int.pow_succ, qq_256]; exact ipow_le (by decide) (by omega)
  have hP : (0 : Int) < 256 ^ (k % 8) := Int.pow_pos (by decide)
  have hdl : V / qq ^ (k / 8) < 256 ^ (k % 8) := Int.ediv_lt_of_lt_mul hQ (by rw [Int.mul_comm, ← hp]; exact hV1)
  have hd0 : 0 ≤ V / qq ^ (k / 8) := Int.ediv_nonneg hV0 (Int.le_of_lt hQ)
  have eg : (dg qq 8 V).getD (k / 8) 0 = V / qq ^ (k / 8) := by
    rw [dg_getD qq_pos hi, Int.emod_eq_of_lt hd0 (by omega)]
  rw [eg]
  have ew : IntKind.u64.wrap c = c := wrap_u64 hc.1 (by omega)
  have hcP : c * 256 ^ (k % 8) ≤ 255 * 256 ^ (k % 8) := Int.mul_le_mul_of_nonneg_right (by omega) (by omega)
  have hcP0 : 0 ≤ c * 256 ^ (k % 8) := Int.mul_nonneg hc.1 (by omega)
  have es : shl .u64 c ((k % 8 * 8 : Nat) : Int) = c * 256 ^ (k % 8) := by
    rw [shl_mul .u64 c _ (by simp [IntKind.bits]; omega), two_pow8, wrap_u64 hcP0 (by unfold qq at hle; omega)]
  have hdiv : c * 256 ^ (k % 8) % ((2 ^ (k % 8 * 8) : Nat) : Int) = 0 := by rw [two_pow8]; exact Int.mul_emod_left _ _
  have eo : bitOr .u64 (V / qq ^ (k / 8)) (c * 256 ^ (k % 8)) = V / qq ^ (k / 8) + c * 256 ^ (k % 8) := by
    rw [or_comm', or_u64 (m := k % 8 * 8) hcP0 hdiv hd0 (by rw [two_pow8]; exact hdl) (by unfold qq at hle; omega), Int.add_comm]
  rw [ew, es, eo]
  refine eq_dg qq_pos ((dg_in qq_pos 8 V).set ⟨by omega, by omega⟩) (by rw [List.length_set, dg_length]) ?_
  rw [vd_set (by rw [dg_length]; exact hi), eg, vd_dg qq_pos]
  have e2 : (256 : Int) ^ 64 = qq ^ 8 := by decide
  have hV2 : V < qq ^ 8 := Int.lt_of_lt_of_le hV1 (by rw [← e2]; exact ipow_le (by decide) (by omega))
  rw [Int.emod_eq_of_lt hV0 hV2]
  have e3 : (V / qq ^ (k / 8) + c * 256 ^ (k % 8) - V / qq ^ (k / 8)) * qq ^ (k / 8) = c * 256 ^ k := by
    rw [hp, Int.mul_comm (qq ^ (k / 8)), ← Int.mul_assoc]; congr 1; omega
  rw [e3]
  have hlt : V + c * 256 ^ k < qq ^ 8 := by
    have h1 : c * 256 ^ k ≤ 255 * 256 ^ k := Int.mul_le_mul_of_nonneg_right (by omega) (Int.le_of_lt (Int.pow_pos (by decide)))
    have h2 : (256 : Int) ^ (k + 1) ≤ 256 ^ 64 := ipow_le (by decide) (by omega)
    rw [Int.pow_succ] at h2
    rw [← e2]; omega
  exact (Int.emod_eq_of_lt (Int.add_nonneg hV0 (Int.mul_nonneg hc.1 (Int.le_of_lt (Int.pow_pos (by decide))))) hlt).symm
theorem by_digit {w : List Int} (h : InB qq w) (hl : w.length = 8) {k : Nat} (hk : k < 64) : IntKind.u8.wrap (shr .u64 (w.getD (k / 8) 0) ((k % 8 * 8 : Nat) : Int)) = vd qq w / 256 ^ k % 256 := by
  rw [shr_div .u64 _ _ (by simp [IntKind.bits]; omega), two_pow8, wrap_u8]
  have h' : InB (256 ^ 8) w := by rw [← qq_256]; exact h
  have := sub_digit (b := 256) (by decide) (by decide : 0 < 8) h' (k := k) (by omega)
  rw [this, ← qq_256]
noncomputable def bitW (w : List Int) (i : Int) : Int := vd qq w / 2 ^ i.toNat % 2
theorem bit_digit {w : List Int} (h : InB qq w) (hl : w.length = 8) {k : Nat} (hk : k < 512) : bitAnd .u64 (shr .u64 (w.getD (k / 64) 0) ((k % 64 : Nat) : Int)) 1 = bitW w (k : Int) := by
  rw [shr_div .u64 _ _ (by simp [IntKind.bits]; omega), and_u64 (m := 1) (by decide) _ 1 (by decide)]
  have h' : InB (2 ^ 64) w := by rw [← qq_2]; exact h
  have := sub_digit (b := 2) (by decide) (by decide : 0 < 64) h' (k := k) (by omega)
  unfold bitW
  rw [Int.toNat_natCast, qq_2, ← this]
  simp
structure Part (k : Nat) (w o : List Int) : Prop where
  len : o.length = 8
  inb : InB qq o
  rest : ∀ j, k ≤ j → o.getD j 0 = w.getD j 0
theorem Part.step {k : Nat} {w o : List Int} (h : Part k w o) {z : Int} (hk : k < 8) (hz : 0 ≤ z ∧ z < qq) : Part (k + 1) w (o.set k z) ∧ vd qq ((o.set k z).take (k + 1)) = vd qq (o.take k) + z * qq ^ k := by
  obtain ⟨h1, h2, h3⟩ := h
  have hg : (o.set k z).getD k 0 = z := by rw [List.getD_eq_getElem?_getD]; simp [show k < o.length by omega]
  refine ⟨⟨by rw [List.length_set, h1], h2.set hz, fun j hj => ?_⟩, ?_⟩
  · rw [← h3 j (by omega), List.getD_eq_getElem?_getD, List.getD_eq_getElem?_getD, List.getElem?_set_ne (by omega)]
  · rw [vd_take_succ (by rw [List.length_set]; omega), hg, List.take_set_of_le (Nat.le_refl _)]
noncomputable def lessW (w x : List Int) : List Int × Int := (dg qq 8 (vd qq w - vd qq x), if vd qq w < vd qq x then 1 else 0)
noncomputable def sumW (w x : List Int) : List Int := dg qq 8 (vd qq w + vd qq x)
def lessF (sb : Int → Int → Int → Int × Int) (x : List Int) (k : Nat) (o : List Int × Int) : List Int × Int := (o.1.set k (sb (o.1.getD k 0) (x.getD k 0) o.2).1, (sb (o.1.getD k 0) (x.getD k 0) o.2).2)
def LessI (w x : List Int) (k : Nat) (o : List Int × Int) : Prop := Part k w o.1 ∧ (o.2 = 0 ∨ o.2 = 1) ∧ vd qq (o.1.take k) = vd qq (w.take k) - vd qq (x.take k) + o.2 * qq ^ k
theorem less_step {w x : List Int} (hw : InB qq w) (hx : InB qq x) (lw : w.length = 8) (lx : x.length = 8) {k : Nat} {o : List Int × Int} (hk : k < 8) (h : LessI w x k o) : LessI w x (k + 1) (lessF sub64 x k o) := by
  obtain ⟨hp, hc, hv⟩ := h
  obtain ⟨o, c⟩ := o
  simp only at hp hc hv
  have h1 := InB.getD qq_pos hp.inb k
  have h2 := InB.getD qq_pos hx k
  have e := sub64_val (x := o.getD k 0) (y := x.getD k 0) (c := c) h1 h2 hc
  have hrest := hp.rest k (Nat.le_refl _)
  unfold lessF
  rw [e]
  have hz : 0 ≤ (o.getD k 0 - x.getD k 0 - c) % 18446744073709551616 ∧ (o.getD k 0 - x.getD k 0 - c) % 18446744073709551616 < qq := ⟨Int.emod_nonneg _ (by decide), Int.emod_lt_of_pos _ (by decide)⟩
  obtain ⟨p1, p2⟩ := hp.step hk hz
  refine ⟨p1, by simp only; split <;> simp, ?_⟩
  simp only
  rw [p2, hv, vd_take_succ (by omega), vd_take_succ (by omega), hrest, Int.pow_succ, Int.mul_comm (qq ^ k) qq, ← Int.mul_assoc]
  rw [hrest] at h1
  generalize w.getD k 0 = a at *
  generalize x.getD k 0 = b at *
  have key : c + (a - b - c) % 18446744073709551616 = a - b + (if a < b + c then (1 : Int) else 0) * qq := by
    unfold qq at *
    split <;> omega
  have e2 : c * qq ^ k + (a - b - c) % 18446744073709551616 * qq ^ k = (a - b + (if a < b + c then (1 : Int) else 0) * qq) * qq ^ k := by rw [← key, Int.add_mul]
  rw [Int.add_mul, Int.sub_mul] at e2
  omega
theorem less_all {w x : List Int} (hw : InB qq w) (hx : InB qq x) (lw : w.length = 8) (lx : x.length = 8) : upto (lessF sub64 x) 0 8 (w, 0) = lessW w x := by
  have h := upto_inv (f := lessF sub64 x) (LessI w x) (n := 8) (fun k o hk h => less_step hw hx lw lx hk h) 8 0 (w, 0) (by omega) ⟨⟨lw, hw, fun _ _ => rfl⟩, .inl rfl, by simp [vd]⟩
  generalize upto (lessF sub64 x) 0 8 (w, 0) = o at *
  obtain ⟨o, c⟩ := o
  obtain ⟨hp, hc, hv⟩ := h
  simp only at hp hc hv
  simp only [Nat.zero_add] at hp hv
  rw [List.take_of_length_le (by rw [hp.len]; decide), List.take_of_length_le (by omega), List.take_of_length_le (by omega)] at hv
  have b1 := vd_nonneg qq_pos hp.inb
  have b2 := vd_lt qq_pos hp.inb
  have b3 := vd_nonneg qq_pos hw
  have b4 := vd_lt qq_pos hw
  have b5 := vd_nonneg qq_pos hx
  have b6 := vd_lt qq_pos hx
  rw [hp.len] at b2
  rw [lw] at b4
  rw [lx] at b6
  unfold lessW
  refine Prod.ext (eq_dg qq_pos hp.inb hp.len ?_) ?_
  · rw [hv]
    have : vd qq w - vd qq x + c * qq ^ 8 = vd qq w - vd qq x + qq ^ 8 * c := by rw [Int.mul_comm]
    have e : vd qq o = vd qq o % qq ^ 8 := (Int.emod_eq_of_lt b1 b2).symm
    rw [hv, this, Int.add_mul_emod_self_left] at e
    rw [this]; exact e
  · simp only
    rcases hc with rfl | rfl
    · rw [if_neg (by omega)]
    · rw [if_pos (by omega)]
def addcF (ad : Int → Int → Int → Int × Int) (x : List Int) (k : Nat) (o : List Int × Int) : List Int × Int := (o.1.set k (ad (o.1.getD k 0) (x.getD k 0) o.2).1, (ad (o.1.getD k 0) (x.getD k 0) o.2).2)
def SumI (w x : List Int) (k : Nat) (o : List Int × Int) : Prop := Part k w o.1 ∧ (o.2 = 0 ∨ o.2 = 1) ∧ vd qq (o.1.take k) + o.2 * qq ^ k = vd qq (w.take k) + vd qq (x.take k)
theorem sum_step {w x : List Int} (hw : InB qq w) (hx : InB qq x) (lw : w.length = 8) (lx : x.length = 8) {k : Nat} {o : List Int × Int} (hk : k < 8) (h : SumI w x k o) : SumI w x (k + 1) (addcF add64 x k o) := by
  obtain ⟨hp, hc, hv⟩ := h
  obtain ⟨o, c⟩ := o
  simp only at hp hc hv
  have h1 := InB.getD qq_pos hp.inb k
  have h2 := InB.getD qq_pos hx k
  have e := add64_val (x := o.getD k 0) (y := x.getD k 0) (c := c) h1.1 h2.1 (by omega)
  have hrest := hp.rest k (Nat.le_refl _)
  unfold addcF
  rw [e]
  have hz : 0 ≤ (o.getD k 0 + x.getD k 0 + c) % 18446744073709551616 ∧ (o.getD k 0 + x.getD k 0 + c) % 18446744073709551616 < qq := ⟨Int.emod_nonneg _ (by decide), Int.emod_lt_of_pos _ (by decide)⟩
  obtain ⟨p1, p2⟩ := hp.step hk hz
  refine ⟨p1, by simp only; unfold qq at h1 h2; omega, ?_⟩
  simp only
  rw [p2, vd_take_succ (by omega), vd_take_succ (by omega), hrest, Int.pow_succ, Int.mul_comm (qq ^ k) qq, ← Int.mul_assoc]
  rw [hrest] at h1
  generalize w.getD k 0 = a at *
  generalize x.getD k 0 = b at *
  have key : (a + b + c) % 18446744073709551616 + (a + b + c) / 18446744073709551616 * qq = a + b + c := by
    unfold qq at *
    omega
  have e2 : (a + b + c) % 18446744073709551616 * qq ^ k + (a + b + c) / 18446744073709551616 * qq * qq ^ k = (a + b + c) * qq ^ k := by rw [← Int.add_mul, key]
  rw [Int.add_mul (a + b), Int.add_mul a] at e2
  omega
theorem sum_all {w x : List Int} (hw : InB qq w) (hx : InB qq x) (lw : w.length = 8) (lx : x.length = 8) : (upto (addcF add64 x) 0 8 (w, 0)).1 = sumW w x := by
  have h := upto_inv (f := addcF add64 x) (SumI w x) (n := 8) (fun k o hk h => sum_step hw hx lw lx hk h) 8 0 (w, 0) (by omega) ⟨⟨lw, hw, fun _ _ => rfl⟩, .inl rfl, by simp [vd]⟩
  generalize upto (addcF add64 x) 0 8 (w, 0) = o at *
  obtain ⟨o, c⟩ := o
  obtain ⟨hp, hc, hv⟩ := h
  simp only at hp hc hv
  simp only [Nat.zero_add] at hp hv
  rw [List.take_of_length_le (by rw [hp.len]; decide), List.take_of_length_le (by omega), List.take_of_length_le (by omega)] at hv
  have b1 := vd_nonneg qq_pos hp.inb
  have b2 := vd_lt qq_pos hp.inb
  rw [hp.len] at b2
  unfold sumW
  refine eq_dg qq_pos hp.inb hp.len ?_
  rw [← hv, Int.mul_comm, Int.add_mul_emod_self_left, Int.emod_eq_of_lt b1 b2]
end Go.Proofs.Ythdfifcgobfgdaa
end

section
set_option linter.unusedVariables false
set_option linter.unusedSimpArgs false
namespace Go.Proofs.Ythdfifcgobfgdaa
open Go Go.Ev BJ
def orderL : List Int := [6346243789798364141, 1503914060200516822, 0, 1152921504606846976, 0, 0, 0, 0]
def ll : Int := 7237005577332262213973186563042994240857116359379907606001950938285454250989
theorem ll_pos : 0 < ll := by decide
theorem order_val : vd qq orderL = ll := by decide +kernel
theorem order_in : orderL.length = 8 ∧ InB qq orderL := ⟨rfl, by unfold InB orderL; decide⟩
def putBit (r : List Int) (b : Int) : List Int := r.set 0 (bitOr .u64 (r.getD 0 0) b)
def redF (and : List Int → List Int → List Int) (less : List Int → List Int → List Int × Int) (bit : List Int → Int → Int) (o w : List Int) (k : Nat) (r : List Int) : List Int :=
  bif (less (putBit (and r r) (bit w (511 - (k : Int)))) o).2 == 0 then (less (putBit (and r r) (bit w (511 - (k : Int)))) o).1 else putBit (and r r) (bit w (511 - (k : Int)))
theorem bitW_01 (w : List Int) (i : Int) : 0 ≤ bitW w i ∧ bitW w i < 2 := by unfold bitW; omega
theorem qq8 : (2 : Int) ^ 254 ≤ qq ^ 8 := by decide +kernel
theorem ll_lt : ll + ll < 2 ^ 254 := by decide +kernel
theorem put_bit {R b : Int} (hR : 0 ≤ R ∧ R < ll) (hb : 0 ≤ b ∧ b < 2) : putBit (dg qq 8 (R + R)) b = dg qq 8 (2 * R + b) := by
  have h1 : 2 * R + b < qq ^ 8 := Int.lt_of_lt_of_le (by have := ll_lt; omega) qq8
  have h2 : R + R < qq ^ 8 := Int.lt_of_lt_of_le (by have := ll_lt; omega) qq8
  have hg : (dg qq 8 (R + R)).getD 0 0 = (R + R) % qq := by rw [dg_getD qq_pos (by decide)]; simp
  have hm : 0 ≤ (R + R) % qq := Int.emod_nonneg (R + R) (show qq ≠ 0 by decide)
  have hl : (R + R) % qq < 18446744073709551616 := Int.emod_lt_of_pos (R + R) qq_pos
  have hev : (R + R) % qq % 2 = 0 := by
    show (R + R) % 18446744073709551616 % 2 = 0
    omega
  have hv : vd qq (dg qq 8 (R + R)) = R + R := by rw [vd_dg qq_pos, Int.emod_eq_of_lt (by omega) h2]
  unfold putBit
  rw [hg]
  generalize (R + R) % qq = M at *
  rw [or_u64 (m := 1) hm (by simpa using hev) hb.1 (by simpa using hb.2) (by omega)]
  refine eq_dg qq_pos ((dg_in qq_pos 8 _).set ⟨by omega, (by omega : M + b < 18446744073709551616)⟩) (by rw [List.length_set, dg_length]) ?_
  rw [vd_set (by rw [dg_length]; decide), hg, hv, Int.emod_eq_of_lt (by omega) h1, Int.pow_zero, Int.mul_one]
  omega
theorem red_step {V : Int} {w : List Int} (hw : vd qq w = V) {k : Nat} (hk : k < 512) : redF sumW lessW bitW orderL w k (dg qq 8 (V / 2 ^ (512 - k) % ll)) = dg qq 8 (V / 2 ^ (512 - (k + 1)) % ll) := by
  have hlq : ∀ {x : Int}, x < ll + ll → x < qq ^ 8 := fun h => Int.lt_of_lt_of_le (Int.lt_trans h ll_lt) qq8
  have e0 := half_step V (512 - (k + 1))
  rw [show 512 - (k + 1) + 1 = 512 - k from by omega] at e0
  have eb : bitW w (511 - (k : Int)) = V / 2 ^ (512 - (k + 1)) % 2 := by
    unfold bitW
    rw [hw, show (511 - (k : Int)).toNat = 512 - (k + 1) from by omega]
  have hb : 0 ≤ V / 2 ^ (512 - (k + 1)) % 2 ∧ V / 2 ^ (512 - (k + 1)) % 2 < 2 := by omega
  have hR : 0 ≤ V / 2 ^ (512 - k) % ll ∧ V / 2 ^ (512 - k) % ll < ll := ⟨Int.emod_nonneg _ (by have := ll_pos; omega), Int.emod_lt_of_pos _ ll_pos⟩
  have em : (V / 2 ^ (512 - (k + 1))) % ll = (2 * (V / 2 ^ (512 - k) % ll) + V / 2 ^ (512 - (k + 1)) % 2) % ll := by
    conv => lhs; rw [e0]
    exact mod_two _ _ _
  rw [em, mod_step ll_pos hR hb]
  have es : sumW (dg qq 8 (V / 2 ^ (512 - k) % ll)) (dg qq 8 (V / 2 ^ (512 - k) % ll)) = dg qq 8 (V / 2 ^ (512 - k) % ll + V / 2 ^ (512 - k) % ll) := by
    unfold sumW
    rw [vd_dg qq_pos, Int.emod_eq_of_lt hR.1 (hlq (by omega))]
  unfold redF
  rw [eb, es, put_bit hR hb]
  generalize V / 2 ^ (512 - k) % ll = R at *
  generalize V / 2 ^ (512 - (k + 1)) % 2 = b at *
  have el : lessW (dg qq 8 (2 * R + b)) orderL = (dg qq 8 (2 * R + b - ll), if 2 * R + b < ll then 1 else 0) := by
    unfold lessW
    rw [order_val, vd_dg qq_pos, Int.emod_eq_of_lt (by omega) (hlq (by omega))]
  rw [el]
  by_cases h : 2 * R + b < ll
  · rw [if_pos h, if_pos h]; rfl
  · rw [if_neg h, if_neg h]; rfl
noncomputable def redW (w : List Int) : List Int := dg 256 32 (vd qq w % ll)
/-- a digit, and what goes on -/
def mulS (mu : Int → Int → Int × Int) (ad : Int → Int → Int → Int × Int) (x y c o : Int) : Int × Int :=
  ((ad o (ad (mu x y).2 c 0).1 0).1, IntKind.u64.wrap (IntKind.u64.wrap ((mu x y).1 + (ad (mu x y).2 c 0).2) + (ad o (ad (mu x y).2 c 0).1 0).2))
theorem mulS_val {x y c o : Int} (hx : U64 x) (hy : U64 y) (hc : U64 c) (ho : U64 o) : U64 (mulS mulFn add64 x y c o).1 ∧ U64 (mulS mulFn add64 x y c o).2 ∧ (mulS mulFn add64 x y c o).1 + qq * (mulS mulFn add64 x y c o).2 = o + x * y + c := by
  unfold mulS
  rw [mulFn_val hx hy]
  unfold U64 at *
  have hm0 : 0 ≤ x * y := Int.mul_nonneg hx.1 hy.1
  have hm1 : x * y ≤ 18446744073709551615 * 18446744073709551615 := Int.mul_le_mul (by omega) (by omega) hy.1 (by decide)
  simp only
  generalize x * y = m at *
  have q0 : 0 ≤ m % 18446744073709551616 := by omega
  rw [add64_val q0 hc.1 (by decide)]
  simp only
  rw [add64_val ho.1 (by omega) (by decide)]
  simp only
  rw [wrap_u64 (n := m / 18446744073709551616 + (m % 18446744073709551616 + c + 0) / 18446744073709551616) (by omega) (by omega), wrap_u64 (by omega) (by omega)]
  unfold qq
  omega
def timJ (mu : Int → Int → Int × Int) (ad : Int → Int → Int → Int × Int) (a b : List Int) (u : Nat) (j : Nat) (s : Int × List Int) : Int × List Int :=
  ((mulS mu ad (a.getD u 0) (b.getD j 0) s.1 (s.2.getD (u + j) 0)).2, s.2.set (u + j) (mulS mu ad (a.getD u 0) (b.getD j 0) s.1 (s.2.getD (u + j) 0)).1)
def timU (mu : Int → Int → Int × Int) (ad : Int → Int → Int → Int × Int) (a b : List Int) (u : Nat) (o : List Int) : List Int :=
  (upto (timJ mu ad a b u) 0 4 (0, o)).2.set (u + 4) (upto (timJ mu ad a b u) 0 4 (0, o)).1
structure TimI (a b o : List Int) (u j : Nat) (s : Int × List Int) : Prop where
  len : s.2.length = 8
  inb : InB qq s.2
  car : U64 s.1
  rest : ∀ i, u + 4 ≤ i → s.2.getD i 0 = o.getD i 0
  val : vd qq s.2 + s.1 * qq ^ (u + j) = vd qq o + a.getD u 0 * vd qq (b.take j) * qq ^ u
theorem timJ_step {a b o : List Int} (ha : InB qq a) (hb : InB qq b) (lb : b.length = 8) {u j : Nat} (hu : u < 4) (hj : j < 4) {s : Int × List Int} (h : TimI a b o u j s) : TimI a b o u (j + 1) (timJ mulFn add64 a b u j s) := by
  obtain ⟨h1, h2, h3, h4, h5⟩ := h
  obtain ⟨c, s⟩ := s
  simp only at h1 h2 h3 h4 h5
  have hlt : u + j < s.length := by omega
  obtain ⟨g1, g2, g3⟩ := mulS_val (InB.getD qq_pos ha u) (InB.getD qq_pos hb j) h3 (InB.getD qq_pos h2 (u + j))
  unfold timJ
  simp only
  generalize mulS mulFn add64 (a.getD u 0) (b.getD j 0) c (s.getD (u + j) 0) = p at *
  refine ⟨by rw [List.length_set]; exact h1, h2.set g1, g2, fun i hi => ?_, ?_⟩
  · rw [← h4 i hi, List.getD_eq_getElem?_getD, List.getD_eq_getElem?_getD, List.getElem?_set_ne (by omega)]
  · simp only
    rw [vd_set hlt, vd_take_succ (by omega), show u + (j + 1) = (u + j) + 1 from by omega, Int.pow_succ]
    generalize s.getD (u + j) 0 = o0 at *
    generalize a.getD u 0 = x at *
    generalize b.getD j 0 = y at *
    have e1 : x * (vd qq (b.take j) + y * qq ^ j) * qq ^ u = x * vd qq (b.take j) * qq ^ u + x * y * qq ^ (u + j) := by
      rw [Int.mul_add, Int.add_mul, Int.pow_add, Int.mul_comm (qq ^ u), ← Int.mul_assoc x y (qq ^ j), Int.mul_assoc (x * y) (qq ^ j)]
    have e2 : (p.1 + qq * p.2) * qq ^ (u + j) = (o0 + x * y + c) * qq ^ (u + j) := by rw [g3]
    have e3 : p.2 * (qq ^ (u + j) * qq) = qq * p.2 * qq ^ (u + j) := by
      rw [Int.mul_comm (qq ^ (u + j)), ← Int.mul_assoc, Int.mul_comm p.2]
    rw [e1, e3, Int.sub_mul]
    rw [Int.add_mul, Int.add_mul (o0 + x * y), Int.add_mul o0] at e2
    omega
structure TimO (a b : List Int) (u : Nat) (o : List Int) : Prop where
  len : o.length = 8
  inb : InB qq o
  rest : ∀ i, u + 4 ≤ i → o.getD i 0 = 0
  val : vd qq o = vd qq (a.take u) * vd qq (b.take 4)
theorem timU_step {a b o : List Int} (ha : InB qq a) (hb : InB qq b) (la : a.length = 8) (lb : b.length = 8) {u : Nat} (hu : u < 4) (h : TimO a b u o) : TimO a b (u + 1) (timU mulFn add64 a b u o) := by
  have k := upto_inv (f := timJ mulFn add64 a b u) (TimI a b o u) (n := 4) (fun j s hj hs => timJ_step ha hb lb hu hj hs) 4 0 (0, o) (by omega) ⟨h.len, h.inb, by unfold U64; omega, fun _ _ => rfl, by simp [vd]⟩
  unfold timU
  generalize upto (timJ mulFn add64 a b u) 0 4 (0, o) = s at *
  obtain ⟨c, s⟩ := s
  obtain ⟨k1, k2, k3, k4, k5⟩ := k
  simp only at k1 k2 k3 k4 k5
  simp only
  refine ⟨by rw [List.length_set]; exact k1, k2.set k3, fun i hi => ?_, ?_⟩
  · rw [List.getD_eq_getElem?_getD, List.getElem?_set_ne (by omega), ← List.getD_eq_getElem?_getD, k4 i (by omega), h.rest i (by omega)]
  · have e0 : s.getD (u + 4) 0 = 0 := by rw [k4 _ (Nat.le_refl _), h.rest _ (Nat.le_refl _)]
    rw [vd_set (by omega), e0, Int.sub_zero, show u + 4 = u + (0 + 4) from by omega, k5, h.val, vd_take_succ (l := a) (by omega), Nat.zero_add, Int.add_mul, Int.mul_assoc (a.getD u 0) (qq ^ u), Int.mul_comm (qq ^ u), Int.mul_assoc]
noncomputable def timesW (a b : List Int) : List Int := dg qq 8 (vd qq (a.take 4) * vd qq (b.take 4))
theorem times_all {a b : List Int} (ha : InB qq a) (hb : InB qq b) (la : a.length = 8) (lb : b.length = 8) : upto (timU mulFn add64 a b) 0 4 (List.replicate 8 0) = timesW a b := by
  have h := upto_inv (f := timU mulFn add64 a b) (TimO a b) (n := 4) (fun u o hu ho => timU_step ha hb la lb hu ho) 4 0 (List.replicate 8 0) (by omega) ⟨by simp, InB.zeros qq_pos 8, fun i _ => by
    rw [List.getD_eq_getElem?_getD, List.getElem?_replicate]; split <;> rfl, by rw [vd_zeros]; simp [vd]⟩
  exact eq_dg' qq_pos h.inb h.len h.val
theorem ofL_in (b : List Int) : (ofL b).length = 8 ∧ InB qq (ofL b) := ⟨dg_length _ _, dg_in qq_pos _ _⟩
theorem ofL_val {b : List Int} (hb : AllBy b) (hl : b.length ≤ 64) : vd qq (ofL b) = vd 256 b := by
  unfold ofL
  have h1 := vd_nonneg (by decide) (show InB 256 b from hb)
  have h2 := vd_lt (by decide) (show InB 256 b from hb)
  have e : (256 : Int) ^ 64 = qq ^ 8 := by decide +kernel
  have h3 : (256 : Int) ^ b.length ≤ 256 ^ 64 := ipow_le (by decide) hl
  rw [vd_dg qq_pos, Int.emod_eq_of_lt h1 (by rw [← e]; omega)]
theorem ofL_take {b : List Int} (hb : AllBy b) (hl : b.length = 32) : vd qq ((ofL b).take 4) = vd 256 b := by
  unfold ofL
  have h1 := vd_nonneg (by decide) (show InB 256 b from hb)
  have h2 := vd_lt (by decide) (show InB 256 b from hb)
  have e : (256 : Int) ^ 32 = qq ^ 4 := by decide +kernel
  rw [hl] at h2
  rw [dg_take qq_pos (by decide), vd_dg qq_pos, Int.emod_eq_of_lt h1 (by rw [← e]; exact h2)]
end Go.Proofs.Ythdfifcgobfgdaa
end

section
set_option linter.unusedVariables false
set_option linter.unusedSimpArgs false
namespace Go.Proofs.Ythdfifcgobfgdaa
open Go Go.Ev BJ
set_option maxRecDepth 1000000
abbrev cW : Cod LV (List Int) := vRow .u64 8
abbrev wA : Cod (List LV) (List Int × Unit) := lCons cW lNil
abbrev w2A : Cod (List LV) (List Int × List Int × Unit) := lCons cW (lCons cW lNil)
abbrev iW : Cod (Option Ev.Item) (List Int) := iRow 84 .u64 8
abbrev iB : Cod (Option Ev.Item) (List Int) := iRow 23 .u8 32
abbrev rwB (i : Nat) : Wk := .rowB i 0 8 .u64
abbrev nPW (r : List Int × Int) : LV := .tup [.agg [.arr (.int .u64) 8 r.1], .sc (.int .u64 (.sym r.2))]
def okW (w : List Int) : Prop := w.length = 8 ∧ InB 18446744073709551616 w
def okB (b : List Int) : Prop := b.length = 32 ∧ AllBy b
theorem take8 {w : List Int} (h : okW w) : List.take 8 (List.drop 0 w) = w := take_all h.1
def eWW (g : List Int → List Int → List Int) : Ent := Ent.ofS [] w2A lNil fun x _ => .leaf (some (okW x.1 ∧ okW x.2.1)) (nRow .u64 8 (g x.1 x.2.1)) []
def eLess (g : List Int → List Int → List Int × Int) : Ent := Ent.ofS [] w2A lNil fun x _ => .leaf (some (okW x.1 ∧ okW x.2.1)) (nPW (g x.1 x.2.1)) []
abbrev wiA : Cod (List LV) (List Int × Int × Unit) := lCons cW (lCons (vOne (sInt .i64)) lNil)
def eBit (g : List Int → Int → Int) : Ent := Ent.ofS [] wiA lNil fun x _ => .leaf (some (okW x.1 ∧ 0 ≤ x.2.1 ∧ x.2.1 < 512)) (nU (g x.1 x.2.1)) []
def e0W (c : List Int) : Ent := Ent.ofS [] lNil lNil fun _ _ => .leaf none (nRow .u64 8 c) []
def eWB (g : List Int → List Int) : Ent := Ent.ofS [] wA lNil fun x _ => .leaf (some (okW x.1)) (nRow .u8 32 (g x.1)) []
def eOf (g : List Int → List Int) : Ent := Ent.ofS [some u8] bA lNil fun x _ => .leaf (some (AllBy x.1 ∧ x.1.length ≤ 64)) (nRow .u64 8 (g x.1)) []
noncomputable abbrev soFn : Func := Try.f49
abbrev soC : Cod (List LV) (List Int × Int × Int × Unit) := (jk 2 (lSkip (vOne (sPtr 0 0)) (lSkip (vOne (sPtr 1 0)) (jk 2 (lCons (vOne (sRd false false u8)) (lCons (vOne (sInt .i64)) (lCons (vOne (sInt .i64)) (jk 18 lNil))))))))
abbrev soCf : Wk := .fr (fmS 27 [(2, .keep), (3, .keep), (6, .keep), (7, .sym), (8, .sym)])
abbrev soX : Cod (List LV) (Unit) := (jk 2 (lSkip (vOne (sPtr 0 0)) (lSkip (vOne (sPtr 1 0)) (jk 23 lNil))))
abbrev soXf : Wk := .fr (fmS 27 [(2, .keep), (3, .keep)])
abbrev soH : Cod Hp (List Int × List Int × Unit) := lCons iW (lCons iW lNil)
def soW : Exit → List Wk
  | .normal => [soCf, rwB 0, rwB 1, .auto]
  | .exit 0 => [soXf, rwB 0, rwB 1, .auto]
  | _ => []
theorem so_rnd (b : List Int) (n i : Int) (r m : List Int) : rndT Try.prog [] [] soFn 0 [] soW ((stC soC soH).wr ((b, n, i, ()), (r, m, ()))) =
    Res.ite (decide (i < n))
      (Res.need ((0 : Int) ≤ i ∧ i < (↑b.length : Int))
        (Res.need ((0 : Int) ≤ IntKind.i64.wrap (i.tdiv (8 : Int)) ∧ IntKind.i64.wrap (i.tdiv (8 : Int)) < (8 : Int))
          (Res.need ((0 : Int) ≤ IntKind.i64.wrap (i.tmod (8 : Int) * (8 : Int)))
            (Res.need ((0 : Int) ≤ IntKind.i64.wrap (i.tdiv (8 : Int)) ∧ IntKind.i64.wrap (i.tdiv (8 : Int)) < (8 : Int))
              (Res.leaf Exit.normal
                ((stC soC soH).wr
                  ((b, n, IntKind.i64.wrap (i + (1 : Int)), PUnit.unit), r,
                    m.set ((0 : Nat) + (IntKind.i64.wrap (i.tdiv (8 : Int))).toNat)
                      (bitOr IntKind.u64
                        ((List.take (8 : Nat) (List.drop (0 : Nat) m)).getD (IntKind.i64.wrap (i.tdiv (8 : Int))).toNat
                          (0 : Int))
                        (shl IntKind.u64 (IntKind.u64.wrap (b.getD i.toNat (0 : Int)))
                          (IntKind.i64.wrap (i.tmod (8 : Int) * (8 : Int))))),
                    PUnit.unit)))))))
      (Res.leaf (Exit.exit (0 : Nat)) ((stC soX soH).wr (PUnit.unit, r, m, PUnit.unit))) := by kernel_rfl
def soLF (g : List Int → List Int) (x : (List Int × Int × Int × Unit) × List Int × List Int × Unit) : Res := .need (AllBy x.1.1 ∧ x.1.1.length ≤ 64 ∧ x.1.2.1 = x.1.1.length ∧ x.1.2.2.1 = 0 ∧ x.2.2.1 = List.replicate 8 0) (.leaf (.exit 0) ((stC soX soH).wr ((), (x.2.1, g x.1.1, ()))))
theorem tmod8 (k : Nat) : IntKind.i64.wrap ((k : Int).tmod 8 * 8) = ((k % 8 * 8 : Nat) : Int) := by
  rw [show (k : Int).tmod 8 = ((k % 8 : Nat) : Int) from tmodN k 8, wrap_ok (by omega) (by omega)]; omega
theorem ofL_nil : ofL [] = List.replicate 8 0 := dg_zero qq_pos 8
theorem so_loop (x) : Ex Try.prog [] (.loop (loopAt soFn 0)) ((stC soC soH).wr x) (soLF ofL x) := by
  obtain ⟨⟨b, n, i, _⟩, r, m, _⟩ := x
  refine Ex.need fun ⟨h1, h2, h3, h4, h5⟩ => ?_
  simp only at h1 h2 h3 h4 h5
  subst h3 h4 h5
  have key := loopUp (fn := soFn) (id := 0) (j := 0) (ws := soW) (hp := []) mixed tab0 (LOk.nil _) b.length (fun k (_ : Unit) => (stC soC soH).wr ((b, (b.length : Int), (k : Int), ()), (r, ofL (b.take k), ()))) (fun _ => (stC soX soH).wr ((), (r, ofL b, ()))) (fun _ u => u) (fun _ _ => True)
    (fun k o R hk _ hn hx => ?_) (fun _ _ _ _ => trivial) 0 () (by omega) trivial
  · rw [List.take_zero, ofL_nil] at key; exact key
  rw [so_rnd]
  refine ⟨fun hb => ?_, fun hb => ?_⟩
  · have hk' : k < b.length := by have := of_decide_eq_true hb; omega
    have e1 : IntKind.i64.wrap ((k : Int).tdiv 8) = ((k / 8 : Nat) : Int) := tdiv_nat k 8 (by omega)
    rw [e1, tmod8, take_all (ofL_in _).1, Int.toNat_natCast, Int.toNat_natCast, Nat.zero_add, of_step h1 h2 hk', wrap_succ k (by omega)]
    exact ⟨by omega, by omega, by omega, by omega, hn hk'⟩
  · have : k = b.length := by have := of_decide_eq_false hb; omega
    subst this
    have := hx rfl
    rw [List.take_length]; exact this
noncomputable abbrev soLT (g : List Int → List Int) : LTab := [(0, loopF (stC soC soH) 0 [soCf, rwB 0, rwB 1, .auto] (soLF g))]
noncomputable abbrev sofE : Ent := eOf ofL
theorem sof_tree (g : List Int → List Int) (b : List Int) : fnT Try.prog [] (soLT g) soFn (bA.wr (b, ())) [] [.fr [.sym], .rowF 0 0 8 .u64, .auto] =
    End.need
      (AllBy b ∧
        b.length ≤ (64 : Nat) ∧
          (↑b.length : Int) = (↑b.length : Int) ∧
            (0 : Int) = (0 : Int) ∧
              [(0 : Int), (0 : Int), (0 : Int), (0 : Int), (0 : Int), (0 : Int), (0 : Int), (0 : Int)] =
                List.replicate (8 : Nat) (0 : Int))
      (End.leaf (LV.one (VV.agg [SV.arr (Ty.int IntKind.u64) (8 : Nat) (g b)])) []) := by kernel_rfl
theorem sof_ok : sofE.Ok Try.prog 49 := by
  refine (Ent.ofOk Try.call49 fun x_ y_ Q H_ => ?_).sym
  obtain ⟨b, _⟩ := x_
  obtain ⟨hn, hq⟩ := H_
  have hn : AllBy b ∧ b.length ≤ 64 := hn
  refine (fnT_ok mixed tab0 Try.func49 rfl (LT := soLT ofL) (ks := [.fr [.sym], .rowF 0 0 8 .u64, .auto]) (LOk.ofTab (LTC rfl (loopF_ok (hp := []) so_loop) LT0))).use (D := []) ?_ hq
  show (fnT _ _ _ _ (bA.wr (b, ())) [] _).sat _
  rw [sof_tree]
  exact ⟨⟨hn.1, hn.2, rfl, rfl, rfl⟩, rfl, rfl⟩
noncomputable abbrev byFn : Func := Try.f53
abbrev byC : Cod (List LV) (Int × Unit) := (jk 1 (lSkip (vOne (sPtr 0 0)) (lSkip (vOne (sPtr 1 0)) (lSkip (vOne (sPtr 2 0)) (jk 1 (lCons (vOne (sInt .i64)) (jk 15 lNil)))))))
abbrev byCf : Wk := .fr (fmS 21 [(1, .keep), (2, .keep), (3, .keep), (5, .sym)])
abbrev byX : Cod (List LV) (Unit) := (jk 2 (lSkip (vOne (sPtr 1 0)) (lSkip (vOne (sPtr 2 0)) (jk 17 lNil))))
abbrev byXf : Wk := .fr (fmS 21 [(2, .keep), (3, .keep)])
abbrev byH : Cod Hp (List Int × List Int × List Int × Unit) := lCons iW (lCons iB (lCons iB lNil))
def byW : Exit → List Wk
  | .normal => [byCf, rwB 0, .rowB 1 0 32 .u8, .rowB 2 0 32 .u8, .auto]
  | .exit 0 => [byXf, rwB 0, .rowB 1 0 32 .u8, .rowB 2 0 32 .u8]
  | _ => []
theorem by_rnd (i : Int) (w r o : List Int) : rndT Try.prog [] [] byFn 0 [] byW ((stC byC byH).wr ((i, ()), (w, r, o, ()))) =
    Res.ite (decide (i < (32 : Int)))
      (Res.need ((0 : Int) ≤ IntKind.i64.wrap (i.tdiv (8 : Int)) ∧ IntKind.i64.wrap (i.tdiv (8 : Int)) < (8 : Int))
        (Res.need ((0 : Int) ≤ IntKind.i64.wrap (i.tmod (8 : Int) * (8 : Int)))
          (Res.need ((0 : Int) ≤ i ∧ i < (32 : Int))
            (Res.leaf Exit.normal
              ((stC byC byH).wr
                ((IntKind.i64.wrap (i + (1 : Int)), PUnit.unit), w, r,
                  o.set ((0 : Nat) + i.toNat)
                    (IntKind.u8.wrap
                      (shr IntKind.u64
                        ((List.take (8 : Nat) (List.drop (0 : Nat) w)).getD (IntKind.i64.wrap (i.tdiv (8 : Int))).toNat
                          (0 : Int))
                        (IntKind.i64.wrap (i.tmod (8 : Int) * (8 : Int))))),
                  PUnit.unit))))))
      (Res.leaf (Exit.exit (0 : Nat)) ((stC byX byH).wr (PUnit.unit, w, r, o, PUnit.unit))) := by kernel_rfl
def byLF (g : List Int → List Int) (x : (Int × Unit) × List Int × List Int × List Int × Unit) : Res := .need (x.1.1 = 0 ∧ okW x.2.1 ∧ x.2.2.2.1.length = 32) (.leaf (.exit 0) ((stC byX byH).wr ((), (x.2.1, x.2.2.1, g x.2.1, ()))))
theorem by_loop (x) : Ex Try.prog [] (.loop (loopAt byFn 0)) ((stC byC byH).wr x) (byLF bytesW x) := by
  obtain ⟨⟨i, _⟩, w, r, o, _⟩ := x
  refine Ex.need fun ⟨h1, h2, h3⟩ => ?_
  simp only at h1 h2 h3
  subst h1
  have key := loopUp (fn := byFn) (id := 0) (j := 0) (ws := byW) (hp := []) mixed tab0 (LOk.nil _) 32 (fun k o => (stC byC byH).wr (((k : Int), ()), (w, r, o, ()))) (fun o => (stC byX byH).wr ((), (w, r, o, ()))) (fun k o => o.set k (vd qq w / 256 ^ k % 256)) (fun _ _ => True)
    (fun k o R hk _ hn hx => ?_) (fun _ _ _ _ => trivial) 0 o (by omega) trivial
  · rw [Nat.sub_zero, upto_fill (fun k => vd qq w / 256 ^ k % 256) h3, dg_map (by decide)] at key; exact key
  rw [by_rnd]
  refine ⟨fun hb => ?_, fun hb => ?_⟩
  · have hk' : k < 32 := by have := of_decide_eq_true hb; omega
    have e1 : IntKind.i64.wrap ((k : Int).tdiv 8) = ((k / 8 : Nat) : Int) := tdiv_nat k 8 (by omega)
    rw [e1, tmod8, take8 h2, Int.toNat_natCast, Int.toNat_natCast, Nat.zero_add, by_digit h2.2 h2.1 (by omega), wrap_succ k (by omega)]
    exact ⟨by omega, by omega, by omega, hn hk'⟩
  · have : k = 32 := by have := of_decide_eq_false hb; omega
    exact hx this
noncomputable abbrev byLT (g : List Int → List Int) : LTab := [(0, loopF (stC byC byH) 0 [byCf, rwB 0, .rowB 1 0 32 .u8, .rowB 2 0 32 .u8, .auto] (byLF g))]
noncomputable abbrev sbytesE : Ent := eWB bytesW
theorem sbytes_tree (g : List Int → List Int) (w : List Int) : fnT Try.prog [] (byLT g) byFn (wA.wr (w, ())) [] kR =
    End.need ((0 : Int) = (0 : Int) ∧ okW w ∧ (32 : Nat) = (32 : Nat))
      (End.leaf (LV.one (VV.agg [SV.arr (Ty.int IntKind.u8) (32 : Nat) (g w)])) []) := by kernel_rfl
theorem sbytes_ok : sbytesE.Ok Try.prog 53 := by
  refine (Ent.ofOk Try.call53 fun x_ y_ Q H_ => ?_).sym
  obtain ⟨w, _⟩ := x_
  obtain ⟨hn, hq⟩ := H_
  have hn : okW w := hn
  refine (fnT_ok mixed tab0 Try.func53 rfl (LT := byLT bytesW) (ks := kR) (LOk.ofTab (LTC rfl (loopF_ok (hp := []) by_loop) LT0))).use (D := []) ?_ hq
  show (fnT _ _ _ _ (wA.wr (w, ())) [] _).sat _
  rw [sbytes_tree]
  exact ⟨⟨rfl, hn, rfl⟩, rfl, rfl⟩
noncomputable abbrev leFn : Func := Try.f82
abbrev leC : Cod (List LV) (Int × Int × Unit) := (jk 2 (lSkip (vOne (sPtr 0 0)) (lSkip (vOne (sPtr 1 0)) (lSkip (vOne (sPtr 2 0)) (jk 1 (lCons (vOne (sInt .u64)) (jk 1 (lCons (vOne (sInt .i64)) (jk 18 lNil)))))))))
abbrev leCf : Wk := .fr (fmS 27 [(2, .keep), (3, .keep), (4, .keep), (6, .sym), (8, .sym)])
abbrev leX : Cod (List LV) (Int × Unit) := (jk 2 (lSkip (vOne (sPtr 0 0)) (jk 1 (lSkip (vOne (sPtr 2 0)) (jk 1 (lCons (vOne (sInt .u64)) (jk 20 lNil)))))))
abbrev leXf : Wk := .fr (fmS 27 [(2, .keep), (4, .keep), (6, .sym)])
abbrev w3H : Cod Hp (List Int × List Int × List Int × Unit) := lCons iW (lCons iW (lCons iW lNil))
def leW : Exit → List Wk
  | .normal => [leCf, rwB 0, rwB 1, rwB 2, .auto]
  | .exit 0 => [leXf, rwB 0, rwB 1, rwB 2]
  | _ => []
theorem le_rnd (sb : Int → Int → Int → Int × Int) (c i : Int) (w x r : List Int) : rndT Try.prog [(97, (onceE sb).sym)] [] leFn 0 [] leW ((stC leC w3H).wr ((c, i, ()), (w, x, r, ()))) =
    Res.ite (decide (i < (8 : Int)))
      (Res.need ((0 : Int) ≤ i ∧ i < (8 : Int))
        (Res.need ((0 : Int) ≤ i ∧ i < (8 : Int))
          (Res.need ((0 : Int) ≤ c ∧ c ≤ (1 : Int))
            (Res.need ((0 : Int) ≤ i ∧ i < (8 : Int))
              (Res.leaf Exit.normal
                ((stC leC w3H).wr
                  (((sb ((List.take (8 : Nat) (List.drop (0 : Nat) w)).getD i.toNat (0 : Int))
                          ((List.take (8 : Nat) (List.drop (0 : Nat) x)).getD i.toNat (0 : Int)) c).snd,
                      IntKind.i64.wrap (i + (1 : Int)), PUnit.unit),
                    w.set ((0 : Nat) + i.toNat)
                      (sb ((List.take (8 : Nat) (List.drop (0 : Nat) w)).getD i.toNat (0 : Int))
                          ((List.take (8 : Nat) (List.drop (0 : Nat) x)).getD i.toNat (0 : Int)) c).fst,
                    x, r, PUnit.unit)))))))
      (Res.leaf (Exit.exit (0 : Nat)) ((stC leX w3H).wr ((c, PUnit.unit), w, x, r, PUnit.unit))) := by kernel_rfl
def leLF (g : List Int → List Int → List Int × Int) (x : (Int × Int × Unit) × List Int × List Int × List Int × Unit) : Res := .need (x.1.1 = 0 ∧ x.1.2.1 = 0 ∧ okW x.2.1 ∧ okW x.2.2.1) (.leaf (.exit 0) ((stC leX w3H).wr (((g x.2.1 x.2.2.1).2, ()), ((g x.2.1 x.2.2.1).1, x.2.2.1, x.2.2.2.1, ()))))
abbrev sub64E : Ent := (onceE sub64).sym
theorem sub64_ok : sub64E.Ok Try.prog 97 := (sub64_once Try.func97 (by kernel_rfl) (by kernel_rfl) (by kernel_rfl) (by kernel_rfl) rfl).sym
theorem sbTab_ok : ∀ p ∈ [(97, (onceE sub64).sym)], p.2.Ok Try.prog p.1 := tabC sub64_ok tab0
theorem le_loop (x) : Ex Try.prog [] (.loop (loopAt leFn 0)) ((stC leC w3H).wr x) (leLF lessW x) := by
  obtain ⟨⟨c, i, _⟩, w, x, r, _⟩ := x
  refine Ex.need fun ⟨h1, h2, h3, h4⟩ => ?_
  simp only at h1 h2 h3 h4
  subst h1 h2
  have key := loopUp (fn := leFn) (id := 0) (j := 0) (ws := leW) (hp := []) mixed sbTab_ok (LOk.nil _) 8 (fun k (o : List Int × Int) => (stC leC w3H).wr ((o.2, (k : Int), ()), (o.1, x, r, ()))) (fun (o : List Int × Int) => (stC leX w3H).wr ((o.2, ()), (o.1, x, r, ()))) (lessF sub64 x) (LessI w x)
    (fun k o R hk hi hn hx => ?_) (fun k o hk hi => less_step h3.2 h4.2 h3.1 h4.1 hk hi) 0 (w, 0) (by omega) ⟨⟨h3.1, h3.2, fun _ _ => rfl⟩, .inl rfl, by simp [vd]⟩
  · rw [Nat.sub_zero, less_all h3.2 h4.2 h3.1 h4.1] at key; exact key
  rw [le_rnd sub64]
  refine ⟨fun hb => ?_, fun hb => ?_⟩
  · have hk' : k < 8 := by have := of_decide_eq_true hb; omega
    rw [take_all hi.1.len, take8 h4, Int.toNat_natCast, Nat.zero_add, wrap_succ k (by omega)]
    exact ⟨by omega, by omega, (by rcases hi.2.1 with e | e <;> rw [e] <;> decide), by omega, hn hk'⟩
  · have : k = 8 := by have := of_decide_eq_false hb; omega
    exact hx this
noncomputable abbrev leLT (g : List Int → List Int → List Int × Int) : LTab := [(0, loopF (stC leC w3H) 0 [leCf, rwB 0, rwB 1, rwB 2, .auto] (leLF g))]
noncomputable abbrev slessE : Ent := eLess lessW
theorem sless_tree (sb : Int → Int → Int → Int × Int) (g : List Int → List Int → List Int × Int) (w x : List Int) : fnT Try.prog [(97, (onceE sb).sym)] (leLT g) leFn (w2A.wr (w, x, ())) [] [.fr [.sym], .rowF 0 0 8 .u64, .auto] =
    End.need ((0 : Int) = (0 : Int) ∧ (0 : Int) = (0 : Int) ∧ okW w ∧ okW x)
      (End.leaf
        (LV.tup
          [VV.agg [SV.arr (Ty.int IntKind.u64) (8 : Nat) (g w x).fst], VV.sc (SV.int IntKind.u64 (SI.sym (g w x).snd))])
        []) := by kernel_rfl
theorem sless_ok : slessE.Ok Try.prog 82 := by
  refine (Ent.ofOk Try.call82 fun x_ y_ Q H_ => ?_).sym
  obtain ⟨w, x, _⟩ := x_
  obtain ⟨hn, hq⟩ := H_
  have hn : okW w ∧ okW x := hn
  refine (fnT_ok mixed sbTab_ok Try.func82 rfl (LT := leLT lessW) (ks := [.fr [.sym], .rowF 0 0 8 .u64, .auto]) (LOk.ofTab (LTC rfl (loopF_ok (hp := []) le_loop) LT0))).use (D := []) ?_ hq
  show (fnT _ _ _ _ (w2A.wr (w, x, ())) [] _).sat _
  rw [sless_tree sub64]
  exact ⟨⟨rfl, rfl, hn.1, hn.2⟩, rfl, rfl⟩
noncomputable abbrev anFn : Func := Try.f50
abbrev anC : Cod (List LV) (Int × Int × Unit) := (jk 2 (lSkip (vOne (sPtr 0 0)) (lSkip (vOne (sPtr 1 0)) (lSkip (vOne (sPtr 2 0)) (lCons (vOne (sInt .u64)) (jk 1 (lCons (vOne (sInt .i64)) (jk 17 lNil))))))))
abbrev anCf : Wk := .fr (fmS 25 [(2, .keep), (3, .keep), (4, .keep), (5, .sym), (7, .sym)])
abbrev anX : Cod (List LV) (Unit) := (jk 2 (lSkip (vOne (sPtr 0 0)) (jk 1 (lSkip (vOne (sPtr 2 0)) (jk 20 lNil)))))
abbrev anXf : Wk := .fr (fmS 25 [(2, .keep), (4, .keep)])
def anW : Exit → List Wk
  | .normal => [anCf, rwB 0, rwB 1, rwB 2, .auto]
  | .exit 0 => [anXf, rwB 0, rwB 1, rwB 2]
  | _ => []
theorem an_rnd (ad : Int → Int → Int → Int × Int) (c i : Int) (w x r : List Int) : rndT Try.prog [(80, (onceE ad).sym)] [] anFn 0 [] anW ((stC anC w3H).wr ((c, i, ()), (w, x, r, ()))) =
    Res.ite (decide (i < (8 : Int)))
      (Res.need ((0 : Int) ≤ i ∧ i < (8 : Int))
        (Res.need ((0 : Int) ≤ i ∧ i < (8 : Int))
          (Res.need ((0 : Int) ≤ c ∧ c ≤ (1 : Int))
            (Res.need ((0 : Int) ≤ i ∧ i < (8 : Int))
              (Res.leaf Exit.normal
                ((stC anC w3H).wr
                  (((ad ((List.take (8 : Nat) (List.drop (0 : Nat) w)).getD i.toNat (0 : Int))
                          ((List.take (8 : Nat) (List.drop (0 : Nat) x)).getD i.toNat (0 : Int)) c).snd,
                      IntKind.i64.wrap (i + (1 : Int)), PUnit.unit),
                    w.set ((0 : Nat) + i.toNat)
                      (ad ((List.take (8 : Nat) (List.drop (0 : Nat) w)).getD i.toNat (0 : Int))
                          ((List.take (8 : Nat) (List.drop (0 : Nat) x)).getD i.toNat (0 : Int)) c).fst,
                    x, r, PUnit.unit)))))))
      (Res.leaf (Exit.exit (0 : Nat)) ((stC anX w3H).wr (PUnit.unit, w, x, r, PUnit.unit))) := by kernel_rfl
def anLF (g : List Int → List Int → List Int) (x : (Int × Int × Unit) × List Int × List Int × List Int × Unit) : Res := .need (x.1.1 = 0 ∧ x.1.2.1 = 0 ∧ okW x.2.1 ∧ okW x.2.2.1) (.leaf (.exit 0) ((stC anX w3H).wr ((), (g x.2.1 x.2.2.1, x.2.2.1, x.2.2.2.1, ()))))
theorem adTab_ok : ∀ p ∈ [(80, (onceE add64).sym)], p.2.Ok Try.prog p.1 := tabC add64_ok tab0
theorem an_loop (x) : Ex Try.prog [] (.loop (loopAt anFn 0)) ((stC anC w3H).wr x) (anLF sumW x) := by
  obtain ⟨⟨c, i, _⟩, w, x, r, _⟩ := x
  refine Ex.need fun ⟨h1, h2, h3, h4⟩ => ?_
  simp only at h1 h2 h3 h4
  subst h1 h2
  have key := loopUp (fn := anFn) (id := 0) (j := 0) (ws := anW) (hp := []) mixed adTab_ok (LOk.nil _) 8 (fun k (o : List Int × Int) => (stC anC w3H).wr ((o.2, (k : Int), ()), (o.1, x, r, ()))) (fun (o : List Int × Int) => (stC anX w3H).wr ((), (o.1, x, r, ()))) (addcF add64 x) (SumI w x)
    (fun k o R hk hi hn hx => ?_) (fun k o hk hi => sum_step h3.2 h4.2 h3.1 h4.1 hk hi) 0 (w, 0) (by omega) ⟨⟨h3.1, h3.2, fun _ _ => rfl⟩, .inl rfl, by simp [vd]⟩
  · rw [Nat.sub_zero, sum_all h3.2 h4.2 h3.1 h4.1] at key; exact key
  rw [an_rnd add64]
  refine ⟨fun hb => ?_, fun hb => ?_⟩
  · have hk' : k < 8 := by have := of_decide_eq_true hb; omega
    rw [take_all hi.1.len, take8 h4, Int.toNat_natCast, Nat.zero_add, wrap_succ k (by omega)]
    exact ⟨by omega, by omega, (by rcases hi.2.1 with e | e <;> rw [e] <;> decide), by omega, hn hk'⟩
  · have : k = 8 := by have := of_decide_eq_false hb; omega
    exact hx this
noncomputable abbrev anLT (g : List Int → List Int → List Int) : LTab := [(0, loopF (stC anC w3H) 0 [anCf, rwB 0, rwB 1, rwB 2, .auto] (anLF g))]
noncomputable abbrev sandE : Ent := eWW sumW
theorem sand_tree (ad : Int → Int → Int → Int × Int) (g : List Int → List Int → List Int) (w x : List Int) : fnT Try.prog [(80, (onceE ad).sym)] (anLT g) anFn (w2A.wr (w, x, ())) [] [.fr [.sym], .rowF 0 0 8 .u64, .auto] =
    End.need ((0 : Int) = (0 : Int) ∧ (0 : Int) = (0 : Int) ∧ okW w ∧ okW x)
      (End.leaf (LV.one (VV.agg [SV.arr (Ty.int IntKind.u64) (8 : Nat) (g w x)])) []) := by kernel_rfl
theorem sand_ok : sandE.Ok Try.prog 50 := by
  refine (Ent.ofOk Try.call50 fun x_ y_ Q H_ => ?_).sym
  obtain ⟨w, x, _⟩ := x_
  obtain ⟨hn, hq⟩ := H_
  have hn : okW w ∧ okW x := hn
  refine (fnT_ok mixed adTab_ok Try.func50 rfl (LT := anLT sumW) (ks := [.fr [.sym], .rowF 0 0 8 .u64, .auto]) (LOk.ofTab (LTC rfl (loopF_ok (hp := []) an_loop) LT0))).use (D := []) ?_ hq
  show (fnT _ _ _ _ (w2A.wr (w, x, ())) [] _).sat _
  rw [sand_tree add64]
  exact ⟨⟨rfl, rfl, hn.1, hn.2⟩, rfl, rfl⟩
noncomputable abbrev swbitE : Ent := eBit bitW
theorem swbit_tree (w : List Int) (i : Int) : fnT Try.prog [] [] Try.f81 (wiA.wr (w, i, ())) [] kK =
    End.need ((0 : Int) ≤ IntKind.i64.wrap (i.tdiv (64 : Int)) ∧ IntKind.i64.wrap (i.tdiv (64 : Int)) < (8 : Int))
      (End.need ((0 : Int) ≤ i.tmod (64 : Int))
        (End.leaf
          (LV.one
            (VV.sc
              (SV.int IntKind.u64
                (SI.sym
                  (bitAnd IntKind.u64
                    (shr IntKind.u64
                      ((List.take (8 : Nat) (List.drop (0 : Nat) w)).getD (IntKind.i64.wrap (i.tdiv (64 : Int))).toNat
                        (0 : Int))
                      (i.tmod (64 : Int)))
                    (1 : Int))))))
          [])) := by kernel_rfl
theorem swbit_ok : swbitE.Ok Try.prog 81 := by
  refine (Ent.ofOk Try.call81 fun x_ y_ Q H_ => ?_).sym
  obtain ⟨w, i, _⟩ := x_
  obtain ⟨hn, hq⟩ := H_
  have hn : okW w ∧ 0 ≤ i ∧ i < 512 := hn
  refine (fnT_ok mixed tab0 Try.func81 rfl (LT := []) (ks := kK) (LOk.nil _)).use (D := []) ?_ hq
  show (fnT _ _ _ _ (wiA.wr (w, i, ())) [] _).sat _
  rw [swbit_tree]
  obtain ⟨hw, h0, h1⟩ := hn
  obtain ⟨k, rfl⟩ := Int.eq_ofNat_of_zero_le h0
  have hk : k < 512 := by omega
  have e1 : IntKind.i64.wrap ((k : Int).tdiv 64) = ((k / 64 : Nat) : Int) := tdiv_nat k 64 (by omega)
  rw [e1, show (k : Int).tmod 64 = ((k % 64 : Nat) : Int) from tmodN k 64, take8 hw, Int.toNat_natCast, bit_digit hw.2 hw.1 hk]
  exact ⟨by omega, by omega, rfl, rfl⟩
noncomputable abbrev sorderE : Ent := e0W orderL
theorem sorder_tree : fnT Try.prog [] [] Try.f52 [] [] [.fr [.sym], .rowF 0 0 8 .u64, .auto] = .leaf (nRow .u64 8 orderL) [] := by kernel_rfl
theorem sorder_ok : sorderE.Ok Try.prog 52 := by
  refine (Ent.ofOk Try.call52 fun x_ y_ Q H_ => ?_).sym
  refine (fnT_ok mixed tab0 Try.func52 rfl (LT := []) (ks := [.fr [.sym], .rowF 0 0 8 .u64, .auto]) (LOk.nil _)).use (D := []) ?_ H_.2
  show (fnT _ _ _ _ [] [] _).sat _
  rw [sorder_tree]
  exact ⟨rfl, rfl⟩
noncomputable abbrev reFn : Func := Try.f51
abbrev reC : Cod (List LV) (Int × Unit) := (jk 1 (lSkip (vOne (sPtr 0 0)) (lSkip (vOne (sPtr 1 0)) (lSkip (vOne (sPtr 2 0)) (lCons (vOne (sInt .i64)) (jk 27 lNil))))))
abbrev reCf : Wk := .fr (fmS 32 [(1, .keep), (2, .keep), (3, .keep), (4, .sym)])
abbrev reX : Cod (List LV) (Unit) := (jk 2 (lSkip (vOne (sPtr 1 0)) (lSkip (vOne (sPtr 2 0)) (jk 28 lNil))))
abbrev reXf : Wk := .fr (fmS 32 [(2, .keep), (3, .keep)])
abbrev reH : Cod Hp (List Int × List Int × List Int × Unit) := lCons iW (lCons iB (lCons iW lNil))
def reW : Exit → List Wk
  | .normal => [reCf, rwB 0, .rowB 1 0 32 .u8, rwB 2, .auto]
  | .exit 0 => [reXf, rwB 0, .rowB 1 0 32 .u8, rwB 2]
  | _ => []
noncomputable abbrev reTab (and : List Int → List Int → List Int) (less : List Int → List Int → List Int × Int) (bit : List Int → Int → Int) (o : List Int) : List (FuncId × Ent) := [(50, eWW and), (81, eBit bit), (82, eLess less), (52, e0W o)]
theorem re_rnd (and : List Int → List Int → List Int) (less : List Int → List Int → List Int × Int) (bit : List Int → Int → Int) (o : List Int) (i : Int) (w b r : List Int) : rndT Try.prog (reTab and less bit o) [] reFn 0 [] reW ((stC reC reH).wr ((i, ()), (w, b, r, ()))) =
    Res.ite (decide ((0 : Int) ≤ i))
      (Res.need (okW r ∧ okW r)
        (Res.need (okW w ∧ (0 : Int) ≤ i ∧ i < (512 : Int))
          (Res.need
            (okW ((and r r).set (0 : Nat) (bitOr IntKind.u64 ((and r r).getD (0 : Nat) (0 : Int)) (bit w i))) ∧ okW o)
            (Res.ite
              ((less ((and r r).set (0 : Nat) (bitOr IntKind.u64 ((and r r).getD (0 : Nat) (0 : Int)) (bit w i))) o).snd ==
                (0 : Int))
              (Res.leaf Exit.normal
                ((stC reC reH).wr
                  ((IntKind.i64.wrap (i - (1 : Int)), PUnit.unit), w, b,
                    (less ((and r r).set (0 : Nat) (bitOr IntKind.u64 ((and r r).getD (0 : Nat) (0 : Int)) (bit w i)))
                        o).fst,
                    PUnit.unit)))
              (Res.leaf Exit.normal
                ((stC reC reH).wr
                  ((IntKind.i64.wrap (i - (1 : Int)), PUnit.unit), w, b,
                    (and r r).set (0 : Nat) (bitOr IntKind.u64 ((and r r).getD (0 : Nat) (0 : Int)) (bit w i)),
                    PUnit.unit)))))))
      (Res.leaf (Exit.exit (0 : Nat)) ((stC reX reH).wr (PUnit.unit, w, b, r, PUnit.unit))) := by kernel_rfl
theorem reTab_ok : ∀ p ∈ reTab sumW lessW bitW orderL, p.2.Ok Try.prog p.1 := tabC sand_ok (tabC swbit_ok (tabC sless_ok (tabC sorder_ok tab0)))
def reLF (g : List Int → List Int) (x : (Int × Unit) × List Int × List Int × List Int × Unit) : Res := .need (x.1.1 = 511 ∧ okW x.2.1 ∧ x.2.2.2.1 = List.replicate 8 0) (.leaf (.exit 0) ((stC reX reH).wr ((), (x.2.1, x.2.2.1, g x.2.1, ()))))
noncomputable def redR (w : List Int) : List Int := dg qq 8 (vd qq w % ll)
noncomputable def redAt (V : Int) (k : Nat) : List Int := dg qq 8 (V / 2 ^ (512 - k) % ll)
theorem redAt_put (V : Int) (k : Nat) (hk : k < 512) (b : Int) (hb : 0 ≤ b ∧ b < 2) : okW (redAt V k) ∧ okW (putBit (sumW (redAt V k) (redAt V k)) b) := by
  refine ⟨⟨dg_length _ _, dg_in qq_pos _ _⟩, ?_⟩
  have hR : 0 ≤ V / 2 ^ (512 - k) % ll ∧ V / 2 ^ (512 - k) % ll < ll := ⟨Int.emod_nonneg _ (by have := ll_pos; omega), Int.emod_lt_of_pos _ ll_pos⟩
  have es : sumW (redAt V k) (redAt V k) = dg qq 8 (V / 2 ^ (512 - k) % ll + V / 2 ^ (512 - k) % ll) := by
    unfold sumW redAt
    rw [vd_dg qq_pos, Int.emod_eq_of_lt hR.1 (Int.lt_of_lt_of_le (Int.lt_trans (by omega) ll_lt) qq8)]
  rw [es, put_bit hR hb]
  exact ⟨dg_length _ _, dg_in qq_pos _ _⟩
theorem re_loop (x) : Ex Try.prog [] (.loop (loopAt reFn 0)) ((stC reC reH).wr x) (reLF redR x) := by
  obtain ⟨⟨i, _⟩, w, b, r, _⟩ := x
  refine Ex.need fun ⟨h1, h2, h3⟩ => ?_
  simp only at h1 h2 h3
  subst h1 h3
  have hw0 := vd_nonneg qq_pos h2.2
  have hw1 := vd_lt qq_pos h2.2
  rw [h2.1] at hw1
  have key := loopUp (fn := reFn) (id := 0) (j := 0) (ws := reW) (hp := []) mixed reTab_ok (LOk.nil _) 512 (fun k (_ : Unit) => (stC reC reH).wr ((511 - (k : Int), ()), (w, b, redAt (vd qq w) k, ()))) (fun _ => (stC reX reH).wr ((), (w, b, redR w, ()))) (fun _ u => u) (fun _ _ => True)
    (fun k o R hk _ hn hx => ?_) (fun _ _ _ _ => trivial) 0 () (by omega) trivial
  · have e : redAt (vd qq w) 0 = List.replicate 8 0 := by
      unfold redAt
      have e : qq ^ 8 = 2 ^ 512 := by decide +kernel
      rw [Nat.sub_zero, Int.ediv_eq_zero_of_lt hw0 (by rw [← e]; exact hw1), Int.zero_emod, dg_zero qq_pos]
    rw [e] at key; exact key
  rw [re_rnd]
  refine ⟨fun hb => ?_, fun hb => ?_⟩
  · have hk' : k < 512 := by have := of_decide_eq_true hb; omega
    have e3 : IntKind.i64.wrap ((511 - (k : Int)) - 1) = 511 - ((k + 1 : Nat) : Int) := by rw [wrap_ok (by omega) (by omega)]; omega
    obtain ⟨g1, g2⟩ := redAt_put (vd qq w) k hk' (bitW w (511 - (k : Int))) (bitW_01 _ _)
    have hs : redF sumW lessW bitW orderL w k (redAt (vd qq w) k) = redAt (vd qq w) (k + 1) := red_step rfl hk'
    have hn' := hn hk'
    rw [e3]
    refine ⟨⟨g1, g1⟩, ⟨h2, by omega, by omega⟩, ⟨g2, order_in⟩, fun hc => ?_, fun hc => ?_⟩
    · have : redF sumW lessW bitW orderL w k (redAt (vd qq w) k) = (lessW (putBit (sumW (redAt (vd qq w) k) (redAt (vd qq w) k)) (bitW w (511 - (k : Int)))) orderL).1 := by
        have hc' : ((lessW (putBit (sumW (redAt (vd qq w) k) (redAt (vd qq w) k)) (bitW w (511 - (k : Int)))) orderL).2 == 0) = true := hc
        unfold redF; rw [hc']; rfl
      rw [← hs, this] at hn'; exact hn'
    · have : redF sumW lessW bitW orderL w k (redAt (vd qq w) k) = putBit (sumW (redAt (vd qq w) k) (redAt (vd qq w) k)) (bitW w (511 - (k : Int))) := by
        have hc' : ((lessW (putBit (sumW (redAt (vd qq w) k) (redAt (vd qq w) k)) (bitW w (511 - (k : Int)))) orderL).2 == 0) = false := hc
        unfold redF; rw [hc']; rfl
      rw [← hs, this] at hn'; exact hn'
  · have : k = 512 := by have := of_decide_eq_false hb; omega
    subst this
    have := hx rfl
    have e : redAt (vd qq w) 512 = redR w := by unfold redAt redR; rw [Nat.sub_self, Int.pow_zero, Int.ediv_one]
    rw [e]; exact this
noncomputable abbrev reLT (g : List Int → List Int) : LTab := [(0, loopF (stC reC reH) 0 [reCf, rwB 0, .rowB 1 0 32 .u8, rwB 2, .auto] (reLF g))]
noncomputable abbrev sredE : Ent := eWB redW
noncomputable abbrev reTab' (and : List Int → List Int → List Int) (less : List Int → List Int → List Int × Int) (bit : List Int → Int → Int) (o : List Int) (byt : List Int → List Int) : List (FuncId × Ent) := (53, eWB byt) :: reTab and less bit o
theorem reTab'_ok : ∀ p ∈ reTab' sumW lessW bitW orderL bytesW, p.2.Ok Try.prog p.1 := tabC sbytes_ok reTab_ok
theorem sred_tree (and : List Int → List Int → List Int) (less : List Int → List Int → List Int × Int) (bit : List Int → Int → Int) (o : List Int) (byt : List Int → List Int) (g : List Int → List Int) (w : List Int) : fnT Try.prog (reTab' and less bit o byt) (reLT g) reFn (wA.wr (w, ())) [] kR =
    End.need
      ((511 : Int) = (511 : Int) ∧
        okW w ∧
          [(0 : Int), (0 : Int), (0 : Int), (0 : Int), (0 : Int), (0 : Int), (0 : Int), (0 : Int)] =
            List.replicate (8 : Nat) (0 : Int))
      (End.need (okW (g w)) (End.leaf (LV.one (VV.agg [SV.arr (Ty.int IntKind.u8) (32 : Nat) (byt (g w))])) [])) := by kernel_rfl
theorem redR_in (w : List Int) : okW (redR w) := ⟨dg_length _ _, dg_in qq_pos _ _⟩
theorem red_eq (w : List Int) : bytesW (redR w) = redW w := by
  unfold bytesW redW redR
  rw [vd_dg qq_pos, Int.emod_eq_of_lt (Int.emod_nonneg _ (by have := ll_pos; omega)) (Int.lt_of_lt_of_le (Int.lt_trans (Int.emod_lt_of_pos _ ll_pos) (by have := ll_lt; have := ll_pos; omega)) qq8)]
theorem sred_ok : sredE.Ok Try.prog 51 := by
  refine (Ent.ofOk Try.call51 fun x_ y_ Q H_ => ?_).sym
  obtain ⟨w, _⟩ := x_
  obtain ⟨hn, hq⟩ := H_
  have hn : okW w := hn
  refine (fnT_ok mixed reTab'_ok Try.func51 rfl (LT := reLT redR) (ks := kR) (LOk.ofTab (LTC rfl (loopF_ok (hp := []) re_loop) LT0))).use (D := []) ?_ hq
  show (fnT _ _ _ _ (wA.wr (w, ())) [] _).sat _
  rw [sred_tree]
  refine ⟨⟨rfl, hn, rfl⟩, redR_in w, ?_, rfl⟩
  rw [red_eq]
end Go.Proofs.Ythdfifcgobfgdaa
end

section
set_option linter.unusedVariables false
set_option linter.unusedSimpArgs false
namespace Go.Proofs.Ythdfifcgobfgdaa
open Go Go.Ev BJ
set_option maxRecDepth 1000000
noncomputable abbrev tiFn : Func := Try.f59
abbrev tjC : Cod (List LV) (Int × Int × Int × Int × Unit) := (jk 2 (lSkip (vOne (sPtr 0 0)) (lSkip (vOne (sPtr 1 0)) (lSkip (vOne (sPtr 2 0)) (lSkip (vOne (sPtr 3 0)) (lCons (vOne (sInt .i64)) (lCons (vOne (sInt .u64)) (jk 4 (lCons (vOne (sInt .i64)) (jk 2 (lCons (vOne (sInt .i64)) (jk 45 lNil))))))))))))
abbrev tjCf : Wk := .fr (fmS 61 [(2, .keep), (3, .keep), (4, .keep), (5, .keep), (6, .sym), (7, .sym), (12, .sym), (15, .sym)])
abbrev tjX : Cod (List LV) (Int × Int × Int × Unit) := (jk 2 (lSkip (vOne (sPtr 0 0)) (lSkip (vOne (sPtr 1 0)) (lSkip (vOne (sPtr 2 0)) (lSkip (vOne (sPtr 3 0)) (lCons (vOne (sInt .i64)) (lCons (vOne (sInt .u64)) (jk 4 (lCons (vOne (sInt .i64)) (jk 48 lNil))))))))))
abbrev tjXf : Wk := .fr (fmS 61 [(2, .keep), (3, .keep), (4, .keep), (5, .keep), (6, .sym), (7, .sym), (12, .sym)])
abbrev tiC : Cod (List LV) (Int × Unit) := (jk 2 (lSkip (vOne (sPtr 0 0)) (lSkip (vOne (sPtr 1 0)) (lSkip (vOne (sPtr 2 0)) (lSkip (vOne (sPtr 3 0)) (jk 6 (lCons (vOne (sInt .i64)) (jk 48 lNil))))))))
abbrev tiCf : Wk := .fr (fmS 61 [(2, .keep), (3, .keep), (4, .keep), (5, .keep), (12, .sym)])
abbrev tiX : Cod (List LV) (Unit) := (jk 4 (lSkip (vOne (sPtr 2 0)) (lSkip (vOne (sPtr 3 0)) (jk 55 lNil))))
abbrev tiXf : Wk := .fr (fmS 61 [(4, .keep), (5, .keep)])
abbrev tiH : Cod Hp (List Int × List Int × List Int × List Int × Unit) := lCons iW (lCons iW (lCons iW (lCons iW lNil)))
def tjW : Exit → List Wk
  | .normal => [tjCf, rwB 0, rwB 1, rwB 2, rwB 3, .auto]
  | .exit 2 => [tjXf, rwB 0, rwB 1, rwB 2, rwB 3, .auto]
  | _ => []
def eMul (mu : Int → Int → Int × Int) : Ent := Ent.ofS [] (lCons (vOne (sInt .u64)) (lCons (vOne (sInt .u64)) lNil)) lNil fun x _ => .leaf none (.tup [.sc (.int .u64 (.sym (mu x.1 x.2.1).1)), .sc (.int .u64 (.sym (mu x.1 x.2.1).2))]) []
noncomputable abbrev tiTab (ad : Int → Int → Int → Int × Int) (mu : Int → Int → Int × Int) : List (FuncId × Ent) := [(80, (onceE ad).sym), (83, eMul mu)]
theorem tj_rnd (ad : Int → Int → Int → Int × Int) (mu : Int → Int → Int × Int) (u c i j : Int) (a b r o : List Int) : rndT Try.prog (tiTab ad mu) [] tiFn 2 [] tjW ((stC tjC tiH).wr ((u, c, i, j, ()), (a, b, r, o, ()))) =
    Res.ite (decide (j < (4 : Int)))
      (Res.need ((0 : Int) ≤ u ∧ u < (8 : Int))
        (Res.need ((0 : Int) ≤ j ∧ j < (8 : Int))
          (Res.need ((0 : Int) ≤ (0 : Int) ∧ (0 : Int) ≤ (1 : Int))
            (Res.need ((0 : Int) ≤ IntKind.i64.wrap (u + j) ∧ IntKind.i64.wrap (u + j) < (8 : Int))
              (Res.need ((0 : Int) ≤ (0 : Int) ∧ (0 : Int) ≤ (1 : Int))
                (Res.need ((0 : Int) ≤ IntKind.i64.wrap (u + j) ∧ IntKind.i64.wrap (u + j) < (8 : Int))
                  (Res.leaf Exit.normal
                    ((stC tjC tiH).wr
                      ((u,
                          IntKind.u64.wrap
                            (IntKind.u64.wrap
                                ((mu ((List.take (8 : Nat) (List.drop (0 : Nat) a)).getD u.toNat (0 : Int))
                                      ((List.take (8 : Nat) (List.drop (0 : Nat) b)).getD j.toNat (0 : Int))).fst +
                                  (ad
                                      (mu ((List.take (8 : Nat) (List.drop (0 : Nat) a)).getD u.toNat (0 : Int))
                                          ((List.take (8 : Nat) (List.drop (0 : Nat) b)).getD j.toNat (0 : Int))).snd
                                      c (0 : Int)).snd) +
                              (ad
                                  ((List.take (8 : Nat) (List.drop (0 : Nat) o)).getD (IntKind.i64.wrap (u + j)).toNat
                                    (0 : Int))
                                  (ad
                                      (mu ((List.take (8 : Nat) (List.drop (0 : Nat) a)).getD u.toNat (0 : Int))
                                          ((List.take (8 : Nat) (List.drop (0 : Nat) b)).getD j.toNat (0 : Int))).snd
                                      c (0 : Int)).fst
                                  (0 : Int)).snd),
                          i, IntKind.i64.wrap (j + (1 : Int)), PUnit.unit),
                        a, b, r,
                        o.set ((0 : Nat) + (IntKind.i64.wrap (u + j)).toNat)
                          (ad
                              ((List.take (8 : Nat) (List.drop (0 : Nat) o)).getD (IntKind.i64.wrap (u + j)).toNat
                                (0 : Int))
                              (ad
                                  (mu ((List.take (8 : Nat) (List.drop (0 : Nat) a)).getD u.toNat (0 : Int))
                                      ((List.take (8 : Nat) (List.drop (0 : Nat) b)).getD j.toNat (0 : Int))).snd
                                  c (0 : Int)).fst
                              (0 : Int)).fst,
                        PUnit.unit)))))))))
      (Res.leaf (Exit.exit (2 : Nat)) ((stC tjX tiH).wr ((u, c, i, PUnit.unit), a, b, r, o, PUnit.unit))) := by kernel_rfl
theorem mul64_as : mul64E = eMul mulFn := by kernel_rfl
theorem mul64'_ok : (eMul mulFn).Ok Try.prog 83 := mul64_as ▸ mul64_ok
theorem tiTab_ok : ∀ p ∈ tiTab add64 mulFn, p.2.Ok Try.prog p.1 := tabC add64_ok (tabC mul64'_ok tab0)
abbrev tjT : Type := (Int × Int × Int × Int × Unit) × List Int × List Int × List Int × List Int × Unit
def tjLF (g : List Int → List Int → Int → List Int → Int × List Int) (x : tjT) : Res := .need (x.1.2.2.2.1 = 0 ∧ x.1.2.1 = 0 ∧ 0 ≤ x.1.1 ∧ x.1.1 < 4 ∧ okW x.2.1 ∧ okW x.2.2.1 ∧ okW x.2.2.2.2.1) (.leaf (.exit 2) ((stC tjX tiH).wr ((x.1.1, (g x.2.1 x.2.2.1 x.1.1 x.2.2.2.2.1).1, x.1.2.2.1, ()), (x.2.1, x.2.2.1, x.2.2.2.1, (g x.2.1 x.2.2.1 x.1.1 x.2.2.2.2.1).2, ()))))
noncomputable def tjG (a b : List Int) (u : Int) (o : List Int) : Int × List Int := upto (timJ mulFn add64 a b u.toNat) 0 4 (0, o)
theorem tj_loop (x : tjT) : Ex Try.prog [] (.loop (loopAt tiFn 2)) ((stC tjC tiH).wr x) (tjLF tjG x) := by
  obtain ⟨⟨u, c, i, j, _⟩, a, b, r, o, _⟩ := x
  refine Ex.need fun ⟨h1, h2, h3, h4, h5, h6, h7⟩ => ?_
  simp only at h1 h2 h3 h4 h5 h6 h7
  subst h1 h2
  obtain ⟨u, rfl⟩ := Int.eq_ofNat_of_zero_le h3
  have hu : u < 4 := by omega
  have key := loopUp (fn := tiFn) (id := 2) (j := 2) (ws := tjW) (hp := []) mixed tiTab_ok (LOk.nil _) 4 (fun k (s : Int × List Int) => (stC tjC tiH).wr (((u : Int), s.1, i, (k : Int), ()), (a, b, r, s.2, ()))) (fun (s : Int × List Int) => (stC tjX tiH).wr (((u : Int), s.1, i, ()), (a, b, r, s.2, ()))) (timJ mulFn add64 a b u) (TimI a b o u)
    (fun k s R hk hi hn hx => ?_) (fun k s hk hi => timJ_step h5.2 h6.2 h6.1 hu hk hi) 0 (0, o) (by omega) ⟨h7.1, h7.2, by unfold U64; omega, fun _ _ => rfl, by simp [vd]⟩
  · exact key
  rw [tj_rnd add64 mulFn]
  refine ⟨fun hb => ?_, fun hb => ?_⟩
  · have hk' : k < 4 := by have := of_decide_eq_true hb; omega
    have e : IntKind.i64.wrap ((u : Int) + (k : Int)) = ((u + k : Nat) : Int) := by rw [wrap_ok (by omega) (by omega)]; omega
    rw [e, take_all hi.len, take8 h5, take8 h6, Int.toNat_natCast, Int.toNat_natCast, Int.toNat_natCast, Nat.zero_add, wrap_succ k (by omega)]
    exact ⟨by omega, by omega, by decide, by omega, by decide, by omega, hn hk'⟩
  · have : k = 4 := by have := of_decide_eq_false hb; omega
    exact hx this
noncomputable abbrev tjLT (g : List Int → List Int → Int → List Int → Int × List Int) : LTab := [(2, loopF (stC tjC tiH) 0 [tjCf, rwB 0, rwB 1, rwB 2, rwB 3, .auto] (tjLF g))]
def tiW : Exit → List Wk
  | .normal => [tiCf, rwB 0, rwB 1, rwB 2, rwB 3, .auto]
  | .exit 0 => [tiXf, rwB 0, rwB 1, rwB 2, rwB 3]
  | _ => []
theorem ti_rnd (g : List Int → List Int → Int → List Int → Int × List Int) (ad : Int → Int → Int → Int × Int) (mu : Int → Int → Int × Int) (i : Int) (a b r o : List Int) : rndT Try.prog (tiTab ad mu) (tjLT g) tiFn 0 [] tiW ((stC tiC tiH).wr ((i, ()), (a, b, r, o, ()))) =
    Res.ite (decide (i < (4 : Int)))
      (Res.need ((0 : Int) = (0 : Int) ∧ (0 : Int) = (0 : Int) ∧ (0 : Int) ≤ i ∧ i < (4 : Int) ∧ okW a ∧ okW b ∧ okW o)
        (Res.need ((0 : Int) ≤ IntKind.i64.wrap (i + (4 : Int)) ∧ IntKind.i64.wrap (i + (4 : Int)) < (8 : Int))
          (Res.leaf Exit.normal
            ((stC tiC tiH).wr
              ((IntKind.i64.wrap (i + (1 : Int)), PUnit.unit), a, b, r,
                (g a b i o).snd.set ((0 : Nat) + (IntKind.i64.wrap (i + (4 : Int))).toNat) (g a b i o).fst, PUnit.unit)))))
      (Res.leaf (Exit.exit (0 : Nat)) ((stC tiX tiH).wr (PUnit.unit, a, b, r, o, PUnit.unit))) := by kernel_rfl
abbrev tiT : Type := (Int × Unit) × List Int × List Int × List Int × List Int × Unit
def tiLF (g : List Int → List Int → List Int) (x : tiT) : Res := .need (x.1.1 = 0 ∧ okW x.2.1 ∧ okW x.2.2.1 ∧ x.2.2.2.2.1 = List.replicate 8 0) (.leaf (.exit 0) ((stC tiX tiH).wr ((), (x.2.1, x.2.2.1, x.2.2.2.1, g x.2.1 x.2.2.1, ()))))
theorem tjL_mem : ∀ p ∈ tjLT tjG, isLoop (blkAt (bodyOf tiFn) p.1) = true ∧ ∀ st, Ex Try.prog [] (.loop (loopAt tiFn p.1)) st (p.2 st) := LTC rfl (loopF_ok (hp := []) tj_loop) LT0
theorem ti_loop (x : tiT) : Ex Try.prog [] (.loop (loopAt tiFn 0)) ((stC tiC tiH).wr x) (tiLF timesW x) := by
  obtain ⟨⟨i, _⟩, a, b, r, o, _⟩ := x
  refine Ex.need fun ⟨h1, h2, h3, h4⟩ => ?_
  simp only at h1 h2 h3 h4
  subst h1 h4
  have key := loopUp (fn := tiFn) (id := 0) (j := 0) (ws := tiW) (hp := []) mixed tiTab_ok (LOk.inner rfl tjL_mem) 4 (fun k (o : List Int) => (stC tiC tiH).wr (((k : Int), ()), (a, b, r, o, ()))) (fun (o : List Int) => (stC tiX tiH).wr ((), (a, b, r, o, ()))) (timU mulFn add64 a b) (TimO a b)
    (fun k o R hk hi hn hx => ?_) (fun k o hk hi => timU_step h2.2 h3.2 h2.1 h3.1 hk hi) 0 (List.replicate 8 0) (by omega) ⟨by simp, InB.zeros qq_pos 8, fun i _ => by
    rw [List.getD_eq_getElem?_getD, List.getElem?_replicate]; split <;> rfl, by rw [vd_zeros]; simp [vd]⟩
  · rw [Nat.sub_zero, times_all h2.2 h3.2 h2.1 h3.1] at key; exact key
  rw [ti_rnd]
  refine ⟨fun hb => ?_, fun hb => ?_⟩
  · have hk' : k < 4 := by have := of_decide_eq_true hb; omega
    have e : IntKind.i64.wrap ((k : Int) + 4) = ((k + 4 : Nat) : Int) := by rw [wrap_ok (by omega) (by omega)]; omega
    have hs := timU_step h2.2 h3.2 h2.1 h3.1 hk' hi
    have hn' := hn hk'
    rw [e, wrap_succ k (by omega), Int.toNat_natCast, Nat.zero_add]
    exact ⟨⟨rfl, rfl, by omega, by omega, h2, h3, hi.len, hi.inb⟩, by omega, hn'⟩
  · have : k = 4 := by have := of_decide_eq_false hb; omega
    exact hx this
noncomputable abbrev tiLT (g : List Int → List Int → List Int) : LTab := [(0, loopF (stC tiC tiH) 0 [tiCf, rwB 0, rwB 1, rwB 2, rwB 3, .auto] (tiLF g))]
noncomputable abbrev stimesE : Ent := eWW timesW
theorem stimes_tree (g : List Int → List Int → List Int) (ad : Int → Int → Int → Int × Int) (mu : Int → Int → Int × Int) (w x : List Int) : fnT Try.prog (tiTab ad mu) (tiLT g) tiFn (w2A.wr (w, x, ())) [] [.fr [.sym], .rowF 0 0 8 .u64, .auto] =
    End.need
      ((0 : Int) = (0 : Int) ∧
        okW w ∧
          okW x ∧
            [(0 : Int), (0 : Int), (0 : Int), (0 : Int), (0 : Int), (0 : Int), (0 : Int), (0 : Int)] =
              List.replicate (8 : Nat) (0 : Int))
      (End.leaf (LV.one (VV.agg [SV.arr (Ty.int IntKind.u64) (8 : Nat) (g w x)])) []) := by kernel_rfl
theorem stimes_ok : stimesE.Ok Try.prog 59 := by
  refine (Ent.ofOk Try.call59 fun x_ y_ Q H_ => ?_).sym
  obtain ⟨w, x, _⟩ := x_
  obtain ⟨hn, hq⟩ := H_
  have hn : okW w ∧ okW x := hn
  refine (fnT_ok mixed tiTab_ok Try.func59 rfl (LT := tiLT timesW) (ks := [.fr [.sym], .rowF 0 0 8 .u64, .auto]) (LOk.ofTab (LTC rfl (loopF_ok (hp := []) ti_loop) LT0))).use (D := []) ?_ hq
  show (fnT _ _ _ _ (w2A.wr (w, x, ())) [] _).sat _
  rw [stimes_tree]
  exact ⟨⟨rfl, hn.1, hn.2, rfl⟩, rfl, rfl⟩
abbrev b3A : Cod (List LV) (List Int × List Int × List Int × Unit) := lCons cB (lCons cB (lCons cB lNil))
abbrev b64A : Cod (List LV) (List Int × Unit) := lCons (vRow .u8 64) lNil
noncomputable def canB (b : List Int) : Bool := decide (vd 256 b < ll)
noncomputable def redB (b : List Int) : List Int := dg 256 32 (vd 256 b % ll)
noncomputable def mulB (a b c : List Int) : List Int := dg 256 32 ((vd 256 a * vd 256 b + vd 256 c) % ll)
def eBB (g : List Int → Bool) : Ent := Ent.ofS [] bA32 lNil fun x _ => .leaf (some (okB x.1)) (nB (g x.1)) []
def e64B (g : List Int → List Int) : Ent := Ent.ofS [] b64A lNil fun x _ => .leaf (some (x.1.length = 64 ∧ AllBy x.1)) (nRow .u8 32 (g x.1)) []
def eB3 (g : List Int → List Int → List Int → List Int) : Ent := Ent.ofS [] b3A lNil fun x _ => .leaf (some (okB x.1 ∧ okB x.2.1 ∧ okB x.2.2.1)) (nRow .u8 32 (g x.1 x.2.1 x.2.2.1)) []
theorem ofL_ok (b : List Int) : okW (ofL b) := ofL_in b
theorem sumW_ok (w x : List Int) : okW (sumW w x) := ⟨dg_length _ _, dg_in qq_pos _ _⟩
theorem timesW_ok (w x : List Int) : okW (timesW w x) := ⟨dg_length _ _, dg_in qq_pos _ _⟩
theorem okB.val {b : List Int} (h : okB b) : vd qq (ofL b) = vd 256 b := ofL_val h.2 (by rw [h.1]; decide)
theorem okB.range {b : List Int} (h : okB b) : 0 ≤ vd 256 b ∧ vd 256 b < 2 ^ 256 := by
  have h1 := vd_nonneg (by decide) (show InB 256 b from h.2)
  have h2 := vd_lt (by decide) (show InB 256 b from h.2)
  have e : (256 : Int) ^ 32 = 2 ^ 256 := by decide +kernel
  rw [h.1, e] at h2
  exact ⟨h1, h2⟩
noncomputable abbrev sCanonE : Ent := eBB canB
theorem sCanon_tree (o : List Int) (of : List Int → List Int) (less : List Int → List Int → List Int × Int) (b : List Int) : fnT Try.prog [(52, e0W o), (49, eOf of), (82, eLess less)] [] Try.f64 ((bA32).wr (b, ())) [] kK =
    End.need ((0 : Int) ≤ (0 : Int) ∧ (0 : Int) ≤ (32 : Int) ∧ (32 : Int) ≤ (32 : Int))
      (End.need
        (AllBy (List.take (32 : Nat) (List.drop (0 : Nat) b)) ∧
          (List.take (32 : Nat) (List.drop (0 : Nat) b)).length ≤ (64 : Nat))
        (End.need (okW (of (List.take (32 : Nat) (List.drop (0 : Nat) b))) ∧ okW o)
          (End.leaf
            (LV.one
              (VV.sc (SV.bool (SB.sym ((less (of (List.take (32 : Nat) (List.drop (0 : Nat) b))) o).snd == (1 : Int))))))
            []))) := by kernel_rfl
theorem sCanon_tab_ : ∀ p_ ∈ ([(52, e0W orderL), (49, eOf ofL), (82, eLess lessW)] : List (FuncId × Ent)), p_.2.Ok Try.prog p_.1 := (tabC sorder_ok (tabC sof_ok (tabC sless_ok tab0)))
theorem sCanon_ok : sCanonE.Ok Try.prog 64 := by
  refine (Ent.ofOk Try.call64 fun x_ y_ Q H_ => ?_).sym
  obtain ⟨b, _⟩ := x_
  obtain ⟨hn, hq⟩ := H_
  have hn : okB b := hn
  refine (fnT_ok (tab := [(52, e0W orderL), (49, eOf ofL), (82, eLess lessW)]) mixed sCanon_tab_ Try.func64 rfl (LT := []) (ks := kK) (LOk.nil _)).use (D := []) ?_ hq
  show (fnT _ _ _ _ ((bA32).wr (b, ())) [] _).sat _
  rw [sCanon_tree orderL ofL lessW]
  rw [take_all hn.1]
  refine ⟨by decide, ⟨hn.2, by rw [hn.1]; decide⟩, ⟨ofL_ok b, order_in⟩, ?_, rfl⟩
  have : ((lessW (ofL b) orderL).2 == 1) = canB b := by
    unfold lessW canB
    rw [hn.val, order_val]
    by_cases h : vd 256 b < ll
    · rw [if_pos h, decide_eq_true h]; rfl
    · rw [if_neg h, decide_eq_false h]; rfl
  rw [this]
noncomputable abbrev sReduceE : Ent := e64B redB
theorem sReduce_tree (of : List Int → List Int) (red : List Int → List Int) (b : List Int) : fnT Try.prog [(49, eOf of), (51, eWB red)] [] Try.f61 ((b64A).wr (b, ())) [] kR =
    End.need ((0 : Int) ≤ (0 : Int) ∧ (0 : Int) ≤ (64 : Int) ∧ (64 : Int) ≤ (64 : Int))
      (End.need
        (AllBy (List.take (64 : Nat) (List.drop (0 : Nat) b)) ∧
          (List.take (64 : Nat) (List.drop (0 : Nat) b)).length ≤ (64 : Nat))
        (End.need (okW (of (List.take (64 : Nat) (List.drop (0 : Nat) b))))
          (End.leaf
            (LV.one
              (VV.agg [SV.arr (Ty.int IntKind.u8) (32 : Nat) (red (of (List.take (64 : Nat) (List.drop (0 : Nat) b))))]))
            []))) := by kernel_rfl
theorem sReduce_tab_ : ∀ p_ ∈ ([(49, eOf ofL), (51, eWB redW)] : List (FuncId × Ent)), p_.2.Ok Try.prog p_.1 := (tabC sof_ok (tabC sred_ok tab0))
theorem sReduce_ok : sReduceE.Ok Try.prog 61 := by
  refine (Ent.ofOk Try.call61 fun x_ y_ Q H_ => ?_).sym
  obtain ⟨b, _⟩ := x_
  obtain ⟨hn, hq⟩ := H_
  have hn : b.length = 64 ∧ AllBy b := hn
  refine (fnT_ok (tab := [(49, eOf ofL), (51, eWB redW)]) mixed sReduce_tab_ Try.func61 rfl (LT := []) (ks := kR) (LOk.nil _)).use (D := []) ?_ hq
  show (fnT _ _ _ _ ((b64A).wr (b, ())) [] _).sat _
  rw [sReduce_tree ofL redW]
  rw [take_all hn.1]
  refine ⟨by decide, ⟨hn.2, by rw [hn.1]; decide⟩, ofL_ok b, ?_, rfl⟩
  have : redW (ofL b) = redB b := by unfold redW redB; rw [ofL_val hn.2 (by rw [hn.1]; decide)]
  rw [this]
theorem lt_qq8 {x : Int} (h : x < 2 ^ 512) : x < qq ^ 8 := by
  have e : qq ^ 8 = 2 ^ 512 := by decide +kernel
  rw [e]; exact h
noncomputable abbrev sMulAddE : Ent := eB3 mulB
theorem sMulAdd_tree (of : List Int → List Int) (and times : List Int → List Int → List Int) (red : List Int → List Int) (a b c : List Int) : fnT Try.prog [(49, eOf of), (50, eWW and), (59, eWW times), (51, eWB red)] [] Try.f22 ((b3A).wr (a, b, c, ())) [] kR =
    End.need ((0 : Int) ≤ (0 : Int) ∧ (0 : Int) ≤ (32 : Int) ∧ (32 : Int) ≤ (32 : Int))
      (End.need
        (AllBy (List.take (32 : Nat) (List.drop (0 : Nat) a)) ∧
          (List.take (32 : Nat) (List.drop (0 : Nat) a)).length ≤ (64 : Nat))
        (End.need ((0 : Int) ≤ (0 : Int) ∧ (0 : Int) ≤ (32 : Int) ∧ (32 : Int) ≤ (32 : Int))
          (End.need
            (AllBy (List.take (32 : Nat) (List.drop (0 : Nat) b)) ∧
              (List.take (32 : Nat) (List.drop (0 : Nat) b)).length ≤ (64 : Nat))
            (End.need
              (okW (of (List.take (32 : Nat) (List.drop (0 : Nat) a))) ∧
                okW (of (List.take (32 : Nat) (List.drop (0 : Nat) b))))
              (End.need ((0 : Int) ≤ (0 : Int) ∧ (0 : Int) ≤ (32 : Int) ∧ (32 : Int) ≤ (32 : Int))
                (End.need
                  (AllBy (List.take (32 : Nat) (List.drop (0 : Nat) c)) ∧
                    (List.take (32 : Nat) (List.drop (0 : Nat) c)).length ≤ (64 : Nat))
                  (End.need
                    (okW
                        (times (of (List.take (32 : Nat) (List.drop (0 : Nat) a)))
                          (of (List.take (32 : Nat) (List.drop (0 : Nat) b)))) ∧
                      okW (of (List.take (32 : Nat) (List.drop (0 : Nat) c))))
                    (End.need
                      (okW
                        (and
                          (times (of (List.take (32 : Nat) (List.drop (0 : Nat) a)))
                            (of (List.take (32 : Nat) (List.drop (0 : Nat) b))))
                          (of (List.take (32 : Nat) (List.drop (0 : Nat) c)))))
                      (End.leaf
                        (LV.one
                          (VV.agg
                            [SV.arr (Ty.int IntKind.u8) (32 : Nat)
                                (red
                                  (and
                                    (times (of (List.take (32 : Nat) (List.drop (0 : Nat) a)))
                                      (of (List.take (32 : Nat) (List.drop (0 : Nat) b))))
                                    (of (List.take (32 : Nat) (List.drop (0 : Nat) c)))))]))
                        []))))))))) := by kernel_rfl
theorem sMulAdd_tab_ : ∀ p_ ∈ ([(49, eOf ofL), (50, eWW sumW), (59, eWW timesW), (51, eWB redW)] : List (FuncId × Ent)), p_.2.Ok Try.prog p_.1 := (tabC sof_ok (tabC sand_ok (tabC stimes_ok (tabC sred_ok tab0))))
theorem sMulAdd_ok : sMulAddE.Ok Try.prog 22 := by
  refine (Ent.ofOk Try.call22 fun x_ y_ Q H_ => ?_).sym
  obtain ⟨a, b, c, _⟩ := x_
  obtain ⟨hn, hq⟩ := H_
  have hn : okB a ∧ okB b ∧ okB c := hn
  refine (fnT_ok (tab := [(49, eOf ofL), (50, eWW sumW), (59, eWW timesW), (51, eWB redW)]) mixed sMulAdd_tab_ Try.func22 rfl (LT := []) (ks := kR) (LOk.nil _)).use (D := []) ?_ hq
  show (fnT _ _ _ _ ((b3A).wr (a, b, c, ())) [] _).sat _
  rw [sMulAdd_tree ofL sumW timesW redW]
  obtain ⟨ha, hb, hc⟩ := hn
  rw [take_all ha.1, take_all hb.1, take_all hc.1]
  refine ⟨by decide, ⟨ha.2, by rw [ha.1]; decide⟩, by decide, ⟨hb.2, by rw [hb.1]; decide⟩, ⟨ofL_ok a, ofL_ok b⟩, by decide, ⟨hc.2, by rw [hc.1]; decide⟩, ⟨timesW_ok _ _, ofL_ok c⟩, sumW_ok _ _, ?_, rfl⟩
  have : redW (sumW (timesW (ofL a) (ofL b)) (ofL c)) = mulB a b c := by
    unfold redW mulB sumW timesW
    have h1 := ha.range
    have h2 := hb.range
    have h3 := hc.range
    have h4 : ((2 : Int) ^ 256 - 1) * (2 ^ 256 - 1) + 2 ^ 256 < 2 ^ 512 := by decide +kernel
    have h5 : vd 256 a * vd 256 b ≤ (2 ^ 256 - 1) * (2 ^ 256 - 1) := Int.mul_le_mul (by omega) (by omega) h2.1 (by decide +kernel)
    have h6 : 0 ≤ vd 256 a * vd 256 b := Int.mul_nonneg h1.1 h2.1
    rw [ofL_take ha.2 ha.1, ofL_take hb.2 hb.1, vd_dg qq_pos, vd_dg qq_pos, hc.val, Int.emod_eq_of_lt (a := vd 256 a * vd 256 b) h6 (lt_qq8 (Int.lt_trans (by omega) h4)), Int.emod_eq_of_lt (by omega) (lt_qq8 (Int.lt_trans (by omega) h4))]
  rw [this]
end Go.Proofs.Ythdfifcgobfgdaa
end

section
set_option linter.unusedVariables false
set_option linter.unusedSimpArgs false
namespace Go.Proofs.Ythdfifcgobfgdaa
open Go Go.Ev BJ
set_option maxRecDepth 1000000
def eSha (g : List Int → List Int) : Ent := Ent.ofS [some (.sl u8)] rrA lNil fun x _ => .leaf (some (x.1.length < 2305843009213693952 ∧ x.1.flatten.length < 1152921504606846976)) (nRow .u8 64 (g x.1.flatten)) []
theorem of_as : ofE = eSha shaF := by kernel_rfl
theorem of'_ok : (eSha shaF).Ok Try.prog 30 := of_as ▸ of_ok
noncomputable abbrev eCat : Ent := catE
theorem cat'_ok : eCat.Ok Try.prog 63 := cat_ok
def domL : List Int := [83, 105, 103, 69, 100, 50, 53, 53, 49, 57, 32, 110, 111, 32, 69, 100, 50, 53, 53, 49, 57, 32, 99, 111, 108, 108, 105, 115, 105, 111, 110, 115]
def preL (c : List Int) : List Int := if c.length ≤ 255 then domL ++ ([1, (c.length : Int)] ++ c) else []
def ePre (g : List Int → List Int) : Ent := Ent.ofS [some u8] bA lNil fun x _ => .leaf none (.one (.sc (.sl 0 0))) [(0, .own 0 u8 (g x.1))]
noncomputable abbrev preE : Ent := ePre preL
theorem prefix_tree (c : List Int) : fnT Try.prog [(63, catE)] [] Try.f28 (bA.wr (c, ())) [] [.ownF 0 u8, .auto, .vers] =
    End.ite (decide ((255 : Int) < (↑c.length : Int)))
      (End.leaf (LV.one (VV.sc (SV.sl (0 : Nat) (0 : Nat)))) [some (Item.own (0 : Nat) (Ty.int IntKind.u8) [])])
      (End.need
        ([[(83 : Int), (105 : Int), (103 : Int), (69 : Int), (100 : Int), (50 : Int), (53 : Int), (53 : Int), (49 : Int),
                    (57 : Int), (32 : Int), (110 : Int), (111 : Int), (32 : Int), (69 : Int), (100 : Int), (50 : Int),
                    (53 : Int), (53 : Int), (49 : Int), (57 : Int), (32 : Int), (99 : Int), (111 : Int), (108 : Int),
                    (108 : Int), (105 : Int), (115 : Int), (105 : Int), (111 : Int), (110 : Int), (115 : Int)],
                  [(1 : Int), IntKind.u8.wrap (↑c.length : Int)], c].flatten.length ≤
            (70368744177664 : Nat) ∧
          (3 : Nat) ≤ (140737488355328 : Nat))
        (End.leaf (LV.one (VV.sc (SV.sl (0 : Nat) (0 : Nat))))
          [some
              (Item.own (0 : Nat) (Ty.int IntKind.u8)
                [[(83 : Int), (105 : Int), (103 : Int), (69 : Int), (100 : Int), (50 : Int), (53 : Int), (53 : Int),
                      (49 : Int), (57 : Int), (32 : Int), (110 : Int), (111 : Int), (32 : Int), (69 : Int), (100 : Int),
                      (50 : Int), (53 : Int), (53 : Int), (49 : Int), (57 : Int), (32 : Int), (99 : Int), (111 : Int),
                      (108 : Int), (108 : Int), (105 : Int), (115 : Int), (105 : Int), (111 : Int), (110 : Int),
                      (115 : Int)],
                    [(1 : Int), IntKind.u8.wrap (↑c.length : Int)], c].flatten)])) := by kernel_rfl
theorem pre_ok : preE.Ok Try.prog 28 := by
  refine (Ent.ofOk Try.call28 fun x_ y_ Q H_ => ?_).sym
  obtain ⟨c, _⟩ := x_
  refine (fnT_ok mixed (tabC cat_ok tab0) Try.func28 rfl (LT := []) (ks := [.ownF 0 u8, .auto, .vers]) (LOk.nil _)).use (D := [(0, .own 0 u8 (preL c))]) ?_ H_.2
  show (fnT _ _ _ _ (bA.wr (c, ())) [] _).sat _
  rw [prefix_tree]
  refine ⟨fun h => ?_, fun h => ?_⟩
  · have h := of_decide_eq_true h
    have e : preL c = [] := if_neg (by omega)
    rw [e]; exact ⟨rfl, rfl⟩
  · have h := of_decide_eq_false h
    have e : preL c = domL ++ ([1, (c.length : Int)] ++ c) := if_pos (by omega)
    have ew : IntKind.u8.wrap (c.length : Int) = c.length := by rw [wrap_u8]; omega
    rw [e, ew]
    refine ⟨⟨by simp; omega, by decide⟩, rfl, ?_⟩
    have e2 : applyD [(0, Ev.Item.own 0 u8 (domL ++ ([1, (c.length : Int)] ++ c)))] (lNil.wr y_) = [some (Ev.Item.own 0 u8 (domL ++ ([1, (c.length : Int)] ++ c)))] := rfl
    rw [e2]
    simp [domL]
def secF (h : List Int) : List Int := ((h.take 32).set 0 (bitAndNot .u8 ((h.take 32).getD 0 0) 7)).set 31 (bitOr .u8 (bitAndNot .u8 (((h.take 32).set 0 (bitAndNot .u8 ((h.take 32).getD 0 0) 7)).getD 31 0) 128) 64)
def ePa (sec sha : List Int → List Int) : Ent := Ent.ofS [] bA32 lNil fun x _ => .leaf (some (x.1.length = 32)) (.tup [.agg [.arr (.int .u8) 32 (sec x.1)], .sc (.vb 0 0 (.int .u8) 64 32 32)]) [(0, .blk [.arr (.int .u8) 64 (sha x.1)] 46)]
noncomputable def secL (s : List Int) : List Int := secF (shaF s)
noncomputable abbrev spartsE : Ent := ePa secL shaF
theorem parts_tree (sha : List Int → List Int) (s : List Int) : fnT Try.prog [(30, eSha sha)] [] Try.f60 (bA32.wr (s, ())) [] [.auto] =
    End.need ((0 : Int) ≤ (0 : Int) ∧ (0 : Int) ≤ (32 : Int) ∧ (32 : Int) ≤ (32 : Int))
      (End.need
        ((1 : Nat) < (2305843009213693952 : Nat) ∧
          [List.take (32 : Nat) (List.drop (0 : Nat) s)].flatten.length < (1152921504606846976 : Nat))
        (End.need ((0 : Int) ≤ (0 : Int) ∧ (0 : Int) ≤ (32 : Int) ∧ (32 : Int) ≤ (64 : Int))
          (End.need
            ((32 : Nat) ≤
              (List.take (32 : Nat)
                  (List.drop (0 : Nat) (sha [List.take (32 : Nat) (List.drop (0 : Nat) s)].flatten))).length)
            (End.need
              ((32 : Nat) ≤
                (List.take (32 : Nat)
                    (List.drop (0 : Nat) (sha [List.take (32 : Nat) (List.drop (0 : Nat) s)].flatten))).length)
              (End.need ((0 : Int) ≤ (32 : Int) ∧ (32 : Int) ≤ (64 : Int) ∧ (64 : Int) ≤ (64 : Int))
                (End.leaf
                  (LV.tup
                    [VV.agg
                        [SV.arr (Ty.int IntKind.u8) (32 : Nat)
                            (((List.take (32 : Nat)
                                      (List.drop (0 : Nat)
                                        (List.take (32 : Nat)
                                          (List.drop (0 : Nat)
                                            (sha [List.take (32 : Nat) (List.drop (0 : Nat) s)].flatten))))).set
                                  (0 : Nat)
                                  (bitAndNot IntKind.u8
                                    ((List.take (32 : Nat)
                                          (List.drop (0 : Nat)
                                            (List.take (32 : Nat)
                                              (List.drop (0 : Nat)
                                                (sha [List.take (32 : Nat) (List.drop (0 : Nat) s)].flatten))))).getD
                                      (0 : Nat) (0 : Int))
                                    (7 : Int))).set
                              (31 : Nat)
                              (bitOr IntKind.u8
                                (bitAndNot IntKind.u8
                                  (((List.take (32 : Nat)
                                            (List.drop (0 : Nat)
                                              (List.take (32 : Nat)
                                                (List.drop (0 : Nat)
                                                  (sha [List.take (32 : Nat) (List.drop (0 : Nat) s)].flatten))))).set
                                        (0 : Nat)
                                        (bitAndNot IntKind.u8
                                          ((List.take (32 : Nat)
                                                (List.drop (0 : Nat)
                                                  (List.take (32 : Nat)
                                                    (List.drop (0 : Nat)
                                                      (sha [List.take (32 : Nat) (List.drop (0 : Nat) s)].flatten))))).getD
                                            (0 : Nat) (0 : Int))
                                          (7 : Int))).getD
                                    (31 : Nat) (0 : Int))
                                  (128 : Int))
                                (64 : Int)))],
                      VV.sc (SV.vb (0 : Nat) (0 : Nat) (Ty.int IntKind.u8) (64 : Nat) (32 : Int) (32 : Int))])
                  [some
                      (Item.blk
                        [SV.arr (Ty.int IntKind.u8) (64 : Nat) (sha [List.take (32 : Nat) (List.drop (0 : Nat) s)].flatten)]
                        (46 : Nat))])))))) := by kernel_rfl
theorem sparts_ok : spartsE.Ok Try.prog 60 := by
  refine (Ent.ofOk Try.call60 fun x_ y_ Q H_ => ?_).sym
  obtain ⟨s, _⟩ := x_
  obtain ⟨hn, hq⟩ := H_
  have hn : s.length = 32 := hn
  refine (fnT_ok mixed (tabC of'_ok tab0) Try.func60 rfl (LT := []) (ks := [.auto]) (LOk.nil _)).use (D := [(0, .blk [.arr (.int .u8) 64 (shaF s)] 46)]) ?_ hq
  show (fnT _ _ _ _ (bA32.wr (s, ())) [] _).sat _
  rw [parts_tree, take_all hn, List.flatten_singleton]
  have hs := sha_length s
  have e1 : List.take 32 (List.drop 0 (List.take 32 (List.drop 0 (shaF s)))) = (shaF s).take 32 := by rw [List.drop_zero, List.drop_zero, List.take_take, Nat.min_self]
  have hl : (List.take 32 (List.drop 0 (shaF s))).length = 32 := by simp [hs]
  rw [e1]
  exact ⟨by decide, ⟨by decide, by omega⟩, by decide, by omega, by omega, by decide, rfl, rfl⟩
def ePub (g : List Int → List Int) : Ent := Ent.ofS [] bA32 lNil fun x _ => .leaf (some (x.1.length = 32)) (nRow .u8 32 (g x.1)) []
theorem secF_len {h : List Int} (hl : h.length = 64) : (secF h).length = 32 := by simp [secF, hl]
theorem secL_len (s : List Int) : (secL s).length = 32 := secF_len (sha_length s)
noncomputable def pubL (s : List Int) : List Int := encodeL (mbaseL (secL s))
noncomputable abbrev pubE : Ent := ePub pubL
theorem pub_tree (sec sha : List Int → List Int) (mb : List Int → Pt) (en : Pt → List Int) (s : List Int) : fnT Try.prog [(60, ePa sec sha), (18, eMb mb), (38, eEn en)] [] Try.f27 ((bA32).wr (s, ())) [] kK =
    End.need (s.length = (32 : Nat))
      (End.need ((sec s).length = (32 : Nat))
        (End.leaf (LV.one (VV.agg [SV.arr (Ty.int IntKind.u8) (32 : Nat) (en (mb (sec s)))])) [])) := by kernel_rfl
theorem pub_tab_ : ∀ p_ ∈ ([(60, ePa secL shaF), (18, eMb mbaseL), (38, eEn encodeL)] : List (FuncId × Ent)), p_.2.Ok Try.prog p_.1 := (tabC sparts_ok (tabC mbase_ok (tabC qencode_ok tab0)))
theorem pub_ok : pubE.Ok Try.prog 27 := by
  refine (Ent.ofOk Try.call27 fun x_ y_ Q H_ => ?_).sym
  obtain ⟨s, _⟩ := x_
  obtain ⟨hn, hq⟩ := H_
  have hn : s.length = 32 := hn
  refine (fnT_ok (tab := [(60, ePa secL shaF), (18, eMb mbaseL), (38, eEn encodeL)]) mixed pub_tab_ Try.func27 rfl (LT := []) (ks := kK) (LOk.nil _)).use (D := []) ?_ hq
  show (fnT _ _ _ _ ((bA32).wr (s, ())) [] _).sat _
  rw [pub_tree secL shaF mbaseL encodeL]
  exact ⟨hn, secL_len s, rfl, rfl⟩
abbrev row64 : Cod LV (List Int) := vRow .u8 64
abbrev chA : Cod (List LV) (List Int × List Int × List Int × List Int × Unit) := lCons (vOne (sRd false false u8)) (lCons cB (lCons cB (lCons row64 lNil)))
def eCh (g : List Int → List Int → List Int → List Int → List Int) : Ent := Ent.ofS [some u8, none, none, none] chA lNil fun x _ => .leaf (some (x.2.1.length = 32 ∧ x.2.2.1.length = 32 ∧ x.2.2.2.1.length = 64)) (nRow .u8 32 (g x.1 x.2.1 x.2.2.1 x.2.2.2.1)) []
noncomputable def chalL (c r p m : List Int) : List Int := redB (shaF (preL c ++ (r ++ (p ++ m))))
theorem eight_by (x : Int) : AllBy (eightF x) := fun z hz => by
  obtain ⟨i, _, rfl⟩ := List.mem_map.1 hz
  rw [wrap_u8]; unfold By; omega
theorem sha_by (b : List Int) : AllBy (shaF b) := by
  have key : ∀ (l : List Nat) (s a : List Int), AllBy a → AllBy (l.foldl (fun a i => a ++ eightF (s.getD i 0)) a) := by
    intro l s
    induction l with
    | nil => exact fun a h => h
    | cons i l ih => exact fun a h => ih _ (h.append (eight_by _))
  exact key _ _ [] (fun z hz => by cases hz)
theorem bitAndNot_by (x y : Int) : By (bitAndNot .u8 x y) := by
  unfold bitAndNot By; rw [wrap_u8]; omega
theorem bitOr_by (x y : Int) : By (bitOr .u8 x y) := by
  unfold bitOr By
  show 0 ≤ IntKind.u8.wrap _ ∧ IntKind.u8.wrap _ < 256
  rw [wrap_u8]; omega
theorem allBy_set {l : List Int} (h : AllBy l) {i : Nat} {x : Int} (hx : By x) : AllBy (l.set i x) := fun z hz => by
  rcases List.mem_or_eq_of_mem_set hz with k | k
  · exact h z k
  · subst k; exact hx
theorem secL_by (s : List Int) : AllBy (secL s) := allBy_set (allBy_set ((sha_by s).take 32) (bitAndNot_by _ _)) (bitOr_by _ _)
theorem secL_ok (s : List Int) : okB (secL s) := ⟨secL_len s, secL_by s⟩
theorem redB_ok (b : List Int) : okB (redB b) := ⟨dg_length _ _, dg_in (by decide) _ _⟩
theorem pre_len (c : List Int) : (preL c).length ≤ 289 := by unfold preL domL; split <;> simp; omega
noncomputable abbrev chalE : Ent := eCh chalL
theorem chal_tree (sha pre red : List Int → List Int) (c r p m : List Int) : fnT Try.prog [(30, eSha sha), (28, ePre pre), (61, e64B red)] [] Try.f62 ((chA).wr (c, r, p, m, ())) [] kK =
    End.need ((0 : Int) ≤ (0 : Int) ∧ (0 : Int) ≤ (32 : Int) ∧ (32 : Int) ≤ (32 : Int))
      (End.need ((0 : Int) ≤ (0 : Int) ∧ (0 : Int) ≤ (32 : Int) ∧ (32 : Int) ≤ (32 : Int))
        (End.need ((0 : Int) ≤ (0 : Int) ∧ (0 : Int) ≤ (64 : Int) ∧ (64 : Int) ≤ (64 : Int))
          (End.need
            ((4 : Nat) < (2305843009213693952 : Nat) ∧
              [pre c, List.take (32 : Nat) (List.drop (0 : Nat) r), List.take (32 : Nat) (List.drop (0 : Nat) p),
                      List.take (64 : Nat) (List.drop (0 : Nat) m)].flatten.length <
                (1152921504606846976 : Nat))
            (End.need
              ((sha
                      [pre c, List.take (32 : Nat) (List.drop (0 : Nat) r), List.take (32 : Nat) (List.drop (0 : Nat) p),
                          List.take (64 : Nat) (List.drop (0 : Nat) m)].flatten).length =
                  (64 : Nat) ∧
                AllBy
                  (sha
                    [pre c, List.take (32 : Nat) (List.drop (0 : Nat) r), List.take (32 : Nat) (List.drop (0 : Nat) p),
                        List.take (64 : Nat) (List.drop (0 : Nat) m)].flatten))
              (End.leaf
                (LV.one
                  (VV.agg
                    [SV.arr (Ty.int IntKind.u8) (32 : Nat)
                        (red
                          (sha
                            [pre c, List.take (32 : Nat) (List.drop (0 : Nat) r),
                                List.take (32 : Nat) (List.drop (0 : Nat) p),
                                List.take (64 : Nat) (List.drop (0 : Nat) m)].flatten))]))
                []))))) := by kernel_rfl
theorem chal_tab_ : ∀ p_ ∈ ([(30, eSha shaF), (28, ePre preL), (61, e64B redB)] : List (FuncId × Ent)), p_.2.Ok Try.prog p_.1 := (tabC of'_ok (tabC pre_ok (tabC sReduce_ok tab0)))
theorem chal_ok : chalE.Ok Try.prog 62 := by
  refine (Ent.ofOk Try.call62 fun x_ y_ Q H_ => ?_).sym
  obtain ⟨c, r, p, m, _⟩ := x_
  obtain ⟨hn, hq⟩ := H_
  have hn : r.length = 32 ∧ p.length = 32 ∧ m.length = 64 := hn
  refine (fnT_ok (tab := [(30, eSha shaF), (28, ePre preL), (61, e64B redB)]) mixed chal_tab_ Try.func62 rfl (LT := []) (ks := kK) (LOk.nil _)).use (D := []) ?_ hq
  show (fnT _ _ _ _ ((chA).wr (c, r, p, m, ())) [] _).sat _
  rw [chal_tree shaF preL redB]
  rw [take_all hn.1, take_all hn.2.1, take_all hn.2.2]
  have h1 := pre_len c
  have e : [preL c, r, p, m].flatten = preL c ++ (r ++ (p ++ m)) := by simp
  rw [e]
  refine ⟨by decide, by decide, by decide, ⟨by decide, by simp; omega⟩, ⟨sha_length _, sha_by _⟩, rfl, rfl⟩
abbrev siA : Cod (List LV) (List Int × List Int × List Int × Unit) := lCons cB (lCons (vOne (sRd false false u8)) (lCons row64 lNil))
abbrev nSi (r : List Int × Int) : LV := .tup [.agg [.arr (.int .u8) 64 r.1], .sc (.int .i64 (.sym r.2))]
def eSi (g : List Int → List Int → List Int → List Int × Int) : Ent := Ent.ofS [none, some u8, none] siA lNil fun x _ => .leaf (some (x.1.length = 32 ∧ x.2.2.1.length = 64)) (nSi (g x.1 x.2.1 x.2.2.1)) []
noncomputable def nonL (s c m : List Int) : List Int := redB (shaF (preL c ++ ((shaF s).drop 32 ++ m)))
noncomputable def sigL (s c m : List Int) : List Int := encodeL (mbaseL (nonL s c m)) ++ mulB (chalL c (encodeL (mbaseL (nonL s c m))) (pubL s) m) (secL s) (nonL s c m)
theorem signL_ex : ∃ f : List Int → List Int → List Int → List Int × Int, ∀ (s c m : List Int) , f s c m = (if c.length ≤ 255 then (sigL s c m, 0) else (List.replicate 64 0, 1)) := ⟨fun s c m => if c.length ≤ 255 then (sigL s c m, 0) else (List.replicate 64 0, 1), fun _ _ _ => rfl⟩
noncomputable def signL : List Int → List Int → List Int → List Int × Int := Classical.choose signL_ex
theorem signL_eq (s c m : List Int)  : signL s c m = (if c.length ≤ 255 then (sigL s c m, 0) else (List.replicate 64 0, 1)) := Classical.choose_spec signL_ex s c m
theorem encodeL_len (p : Pt) : (encodeL p).length = 32 := Vec.toList_length _
theorem pubL_len (s : List Int) : (pubL s).length = 32 := by unfold pubL; exact encodeL_len _
theorem chalL_ok (c r p m : List Int) : okB (chalL c r p m) := by unfold chalL; exact redB_ok _
theorem mulB_len (a b c : List Int) : (mulB a b c).length = 32 := dg_length _ _
theorem sign_tree0 (sec sha pre red : List Int → List Int) (mb : List Int → Pt) (en : Pt → List Int) (pub : List Int → List Int) (ch : List Int → List Int → List Int → List Int → List Int) (mul : List Int → List Int → List Int → List Int) (s c m : List Int) : fnT Try.prog [(60, ePa sec sha), (30, eSha sha), (28, ePre pre), (61, e64B red), (18, eMb mb), (38, eEn en), (27, ePub pub), (62, eCh ch), (22, eB3 mul), (63, eCat)] [] Try.f24 (siA.wr (s, c, m, ())) [] [.fr [.sym], .auto] =
    End.ite (decide ((255 : Int) < (↑c.length : Int)))
      (End.leaf
        (LV.tup
          [VV.agg [SV.arr (Ty.int IntKind.u8) (64 : Nat) (List.replicate (64 : Nat) (0 : Int))],
            VV.sc (SV.int IntKind.i64 (SI.sym (1 : Int)))])
        [])
      (End.need (s.length = (32 : Nat))
        (End.need ((0 : Int) ≤ (0 : Int) ∧ (0 : Int) ≤ (64 : Int) ∧ (64 : Int) ≤ (64 : Int))
          (End.need
            ((3 : Nat) < (2305843009213693952 : Nat) ∧
              [pre c, List.take (32 : Nat) (List.drop (32 : Nat) (sha s)),
                      List.take (64 : Nat) (List.drop (0 : Nat) m)].flatten.length <
                (1152921504606846976 : Nat))
            (End.need
              ((sha
                      [pre c, List.take (32 : Nat) (List.drop (32 : Nat) (sha s)),
                          List.take (64 : Nat) (List.drop (0 : Nat) m)].flatten).length =
                  (64 : Nat) ∧
                AllBy
                  (sha
                    [pre c, List.take (32 : Nat) (List.drop (32 : Nat) (sha s)),
                        List.take (64 : Nat) (List.drop (0 : Nat) m)].flatten))
              (End.need
                ((red
                      (sha
                        [pre c, List.take (32 : Nat) (List.drop (32 : Nat) (sha s)),
                            List.take (64 : Nat) (List.drop (0 : Nat) m)].flatten)).length =
                  (32 : Nat))
                (End.need (s.length = (32 : Nat))
                  (End.need
                    ((en
                            (mb
                              (red
                                (sha
                                  [pre c, List.take (32 : Nat) (List.drop (32 : Nat) (sha s)),
                                      List.take (64 : Nat) (List.drop (0 : Nat) m)].flatten)))).length =
                        (32 : Nat) ∧
                      (pub s).length = (32 : Nat) ∧ m.length = (64 : Nat))
                    (End.need
                      (okB
                          (ch c
                            (en
                              (mb
                                (red
                                  (sha
                                    [pre c, List.take (32 : Nat) (List.drop (32 : Nat) (sha s)),
                                        List.take (64 : Nat) (List.drop (0 : Nat) m)].flatten))))
                            (pub s) m) ∧
                        okB (sec s) ∧
                          okB
                            (red
                              (sha
                                [pre c, List.take (32 : Nat) (List.drop (32 : Nat) (sha s)),
                                    List.take (64 : Nat) (List.drop (0 : Nat) m)].flatten)))
                      (End.need ((0 : Int) ≤ (0 : Int) ∧ (0 : Int) ≤ (32 : Int) ∧ (32 : Int) ≤ (32 : Int))
                        (End.need ((0 : Int) ≤ (0 : Int) ∧ (0 : Int) ≤ (32 : Int) ∧ (32 : Int) ≤ (32 : Int))
                          (End.need
                            ([List.take (32 : Nat)
                                        (List.drop (0 : Nat)
                                          (en
                                            (mb
                                              (red
                                                (sha
                                                  [pre c, List.take (32 : Nat) (List.drop (32 : Nat) (sha s)),
                                                      List.take (64 : Nat) (List.drop (0 : Nat) m)].flatten))))),
                                      List.take (32 : Nat)
                                        (List.drop (0 : Nat)
                                          (mul
                                            (ch c
                                              (en
                                                (mb
                                                  (red
                                                    (sha
                                                      [pre c, List.take (32 : Nat) (List.drop (32 : Nat) (sha s)),
                                                          List.take (64 : Nat) (List.drop (0 : Nat) m)].flatten))))
                                              (pub s) m)
                                            (sec s)
                                            (red
                                              (sha
                                                [pre c, List.take (32 : Nat) (List.drop (32 : Nat) (sha s)),
                                                    List.take (64 : Nat)
                                                      (List.drop (0 : Nat) m)].flatten))))].flatten.length ≤
                                (70368744177664 : Nat) ∧
                              (2 : Nat) ≤ (140737488355328 : Nat))
                            (End.need
                              ((64 : Nat) ≤
                                [List.take (32 : Nat)
                                        (List.drop (0 : Nat)
                                          (en
                                            (mb
                                              (red
                                                (sha
                                                  [pre c, List.take (32 : Nat) (List.drop (32 : Nat) (sha s)),
                                                      List.take (64 : Nat) (List.drop (0 : Nat) m)].flatten))))),
                                      List.take (32 : Nat)
                                        (List.drop (0 : Nat)
                                          (mul
                                            (ch c
                                              (en
                                                (mb
                                                  (red
                                                    (sha
                                                      [pre c, List.take (32 : Nat) (List.drop (32 : Nat) (sha s)),
                                                          List.take (64 : Nat) (List.drop (0 : Nat) m)].flatten))))
                                              (pub s) m)
                                            (sec s)
                                            (red
                                              (sha
                                                [pre c, List.take (32 : Nat) (List.drop (32 : Nat) (sha s)),
                                                    List.take (64 : Nat)
                                                      (List.drop (0 : Nat) m)].flatten))))].flatten.length)
                              (End.need
                                ((64 : Nat) ≤
                                  [List.take (32 : Nat)
                                          (List.drop (0 : Nat)
                                            (en
                                              (mb
                                                (red
                                                  (sha
                                                    [pre c, List.take (32 : Nat) (List.drop (32 : Nat) (sha s)),
                                                        List.take (64 : Nat) (List.drop (0 : Nat) m)].flatten))))),
                                        List.take (32 : Nat)
                                          (List.drop (0 : Nat)
                                            (mul
                                              (ch c
                                                (en
                                                  (mb
                                                    (red
                                                      (sha
                                                        [pre c, List.take (32 : Nat) (List.drop (32 : Nat) (sha s)),
                                                            List.take (64 : Nat) (List.drop (0 : Nat) m)].flatten))))
                                                (pub s) m)
                                              (sec s)
                                              (red
                                                (sha
                                                  [pre c, List.take (32 : Nat) (List.drop (32 : Nat) (sha s)),
                                                      List.take (64 : Nat)
                                                        (List.drop (0 : Nat) m)].flatten))))].flatten.length)
                                (End.leaf
                                  (LV.tup
                                    [VV.agg
                                        [SV.arr (Ty.int IntKind.u8) (64 : Nat)
                                            (List.take (64 : Nat)
                                              (List.drop (0 : Nat)
                                                [List.take (32 : Nat)
                                                      (List.drop (0 : Nat)
                                                        (en
                                                          (mb
                                                            (red
                                                              (sha
                                                                [pre c, List.take (32 : Nat) (List.drop (32 : Nat) (sha s)),
                                                                    List.take (64 : Nat)
                                                                      (List.drop (0 : Nat) m)].flatten))))),
                                                    List.take (32 : Nat)
                                                      (List.drop (0 : Nat)
                                                        (mul
                                                          (ch c
                                                            (en
                                                              (mb
                                                                (red
                                                                  (sha
                                                                    [pre c,
                                                                        List.take (32 : Nat) (List.drop (32 : Nat) (sha s)),
                                                                        List.take (64 : Nat)
                                                                          (List.drop (0 : Nat) m)].flatten))))
                                                            (pub s) m)
                                                          (sec s)
                                                          (red
                                                            (sha
                                                              [pre c, List.take (32 : Nat) (List.drop (32 : Nat) (sha s)),
                                                                  List.take (64 : Nat)
                                                                    (List.drop (0 : Nat) m)].flatten))))].flatten))],
                                      VV.sc (SV.int IntKind.i64 (SI.sym (0 : Int)))])
                                  [])))))))))))))) := by kernel_rfl
theorem sign_sat (sec sha pre red : List Int → List Int) (mb : List Int → Pt) (en : Pt → List Int) (pub : List Int → List Int) (ch : List Int → List Int → List Int → List Int → List Int) (mul : List Int → List Int → List Int → List Int) {s c m : List Int} (hs : s.length = 32) (hm : m.length = 64) (h1 : ∀ b, (sha b).length = 64) (h2 : ∀ b, AllBy (sha b)) (h3 : ∀ b, okB (red b)) (h4 : ∀ q, (en q).length = 32) (h5 : (pub s).length = 32) (h6 : ∀ a b c d, okB (ch a b c d)) (h7 : okB (sec s)) (h8 : ∀ a b c, (mul a b c).length = 32) (h9 : (pre c).length ≤ 289) :
    ∃ t_ : Ev.End, fnT Try.prog [(60, ePa sec sha), (30, eSha sha), (28, ePre pre), (61, e64B red), (18, eMb mb), (38, eEn en), (27, ePub pub), (62, eCh ch), (22, eB3 mul), (63, eCat)] [] Try.f24 (siA.wr (s, c, m, ())) [] [.fr [.sym], .auto] = t_ ∧ t_.sat fun v hp' => v = nSi (if c.length ≤ 255 then (en (mb (red (sha (pre c ++ ((sha s).drop 32 ++ m))))) ++ mul (ch c (en (mb (red (sha (pre c ++ ((sha s).drop 32 ++ m)))))) (pub s) m) (sec s) (red (sha (pre c ++ ((sha s).drop 32 ++ m)))), 0) else (List.replicate 64 0, 1)) ∧ hp' = [] := by
  refine ⟨_, sign_tree0 .., ?_⟩
  have e1 : List.take 32 (List.drop 32 (sha s)) = (sha s).drop 32 := List.take_of_length_le (by rw [List.length_drop, h1]; decide)
  have e2 : List.take 64 (List.drop 0 m) = m := take_all hm
  have e3 : [pre c, (sha s).drop 32, m].flatten = pre c ++ ((sha s).drop 32 ++ m) := by simp
  rw [e1, e2, e3]
  have l1 : (pre c ++ ((sha s).drop 32 ++ m)).length < 1152921504606846976 := by simp [h1, hm]; omega
  have l2 := h3 (sha (pre c ++ ((sha s).drop 32 ++ m)))
  generalize red (sha (pre c ++ ((sha s).drop 32 ++ m))) = n at *
  have l3 : ∀ {l : List Int}, l.length = 32 → List.take 32 (List.drop 0 l) = l := fun h => take_all h
  rw [l3 (h4 _), l3 (h8 _ _ _)]
  have l4 : ∀ a b : List Int, [a, b].flatten = a ++ b := fun a b => by simp
  have l5 : (en (mb n) ++ mul (ch c (en (mb n)) (pub s) m) (sec s) n).length = 64 := by rw [List.length_append, h4, h8]
  rw [l4, take_all l5]
  refine ⟨fun h => ?_, fun h => ?_⟩
  · have h := of_decide_eq_true h
    rw [if_neg (by omega)]; exact ⟨rfl, rfl⟩
  · have h := of_decide_eq_false h
    rw [if_pos (by omega)]
    exact ⟨hs, by decide, ⟨by decide, l1⟩, ⟨h1 _, h2 _⟩, l2.1, hs, ⟨h4 _, h5, hm⟩, ⟨h6 _ _ _ _, h7, l2⟩, by decide, by decide, ⟨by omega, by decide⟩, by omega, by omega, rfl, rfl⟩
theorem signRes_eq (s c m : List Int) : signL s c m = (if c.length ≤ 255 then (encodeL (mbaseL (redB (shaF (preL c ++ ((shaF s).drop 32 ++ m))))) ++ mulB (chalL c (encodeL (mbaseL (redB (shaF (preL c ++ ((shaF s).drop 32 ++ m)))))) (pubL s) m) (secL s) (redB (shaF (preL c ++ ((shaF s).drop 32 ++ m)))), 0) else (List.replicate 64 0, 1)) := by rw [signL_eq, sigL, nonL]
noncomputable abbrev signE : Ent := eSi signL
theorem sign_tab_ : ∀ p_ ∈ ([(60, ePa secL shaF), (30, eSha shaF), (28, ePre preL), (61, e64B redB), (18, eMb mbaseL), (38, eEn encodeL), (27, ePub pubL), (62, eCh chalL), (22, eB3 mulB), (63, eCat)] : List (FuncId × Ent)), p_.2.Ok Try.prog p_.1 := (tabC sparts_ok (tabC of'_ok (tabC pre_ok (tabC sReduce_ok (tabC mbase_ok (tabC qencode_ok (tabC pub_ok (tabC chal_ok (tabC sMulAdd_ok (tabC cat'_ok tab0))))))))))
theorem sign_ok : signE.Ok Try.prog 24 := by
  refine (Ent.ofOk Try.call24 fun x_ y_ Q H_ => ?_).sym
  obtain ⟨s, c, m, _⟩ := x_
  obtain ⟨hn, hq⟩ := H_
  have hn : s.length = 32 ∧ m.length = 64 := hn
  have hc_ : CallsT Try.prog 24 ((siA).wr (s, c, m, ())) [] (fnT Try.prog [(60, ePa secL shaF), (30, eSha shaF), (28, ePre preL), (61, e64B redB), (18, eMb mbaseL), (38, eEn encodeL), (27, ePub pubL), (62, eCh chalL), (22, eB3 mulB), (63, eCat)] [] Try.f24 ((siA).wr (s, c, m, ())) [] [.fr [.sym], .auto]) := fnT_ok mixed sign_tab_ Try.func24 rfl (LOk.nil _)
  obtain ⟨t_, ht_, hs_⟩ := sign_sat secL shaF preL redB mbaseL encodeL pubL chalL mulB hn.1 hn.2 sha_length sha_by redB_ok encodeL_len (pubL_len s) chalL_ok (secL_ok s) mulB_len (pre_len c)
  rw [← signRes_eq s c m] at hs_
  rw [ht_] at hc_
  exact hc_.use (D := []) hs_ hq
abbrev veA : Cod (List LV) (List Int × List Int × List Int × List Int × Unit) := lCons cB (lCons (vOne (sRd false false u8)) (lCons row64 (lCons row64 lNil)))
def eVe (g : List Int → List Int → List Int → List Int → Bool) : Ent := Ent.ofS [none, some u8, none, none] veA lNil fun x _ => .leaf (some (x.1.length = 32 ∧ x.2.2.1.length = 64 ∧ x.2.2.2.1.length = 64 ∧ AllBy x.2.2.2.1)) (nB (g x.1 x.2.1 x.2.2.1 x.2.2.2.1)) []
theorem verL_ex : ∃ f : List Int → List Int → List Int → List Int → Bool, ∀ (p c m g : List Int) , f p c m g = ((decodeL p).2 && (decide (c.length ≤ 255) && (canB (g.drop 32) && decide (encodeL (twoL (chalL c (g.take 32) p m) (negPC (decodeL p).1) (g.drop 32)) = g.take 32)))) := ⟨fun p c m g => (decodeL p).2 && (decide (c.length ≤ 255) && (canB (g.drop 32) && decide (encodeL (twoL (chalL c (g.take 32) p m) (negPC (decodeL p).1) (g.drop 32)) = g.take 32))), fun _ _ _ _ => rfl⟩
noncomputable def verL : List Int → List Int → List Int → List Int → Bool := Classical.choose verL_ex
theorem verL_eq (p c m g : List Int)  : verL p c m g = ((decodeL p).2 && (decide (c.length ≤ 255) && (canB (g.drop 32) && decide (encodeL (twoL (chalL c (g.take 32) p m) (negPC (decodeL p).1) (g.drop 32)) = g.take 32)))) := Classical.choose_spec verL_ex p c m g
theorem take32 {l : List Int} (h : l.length = 32) : List.take 32 (List.drop 0 l) = l := take_all h
theorem verify_tree0 (de : List Int → Pt × Bool) (can : List Int → Bool) (two : List Int → Pt → List Int → Pt) (ch : List Int → List Int → List Int → List Int → List Int) (neg : Pt → Pt) (en : Pt → List Int) (p c m g : List Int) : fnT Try.prog [(11, eDe de), (64, eBB can), (65, eTw two), (62, eCh ch), (15, e1Q neg), (38, eEn en)] [] Try.f26 (veA.wr (p, c, m, g, ())) [] kK =
    End.need ((0 : Int) ≤ (0 : Int) ∧ (0 : Int) ≤ (32 : Int) ∧ (32 : Int) ≤ (64 : Int))
      (End.need ((32 : Nat) ≤ (List.take (32 : Nat) (List.drop (0 : Nat) g)).length)
        (End.need ((32 : Nat) ≤ (List.take (32 : Nat) (List.drop (0 : Nat) g)).length)
          (End.need ((0 : Int) ≤ (32 : Int) ∧ (32 : Int) ≤ (64 : Int) ∧ (64 : Int) ≤ (64 : Int))
            (End.need ((32 : Nat) ≤ (List.take (32 : Nat) (List.drop (32 : Nat) g)).length)
              (End.need ((32 : Nat) ≤ (List.take (32 : Nat) (List.drop (32 : Nat) g)).length)
                (End.need (p.length = (32 : Nat))
                  (End.ite ((!(de p).snd) == false)
                    (End.ite (decide ((255 : Int) < (↑c.length : Int)) == false)
                      (End.need
                        (okB (List.take (32 : Nat) (List.drop (0 : Nat) (List.take (32 : Nat) (List.drop (32 : Nat) g)))))
                        (End.ite
                          (!can
                              (List.take (32 : Nat) (List.drop (0 : Nat) (List.take (32 : Nat) (List.drop (32 : Nat) g)))))
                          (End.leaf (LV.one (VV.sc (SV.bool (SB.sym false)))) [])
                          (End.need
                            ((List.take (32 : Nat)
                                    (List.drop (0 : Nat) (List.take (32 : Nat) (List.drop (0 : Nat) g)))).length =
                                (32 : Nat) ∧
                              p.length = (32 : Nat) ∧ m.length = (64 : Nat))
                            (End.need
                              ((ch c
                                      (List.take (32 : Nat)
                                        (List.drop (0 : Nat) (List.take (32 : Nat) (List.drop (0 : Nat) g))))
                                      p m).length =
                                  (32 : Nat) ∧
                                (List.take (32 : Nat)
                                      (List.drop (0 : Nat) (List.take (32 : Nat) (List.drop (32 : Nat) g)))).length =
                                  (32 : Nat))
                              (End.leaf
                                (LV.one
                                  (VV.sc
                                    (SV.bool
                                      (SB.sym
                                        (decide
                                          (en
                                              (two
                                                (ch c
                                                  (List.take (32 : Nat)
                                                    (List.drop (0 : Nat) (List.take (32 : Nat) (List.drop (0 : Nat) g))))
                                                  p m)
                                                (neg (de p).fst)
                                                (List.take (32 : Nat)
                                                  (List.drop (0 : Nat) (List.take (32 : Nat) (List.drop (32 : Nat) g))))) =
                                            List.take (32 : Nat)
                                              (List.drop (0 : Nat) (List.take (32 : Nat) (List.drop (0 : Nat) g)))))))))
                                [])))))
                      (End.leaf (LV.one (VV.sc (SV.bool (SB.sym false)))) []))
                    (End.leaf (LV.one (VV.sc (SV.bool (SB.sym false)))) [])))))))) := by kernel_rfl
theorem verify_sat (de : List Int → Pt × Bool) (can : List Int → Bool) (two : List Int → Pt → List Int → Pt) (ch : List Int → List Int → List Int → List Int → List Int) (neg : Pt → Pt) (en : Pt → List Int) {p c m g : List Int} (h1 : p.length = 32) (h2 : m.length = 64) (h3 : g.length = 64) (h4 : AllBy g) (h5 : ∀ a b c d, (ch a b c d).length = 32) :
    ∃ t_ : Ev.End, fnT Try.prog [(11, eDe de), (64, eBB can), (65, eTw two), (62, eCh ch), (15, e1Q neg), (38, eEn en)] [] Try.f26 (veA.wr (p, c, m, g, ())) [] kK = t_ ∧ t_.sat fun v hp' => v = nB ((de p).2 && (decide (c.length ≤ 255) && (can (g.drop 32) && decide (en (two (ch c (g.take 32) p m) (neg (de p).1) (g.drop 32)) = g.take 32)))) ∧ hp' = [] := by
  refine ⟨_, verify_tree0 .., ?_⟩
  have l1 : (g.take 32).length = 32 := by rw [List.length_take, h3]; decide
  have l2 : (g.drop 32).length = 32 := by rw [List.length_drop, h3]
  have e1 : List.take 32 (List.drop 32 g) = g.drop 32 := List.take_of_length_le (by omega)
  have e2 : List.take 32 (List.drop 0 g) = g.take 32 := by rw [List.drop_zero]
  rw [e1, e2, take32 l1, take32 l2]
  have hb : AllBy (g.drop 32) := h4.drop 32
  generalize de p = d at *
  generalize g.take 32 = r at *
  generalize g.drop 32 = s at *
  obtain ⟨a, ok⟩ := d
  refine ⟨by decide, by omega, by omega, by decide, by omega, by omega, h1, ?_⟩
  cases ok
  · exact ⟨fun h => (by cases h), fun _ => ⟨rfl, rfl⟩⟩
  · refine ⟨fun _ => ⟨fun h => ⟨⟨l2, hb⟩, fun h' => ?_, fun h' => ⟨⟨l1, h1, h2⟩, ⟨h5 _ _ _ _, l2⟩, ?_, rfl⟩⟩, fun h => ?_⟩, fun h => (by cases h)⟩
    · have h' : can s = false := by simpa using h'
      rw [h']; simp; exact ⟨rfl, rfl⟩
    · have h' : can s = true := by simpa using h'
      have h : c.length ≤ 255 := by simp at h; omega
      rw [h', decide_eq_true h]; simp
    · have h : ¬ c.length ≤ 255 := by simp at h; omega
      rw [decide_eq_false h]; simp; exact ⟨rfl, rfl⟩
noncomputable abbrev verifyE : Ent := eVe verL
theorem verify_tab_ : ∀ p_ ∈ ([(11, eDe decodeL), (64, eBB canB), (65, eTw twoL), (62, eCh chalL), (15, e1Q negPC), (38, eEn encodeL)] : List (FuncId × Ent)), p_.2.Ok Try.prog p_.1 := (tabC qdecode_ok (tabC sCanon_ok (tabC mtwo_ok (tabC chal_ok (tabC qneg_ok (tabC qencode_ok tab0))))))
theorem verify_ok : verifyE.Ok Try.prog 26 := by
  refine (Ent.ofOk Try.call26 fun x_ y_ Q H_ => ?_).sym
  obtain ⟨p, c, m, g, _⟩ := x_
  obtain ⟨hn, hq⟩ := H_
  have hn : p.length = 32 ∧ m.length = 64 ∧ g.length = 64 ∧ AllBy g := hn
  have hc_ : CallsT Try.prog 26 ((veA).wr (p, c, m, g, ())) [] (fnT Try.prog [(11, eDe decodeL), (64, eBB canB), (65, eTw twoL), (62, eCh chalL), (15, e1Q negPC), (38, eEn encodeL)] [] Try.f26 ((veA).wr (p, c, m, g, ())) [] kK) := fnT_ok mixed verify_tab_ Try.func26 rfl (LOk.nil _)
  obtain ⟨t_, ht_, hs_⟩ := verify_sat decodeL canB twoL chalL negPC encodeL hn.1 hn.2.1 hn.2.2.1 hn.2.2.2 (fun a b c d => (chalL_ok a b c d).1)
  rw [← verL_eq p c m g] at hs_
  rw [ht_] at hc_
  exact hc_.use (D := []) hs_ hq
end Go.Proofs.Ythdfifcgobfgdaa
end

section
set_option linter.unusedVariables false
set_option linter.unusedSimpArgs false
namespace BJ
abbrev N4 := Nat × Nat × Nat × Nat
def mulN (a b : Nat) : Nat := a * b % pp
def addN (a b : Nat) : Nat := (a + b) % pp
def subN (a b : Nat) : Nat := (pp - b + a) % pp
def ddN : Nat := 37095705934669439343138083508754565189542113879843219016388785533085940283555
def plusN (p q : N4) : N4 :=
  let a := mulN (subN p.2.1 p.1) (subN q.2.1 q.1)
  let b := mulN (addN p.2.1 p.1) (addN q.2.1 q.1)
  let c := addN (mulN (mulN p.2.2.2 q.2.2.2) ddN) (mulN (mulN p.2.2.2 q.2.2.2) ddN)
  let d := addN (mulN p.2.2.1 q.2.2.1) (mulN p.2.2.1 q.2.2.1)
  (mulN (subN b a) (subN d c), mulN (addN d c) (addN b a), mulN (subN d c) (addN d c), mulN (subN b a) (addN b a))
def vals (p : E4) : N4 := (p.1.val, p.2.1.val, p.2.2.1.val, p.2.2.2.val)
theorem plusN_vals (p q : E4) : plusN (vals p) (vals q) = vals (addE p q) := by
  have hd : dd.val = ddN := rfl
  simp only [plusN, vals, addE, mulN, addN, subN, Fin.val_mul, Fin.val_add, Fin.sub_def, hd]
def stepN (V : Nat) (p : N4) (k : Nat) (r : N4) : N4 := bif Nat.beq (V / 2 ^ (255 - k) % 2) 1 then plusN (plusN r r) p else plusN r r
end BJ
namespace Go.Proofs.Ythdfifcgobfgdaa
open Go Go.Ev BJ
theorem stepN_vals (V : Nat) (p : E4) (k : Nat) (r : E4) : stepN V (vals p) k (vals r) = vals (stepE4 V p k r) := by
  unfold stepN stepE4 bitE
  rw [plusN_vals, plusN_vals]
  by_cases h : V / 2 ^ (255 - k) % 2 = 1
  · rw [decide_eq_true h, h]; rfl
  · have e : Nat.beq (V / 2 ^ (255 - k) % 2) 1 = false := by
      cases e : Nat.beq (V / 2 ^ (255 - k) % 2) 1 with
      | false => rfl
      | true => exact absurd (Nat.eq_of_beq_eq_true e) h
    rw [decide_eq_false h, e]; rfl
def zeroN : N4 := (0, 1, 1, 0)
def baseN : N4 := (15112221349535400772501151409588531511454012693041857206046113283949847762202, 46316835694926478169428394003475163141307993866256225615783033603165251855960, 1, 46827403850823179245072216630277197565144205554125654976674165829533817101731)
theorem zeroN_eq : zeroN = vals zeroE := rfl
theorem baseN_eq : baseN = vals (affE baseX baseY) := by decide +kernel
def multN (V : Nat) : N4 := rnds (stepN V baseN) 256 zeroN
theorem multN_vals (V : Nat) : multN V = vals (multE V (affE baseX baseY)) := by
  have key : ∀ k, rnds (stepN V baseN) k zeroN = vals (rnds (stepE4 V (affE baseX baseY)) k zeroE) := by
    intro k
    induction k with
    | zero => exact zeroN_eq
    | succ k ih =>
      simp only [rnds]
      rw [ih, baseN_eq, stepN_vals]
  exact key 256
/-- a multiple of the base, reckoned: its two numbers, by what lies below -/
def isN (V x y : Nat) : Bool := (fun r : N4 => Nat.beq r.1 (mulN x r.2.2.1) && Nat.beq r.2.1 (mulN y r.2.2.1)) (multN V)
theorem isN_pt {V x y : Nat} (hV : V < 2 ^ 256) (hx : x < pp) (hy : y < pp) (h : isN V x y = true) : (nsm V baseP).x.val = x ∧ (nsm V baseP).y.val = y := by
  have hi : IsP (multE V (affE baseX baseY)) (nsm V baseP) := mult_isP hV (isP_aff baseP)
  unfold isN at h
  rw [multN_vals] at h
  generalize multE V (affE baseX baseY) = p at *
  generalize nsm V baseP = P at *
  obtain ⟨h0, h1, h2, _⟩ := hi
  simp only [Bool.and_eq_true] at h
  have e1 : p.1.val = x * p.2.2.1.val % pp := Nat.eq_of_beq_eq_true h.1
  have e2 : p.2.1.val = y * p.2.2.1.val % pp := Nat.eq_of_beq_eq_true h.2
  have f1 : p.1 = (⟨x, hx⟩ : F) * p.2.2.1 := Fin.ext (by rw [e1, Fin.val_mul])
  have f2 : p.2.1 = (⟨y, hy⟩ : F) * p.2.2.1 := Fin.ext (by rw [e2, Fin.val_mul])
  rw [h1] at f1
  rw [h2] at f2
  have c : ∀ {a b : F}, a * p.2.2.1 = b * p.2.2.1 → a = b := fun {a b} e => by
    have h3 : p.2.2.1 * F.inv p.2.2.1 = 1 := F.inv_mul h0
    have e' := congrArg (fun z => z * F.inv p.2.2.1) e
    grobner
  exact ⟨by rw [c f1], by rw [c f2]⟩
def llN : Nat := 7237005577332262213973186563042994240857116359379907606001950938285454250989
theorem order_raw : isN llN 0 1 = true := by decide +kernel
theorem order_zero : nsm llN baseP = BJ.Pt.zero := by
  obtain ⟨h1, h2⟩ := isN_pt (V := llN) (by decide) (by decide) (by decide) order_raw
  exact BJ.Pt.ext' (Fin.ext h1) (Fin.ext h2)
theorem base_ne : baseP ≠ BJ.Pt.zero := fun h => by
  have := congrArg (fun P : BJ.Pt => P.x.val) h
  revert this
  decide
theorem nsm_mul_zero {m : Nat} (h : nsm m baseP = BJ.Pt.zero) (k : Nat) : nsm (k * m) baseP = BJ.Pt.zero := by
  rw [nsm_mul, h, nsm_zero]
theorem order_abs {n a : Nat} (hr : Root n a) (hz : nsm n baseP = BJ.Pt.zero) {m : Nat} (hm : nsm m baseP = BJ.Pt.zero) : m % n = 0 := by
  refine Classical.byContradiction fun h => base_ne ?_
  have hf := hr.fermat h
  have hn := hr.1
  have e : m ^ (n - 1) = m ^ (n - 2) * m := by rw [← Nat.pow_succ]; congr 1; omega
  have h1 : nsm (m ^ (n - 1)) baseP = BJ.Pt.zero := by rw [e]; exact nsm_mul_zero hm _
  have h2 : m ^ (n - 1) = m ^ (n - 1) / n * n + 1 := by
    have := Nat.div_add_mod (m ^ (n - 1)) n
    rw [hf, Nat.mul_comm] at this; exact this.symm
  rw [h2, nsm_add, nsm_mul_zero hz, nsm_one, BJ.Pt.zero_add] at h1
  exact h1
theorem order_dvd {m : Nat} (hm : nsm m baseP = BJ.Pt.zero) : m % llN = 0 := order_abs r7237005577332262213973186563042994240857116359379907606001950938285454250989 order_zero hm
theorem nsm_mod_abs {n : Nat} (hz : nsm n baseP = BJ.Pt.zero) (m : Nat) : nsm (m % n) baseP = nsm m baseP := by
  have h2 : m = m / n * n + m % n := by
    have := Nat.div_add_mod m n
    rw [Nat.mul_comm] at this; exact this.symm
  conv => rhs; rw [h2, nsm_add, nsm_mul_zero hz, BJ.Pt.zero_add]
theorem nsm_mod (m : Nat) : nsm (m % llN) baseP = nsm m baseP := nsm_mod_abs order_zero m
theorem nsm_inj_abs {n a : Nat} (hr : Root n a) (hz : nsm n baseP = BJ.Pt.zero) {k m : Nat} (h1 : k < n) (h2 : m < n) (h : nsm k baseP = nsm m baseP) : k = m := by
  have key : ∀ {k m : Nat}, k < n → m < n → k ≤ m → nsm k baseP = nsm m baseP → k = m := fun {k m} h1 h2 hle h => by
    have e : nsm (m - k) baseP = BJ.Pt.zero := by
      have e1 : m = k + (m - k) := by omega
      rw [e1, nsm_add] at h
      have e2 : (nsm k baseP).add BJ.Pt.zero = (nsm k baseP).add (nsm (m - k) baseP) := by rw [BJ.Pt.add_zero]; exact h
      exact (add_left e2).symm
    have := order_abs hr hz e
    rw [Nat.mod_eq_of_lt (by omega)] at this
    omega
  rcases Nat.le_total k m with h3 | h3
  · exact key h1 h2 h3 h
  · exact (key h2 h1 h3 h.symm).symm
theorem nsm_inj {k m : Nat} (h1 : k < llN) (h2 : m < llN) (h : nsm k baseP = nsm m baseP) : k = m := nsm_inj_abs r7237005577332262213973186563042994240857116359379907606001950938285454250989 order_zero h1 h2 h
end Go.Proofs.Ythdfifcgobfgdaa
end

section
set_option linter.unusedVariables false
set_option linter.unusedSimpArgs false
namespace Go.Proofs.Ythdfifcgobfgdaa
open Go Go.Ev BJ
theorem okV {n : Nat} : ∀ {v : Vec Int n}, OkB v → AllBy v.toList ∧ vd 256 v.toList = valB v := by
  induction n with
  | zero => exact fun {v} _ => ⟨(fun z hz => by cases hz), rfl⟩
  | succ n ih =>
    intro v h
    obtain ⟨h1, h2⟩ := ih h.2
    refine ⟨fun z hz => ?_, ?_⟩
    · rcases List.mem_cons.1 hz with rfl | hz
      · exact h.1
      · exact h1 z hz
    · show v.1 + 256 * vd 256 v.2.toList = v.1 + 256 * valB v.2
      rw [h2]
theorem okB_v32 {l : List Int} (h : okB l) : OkB (v32 l) ∧ valB (v32 l) = vd 256 l := by
  have h1 : OkB (v32 l) := OkB_ofFn fun i _ => InB.getD (by decide) h.2 i
  have := (okV h1).2
  rw [v32_toList h.1] at this
  exact ⟨h1, this.symm⟩
noncomputable def sc (n : List Int) : Nat := (vd 256 n).toNat
theorem rep_multL {n : List Int} (hn : okB n) {p : Pt} {P : BJ.Pt} (hp : Rep p P) : Rep (multL n p) (nsm (sc n) P) := by
  obtain ⟨h1, h2⟩ := okB_v32 hn
  rw [multL_eq, sc, ← h2]; exact rep_mult h1 hp
theorem rep_mbaseL {n : List Int} (hn : okB n) : Rep (mbaseL n) (nsm (sc n) baseP) := rep_multL hn rep_base
theorem rep_twoL {n m : List Int} (hn : okB n) (hm : okB m) {p : Pt} {P : BJ.Pt} (hp : Rep p P) : Rep (twoL n p m) ((nsm (sc n) P).add (nsm (sc m) baseP)) := by
  obtain ⟨h1, h2⟩ := okB_v32 hn
  obtain ⟨h3, h4⟩ := okB_v32 hm
  rw [twoL_eq, sc, sc, ← h2, ← h4]; exact two_rep h1 h3 hp
noncomputable def encQ (P : BJ.Pt) : List Int := (encP P).toList
theorem encQ_ok (P : BJ.Pt) : okB (encQ P) := ⟨Vec.toList_length _, (okV (dec_encP P).1).1⟩
theorem encQ_inj {P Q : BJ.Pt} (h : encQ P = encQ Q) : P = Q := encP_inj (Vec.toList_inj h)
theorem enc_of {p : Pt} {P : BJ.Pt} (h : Rep p P) : encodeL p = encQ P := by unfold encodeL encQ; rw [rep_enc h]
theorem dec_of (P : BJ.Pt) : (decodeL (encQ P)).2 = true ∧ Rep (decodeL (encQ P)).1 P := by
  obtain ⟨h1, h2⟩ := dec_encP P
  obtain ⟨d1, d2, d3⟩ := decode_pt h1
  unfold decodeL encQ
  rw [v32_of]
  refine ⟨by rw [d3, h2], d1, ?_⟩
  rw [d2, h2]; exact isP_aff P
theorem sc_dg {x : Int} (h : 0 ≤ x ∧ x < ll) : sc (dg 256 32 x) = x.toNat := by
  have e : ll < 256 ^ 32 := by decide +kernel
  unfold sc
  rw [vd_dg (by decide), Int.emod_eq_of_lt h.1 (by omega)]
theorem llN_eq : ((llN : Nat) : Int) = ll := rfl
theorem sc_mulB {a b c : List Int} (ha : okB a) (hb : okB b) (hc : okB c) : sc (mulB a b c) = (sc a * sc b + sc c) % llN := by
  unfold mulB
  rw [sc_dg ⟨Int.emod_nonneg _ (by have := ll_pos; omega), Int.emod_lt_of_pos _ ll_pos⟩]
  have h1 := ha.range.1
  have h2 := hb.range.1
  have h3 := hc.range.1
  unfold sc
  obtain ⟨x, hx⟩ := Int.eq_ofNat_of_zero_le h1
  obtain ⟨y, hy⟩ := Int.eq_ofNat_of_zero_le h2
  obtain ⟨z, hz⟩ := Int.eq_ofNat_of_zero_le h3
  rw [hx, hy, hz, ← llN_eq]
  simp only [Int.toNat_natCast]
  rw [← Int.natCast_mul, ← Int.natCast_add, ← Int.natCast_emod, Int.toNat_natCast]
theorem mulB_lt (a b c : List Int) : okB (mulB a b c) ∧ sc (mulB a b c) < llN := by
  refine ⟨⟨dg_length _ _, dg_in (by decide) _ _⟩, ?_⟩
  unfold mulB
  have h1 := Int.emod_nonneg (vd 256 a * vd 256 b + vd 256 c) (show ll ≠ 0 by have := ll_pos; omega)
  have h2 := Int.emod_lt_of_pos (vd 256 a * vd 256 b + vd 256 c) ll_pos
  rw [sc_dg ⟨h1, h2⟩]
  have := llN_eq
  omega
theorem canB_iff {s : List Int} (h : okB s) : canB s = true ↔ sc s < llN := by
  unfold canB sc
  have h1 := h.range.1
  have := llN_eq
  rw [decide_eq_true_iff]
  omega
theorem okB_ext {a b : List Int} (ha : okB a) (hb : okB b) (h : sc a = sc b) : a = b := by
  refine vd_inj (B := 256) (by decide) ha.2 hb.2 (by rw [ha.1, hb.1]) ?_
  unfold sc at h
  have h1 := ha.range.1
  have h2 := hb.range.1
  omega
theorem add_neg_self (P : BJ.Pt) : P.neg.add P = BJ.Pt.zero := by rw [BJ.Pt.add_comm]; exact BJ.Pt.add_neg P
/-- of a signature's first half: a second half is verified just if it is the one that was signed -/
theorem ver_iff {s c m t : List Int} (hc : c.length ≤ 255) (ht : okB t) (hs : s.length = 32) :
    verL (pubL s) c m (encodeL (mbaseL (nonL s c m)) ++ t) = decide (t = mulB (chalL c (encodeL (mbaseL (nonL s c m))) (pubL s) m) (secL s) (nonL s c m)) := by
  have hn : okB (nonL s c m) := redB_ok _
  have hr := rep_mbaseL hn
  have er := enc_of hr
  have ha := rep_mbaseL (secL_ok s)
  have ep : pubL s = encQ (nsm (sc (secL s)) baseP) := enc_of ha
  obtain ⟨d1, d2⟩ := dec_of (nsm (sc (secL s)) baseP)
  rw [← ep] at d1 d2
  have hk : okB (chalL c (encodeL (mbaseL (nonL s c m))) (pubL s) m) := chalL_ok _ _ _ _
  have hrl : (encodeL (mbaseL (nonL s c m))).length = 32 := encodeL_len _
  have t1 : (encodeL (mbaseL (nonL s c m)) ++ t).take 32 = encodeL (mbaseL (nonL s c m)) := by rw [List.take_left' hrl]
  have t2 : (encodeL (mbaseL (nonL s c m)) ++ t).drop 32 = t := by rw [List.drop_left' hrl]
  rw [verL_eq, t1, t2, d1, decide_eq_true hc, Bool.true_and, Bool.true_and]
  have h2 := rep_twoL hk ht (rep_neg d2)
  have e2 := enc_of h2
  rw [e2]
  have hmul := sc_mulB hk (secL_ok s) hn
  obtain ⟨hm1, hm2⟩ := mulB_lt (chalL c (encodeL (mbaseL (nonL s c m))) (pubL s) m) (secL s) (nonL s c m)
  generalize mulB (chalL c (encodeL (mbaseL (nonL s c m))) (pubL s) m) (secL s) (nonL s c m) = z at *
  generalize chalL c (encodeL (mbaseL (nonL s c m))) (pubL s) m = k at *
  rw [er]
  generalize nonL s c m = n at *
  generalize secL s = a at *
  have key : (nsm (sc k) (nsm (sc a) baseP).neg).add (nsm (sc t) baseP) = nsm (sc n) baseP ↔ nsm (sc t) baseP = nsm (sc z) baseP := by
    have e3 : nsm (sc z) baseP = (nsm (sc k) (nsm (sc a) baseP)).add (nsm (sc n) baseP) := by
      rw [hmul, nsm_mod, nsm_add, nsm_mul]
    rw [e3, nsm_neg]
    generalize nsm (sc k) (nsm (sc a) baseP) = X
    constructor
    · intro h
      rw [← h, ← BJ.Pt.add_assoc, BJ.Pt.add_neg, BJ.Pt.zero_add]
    · intro h
      rw [h, ← BJ.Pt.add_assoc, add_neg_self, BJ.Pt.zero_add]
  by_cases h : t = z
  · subst h
    rw [decide_eq_true rfl, (canB_iff ht).2 hm2, key.2 rfl]
    simp
  · rw [decide_eq_false h]
    cases hcan : canB t with
    | false => rfl
    | true =>
      rw [Bool.true_and]
      refine decide_eq_false fun h' => h ?_
      exact okB_ext ht hm1 (nsm_inj ((canB_iff ht).1 hcan) hm2 (key.1 (encQ_inj h')))
theorem sig_half (s c m : List Int) : okB ((sigL s c m).drop 32) ∧ (sigL s c m).length = 64 ∧ AllBy (sigL s c m) := by
  unfold sigL
  have e := rep_mbaseL (show okB (nonL s c m) from redB_ok _)
  have h1 := encQ_ok (nsm (sc (nonL s c m)) baseP)
  rw [← enc_of e] at h1
  have h2 := (mulB_lt (chalL c (encodeL (mbaseL (nonL s c m))) (pubL s) m) (secL s) (nonL s c m)).1
  rw [List.drop_left' h1.1]
  exact ⟨h2, by rw [List.length_append, h1.1, h2.1], h1.2.append h2.2⟩
/-- of what was signed: another second half -/
theorem ver_half {s c m t : List Int} (hc : c.length ≤ 255) (ht : okB t) (hs : s.length = 32) : verL (pubL s) c m ((sigL s c m).take 32 ++ t) = decide (t = (sigL s c m).drop 32) := by
  unfold sigL
  have hrl : (encodeL (mbaseL (nonL s c m))).length = 32 := encodeL_len _
  rw [List.take_left' hrl, List.drop_left' hrl]
  exact ver_iff hc ht hs
theorem ver_sig {s c m : List Int} (hc : c.length ≤ 255) (hs : s.length = 32) : verL (pubL s) c m (sigL s c m) = true := by
  have := ver_half (m := m) hc (sig_half s c m).1 hs
  rw [List.take_append_drop] at this
  rw [this]; exact decide_eq_true rfl
end Go.Proofs.Ythdfifcgobfgdaa
end

section
set_option linter.unusedVariables false
set_option linter.unusedSimpArgs false
namespace Go.Proofs.Ythdfifcgobfgdaa
open Go Go.Ev BJ
set_option maxRecDepth 1000000
end Go.Proofs.Ythdfifcgobfgdaa
end

section
set_option linter.unusedVariables false
set_option linter.unusedSimpArgs false
namespace Go.Proofs.Ythdfifcgobfgdaa
open Go Go.Ev BJ
set_option maxRecDepth 1000000
abbrev ckA : Cod (List LV) (List (List Int) × List Int × Unit) := lCons (vOne (sRd false false (.arr u8 32))) (lCons (vOne (sRd false false u8)) lNil)
structure Lab where
  key : Int
  blocks : Int
  man : MM
  sign : List Int
def lab0 : Lab := ⟨0, 0, mm0, List.replicate 64 0⟩
abbrev cLab : Cod (List SV) Lab := (rowsHead (rowsMan (lCons (sArr u8 64) lNil))).iso (fun x => ⟨x.1, x.2.1, ⟨x.2.2.1, x.2.2.2.1, x.2.2.2.2.1, x.2.2.2.2.2.1, x.2.2.2.2.2.2.1⟩, x.2.2.2.2.2.2.2.1⟩) (fun l => (l.key, l.blocks, l.man.ver, l.man.flo, l.man.len, l.man.list, l.man.plain, l.sign, ())) (fun _ => rfl)
abbrev labV (r : Lab × Int) : LV := .tup [.agg (cLab.wr r.1), .sc (.int .i64 (.sym r.2))]
def ctxL : List Int := [98, 111, 111, 116, 106, 97, 99, 107]
def k0 : List Int := List.replicate 32 0
def labOf (b : List Int) : Lab := ⟨(getHeadF (b.take 8)).1.1, (getHeadF (b.take 8)).1.2, (getF ((b.drop 8).take 152)).1, b.drop 160⟩
def checkF (ver : List Int → List Int → List Int → List Int → Bool) (ks : List (List Int)) (b : List Int) : Lab × Int :=
  if b.length = 224 ∧ (getHeadF (b.take 8)).2 = true then
    (if (ks.length : Int) ≤ (getHeadF (b.take 8)).1.1 then (lab0, 15)
     else if ver (ks.getD (getHeadF (b.take 8)).1.1.toNat k0) ctxL (signedF b) (b.drop 160) = true then
       (if (getF ((b.drop 8).take 152)).2 = true then (labOf b, 0) else (lab0, 6))
     else (lab0, 8))
  else (lab0, 6)
def okKs (ks : List (List Int)) : Prop := ∀ k : Nat, k < ks.length → (ks.getD k k0).length = 32
def eCk (g : List (List Int) → List Int → Lab × Int) : Ent := Ent.ofS [some (.arr u8 32), some u8] ckA lNil fun x _ => .leaf (some (AllBy x.2.1 ∧ x.2.1.length < 1152921504606846976 ∧ okKs x.1)) (labV (g x.1 x.2.1)) []
theorem getHead_key {l : List Int} : 0 ≤ (getHeadF l).1.1 ∧ (getHeadF l).1.1 < 8 := by
  unfold getHeadF
  split
  · rename_i h
    simp only
    have h2 := h.2
    have : (headF (IntKind.i64.wrap (l.getD 4 0)) (IntKind.i64.wrap (l.getD 5 0))).length = 8 := by rw [strEq_len h2, h.1]
    unfold headF at this
    split at this
    · omega
    · simp at this
  · exact ⟨by decide, by decide⟩
theorem lab_eq {r r' : Lab × Int} (h : r = r') : labV r = labV r' := by rw [h]
theorem check_tree0 (ver : List Int → List Int → List Int → List Int → Bool) (ks : List (List Int)) (b : List Int) : fnT Try.prog [(70, getHeadE), (26, eVe ver), (33, ctxE), (34, signedE), (71, getE)] [] Try.f35 (ckA.wr (ks, b, ())) [] [.fr [.sym], .auto] =
    End.ite ((↑b.length : Int) != (224 : Int))
      (End.leaf
        (LV.tup
          [VV.agg
              [SV.int IntKind.i64 (SI.sym (0 : Int)), SV.int IntKind.i64 (SI.sym (0 : Int)),
                SV.int IntKind.u64 (SI.sym (0 : Int)), SV.int IntKind.u64 (SI.sym (0 : Int)),
                SV.int IntKind.i64 (SI.sym (0 : Int)),
                SV.arr (Ty.int IntKind.u8) (64 : Nat) (List.replicate (64 : Nat) (0 : Int)),
                SV.arr (Ty.int IntKind.u8) (64 : Nat) (List.replicate (64 : Nat) (0 : Int)),
                SV.arr (Ty.int IntKind.u8) (64 : Nat) (List.replicate (64 : Nat) (0 : Int))],
            VV.sc (SV.int IntKind.i64 (SI.sym (6 : Int)))])
        [])
      (End.need ((0 : Int) ≤ (0 : Int) ∧ (0 : Int) ≤ (8 : Int) ∧ (8 : Int) ≤ (↑b.length : Int))
        (End.ite (!(getHeadF (List.take (8 : Nat) (List.drop (0 : Nat) b))).snd)
          (End.leaf
            (LV.tup
              [VV.agg
                  [SV.int IntKind.i64 (SI.sym (0 : Int)), SV.int IntKind.i64 (SI.sym (0 : Int)),
                    SV.int IntKind.u64 (SI.sym (0 : Int)), SV.int IntKind.u64 (SI.sym (0 : Int)),
                    SV.int IntKind.i64 (SI.sym (0 : Int)),
                    SV.arr (Ty.int IntKind.u8) (64 : Nat) (List.replicate (64 : Nat) (0 : Int)),
                    SV.arr (Ty.int IntKind.u8) (64 : Nat) (List.replicate (64 : Nat) (0 : Int)),
                    SV.arr (Ty.int IntKind.u8) (64 : Nat) (List.replicate (64 : Nat) (0 : Int))],
                VV.sc (SV.int IntKind.i64 (SI.sym (6 : Int)))])
            [])
          (End.ite (decide ((↑ks.length : Int) ≤ (getHeadF (List.take (8 : Nat) (List.drop (0 : Nat) b))).fst.fst))
            (End.leaf
              (LV.tup
                [VV.agg
                    [SV.int IntKind.i64 (SI.sym (0 : Int)), SV.int IntKind.i64 (SI.sym (0 : Int)),
                      SV.int IntKind.u64 (SI.sym (0 : Int)), SV.int IntKind.u64 (SI.sym (0 : Int)),
                      SV.int IntKind.i64 (SI.sym (0 : Int)),
                      SV.arr (Ty.int IntKind.u8) (64 : Nat) (List.replicate (64 : Nat) (0 : Int)),
                      SV.arr (Ty.int IntKind.u8) (64 : Nat) (List.replicate (64 : Nat) (0 : Int)),
                      SV.arr (Ty.int IntKind.u8) (64 : Nat) (List.replicate (64 : Nat) (0 : Int))],
                  VV.sc (SV.int IntKind.i64 (SI.sym (15 : Int)))])
              [])
            (End.need ((0 : Int) ≤ (160 : Int) ∧ (160 : Int) ≤ (↑b.length : Int) ∧ (↑b.length : Int) ≤ (↑b.length : Int))
              (End.need ((64 : Nat) ≤ (List.take ((↑b.length : Int) - (160 : Int)).toNat (List.drop (160 : Nat) b)).length)
                (End.need
                  ((64 : Nat) ≤ (List.take ((↑b.length : Int) - (160 : Int)).toNat (List.drop (160 : Nat) b)).length)
                  (End.need
                    ((0 : Int) ≤ (getHeadF (List.take (8 : Nat) (List.drop (0 : Nat) b))).fst.fst ∧
                      (getHeadF (List.take (8 : Nat) (List.drop (0 : Nat) b))).fst.fst < (↑ks.length : Int))
                    (End.need (b.length < (1152921504606846976 : Nat))
                      (End.need
                        (List.length
                              (ks.getD (getHeadF (List.take (8 : Nat) (List.drop (0 : Nat) b))).fst.fst.toNat
                                (List.replicate (32 : Nat) (0 : Int))) =
                            (32 : Nat) ∧
                          (64 : Nat) = (64 : Nat) ∧
                            (List.take (64 : Nat)
                                    (List.drop (0 : Nat)
                                      (List.take ((↑b.length : Int) - (160 : Int)).toNat
                                        (List.drop (160 : Nat) b)))).length =
                                (64 : Nat) ∧
                              AllBy
                                (List.take (64 : Nat)
                                  (List.drop (0 : Nat)
                                    (List.take ((↑b.length : Int) - (160 : Int)).toNat (List.drop (160 : Nat) b)))))
                        (End.ite
                          (!ver
                              (ks.getD (getHeadF (List.take (8 : Nat) (List.drop (0 : Nat) b))).fst.fst.toNat
                                (List.replicate (32 : Nat) (0 : Int)))
                              [(98 : Int), (111 : Int), (111 : Int), (116 : Int), (106 : Int), (97 : Int), (99 : Int),
                                (107 : Int)]
                              (signedF b)
                              (List.take (64 : Nat)
                                (List.drop (0 : Nat)
                                  (List.take ((↑b.length : Int) - (160 : Int)).toNat (List.drop (160 : Nat) b)))))
                          (End.leaf
                            (LV.tup
                              [VV.agg
                                  [SV.int IntKind.i64 (SI.sym (0 : Int)), SV.int IntKind.i64 (SI.sym (0 : Int)),
                                    SV.int IntKind.u64 (SI.sym (0 : Int)), SV.int IntKind.u64 (SI.sym (0 : Int)),
                                    SV.int IntKind.i64 (SI.sym (0 : Int)),
                                    SV.arr (Ty.int IntKind.u8) (64 : Nat) (List.replicate (64 : Nat) (0 : Int)),
                                    SV.arr (Ty.int IntKind.u8) (64 : Nat) (List.replicate (64 : Nat) (0 : Int)),
                                    SV.arr (Ty.int IntKind.u8) (64 : Nat) (List.replicate (64 : Nat) (0 : Int))],
                                VV.sc (SV.int IntKind.i64 (SI.sym (8 : Int)))])
                            [])
                          (End.need ((0 : Int) ≤ (8 : Int) ∧ (8 : Int) ≤ (160 : Int) ∧ (160 : Int) ≤ (↑b.length : Int))
                            (End.need (AllBy (List.take (152 : Nat) (List.drop (8 : Nat) b)))
                              (End.ite (!(getF (List.take (152 : Nat) (List.drop (8 : Nat) b))).snd)
                                (End.leaf
                                  (LV.tup
                                    [VV.agg
                                        [SV.int IntKind.i64 (SI.sym (0 : Int)), SV.int IntKind.i64 (SI.sym (0 : Int)),
                                          SV.int IntKind.u64 (SI.sym (0 : Int)), SV.int IntKind.u64 (SI.sym (0 : Int)),
                                          SV.int IntKind.i64 (SI.sym (0 : Int)),
                                          SV.arr (Ty.int IntKind.u8) (64 : Nat) (List.replicate (64 : Nat) (0 : Int)),
                                          SV.arr (Ty.int IntKind.u8) (64 : Nat) (List.replicate (64 : Nat) (0 : Int)),
                                          SV.arr (Ty.int IntKind.u8) (64 : Nat) (List.replicate (64 : Nat) (0 : Int))],
                                      VV.sc (SV.int IntKind.i64 (SI.sym (6 : Int)))])
                                  [])
                                (End.leaf
                                  (LV.tup
                                    [VV.agg
                                        [SV.int IntKind.i64
                                            (SI.sym (getHeadF (List.take (8 : Nat) (List.drop (0 : Nat) b))).fst.fst),
                                          SV.int IntKind.i64
                                            (SI.sym (getHeadF (List.take (8 : Nat) (List.drop (0 : Nat) b))).fst.snd),
                                          SV.int IntKind.u64
                                            (SI.sym (getF (List.take (152 : Nat) (List.drop (8 : Nat) b))).fst.ver),
                                          SV.int IntKind.u64
                                            (SI.sym (getF (List.take (152 : Nat) (List.drop (8 : Nat) b))).fst.flo),
                                          SV.int IntKind.i64
                                            (SI.sym (getF (List.take (152 : Nat) (List.drop (8 : Nat) b))).fst.len),
                                          SV.arr (Ty.int IntKind.u8) (64 : Nat)
                                            (getF (List.take (152 : Nat) (List.drop (8 : Nat) b))).fst.list,
                                          SV.arr (Ty.int IntKind.u8) (64 : Nat)
                                            (getF (List.take (152 : Nat) (List.drop (8 : Nat) b))).fst.plain,
                                          SV.arr (Ty.int IntKind.u8) (64 : Nat)
                                            (List.take (64 : Nat)
                                              (List.drop (0 : Nat)
                                                (List.take ((↑b.length : Int) - (160 : Int)).toNat
                                                  (List.drop (160 : Nat) b))))],
                                      VV.sc (SV.int IntKind.i64 (SI.sym (0 : Int)))])
                                  [])))))))))))))) := by kernel_rfl
theorem check_sat {ver : List Int → List Int → List Int → List Int → Bool} {ks : List (List Int)} {b : List Int} (hb : AllBy b) (hl : b.length < 1152921504606846976) (hk : okKs ks) :
    ∃ t_ : Ev.End, fnT Try.prog [(70, getHeadE), (26, eVe ver), (33, ctxE), (34, signedE), (71, getE)] [] Try.f35 (ckA.wr (ks, b, ())) [] [.fr [.sym], .auto] = t_ ∧ t_.sat fun v hp' => v = labV (checkF ver ks b) ∧ hp' = [] := by
  refine ⟨_, check_tree0 .., ?_⟩
  have e0 : List.drop 0 b = b := rfl
  rw [e0]
  refine ⟨fun h => ?_, fun h => ?_⟩
  · have hn : ¬ (b.length = 224 ∧ (getHeadF (b.take 8)).2 = true) := fun ⟨h', _⟩ => by rw [h'] at h; simp at h
    exact ⟨lab_eq (r := (lab0, 6)) (by unfold checkF; rw [if_neg hn]), rfl⟩
  have hl' : b.length = 224 := by have : ((b.length : Int) != 224) = false := h
                                  simp at this; omega
  have e1 : List.take ((b.length : Int) - 160).toNat (List.drop 160 b) = b.drop 160 := List.take_of_length_le (by rw [List.length_drop]; omega)
  have e2 : List.take 64 (List.drop 0 (b.drop 160)) = b.drop 160 := by rw [List.drop_zero]; exact List.take_of_length_le (by rw [List.length_drop]; omega)
  have l1 : (b.drop 160).length = 64 := by rw [List.length_drop, hl']
  rw [e1, e2]
  obtain ⟨k1, k2⟩ := getHead_key (l := b.take 8)
  have by1 := hb.drop 160
  have by2 : AllBy (List.take 152 (List.drop 8 b)) := (hb.drop 8).take 152
  refine ⟨by omega, fun h1 => ?_, fun h1 => ?_⟩
  · have hn : ¬ (b.length = 224 ∧ (getHeadF (b.take 8)).2 = true) := fun ⟨_, h'⟩ => by rw [h'] at h1; simp at h1
    exact ⟨lab_eq (r := (lab0, 6)) (by unfold checkF; rw [if_neg hn]), rfl⟩
  have hp : b.length = 224 ∧ (getHeadF (b.take 8)).2 = true := ⟨hl', by simpa using h1⟩
  refine ⟨fun h2 => ?_, fun h2 => ?_⟩
  · have h2 := of_decide_eq_true h2
    exact ⟨lab_eq (r := (lab0, 15)) (by unfold checkF; rw [if_pos hp, if_pos h2]), rfl⟩
  have h2 := of_decide_eq_false h2
  refine ⟨by omega, by omega, by omega, by omega, by omega, ⟨hk _ (by omega), rfl, l1, by1⟩, fun h3 => ?_, fun h3 => ?_⟩
  · have h3 : ¬ ver (ks.getD (getHeadF (b.take 8)).1.1.toNat k0) ctxL (signedF b) (b.drop 160) = true := fun h' => by
      have h3' : (!ver (ks.getD (getHeadF (b.take 8)).1.1.toNat k0) ctxL (signedF b) (b.drop 160)) = true := h3
      rw [h'] at h3'; cases h3'
    exact ⟨lab_eq (r := (lab0, 8)) (by unfold checkF; rw [if_pos hp, if_neg h2, if_neg h3]), rfl⟩
  have h3' : ver (ks.getD (getHeadF (b.take 8)).1.1.toNat k0) ctxL (signedF b) (b.drop 160) = true := by
    have h3' : (!ver (ks.getD (getHeadF (b.take 8)).1.1.toNat k0) ctxL (signedF b) (b.drop 160)) = false := h3
    simpa using h3'
  refine ⟨by omega, by2, fun h4 => ?_, fun h4 => ?_⟩
  · have h4 : ¬ (getF ((b.drop 8).take 152)).2 = true := fun h' => by rw [h'] at h4; cases h4
    exact ⟨lab_eq (r := (lab0, 6)) (by unfold checkF; rw [if_pos hp, if_neg h2, if_pos h3', if_neg h4]), rfl⟩
  · have h4 : (getF ((b.drop 8).take 152)).2 = true := by simpa using h4
    exact ⟨lab_eq (r := (labOf b, 0)) (by unfold checkF; rw [if_pos hp, if_neg h2, if_pos h3', if_pos h4]), rfl⟩
theorem check_ok : (eCk (checkF verL)).Ok Try.prog 35 := by
  refine (Ent.ofOk Try.call35 fun x_ y_ Q h => ?_).sym
  obtain ⟨ks, b, _⟩ := x_
  obtain ⟨hn, hq⟩ := h
  have hc : CallsT Try.prog 35 (ckA.wr (ks, b, ())) [] (fnT Try.prog [(70, getHeadE), (26, eVe verL), (33, ctxE), (34, signedE), (71, getE)] [] Try.f35 (ckA.wr (ks, b, ())) [] [.fr [.sym], .auto]) := fnT_ok mixed (tabC getHead_ok (tabC verify_ok (tabC ctx_ok (tabC signed_ok (tabC get_ok tab0))))) Try.func35 rfl (LOk.nil _)
  obtain ⟨t, ht, hs⟩ := check_sat (ver := verL) hn.1 hn.2.1 hn.2.2
  rw [ht] at hc
  exact hc.use (D := []) hs hq
end Go.Proofs.Ythdfifcgobfgdaa
end
