/- What the laws lean on, part 7: a reader of code, plain facts, and what each function gives; no conditions. -/
import Derived.Test.YthdfifcgobfgdaaGreatA6
section
set_option linter.unusedVariables false
set_option linter.unusedSimpArgs false
namespace Go.Proofs.YthdfifcgobfgdaaGreat
open Go Go.Ev BJ
set_option maxRecDepth 1000000
noncomputable abbrev maFn : Func := Tryz.f6
abbrev maC : Cod (List LV) (Int × Int × Unit) := (jk 4 (lSkip (vOne (sPtr 0 0)) (lSkip (vOne (sPtr 1 0)) (lSkip (vOne (sPtr 2 0)) (jk 5 (lSkip (vOne (sPtr 3 0)) (lCons (vOne (sInt .i64)) (lSkip (vOne (sPtr 4 0)) (lSkip (vOne (sSl 5 0)) (lSkip (vOne (sSl 6 0)) (lCons (vOne (sInt .i64)) (jk 135 lNil))))))))))))
abbrev maCf : Wk := .fr (fmS 153 [(4, .keep), (5, .keep), (6, .keep), (12, .keep), (13, .sym), (14, .keep), (15, .keep), (16, .keep), (17, .sym)])
abbrev maX : Cod (List LV) (Int × Unit) := (jk 5 (lSkip (vOne (sPtr 0 0)) (lSkip (vOne (sPtr 1 0)) (jk 5 (lSkip (vOne (sPtr 2 0)) (lCons (vOne (sInt .i64)) (lSkip (vOne (sPtr 3 0)) (lSkip (vOne (sSl 4 0)) (lSkip (vOne (sSl 5 0)) (jk 136 lNil))))))))))
abbrev maXf : Wk := .fr (fmS 153 [(5, .keep), (6, .keep), (12, .keep), (13, .sym), (14, .keep), (15, .keep), (16, .keep)])
abbrev hd2 : Cod (Option Ev.Item) (Int × Int × Unit) := iBlk 38 (rowsHead lNil)
abbrev ks8 : Cod (Option Ev.Item) (List (List Int)) := iOwn 0 (.arr u8 32)
abbrev maH : Cod Hp (List Int × List Int × (Int × Int × Unit) × List Int × Lab × List Int × List (List Int) × Unit) := lCons r32' (lCons r32' (lCons hd2 (lCons r64' (lCons iLab (lCons (iOwn 0 u8) (lCons ks8 lNil))))))
abbrev maHX : Cod Hp (List Int × (Int × Int × Unit) × List Int × Lab × List Int × List (List Int) × Unit) := lCons r32' (lCons hd2 (lCons r64' (lCons iLab (lCons (iOwn 0 u8) (lCons ks8 lNil)))))
def maW : Exit → List Wk
  | .normal => [maCf, .auto, .vers]
  | .exit 0 => [maXf, .auto, .vers]
  | _ => []
theorem ma_rnd (pub : List Int → List Int) (e i : Int) (s o : List Int) (a b : Int) (g : List Int) (l : Lab) (p : List Int) (ks : List (List Int)) : rndT Tryz.prog [(12, ePub pub)] [] maFn 0 [] maW ((stC maC maH).wr ((e, i, ()), (s, o, (a, b, ()), g, l, p, ks, ()))) =
  Res.ite (decide (i < (8 : Int))) (Res.need (s.length = (32 : Nat)) (Res.need ((0 : Int) ≤ i ∧ i < (↑ks.length : Int)) (Res.leaf Exit.normal ((stC maC
  maH).wr ((e, IntKind.i64.wrap (i + (1 : Int)), PUnit.unit), s, o, (a, b, PUnit.unit), g, l, p, ks.set i.toNat (pub s), PUnit.unit))))) (Res.leaf
  (Exit.exit (0 : Nat)) ((stC maX maHX).wr ((e, PUnit.unit), o, (a, b, PUnit.unit), g, l, p, ks, PUnit.unit))) := by kernel_rfl
abbrev maT : Type := (Int × Int × Unit) × List Int × List Int × (Int × Int × Unit) × List Int × Lab × List Int × List (List Int) × Unit
structure Cut where
  g : List Int
  e : Int
  l : Lab
  p : List Int
  k : List (List Int)
def maLF (pub : List Int → List Int) (C : Cut) (x : maT) : Res := .need (x.1.2.1 = 0 ∧ x.2.1.length = 32 ∧ x.2.2.2.2.2.2.2.1.length = 8 ∧ C.k = List.replicate 8 (pub x.2.1) ∧ x.1.1 = C.e ∧ x.2.2.2.2.1 = C.g ∧ x.2.2.2.2.2.1 = C.l ∧ x.2.2.2.2.2.2.1 = C.p)
  (.leaf (.exit 0) ((stC maX maHX).wr ((C.e, ()), (x.2.2.1, x.2.2.2.1, C.g, C.l, C.p, C.k, ()))))
theorem maPub_ok : ∀ p ∈ [((12, ePub pubL) : FuncId × Ent)], p.2.Ok Tryz.prog p.1 := tabC pub_ok tab0
theorem ma_loop (C : Cut) (x : maT) : Ex Tryz.prog [] (.loop (loopAt maFn 0)) ((stC maC maH).wr x) (maLF pubL C x) := by
  obtain ⟨⟨e, i, _⟩, s, o, ⟨a, b, _⟩, g, l, p, ks, _⟩ := x
  refine Ex.need fun ⟨h1, h2, h3, h4, h5, h6, h7, h8⟩ => ?_
  simp only at h1 h2 h3 h4 h5 h6 h7 h8
  subst h1 h5 h6 h7 h8
  rw [h4]
  have key := loopUp (fn := maFn) (id := 0) (j := 0) (ws := maW) (hp := []) mixed maPub_ok (LOk.nil _) 8 (fun k (q : List (List Int)) => (stC maC maH).wr ((C.e, (k : Int), ()), (s, o, (a, b, ()), C.g, C.l, C.p, q, ()))) (fun q => (stC maX maHX).wr ((C.e, ()), (o, (a, b, ()), C.g, C.l, C.p, q, ()))) (fun k q => q.set k (pubL s)) (fun _ q => q.length = 8)
    (fun k q R hk ho hn hx => ?_) (fun _ _ _ h => by simpa using h) 0 ks (by omega) h3
  · rw [Nat.sub_zero, fill_all (pubL s) h3] at key
    exact key
  rw [ma_rnd pubL]
  refine ⟨fun hb => ?_, fun hb => ?_⟩
  · have hk' : k < 8 := by have := of_decide_eq_true hb; omega
    rw [Int.toNat_natCast, wrap_succ k (by omega)]
    exact ⟨h2, by omega, hn hk'⟩
  · have : k = 8 := by have := of_decide_eq_false hb; omega
    exact hx this
noncomputable abbrev maLT (pub : List Int → List Int) (C : Cut) : LTab := [(0, loopF (stC maC maH) 0 [maCf, .auto, .vers] (maLF pub C))]
noncomputable abbrev maTab (sign : List Int → List Int → List Int → List Int × Int) (pub : List Int → List Int) (ck : List (List Int) → List Int → Lab × Int) (ver : List Int → List Int → List Int → List Int → Bool) : List (FuncId × Ent) := [(17, aliveE), (21, headE), (22, manE), (8, eSi sign), (12, ePub pub), (23, ctxE), (24, signedE), (25, labE), (18, eCk ck), (20, num24E), (16, eVe9 ver)]
abbrev maA : Cod (List LV) (List Int × List Int × (Int × Int × Unit) × MM × Unit) := lCons cB (lCons cB (lCons (vAgg (rowsHead lNil)) (lCons (vAgg cMM) lNil)))
theorem back_tree (C : Cut) (sign : List Int → List Int → List Int → List Int × Int) (pub : List Int → List Int) (ck : List (List Int) → List Int → Lab × Int) (ver : List Int → List Int → List Int → List Int → Bool) (s o : List Int) (a b : Int) (m : MM) : fnT Tryz.prog (maTab sign pub ck ver) (maLT pub C) maFn (maA.wr (s, o, (a, b, ()), m, ())) [] [.fr [.sym, .sym], .auto] =
  End.need ((0 : Int) ≤ m.ver ∧ m.ver < (18446744073709551616 : Int) ∧ (0 : Int) ≤ m.flo ∧ m.flo < (18446744073709551616 : Int)) (End.ite (((↑(headF a
  b).length : Int) == (0 : Int)) == false) (End.ite ((↑(manF m.ver m.flo m.len m.list m.plain).length : Int) == (0 : Int)) (End.leaf (LV.one (VV.sc
  (SV.bool (SB.sym true)))) []) (End.need ((headF a b).length * (1 : Nat) ≤ (70368744177664 : Nat) ∧ (headF a b).length ≤ (70368744177664 : Nat))
  (End.need (((headF a b).length + (manF m.ver m.flo m.len m.list m.plain).length) * (1 : Nat) ≤ (70368744177664 : Nat) ∧ (headF a b).length + (manF
  m.ver m.flo m.len m.list m.plain).length ≤ (70368744177664 : Nat)) (End.need ((headF a b ++ manF m.ver m.flo m.len m.list m.plain).length <
  (1152921504606846976 : Nat)) (End.need (s.length = (32 : Nat) ∧ (64 : Nat) = (64 : Nat)) (End.need ((0 : Int) ≤ m.ver ∧ m.ver < (18446744073709551616 :
  Int) ∧ (0 : Int) ≤ m.flo ∧ m.flo < (18446744073709551616 : Int)) (End.need ((8 : Int) = (8 : Int) ∧ (0 : Int) ≤ (8 : Int) ∧ (256 : Int) ≤
  (70368744177664 : Int) ∧ (8 : Int) ≤ (70368744177664 : Int)) (End.need ((0 : Int) = (0 : Int) ∧ s.length = (32 : Nat) ∧ (8 : Nat) = (8 : Nat) ∧ C.k =
  List.replicate (8 : Nat) (pub s) ∧ (sign s [(98 : Int), (111 : Int), (111 : Int), (116 : Int), (106 : Int), (97 : Int), (99 : Int), (107 : Int)]
  (signedF (headF a b ++ manF m.ver m.flo m.len m.list m.plain))).snd = C.e ∧ (sign s [(98 : Int), (111 : Int), (111 : Int), (116 : Int), (106 : Int),
  (97 : Int), (99 : Int), (107 : Int)] (signedF (headF a b ++ manF m.ver m.flo m.len m.list m.plain))).fst = C.g ∧ { key := a, blocks := b, man := m, sign := (sign s [(98 : Int), (111 : Int), (111 : Int), (116 : Int), (106 : Int), (97 : Int), (99 : Int), (107 : Int)] (signedF (headF a b ++ manF m.ver m.flo m.len m.list m.plain))).fst }
  = C.l ∧ labF (headF a b) (manF m.ver m.flo m.len m.list m.plain) (sign s [(98 : Int), (111 : Int), (111 : Int), (116 : Int), (106 : Int), (97 : Int),
  (99 : Int), (107 : Int)] (signedF (headF a b ++ manF m.ver m.flo m.len m.list m.plain))).fst = C.p) (End.need (AllBy C.p ∧ C.p.length <
  (1152921504606846976 : Nat) ∧ okKs C.k) (End.ite ((C.e != (0 : Int)) == false) (End.ite (((ck C.k C.p).snd != (0 : Int)) == false) (End.ite ((!((ck C.k
  C.p).fst.key == C.l.key && ((ck C.k C.p).fst.blocks == C.l.blocks && true) && ((ck C.k C.p).fst.man.ver == C.l.man.ver && ((ck C.k C.p).fst.man.flo ==
  C.l.man.flo && ((ck C.k C.p).fst.man.len == C.l.man.len && (decide ((ck C.k C.p).fst.man.list = C.l.man.list) && (decide ((ck C.k C.p).fst.man.plain =
  C.l.man.plain) && true)))) && (decide ((ck C.k C.p).fst.sign = C.l.sign) && true)))) == false) (End.ite ((↑C.p.length : Int) != (224 : Int)) (End.leaf
  (LV.one (VV.sc (SV.bool (SB.sym false)))) []) (End.need ((0 : Int) ≤ (0 : Int) ∧ (0 : Int) ≤ a ∧ a ≤ (↑C.k.length : Int)) (End.need (AllBy C.p ∧
  C.p.length < (1152921504606846976 : Nat) ∧ okKs (List.take (a - (0 : Int)).toNat (List.drop (0 : Nat) C.k))) (End.need (o.length = (32 : Nat))
  (End.need ((0 : Int) ≤ a ∧ a < (↑C.k.length : Int)) (End.need (AllBy C.p ∧ C.p.length < (1152921504606846976 : Nat) ∧ okKs (C.k.set a.toNat (pub o)))
  (End.need ((0 : Int) ≤ a ∧ a < (↑(C.k.set a.toNat (pub o)).length : Int)) (End.need (C.p.length < (1152921504606846976 : Nat)) (End.need (okB ((C.k.set
  a.toNat (pub o)).getD a.toNat (List.replicate (32 : Nat) (0 : Int))) ∧ (64 : Nat) = (64 : Nat) ∧ C.g.length = (64 : Nat) ∧ AllBy C.g) (End.ite (((ck
  (List.take (a - (0 : Int)).toNat (List.drop (0 : Nat) C.k)) C.p).snd == (15 : Int)) == true) (End.ite ((((ck (C.k.set a.toNat (pub o)) C.p).snd == (0 :
  Int)) == ver ((C.k.set a.toNat (pub o)).getD a.toNat (List.replicate (32 : Nat) (0 : Int))) [(98 : Int), (111 : Int), (111 : Int), (116 : Int), (106 :
  Int), (97 : Int), (99 : Int), (107 : Int)] (signedF C.p) C.g) == true) (End.ite (ver ((C.k.set a.toNat (pub o)).getD a.toNat (List.replicate (32 : Nat)
  (0 : Int))) [(98 : Int), (111 : Int), (111 : Int), (116 : Int), (106 : Int), (97 : Int), (99 : Int), (107 : Int)] (signedF C.p) C.g == true) (End.ite
  (((ck (C.k.set a.toNat (pub o)) C.p).fst.key == C.l.key && ((ck (C.k.set a.toNat (pub o)) C.p).fst.blocks == C.l.blocks && true) && ((ck (C.k.set
  a.toNat (pub o)) C.p).fst.man.ver == C.l.man.ver && ((ck (C.k.set a.toNat (pub o)) C.p).fst.man.flo == C.l.man.flo && ((ck (C.k.set a.toNat (pub o))
  C.p).fst.man.len == C.l.man.len && (decide ((ck (C.k.set a.toNat (pub o)) C.p).fst.man.list = C.l.man.list) && (decide ((ck (C.k.set a.toNat (pub o))
  C.p).fst.man.plain = C.l.man.plain) && true)))) && (decide ((ck (C.k.set a.toNat (pub o)) C.p).fst.sign = C.l.sign) && true))) == false) (End.ite (((ck
  (C.k.set a.toNat (pub o)) C.p).snd == (8 : Int)) == true) (End.leaf (LV.one (VV.sc (SV.bool (SB.sym ((ck (C.k.set a.toNat (pub o)) C.p).fst.key == (0 :
  Int) && ((ck (C.k.set a.toNat (pub o)) C.p).fst.blocks == (0 : Int) && true) && ((ck (C.k.set a.toNat (pub o)) C.p).fst.man.ver == (0 : Int) && ((ck
  (C.k.set a.toNat (pub o)) C.p).fst.man.flo == (0 : Int) && ((ck (C.k.set a.toNat (pub o)) C.p).fst.man.len == (0 : Int) && (decide ((ck (C.k.set
  a.toNat (pub o)) C.p).fst.man.list = List.replicate (64 : Nat) (0 : Int)) && (decide ((ck (C.k.set a.toNat (pub o)) C.p).fst.man.plain = List.replicate
  (64 : Nat) (0 : Int)) && true)))) && (decide ((ck (C.k.set a.toNat (pub o)) C.p).fst.sign = List.replicate (64 : Nat) (0 : Int)) && true))))))) [])
  (End.leaf (LV.one (VV.sc (SV.bool (SB.sym false)))) [])) (End.leaf (LV.one (VV.sc (SV.bool (SB.sym true)))) [])) (End.ite (((ck (C.k.set a.toNat (pub
  o)) C.p).snd == (8 : Int)) == true) (End.leaf (LV.one (VV.sc (SV.bool (SB.sym ((ck (C.k.set a.toNat (pub o)) C.p).fst.key == (0 : Int) && ((ck (C.k.set
  a.toNat (pub o)) C.p).fst.blocks == (0 : Int) && true) && ((ck (C.k.set a.toNat (pub o)) C.p).fst.man.ver == (0 : Int) && ((ck (C.k.set a.toNat (pub
  o)) C.p).fst.man.flo == (0 : Int) && ((ck (C.k.set a.toNat (pub o)) C.p).fst.man.len == (0 : Int) && (decide ((ck (C.k.set a.toNat (pub o))
  C.p).fst.man.list = List.replicate (64 : Nat) (0 : Int)) && (decide ((ck (C.k.set a.toNat (pub o)) C.p).fst.man.plain = List.replicate (64 : Nat) (0 :
  Int)) && true)))) && (decide ((ck (C.k.set a.toNat (pub o)) C.p).fst.sign = List.replicate (64 : Nat) (0 : Int)) && true))))))) []) (End.leaf (LV.one
  (VV.sc (SV.bool (SB.sym false)))) []))) (End.leaf (LV.one (VV.sc (SV.bool (SB.sym false)))) [])) (End.leaf (LV.one (VV.sc (SV.bool (SB.sym false))))
  []))))))))))) (End.leaf (LV.one (VV.sc (SV.bool (SB.sym false)))) [])) (End.leaf (LV.one (VV.sc (SV.bool (SB.sym false)))) [])) (End.leaf (LV.one
  (VV.sc (SV.bool (SB.sym false)))) []))))))))))) (End.leaf (LV.one (VV.sc (SV.bool (SB.sym true)))) [])) := by kernel_rfl
structure BkH (C : Cut) (sign : List Int → List Int → List Int → List Int × Int) (pub : List Int → List Int) (ck : List (List Int) → List Int → Lab × Int) (ver : List Int → List Int → List Int → List Int → Bool) (s o : List Int) (a b : Int) (m : MM) : Prop where
  a0 : 0 ≤ a
  a8 : a < 8
  hl : (headF a b).length = 8
  ml : (manF m.ver m.flo m.len m.list m.plain).length = 152
  kk : C.k = List.replicate 8 (pub s)
  ce : (sign s ctxL (signedF (headF a b ++ manF m.ver m.flo m.len m.list m.plain))).2 = C.e
  cg : (sign s ctxL (signedF (headF a b ++ manF m.ver m.flo m.len m.list m.plain))).1 = C.g
  cl : (⟨a, b, m, (sign s ctxL (signedF (headF a b ++ manF m.ver m.flo m.len m.list m.plain))).1⟩ : Lab) = C.l
  cp : labF (headF a b) (manF m.ver m.flo m.len m.list m.plain) (sign s ctxL (signedF (headF a b ++ manF m.ver m.flo m.len m.list m.plain))).1 = C.p
  e0 : C.e = 0
  gl : C.g.length = 64
  gb : AllBy C.g
  pl : C.p.length = 224
  pb : AllBy C.p
  ps : (pub s).length = 32
  po : okB (pub o)
  k1 : ck C.k C.p = (C.l, 0)
  k2 : (ck (List.take (a - 0).toNat (List.drop 0 C.k)) C.p).2 = 15
  k3 : ck (C.k.set a.toNat (pub o)) C.p = if ver (pub o) ctxL (signedF C.p) C.g = true then (C.l, 0) else (lab0, 8)
theorem okKs_all {ks : List (List Int)} (h : ∀ x ∈ ks, x.length = 32) : okKs ks := fun k hk => by
  rw [List.getD_eq_getElem?_getD, List.getElem?_eq_getElem hk, Option.getD_some]
  exact h _ (List.getElem_mem hk)
theorem lab_self (l : Lab) : (l.key == l.key && (l.blocks == l.blocks && true) && (l.man.ver == l.man.ver && (l.man.flo == l.man.flo && (l.man.len == l.man.len && (decide (l.man.list = l.man.list) && (decide (l.man.plain = l.man.plain) && true)))) && (decide (l.sign = l.sign) && true))) = true := by simp
theorem back_sat {C : Cut} {sign : List Int → List Int → List Int → List Int × Int} {pub : List Int → List Int} {ck : List (List Int) → List Int → Lab × Int} {ver : List Int → List Int → List Int → List Int → Bool} {s o : List Int} {a b : Int} {m : MM} (hs : s.length = 32) (ho : o.length = 32) (hm : 0 ≤ m.ver ∧ m.ver < 18446744073709551616 ∧ 0 ≤ m.flo ∧ m.flo < 18446744073709551616)
    (H : (headF a b).length ≠ 0 → (manF m.ver m.flo m.len m.list m.plain).length ≠ 0 → BkH C sign pub ck ver s o a b m) :
    ∃ t_ : Ev.End, fnT Tryz.prog (maTab sign pub ck ver) (maLT pub C) maFn (maA.wr (s, o, (a, b, ()), m, ())) [] [.fr [.sym, .sym], .auto] = t_ ∧ t_.sat fun v hp' => v = nB true ∧ hp' = applyD [] [] := by
  refine ⟨_, back_tree .., ?_⟩
  refine ⟨hm, fun h1 => ⟨fun _ => ⟨rfl, rfl⟩, fun h2 => ?_⟩, fun _ => ⟨rfl, rfl⟩⟩
  have h1 : (headF a b).length ≠ 0 := fun e => by rw [e] at h1; simp at h1
  have h2 : (manF m.ver m.flo m.len m.list m.plain).length ≠ 0 := fun e => by rw [e] at h2; simp at h2
  have H := H h1 h2
  have hl := H.hl
  have ml := H.ml
  have a0 := H.a0
  have a8 := H.a8
  have pl := H.pl
  have kl : C.k.length = 8 := by rw [H.kk, List.length_replicate]
  have kr : ∀ x ∈ C.k, x.length = 32 := fun x hx => by rw [H.kk] at hx; rw [List.eq_of_mem_replicate hx]; exact H.ps
  have ks1 : okKs C.k := okKs_all kr
  have ks2 : okKs (List.take (a - 0).toNat (List.drop 0 C.k)) := okKs_all fun x hx => kr x (List.mem_of_mem_drop (List.mem_of_mem_take hx))
  have ks3 : okKs (C.k.set a.toNat (pub o)) := okKs_all fun x hx => by
    rcases List.mem_or_eq_of_mem_set hx with h | h
    · exact kr x h
    · rw [h]; exact H.po.1
  have eg : (C.k.set a.toNat (pub o)).getD a.toNat (List.replicate 32 0) = pub o := by
    rw [List.getD_eq_getElem?_getD, List.getElem?_set_self (by omega)]; rfl
  have pn : AllBy C.p ∧ C.p.length < 1152921504606846976 := ⟨H.pb, by omega⟩
  rw [H.k1, H.k2, eg, H.e0, lab_self, List.length_set, List.length_append]
  refine ⟨⟨by omega, by omega⟩, ⟨by omega, by omega⟩, by omega, ⟨hs, rfl⟩, hm, by decide, ⟨rfl, hs, rfl, H.kk, by rw [← H.e0]; exact H.ce, H.cg, H.cl, H.cp⟩, ⟨pn.1, pn.2, ks1⟩, fun _ => ⟨fun _ => ⟨fun _ => ⟨fun h => ?_, fun _ => ?_⟩, fun h => absurd h (by decide)⟩, fun h => absurd (show (((0 : Int) != 0) == false) = false from h) (by decide)⟩, fun h => absurd h (by decide)⟩
  · exfalso; rw [pl] at h; exact absurd h (by decide)
  refine ⟨⟨by omega, by omega, by omega⟩, ⟨pn.1, pn.2, ks2⟩, ho, ⟨by omega, by omega⟩, ⟨pn.1, pn.2, ks3⟩, ⟨by omega, by omega⟩, pn.2, ⟨H.po, rfl, H.gl, H.gb⟩, fun _ => ?_, fun h => absurd h (by decide)⟩
  have k3 := H.k3
  have ev : ∀ v : Bool, ver (pub o) [98, 111, 111, 116, 106, 97, 99, 107] (signedF C.p) C.g = v → ver (pub o) ctxL (signedF C.p) C.g = v := fun v h => h
  cases hv : ver (pub o) [98, 111, 111, 116, 106, 97, 99, 107] (signedF C.p) C.g
  · rw [if_neg (by rw [ev _ hv]; decide)] at k3
    rw [k3]
    refine ⟨fun _ => ⟨fun h => absurd h (by decide), fun _ => ⟨fun _ => ⟨nB_eq (by decide), rfl⟩, fun h => absurd h (by decide)⟩⟩, fun h => absurd h (by decide)⟩
  · rw [if_pos (ev _ hv)] at k3
    rw [k3, lab_self]
    exact ⟨fun _ => ⟨fun _ => ⟨fun h => absurd h (by decide), fun _ => ⟨rfl, rfl⟩⟩, fun h => absurd h (by decide)⟩, fun h => absurd (show ((((0 : Int) == 0) == true) == true) = false from h) (by decide)⟩
theorem lowL_by : ∀ (n : Nat) (x : Int), AllBy (lowL n x)
  | 0, x => fun z hz => by cases hz
  | n + 1, x => fun z hz => by
    rw [lowL_succ] at hz
    rcases List.mem_append.1 hz with h | h
    · exact lowL_by n x z h
    · rw [List.mem_singleton] at h
      subst h
      unfold By; omega
theorem lowL_cons (n : Nat) (x : Int) : lowL (n + 1) x = x % 256 :: lowL n (x / 256) := rfl
theorem numW_low : ∀ (n : Nat) (x : Int), n ≤ 8 → 0 ≤ x → x < 256 ^ n → numW (lowL n x) = x
  | 0, x, _, h0, h1 => by
    have : x = 0 := by simp at h1; omega
    subst this; rfl
  | n + 1, x, hn, h0, h1 => by
    have hl := lowL_length n (x / 256)
    obtain ⟨_, _, h3⟩ := numW_range (lowL_by n (x / 256)) (by omega)
    have ih := numW_low n (x / 256) (by omega) (by omega) (Int.ediv_lt_of_lt_mul (by decide) (by rw [Int.pow_succ] at h1; exact h1))
    rw [lowL_cons, h3 (x % 256) ⟨by omega, by omega⟩ (by omega), ih]
    omega
theorem getF_man {m : MM} (hm : 0 ≤ m.ver ∧ m.ver < 18446744073709551616 ∧ 0 ≤ m.flo ∧ m.flo < 18446744073709551616) (hr : rightF m.ver m.flo m.len = true) (l1 : m.list.length = 64) (l2 : m.plain.length = 64) : getF (manF m.ver m.flo m.len m.list m.plain) = (m, true) := by
  obtain ⟨r1, r2⟩ := rightF_range hr
  have e : manF m.ver m.flo m.len m.list m.plain = lowL 8 m.ver ++ (lowL 8 m.flo ++ (lowL 8 m.len ++ (m.list ++ m.plain))) := by
    unfold manF
    rw [if_pos hr, List.take_of_length_le (by omega), List.take_of_length_le (by omega), List.append_assoc, List.append_assoc, List.append_assoc]
  have h8 : (256 : Int) ^ 8 = 18446744073709551616 := by decide
  have n1 := numW_low 8 m.ver (by decide) hm.1 (by omega)
  have n2 := numW_low 8 m.flo (by decide) hm.2.2.1 (by omega)
  have n3 := numW_low 8 m.len (by decide) (by omega) (by omega)
  have k : ∀ x, (lowL 8 x).length = 8 := fun x => lowL_length 8 x
  have d8 : (manF m.ver m.flo m.len m.list m.plain).drop 8 = lowL 8 m.flo ++ (lowL 8 m.len ++ (m.list ++ m.plain)) := by rw [e, List.drop_left' (k _)]
  have d16 : (manF m.ver m.flo m.len m.list m.plain).drop 16 = lowL 8 m.len ++ (m.list ++ m.plain) := by rw [show (16 : Nat) = 8 + 8 from rfl, ← List.drop_drop, d8, List.drop_left' (k _)]
  have d24 : (manF m.ver m.flo m.len m.list m.plain).drop 24 = m.list ++ m.plain := by rw [show (24 : Nat) = 16 + 8 from rfl, ← List.drop_drop, d16, List.drop_left' (k _)]
  have d88 : (manF m.ver m.flo m.len m.list m.plain).drop 88 = m.plain := by rw [show (88 : Nat) = 24 + 64 from rfl, ← List.drop_drop, d24, List.drop_left' l1]
  have em : mmOf (manF m.ver m.flo m.len m.list m.plain) = m := by
    unfold mmOf
    rw [d8, d16, d24, d88, List.take_left' (k _), List.take_left' (k _), List.take_left' l1, List.take_of_length_le (l := m.plain) (by omega), n2, n3, e, List.take_left' (k _), n1]
  unfold getF
  rw [em, if_pos ⟨by rw [e]; simp only [List.length_append, k, l1, l2], hr⟩]
theorem manF_some {c v n : Int} {x y : List Int} (h : (manF c v n x y).length ≠ 0) : rightF c v n = true := by
  unfold manF at h
  split at h
  · assumption
  · exact absurd rfl h
theorem lowL_allBy (m : MM) (h1 : AllBy m.list) (h2 : AllBy m.plain) : AllBy (manF m.ver m.flo m.len m.list m.plain) := by
  unfold manF
  split
  · exact (((((show AllBy (lowL 8 m.ver) from lowL_by 8 _).append (lowL_by 8 _)).append (lowL_by 8 _)).append (h1.take 64)).append (h2.take 64))
  · exact fun z hz => by cases hz
noncomputable def bkG (s : List Int) (a b : Int) (m : MM) : List Int := (signL s ctxL (signedF (headF a b ++ manF m.ver m.flo m.len m.list m.plain))).1
noncomputable def bkC (s : List Int) (a b : Int) (m : MM) : Cut := ⟨bkG s a b m, 0, ⟨a, b, m, bkG s a b m⟩, labF (headF a b) (manF m.ver m.flo m.len m.list m.plain) (bkG s a b m), List.replicate 8 (pubL s)⟩
theorem bkH_true {s o : List Int} {a b : Int} {m : MM} (hs : s.length = 32) (ho : okB o) (hm : 0 ≤ m.ver ∧ m.ver < 18446744073709551616 ∧ 0 ≤ m.flo ∧ m.flo < 18446744073709551616) (l1 : m.list.length = 64 ∧ AllBy m.list) (l2 : m.plain.length = 64 ∧ AllBy m.plain)
    (h1 : (headF a b).length ≠ 0) (h2 : (manF m.ver m.flo m.len m.list m.plain).length ≠ 0) : BkH (bkC s a b m) signL pubL (checkF verL) verL s o a b m := by
  obtain ⟨a0, a8, b1, b16, eh⟩ := headF_some h1
  have hl : (headF a b).length = 8 := by rw [eh]; rfl
  have hb : AllBy (headF a b) := by
    rw [eh]; intro z hz
    simp only [List.mem_cons, List.not_mem_nil, or_false] at hz
    unfold By; omega
  have hr := manF_some h2
  have hgm := getF_man hm hr l1.1 l2.1
  have mb := lowL_allBy m l1.2 l2.2
  have ml : (manF m.ver m.flo m.len m.list m.plain).length = 152 := by
    unfold manF
    rw [if_pos hr]
    simp only [List.length_append, List.length_take, lowL_length, l1.1, l2.1]; rfl
  generalize hmn : manF m.ver m.flo m.len m.list m.plain = mn at *
  have e0 : bkG s a b m = sigL s ctxL (signedF (headF a b ++ mn)) := by unfold bkG; rw [hmn, signL_eq, if_pos (by decide)]
  obtain ⟨g1, g2, g3⟩ := sig_half s ctxL (signedF (headF a b ++ mn))
  rw [← e0] at g1 g2 g3
  have eP : (bkC s a b m).p = headF a b ++ (mn ++ bkG s a b m) := by
    show labF (headF a b) (manF m.ver m.flo m.len m.list m.plain) (bkG s a b m) = _
    rw [hmn]
    unfold labF
    rw [if_neg (by omega), List.take_of_length_le (by omega), List.append_assoc]
  have pl : (bkC s a b m).p.length = 224 := by rw [eP, List.length_append, List.length_append, hl, ml, g2]
  have pb : AllBy (bkC s a b m).p := by rw [eP]; exact hb.append (mb.append g3)
  have t8 : (bkC s a b m).p.take 8 = headF a b := by rw [eP, List.take_left' hl]
  have d8 : ((bkC s a b m).p.drop 8).take 152 = mn := by rw [eP, List.drop_left' hl, List.take_left' ml]
  have d160 : (bkC s a b m).p.drop 160 = bkG s a b m := by rw [eP, ← List.append_assoc, List.drop_left' (by rw [List.length_append, hl, ml])]
  have sg : signedF (bkC s a b m).p = signedF (headF a b ++ mn) := by
    unfold signedF
    rw [eP, ← List.append_assoc, List.take_left' (by rw [List.length_append, hl, ml]), List.take_of_length_le (by rw [List.length_append, hl, ml]; decide)]
  have gh : getHeadF ((bkC s a b m).p.take 8) = ((a, b), true) := by rw [t8]; exact getHead_head h1
  have el : labOf (bkC s a b m).p = (bkC s a b m).l := by
    unfold labOf
    rw [gh, d8, d160, hgm]; rfl
  have hck : ∀ ks : List (List Int), checkF verL ks (bkC s a b m).p = if (ks.length : Int) ≤ a then (lab0, 15) else if verL (ks.getD a.toNat k0) ctxL (signedF (bkC s a b m).p) (bkG s a b m) = true then ((bkC s a b m).l, 0) else (lab0, 8) := fun ks => by
    unfold checkF
    rw [if_pos ⟨pl, by rw [gh]⟩, gh, d8, d160, hgm, el]
    rfl
  have hv : verL (pubL s) ctxL (signedF (bkC s a b m).p) (bkG s a b m) = true := by rw [sg, e0]; exact ver_sig (by decide) hs
  have ek : (List.replicate 8 (pubL s)).getD a.toNat k0 = pubL s := by
    rw [List.getD_eq_getElem?_getD, List.getElem?_replicate, if_pos (by omega)]; rfl
  have ek2 : ((List.replicate 8 (pubL s)).set a.toNat (pubL o)).getD a.toNat k0 = pubL o := by
    rw [List.getD_eq_getElem?_getD, List.getElem?_set_self (by rw [List.length_replicate]; omega)]; rfl
  have po : okB (pubL o) := by
    rw [show pubL o = encQ (nsm (sc (secL o)) baseP) from enc_of (rep_mbaseL (secL_ok o))]; exact encQ_ok _
  refine ⟨a0, a8, hl, by rw [hmn]; exact ml, rfl, ?_, rfl, rfl, rfl, rfl, g2, g3, pl, pb, pubL_len s, po, ?_, ?_, ?_⟩
  · rw [signL_eq, if_pos (by decide)]; rfl
  · show checkF verL (List.replicate 8 (pubL s)) _ = _
    rw [hck, List.length_replicate, if_neg (by omega), ek, if_pos hv]
  · show (checkF verL (List.take (a - 0).toNat (List.drop 0 (List.replicate 8 (pubL s)))) _).2 = 15
    rw [hck, if_pos (by rw [List.length_take, List.drop_zero, List.length_replicate]; omega)]
  · show checkF verL ((List.replicate 8 (pubL s)).set a.toNat (pubL o)) _ = _
    rw [hck, List.length_set, List.length_replicate, if_neg (by omega), ek2]
    rfl
theorem maTab_ok : ∀ p ∈ maTab signL pubL (checkF verL) verL, p.2.Ok Tryz.prog p.1 := tabC alive_ok (tabC head_ok (tabC man_ok (tabC sign_ok (tabC pub_ok (tabC ctx_ok (tabC signed_ok (tabC lab_ok (tabC check_ok (tabC num24_ok (tabC rver_ok tab0))))))))))
noncomputable abbrev backE : Ent := Ent.ofS [] maA lNil fun x _ => .leaf (some (okB x.1 ∧ okB x.2.1 ∧ (0 ≤ x.2.2.2.1.ver ∧ x.2.2.2.1.ver < 18446744073709551616 ∧ 0 ≤ x.2.2.2.1.flo ∧ x.2.2.2.1.flo < 18446744073709551616) ∧ (x.2.2.2.1.list.length = 64 ∧ AllBy x.2.2.2.1.list) ∧ (x.2.2.2.1.plain.length = 64 ∧ AllBy x.2.2.2.1.plain))) (nB true) []
theorem back_ok : backE.Ok Tryz.prog 6 := by
  refine (Ent.ofOk Tryz.call6 fun x_ y_ Q h => ?_).sym
  obtain ⟨s, o, ⟨a, b, _⟩, m, _⟩ := x_
  obtain ⟨hn, hq⟩ := h
  obtain ⟨hs, ho, hm, l1, l2⟩ : okB s ∧ okB o ∧ (0 ≤ m.ver ∧ m.ver < 18446744073709551616 ∧ 0 ≤ m.flo ∧ m.flo < 18446744073709551616) ∧ (m.list.length = 64 ∧ AllBy m.list) ∧ (m.plain.length = 64 ∧ AllBy m.plain) := hn
  have hc : CallsT Tryz.prog 6 (maA.wr (s, o, (a, b, ()), m, ())) [] (fnT Tryz.prog (maTab signL pubL (checkF verL) verL) (maLT pubL (bkC s a b m)) maFn (maA.wr (s, o, (a, b, ()), m, ())) [] [.fr [.sym, .sym], .auto]) := fnT_ok mixed maTab_ok Tryz.func6 rfl (LOk.ofTab (LTC rfl (loopF_ok (hp := []) (ma_loop (bkC s a b m))) LT0))
  obtain ⟨t, ht, hst⟩ := back_sat hs.1 ho.1 hm (bkH_true hs.1 ho hm l1 l2)
  rw [ht] at hc
  exact hc.use (D := []) hst hq
end Go.Proofs.YthdfifcgobfgdaaGreat
end
