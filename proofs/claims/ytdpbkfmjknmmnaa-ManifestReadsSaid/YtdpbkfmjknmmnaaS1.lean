/- SHA-512: the program's step. -/
import Derived.Test.YtdpbkfmjknmmnaaS0
import Derived.Test.YtdpbkfmjknmmnaaVx
set_option linter.unusedVariables false
set_option linter.unusedSimpArgs false
namespace Go.Proofs.Ytdpbkfmjknmmnaa
open Go Go.Ev
set_option maxRecDepth 100000
def roundsK : List Int := [4794697086780616226, 8158064640168781261, 13096744586834688815, 16840607885511220156, 4131703408338449720, 6480981068601479193, 10538285296894168987, 12329834152419229976, 15566598209576043074, 1334009975649890238, 2608012711638119052, 6128411473006802146, 8268148722764581231, 9286055187155687089, 11230858885718282805, 13951009754708518548, 16472876342353939154, 17275323862435702243, 1135362057144423861, 2597628984639134821, 3308224258029322869, 5365058923640841347, 6679025012923562964, 8573033837759648693, 10970295158949994411, 12119686244451234320, 12683024718118986047, 13788192230050041572, 14330467153632333762, 15395433587784984357, 489312712824947311, 1452737877330783856, 2861767655752347644, 3322285676063803686, 5560940570517711597, 5996557281743188959, 7280758554555802590, 8532644243296465576, 9350256976987008742, 10552545826968843579, 11727347734174303076, 12113106623233404929, 14000437183269869457, 14369950271660146224, 15101387698204529176, 15463397548674623760, 17586052441742319658, 1182934255886127544, 1847814050463011016, 2177327727835720531, 2830643537854262169, 3796741975233480872, 4115178125766777443, 5681478168544905931, 6601373596472566643, 7507060721942968483, 8399075790359081724, 8693463985226723168, 9568029438360202098, 10144078919501101548, 10430055236837252648, 11840083180663258601, 13761210420658862357, 14299343276471374635, 14566680578165727644, 15097957966210449927, 16922976911328602910, 17689382322260857208, 500013540394364858, 748580250866718886, 1242879168328830382, 1977374033974150939, 2944078676154940804, 3659926193048069267, 4368137639120453308, 4836135668995329356, 5532061633213252278, 6448918945643986474, 6902733635092675308, 7801388544844847127]
def beginK : List Int := [7640891576956012808, 13503953896175478587, 4354685564936845355, 11912009170470909681, 5840696475078001361, 11170449401992604703, 2270897969802886507, 6620516959819538809]
abbrev nRow (k : IntKind) (n : Nat) (l : List Int) : LV := .one (.agg [.arr (.int k) n l])
noncomputable def beginE : Ent := Ent.ofS [] lNil lNil fun _ _ => .leaf none (nRow .u64 8 beginK) []
noncomputable def roundsE : Ent := Ent.ofS [] lNil lNil fun _ _ => .leaf none (nRow .u64 80 roundsK) []
--use begin roots.Begin
--use rounds roots.Rounds
theorem begin_tree : fnT Try.prog [] [] Try.f58 (lNil.wr ()) (lNil.wr ()) [.fr [.sym], .rowF 0 0 8 .u64, .auto] = .leaf (nRow .u64 8 beginK) [] := by kernel_rfl
theorem rounds_tree : fnT Try.prog [] [] Try.f72 (lNil.wr ()) (lNil.wr ()) [.fr [.sym], .auto] = .leaf (nRow .u64 80 roundsK) [] := by kernel_rfl
theorem begin_ok : beginE.Ok Try.prog 58 := by
  refine (Ent.ofOk Try.call58 fun x_ y_ Q h => ?_).sym
  refine (fnT_ok mixed tab0 Try.func58 rfl (LT := []) (ks := [.fr [.sym], .rowF 0 0 8 .u64, .auto]) (LOk.nil _)).use (D := []) ?_ h.2
  show (fnT _ _ _ _ (lNil.wr ()) (lNil.wr ()) _).sat _
  rw [begin_tree]
  exact ⟨rfl, rfl⟩
theorem rounds_ok : roundsE.Ok Try.prog 72 := by
  refine (Ent.ofOk Try.call72 fun x_ y_ Q h => ?_).sym
  refine (fnT_ok mixed tab0 Try.func72 rfl (LT := []) (ks := [.fr [.sym], .auto]) (LOk.nil _)).use (D := []) ?_ h.2
  show (fnT _ _ _ _ (lNil.wr ()) (lNil.wr ()) _).sat _
  rw [rounds_tree]
  exact ⟨rfl, rfl⟩

/-! ### Words -/
def wordF (b : List Int) (k : Nat) (m : List Int) : List Int := m.set (k / 8) (bitOr .u64 (shl .u64 (m.getD (k / 8) 0) 8) (IntKind.u64.wrap (b.getD k 0)))
def wordsF (b : List Int) : List Int := upto (wordF b) 0 128 (List.replicate 16 0)
theorem wordF_length (b : List Int) (k : Nat) (m : List Int) : (wordF b k m).length = m.length := by simp [wordF]
noncomputable abbrev woFn : Func := Try.f67
abbrev woC : Cod (List LV) (List Int × Int × Int × Unit) := (jk 2 (lSkip (vOne (sPtr 0 0)) (jk 1 (lSkip (vOne (sPtr 1 0)) (jk 6 (lCons (vOne (sRd false false u8)) (lCons (vOne (sInt .i64)) (lCons (vOne (sInt .i64)) (jk 17 lNil)))))))))
abbrev woCf : Wk := .fr (fmS 31 [(2, .keep), (4, .keep), (11, .keep), (12, .sym), (13, .sym)])
abbrev woX : Cod (List LV) (Unit) := (jk 2 (lSkip (vOne (sPtr 0 0)) (jk 1 (lSkip (vOne (sPtr 1 0)) (jk 26 lNil)))))
abbrev woXf : Wk := .fr (fmS 31 [(2, .keep), (4, .keep)])
abbrev woH : Cod Hp (List Int × List Int × Unit) := lCons (iRow 96 .u64 16) (lCons (iRow 96 .u64 16) lNil)
def woW : Exit → List Wk
  | .normal => [woCf, .rowB 0 0 16 .u64, .rowB 1 0 16 .u64, .auto]
  | .exit 0 => [woXf, .auto]
  | _ => []
theorem wo_rnd (b : List Int) (n i : Int) (r m : List Int) : rndT Try.prog [] [] woFn 0 [] woW ((stC woC woH).wr ((b, n, i, ()), (r, m, ()))) =
    Res.ite (decide (i < n))
      (Res.need ((0 : Int) ≤ i ∧ i < ↑b.length)
        (Res.need ((0 : Int) ≤ IntKind.i64.wrap (i.tdiv (8 : Int)) ∧ IntKind.i64.wrap (i.tdiv (8 : Int)) < (16 : Int))
          (Res.need ((0 : Int) ≤ IntKind.i64.wrap (i.tdiv (8 : Int)) ∧ IntKind.i64.wrap (i.tdiv (8 : Int)) < (16 : Int))
            (Res.leaf Exit.normal
              ((stC woC woH).wr
                ((b, n, IntKind.i64.wrap (i + (1 : Int)), PUnit.unit), r,
                  m.set ((0 : Nat) + (IntKind.i64.wrap (i.tdiv (8 : Int))).toNat)
                    (bitOr IntKind.u64
                      (shl IntKind.u64
                        ((List.take (16 : Nat) (List.drop (0 : Nat) m)).getD (IntKind.i64.wrap (i.tdiv (8 : Int))).toNat
                          (0 : Int))
                        (8 : Int))
                      (IntKind.u64.wrap (b.getD i.toNat (0 : Int)))),
                  PUnit.unit))))))
      (Res.leaf (Exit.exit (0 : Nat)) ((stC woX woH).wr (PUnit.unit, r, m, PUnit.unit))) := by kernel_rfl
noncomputable def woF (x : (List Int × Int × Int × Unit) × List Int × List Int × Unit) : Res :=
  .need (x.1.1.length = 128 ∧ x.1.2.1 = 128 ∧ x.1.2.2.1 = 0 ∧ x.2.2.1 = List.replicate 16 0) (.leaf (.exit 0) ((stC woX woH).wr ((), (x.2.1, wordsF x.1.1, ()))))
theorem take_all {l : List Int} {n : Nat} (h : l.length = n) : List.take n (List.drop 0 l) = l := by rw [List.drop_zero, List.take_of_length_le (by omega)]
theorem tdiv_nat (k m : Nat) (hk : k < 4611686018427387904) : IntKind.i64.wrap ((k : Int).tdiv (m : Int)) = ((k / m : Nat) : Int) := by
  rw [Int.tdiv_eq_ediv_of_nonneg (by omega), ← Int.natCast_ediv]
  have : k / m ≤ k := Nat.div_le_self _ _
  generalize k / m = q at *
  exact wrap_ok (by omega) (by omega)
theorem wrap_sub (k j : Nat) (h : j ≤ k) (hk : k < 4611686018427387904) : IntKind.i64.wrap ((k : Int) - (j : Int)) = ((k - j : Nat) : Int) := by rw [wrap_ok (by omega) (by omega)]; omega
theorem wrap_succ (k : Nat) (hk : k < 4611686018427387904) : IntKind.i64.wrap ((k : Int) + 1) = ((k + 1 : Nat) : Int) := by rw [wrap_ok (by omega) (by omega)]; rfl
theorem wo_loop (x) : Ex Try.prog [] (.loop (loopAt woFn 0)) ((stC woC woH).wr x) (woF x) := by
  obtain ⟨⟨b, n, i, _⟩, r, m, _⟩ := x
  refine Ex.need fun ⟨h1, h2, h3, h4⟩ => ?_
  simp only at h1 h2 h3 h4
  subst h2 h3 h4
  refine loopUp (ws := woW) (hp := []) mixed tab0 (LOk.nil _) 128 (fun k m => (stC woC woH).wr ((b, 128, (k : Int), ()), (r, m, ()))) (fun m => (stC woX woH).wr ((), (r, m, ()))) (wordF b) (fun _ m => m.length = 16)
    (fun k m R hk hm hn hx => ?_) (fun k m _ hm => by rw [wordF_length]; exact hm) 0 (List.replicate 16 0) (by omega) (by simp)
  rw [wo_rnd]
  refine ⟨fun hb => ?_, fun hb => ?_⟩
  · have hlt : k < 128 := by have := of_decide_eq_true hb; omega
    have e : IntKind.i64.wrap ((k : Int).tdiv 8) = ((k / 8 : Nat) : Int) := tdiv_nat k 8 (by omega)
    rw [e, take_all hm, wrap_succ k (by omega)]
    simp only [Int.toNat_natCast, Nat.zero_add]
    exact ⟨by omega, by omega, by omega, hn hlt⟩
  · have : k = 128 := by have := of_decide_eq_false hb; omega
    exact hx this
noncomputable abbrev woLT : LTab := [(0, loopF (stC woC woH) 0 [woCf, .rowB 0 0 16 .u64, .rowB 1 0 16 .u64, .auto] woF)]
noncomputable def wordsE : Ent := Ent.ofS [some u8] (bA) (lNil) fun x_ y_ => (fun (b : List Int) => .leaf (some (b.length = 128)) (.tup [.agg [.arr (.int .u64) 16 (wordsF b)], .sc (.bool (.sym true))]) []) x_.1 
theorem words_tree (b : List Int) : fnT Try.prog [] woLT Try.f67 ((bA).wr (b, ())) ((lNil).wr ()) [.fr [.sym], .rowF 0 0 16 .u64, .auto] =
    End.ite (↑b.length != (128 : Int))
      (End.leaf
        (LV.tup
          [VV.agg
              [SV.arr (Ty.int IntKind.u64) (16 : Nat)
                  [(0 : Int), (0 : Int), (0 : Int), (0 : Int), (0 : Int), (0 : Int), (0 : Int), (0 : Int), (0 : Int),
                    (0 : Int), (0 : Int), (0 : Int), (0 : Int), (0 : Int), (0 : Int), (0 : Int)]],
            VV.sc (SV.bool (SB.sym false))])
        [])
      (End.need
        (b.length = (128 : Nat) ∧
          ↑b.length = (128 : Int) ∧
            (0 : Int) = (0 : Int) ∧
              [(0 : Int), (0 : Int), (0 : Int), (0 : Int), (0 : Int), (0 : Int), (0 : Int), (0 : Int), (0 : Int), (0 : Int),
                  (0 : Int), (0 : Int), (0 : Int), (0 : Int), (0 : Int), (0 : Int)] =
                List.replicate (16 : Nat) (0 : Int))
        (End.leaf (LV.tup [VV.agg [SV.arr (Ty.int IntKind.u64) (16 : Nat) (wordsF b)], VV.sc (SV.bool (SB.sym true))]) [])) := by kernel_rfl
theorem words_ok : wordsE.Ok Try.prog 67 := by
  refine (Ent.ofOk Try.call67 fun x_ y_ Q h => ?_).sym
  obtain ⟨b, _⟩ := x_
  obtain ⟨hn, hq⟩ := h
  have hn : b.length = 128 := hn
  refine (fnT_ok mixed tab0 Try.func67 rfl (LT := woLT) (ks := [.fr [.sym], .rowF 0 0 16 .u64, .auto]) (LOk.ofTab (LTC rfl (loopF_ok (hp := []) wo_loop) LT0))).use (D := []) ?_ hq
  show (fnT _ _ _ _ ((bA).wr (b, ())) ((lNil).wr ()) _).sat _
  rw [words_tree]
  refine ⟨fun h => ?_, fun h => ⟨⟨hn, by omega, rfl, rfl⟩, rfl, rfl⟩⟩
  simp [hn] at h
/-! ### Schedule -/
def schF (t : Nat) (w : List Int) : List Int := w.set t (IntKind.u64.wrap (IntKind.u64.wrap (IntKind.u64.wrap (smallF (w.getD (t - 2) 0) 19 61 6 + w.getD (t - 7) 0) + smallF (w.getD (t - 15) 0) 1 8 7) + w.getD (t - 16) 0))
def schedF (m : List Int) : List Int := upto schF 16 64 (m ++ List.replicate 64 0)
noncomputable abbrev scFn : Func := Try.f73
abbrev scA : Cod (List LV) (List Int × Unit) := lCons (vRow .u64 16) lNil
abbrev scC : Cod (List LV) (Int × Unit) := (jk 2 (lSkip (vOne (sPtr 0 0)) (lSkip (vOne (sPtr 1 0)) (lCons (vOne (sInt .i64)) (jk 31 lNil)))))
abbrev scCf : Wk := .fr (fmS 36 [(2, .keep), (3, .keep), (4, .sym)])
abbrev scX : Cod (List LV) (Unit) := (jk 2 (lSkip (vOne (sPtr 0 0)) (lSkip (vOne (sPtr 1 0)) (jk 32 lNil))))
abbrev scXf : Wk := .fr (fmS 36 [(2, .keep), (3, .keep)])
abbrev scH : Cod Hp (List Int × List Int × Unit) := lCons (iRow 101 .u64 80) (lCons (iRow 101 .u64 80) lNil)
noncomputable abbrev scTab : List (FuncId × Ent) := [(80, smallE)]
theorem scTab_ok : ∀ p ∈ scTab, p.2.Ok Try.prog p.1 := tabC small_ok tab0
def scW : Exit → List Wk
  | .normal => [scCf, .auto]
  | .exit 0 => [scXf, .auto]
  | _ => []
theorem sc_rnd (t : Int) (r w : List Int) : rndT Try.prog scTab [] scFn 0 [] scW ((stC scC scH).wr ((t, ()), (r, w, ()))) =
    Res.ite (decide (t < (80 : Int)))
      (Res.need ((0 : Int) ≤ IntKind.i64.wrap (t - (2 : Int)) ∧ IntKind.i64.wrap (t - (2 : Int)) < (80 : Int))
        (Res.need
          ((0 : Int) < (19 : Int) ∧
            (19 : Int) < (64 : Int) ∧ (0 : Int) < (61 : Int) ∧ (61 : Int) < (64 : Int) ∧ (0 : Int) ≤ (6 : Int))
          (Res.need ((0 : Int) ≤ IntKind.i64.wrap (t - (7 : Int)) ∧ IntKind.i64.wrap (t - (7 : Int)) < (80 : Int))
            (Res.need ((0 : Int) ≤ IntKind.i64.wrap (t - (15 : Int)) ∧ IntKind.i64.wrap (t - (15 : Int)) < (80 : Int))
              (Res.need
                ((0 : Int) < (1 : Int) ∧
                  (1 : Int) < (64 : Int) ∧ (0 : Int) < (8 : Int) ∧ (8 : Int) < (64 : Int) ∧ (0 : Int) ≤ (7 : Int))
                (Res.need ((0 : Int) ≤ IntKind.i64.wrap (t - (16 : Int)) ∧ IntKind.i64.wrap (t - (16 : Int)) < (80 : Int))
                  (Res.need ((0 : Int) ≤ t ∧ t < (80 : Int))
                    (Res.leaf Exit.normal
                      ((stC scC scH).wr
                        ((IntKind.i64.wrap (t + (1 : Int)), PUnit.unit), r,
                          w.set ((0 : Nat) + t.toNat)
                            (IntKind.u64.wrap
                              (IntKind.u64.wrap
                                  (IntKind.u64.wrap
                                      (smallF
                                          ((List.take (80 : Nat) (List.drop (0 : Nat) w)).getD
                                            (IntKind.i64.wrap (t - (2 : Int))).toNat (0 : Int))
                                          (19 : Int) (61 : Int) (6 : Int) +
                                        (List.take (80 : Nat) (List.drop (0 : Nat) w)).getD
                                          (IntKind.i64.wrap (t - (7 : Int))).toNat (0 : Int)) +
                                    smallF
                                      ((List.take (80 : Nat) (List.drop (0 : Nat) w)).getD
                                        (IntKind.i64.wrap (t - (15 : Int))).toNat (0 : Int))
                                      (1 : Int) (8 : Int) (7 : Int)) +
                                (List.take (80 : Nat) (List.drop (0 : Nat) w)).getD
                                  (IntKind.i64.wrap (t - (16 : Int))).toNat (0 : Int))),
                          PUnit.unit))))))))))
      (Res.leaf (Exit.exit (0 : Nat)) ((stC scX scH).wr (PUnit.unit, r, w, PUnit.unit))) := by kernel_rfl
noncomputable def scF (x : (Int × Unit) × List Int × List Int × Unit) : Res :=
  .need (x.1.1 = 16 ∧ x.2.2.1.length = 80) (.leaf (.exit 0) ((stC scX scH).wr ((), (x.2.1, upto schF 16 64 x.2.2.1, ()))))
theorem schF_length (t : Nat) (w : List Int) : (schF t w).length = w.length := by simp [schF]
theorem sc_loop (x) : Ex Try.prog [] (.loop (loopAt scFn 0)) ((stC scC scH).wr x) (scF x) := by
  obtain ⟨⟨i, _⟩, r, w, _⟩ := x
  refine Ex.need fun ⟨h1, h2⟩ => ?_
  simp only at h1 h2
  subst h1
  refine loopUp (ws := scW) (hp := []) mixed scTab_ok (LOk.nil _) 80 (fun k w => (stC scC scH).wr (((k : Int), ()), (r, w, ()))) (fun w => (stC scX scH).wr ((), (r, w, ()))) schF (fun k w => 16 ≤ k ∧ w.length = 80)
    (fun k w R hk hm hn hx => ?_) (fun k m _ hm => ⟨by omega, by rw [schF_length]; exact hm.2⟩) 16 w (by omega) ⟨by omega, h2⟩
  obtain ⟨h16, hm⟩ := hm
  rw [sc_rnd]
  refine ⟨fun hb => ?_, fun hb => ?_⟩
  · have hlt : k < 80 := by have := of_decide_eq_true hb; omega
    have e2 : IntKind.i64.wrap ((k : Int) - 2) = ((k - 2 : Nat) : Int) := wrap_sub k 2 (by omega) (by omega)
    have e7 : IntKind.i64.wrap ((k : Int) - 7) = ((k - 7 : Nat) : Int) := wrap_sub k 7 (by omega) (by omega)
    have e15 : IntKind.i64.wrap ((k : Int) - 15) = ((k - 15 : Nat) : Int) := wrap_sub k 15 (by omega) (by omega)
    have e16 : IntKind.i64.wrap ((k : Int) - 16) = ((k - 16 : Nat) : Int) := wrap_sub k 16 (by omega) (by omega)
    rw [e2, e7, e15, e16, take_all hm, wrap_succ k (by omega)]
    simp only [Int.toNat_natCast, Nat.zero_add]
    exact ⟨by omega, by decide, by omega, by omega, by decide, by omega, by omega, hn hlt⟩
  · have : k = 80 := by have := of_decide_eq_false hb; omega
    exact hx this
noncomputable abbrev scLT : LTab := [(0, loopF (stC scC scH) 0 [scCf, .auto] scF)]
noncomputable def schedE : Ent := Ent.ofS [] (scA) (lNil) fun x_ y_ => (fun (m : List Int) => .leaf (some (m.length = 16)) (nRow .u64 80 (schedF m)) []) x_.1 
theorem sched_tree (m : List Int) : fnT Try.prog scTab scLT Try.f73 ((scA).wr (m, ())) ((lNil).wr ()) [.fr [.sym], .auto] =
    End.need ((0 : Int) ≤ (0 : Int) ∧ (0 : Int) ≤ (80 : Int) ∧ (80 : Int) ≤ (80 : Int))
      (End.need ((0 : Int) ≤ (0 : Int) ∧ (0 : Int) ≤ (16 : Int) ∧ (16 : Int) ≤ (16 : Int))
        (End.need
          ((16 : Int) = (16 : Int) ∧
            (List.take (0 : Nat) (List.replicate (80 : Nat) (0 : Int)) ++
                  (List.take (80 : Nat) (List.take (16 : Nat) (List.drop (0 : Nat) m)) ++
                    List.drop
                      ((0 : Nat) +
                        if (80 : Nat) ≤ (List.take (16 : Nat) (List.drop (0 : Nat) m)).length then (80 : Nat)
                        else (List.take (16 : Nat) (List.drop (0 : Nat) m)).length)
                      (List.replicate (80 : Nat) (0 : Int)))).length =
              (80 : Nat))
          (End.leaf
            (LV.one
              (VV.agg
                [SV.arr (Ty.int IntKind.u64) (80 : Nat)
                    (upto schF (16 : Nat) (64 : Nat)
                      (List.take (0 : Nat) (List.replicate (80 : Nat) (0 : Int)) ++
                        (List.take (80 : Nat) (List.take (16 : Nat) (List.drop (0 : Nat) m)) ++
                          List.drop
                            ((0 : Nat) +
                              if (80 : Nat) ≤ (List.take (16 : Nat) (List.drop (0 : Nat) m)).length then (80 : Nat)
                              else (List.take (16 : Nat) (List.drop (0 : Nat) m)).length)
                            (List.replicate (80 : Nat) (0 : Int)))))]))
            []))) := by kernel_rfl
theorem sched_ok : schedE.Ok Try.prog 73 := by
  refine (Ent.ofOk Try.call73 fun x_ y_ Q h => ?_).sym
  obtain ⟨m, _⟩ := x_
  obtain ⟨hn, hq⟩ := h
  have hn : m.length = 16 := hn
  refine (fnT_ok mixed scTab_ok Try.func73 rfl (LT := scLT) (ks := [.fr [.sym], .auto]) (LOk.ofTab (LTC rfl (loopF_ok (hp := []) sc_loop) LT0))).use (D := []) ?_ hq
  show (fnT _ _ _ _ ((scA).wr (m, ())) ((lNil).wr ()) _).sat _
  rw [sched_tree]
  have e : List.take 0 (List.replicate 80 (0 : Int)) ++ (List.take 80 (List.take 16 (List.drop 0 m)) ++ List.drop (0 + if 80 ≤ (List.take 16 (List.drop 0 m)).length then 80 else (List.take 16 (List.drop 0 m)).length) (List.replicate 80 0)) = m ++ List.replicate 64 0 := by
    rw [take_all hn, hn]
    simp [List.take_of_length_le (show m.length ≤ 80 by omega)]
  rw [e]
  refine ⟨by omega, by omega, ⟨rfl, by simp [hn]⟩, rfl, rfl⟩
/-! ### The step -/
def oneF (w : List Int) (t : Nat) (x : List Int) : Int :=
  IntKind.u64.wrap (IntKind.u64.wrap (IntKind.u64.wrap (IntKind.u64.wrap (x.getD 7 0 + greatF (x.getD 4 0) 14 18 41) + chF (x.getD 4 0) (x.getD 5 0) (x.getD 6 0)) + roundsK.getD t 0) + w.getD t 0)
def twoF (x : List Int) : Int := IntKind.u64.wrap (greatF (x.getD 0 0) 28 34 39 + majF (x.getD 0 0) (x.getD 1 0) (x.getD 2 0))
def rndF (w : List Int) (t : Nat) (x : List Int) : List Int :=
  [IntKind.u64.wrap (oneF w t x + twoF x), x.getD 0 0, x.getD 1 0, x.getD 2 0, IntKind.u64.wrap (x.getD 3 0 + oneF w t x), x.getD 4 0, x.getD 5 0, x.getD 6 0]
def addF (x s : List Int) : List Int := (List.range 8).map fun i => IntKind.u64.wrap (x.getD i 0 + s.getD i 0)
def allF (w x : List Int) : List Int := upto (rndF w) 0 80 x
def stepF (s m : List Int) : List Int := addF (allF (schedF m) s) s
theorem sched_length {m : List Int} (h : m.length = 16) : (schedF m).length = 80 := by
  unfold schedF
  exact upto_inv (f := schF) (n := 80) (fun (_ : Nat) (w : List Int) => w.length = 80) (fun t w _ h => by rw [schF_length]; exact h) 64 16 (m ++ List.replicate 64 0) (by omega) (by simp [h])
noncomputable abbrev stFn : Func := Try.f68
abbrev spC : Cod (List LV) (Int × Unit) := (jk 2 (lSkip (vOne (sPtr 0 0)) (jk 1 (lSkip (vOne (sPtr 1 0)) (lSkip (vOne (sPtr 2 0)) (lSkip (vOne (sPtr 3 0)) (lSkip (vOne (sPtr 4 0)) (jk 8 (lCons (vOne (sInt .i64)) (jk 69 lNil))))))))))
abbrev spCf : Wk := .fr (fmS 86 [(2, .keep), (4, .keep), (5, .keep), (6, .keep), (7, .keep), (16, .sym)])
abbrev spX : Cod (List LV) (Unit) := (jk 2 (lSkip (vOne (sPtr 0 0)) (jk 1 (lSkip (vOne (sPtr 1 0)) (jk 2 (lSkip (vOne (sPtr 2 0)) (jk 78 lNil)))))))
abbrev spXf : Wk := .fr (fmS 86 [(2, .keep), (4, .keep), (7, .keep)])
abbrev spHX : Cod Hp (List Int × List Int × List Int × Unit) := lCons (iRow 87 .u64 8) (lCons (iCells 87 .u64 8) (lCons (iCells 87 .u64 8) lNil))
abbrev spH : Cod Hp (List Int × List Int × List Int × List Int × List Int × Unit) := lCons (iRow 87 .u64 8) (lCons (iRow 87 .u64 8) (lCons (iRow 101 .u64 80) (lCons (iRow 101 .u64 80) (lCons (iRow 87 .u64 8) lNil))))
noncomputable abbrev spTab : List (FuncId × Ent) := [(72, roundsE), (73, schedE), (74, greatE), (75, chE), (76, majE)]
theorem spTab_ok : ∀ p ∈ spTab, p.2.Ok Try.prog p.1 := tabC rounds_ok (tabC sched_ok (tabC great_ok (tabC ch_ok (tabC maj_ok tab0))))
def spW : Exit → List Wk
  | .normal => [spCf, .rowB 4 0 8 .u64, .auto]
  | .exit 0 => [spXf, .auto, .cellB 1, .cellB 2]
  | _ => []
theorem sp_rnd (t : Int) (s r k w x : List Int) : rndT Try.prog spTab [] stFn 0 [] spW ((stC spC spH).wr ((t, ()), (s, r, k, w, x, ()))) =
    Res.ite (decide (t < (80 : Int)))
      (Res.need
        ((0 : Int) < (14 : Int) ∧
          (14 : Int) < (64 : Int) ∧
            (0 : Int) < (18 : Int) ∧ (18 : Int) < (64 : Int) ∧ (0 : Int) < (41 : Int) ∧ (41 : Int) < (64 : Int))
        (Res.need ((0 : Int) ≤ t ∧ t < (80 : Int))
          (Res.need ((0 : Int) ≤ t ∧ t < (80 : Int))
            (Res.need
              ((0 : Int) < (28 : Int) ∧
                (28 : Int) < (64 : Int) ∧
                  (0 : Int) < (34 : Int) ∧ (34 : Int) < (64 : Int) ∧ (0 : Int) < (39 : Int) ∧ (39 : Int) < (64 : Int))
              (Res.leaf Exit.normal
                ((stC spC spH).wr
                  ((IntKind.i64.wrap (t + (1 : Int)), PUnit.unit), s, r, k, w,
                    [IntKind.u64.wrap
                        (IntKind.u64.wrap
                            (IntKind.u64.wrap
                                (IntKind.u64.wrap
                                    (IntKind.u64.wrap
                                        (x.getD (7 : Nat) (0 : Int) +
                                          greatF (x.getD (4 : Nat) (0 : Int)) (14 : Int) (18 : Int) (41 : Int)) +
                                      chF (x.getD (4 : Nat) (0 : Int)) (x.getD (5 : Nat) (0 : Int))
                                        (x.getD (6 : Nat) (0 : Int))) +
                                  (List.take (80 : Nat) (List.drop (0 : Nat) k)).getD t.toNat (0 : Int)) +
                              (List.take (80 : Nat) (List.drop (0 : Nat) w)).getD t.toNat (0 : Int)) +
                          IntKind.u64.wrap
                            (greatF (x.getD (0 : Nat) (0 : Int)) (28 : Int) (34 : Int) (39 : Int) +
                              majF (x.getD (0 : Nat) (0 : Int)) (x.getD (1 : Nat) (0 : Int)) (x.getD (2 : Nat) (0 : Int)))),
                      x.getD (0 : Nat) (0 : Int), x.getD (1 : Nat) (0 : Int), x.getD (2 : Nat) (0 : Int),
                      IntKind.u64.wrap
                        (x.getD (3 : Nat) (0 : Int) +
                          IntKind.u64.wrap
                            (IntKind.u64.wrap
                                (IntKind.u64.wrap
                                    (IntKind.u64.wrap
                                        (x.getD (7 : Nat) (0 : Int) +
                                          greatF (x.getD (4 : Nat) (0 : Int)) (14 : Int) (18 : Int) (41 : Int)) +
                                      chF (x.getD (4 : Nat) (0 : Int)) (x.getD (5 : Nat) (0 : Int))
                                        (x.getD (6 : Nat) (0 : Int))) +
                                  (List.take (80 : Nat) (List.drop (0 : Nat) k)).getD t.toNat (0 : Int)) +
                              (List.take (80 : Nat) (List.drop (0 : Nat) w)).getD t.toNat (0 : Int))),
                      x.getD (4 : Nat) (0 : Int), x.getD (5 : Nat) (0 : Int), x.getD (6 : Nat) (0 : Int)],
                    PUnit.unit)))))))
      (Res.leaf (Exit.exit (0 : Nat))
        ((stC spX spHX).wr
          (PUnit.unit, s,
            [r.getD (nat_lit 0) (0 : Int), r.getD (nat_lit 1) (0 : Int), r.getD (nat_lit 2) (0 : Int),
              r.getD (nat_lit 3) (0 : Int), r.getD (nat_lit 4) (0 : Int), r.getD (nat_lit 5) (0 : Int),
              r.getD (nat_lit 6) (0 : Int), r.getD (nat_lit 7) (0 : Int)],
            [x.getD (nat_lit 0) (0 : Int), x.getD (nat_lit 1) (0 : Int), x.getD (nat_lit 2) (0 : Int),
              x.getD (nat_lit 3) (0 : Int), x.getD (nat_lit 4) (0 : Int), x.getD (nat_lit 5) (0 : Int),
              x.getD (nat_lit 6) (0 : Int), x.getD (nat_lit 7) (0 : Int)],
            PUnit.unit))) := by kernel_rfl
noncomputable def spF (x : (Int × Unit) × List Int × List Int × List Int × List Int × List Int × Unit) : Res :=
  .need (x.1.1 = 0 ∧ x.2.2.2.1 = roundsK ∧ x.2.2.2.2.1.length = 80 ∧ x.2.2.2.2.2.1.length = 8) (.leaf (.exit 0) ((stC spX spHX).wr ((), (x.2.1, x.2.2.1, allF x.2.2.2.2.1 x.2.2.2.2.2.1, ()))))
theorem sp_loop (x) : Ex Try.prog [] (.loop (loopAt stFn 0)) ((stC spC spH).wr x) (spF x) := by
  obtain ⟨⟨i, _⟩, s, r, k, w, x, _⟩ := x
  refine Ex.need fun ⟨h1, h2, h3, h4⟩ => ?_
  simp only at h1 h2 h3 h4
  subst h1 h2
  refine loopUp (ws := spW) (hp := []) mixed spTab_ok (LOk.nil _) 80 (fun j x => (stC spC spH).wr (((j : Int), ()), (s, r, roundsK, w, x, ()))) (fun x => (stC spX spHX).wr ((), (s, r, x, ()))) (rndF w) (fun _ x => x.length = 8)
    (fun j x R hk hm hn hx => ?_) (fun k m _ hm => rfl) 0 x (by omega) h4
  rw [sp_rnd]
  refine ⟨fun hb => ?_, fun hb => ?_⟩
  · have hlt : j < 80 := by have := of_decide_eq_true hb; omega
    rw [take_all h3, take_all (l := roundsK) (n := 80) rfl, wrap_succ j (by omega)]
    simp only [Int.toNat_natCast]
    exact ⟨by decide, by omega, by omega, by decide, hn hlt⟩
  · have : j = 80 := by have := of_decide_eq_false hb; omega
    exact hx this
noncomputable abbrev spLT : LTab := [(0, loopF (stC spC spH) 0 [spCf, .auto, .rowB 1 0 8 .u64, .rowB 4 0 8 .u64] spF)]
abbrev stA : Cod (List LV) (List Int × List Int × Unit) := lCons (vRow .u64 8) (lCons (vRow .u64 16) lNil)
noncomputable def stepE : Ent := Ent.ofS [] (stA) (lNil) fun x_ y_ => (fun (s m : List Int) => .leaf (some (s.length = 8 ∧ m.length = 16)) (nRow .u64 8 (stepF s m)) []) x_.1 x_.2.1 
theorem step_tree (s m : List Int) : fnT Try.prog spTab spLT Try.f68 ((stA).wr (s, m, ())) ((lNil).wr ()) [.fr [.sym], .rowF 0 0 8 .u64, .auto] =
    End.need (m.length = (16 : Nat))
      (End.need ((0 : Int) = (0 : Int) ∧ roundsK = roundsK ∧ (schedF m).length = (80 : Nat) ∧ s.length = (8 : Nat))
        (End.leaf
          (LV.one
            (VV.agg
              [SV.arr (Ty.int IntKind.u64) (8 : Nat)
                  [IntKind.u64.wrap ((allF (schedF m) s).getD (nat_lit 0) (0 : Int) + s.getD (0 : Nat) (0 : Int)),
                    IntKind.u64.wrap ((allF (schedF m) s).getD (nat_lit 1) (0 : Int) + s.getD (1 : Nat) (0 : Int)),
                    IntKind.u64.wrap ((allF (schedF m) s).getD (nat_lit 2) (0 : Int) + s.getD (2 : Nat) (0 : Int)),
                    IntKind.u64.wrap ((allF (schedF m) s).getD (nat_lit 3) (0 : Int) + s.getD (3 : Nat) (0 : Int)),
                    IntKind.u64.wrap ((allF (schedF m) s).getD (nat_lit 4) (0 : Int) + s.getD (4 : Nat) (0 : Int)),
                    IntKind.u64.wrap ((allF (schedF m) s).getD (nat_lit 5) (0 : Int) + s.getD (5 : Nat) (0 : Int)),
                    IntKind.u64.wrap ((allF (schedF m) s).getD (nat_lit 6) (0 : Int) + s.getD (6 : Nat) (0 : Int)),
                    IntKind.u64.wrap ((allF (schedF m) s).getD (nat_lit 7) (0 : Int) + s.getD (7 : Nat) (0 : Int))]]))
          [])) := by kernel_rfl
theorem step_ok : stepE.Ok Try.prog 68 := by
  refine (Ent.ofOk Try.call68 fun x_ y_ Q h => ?_).sym
  obtain ⟨s, m, _⟩ := x_
  obtain ⟨hn, hq⟩ := h
  have hn : s.length = 8 ∧ m.length = 16 := hn
  refine (fnT_ok mixed spTab_ok Try.func68 rfl (LT := spLT) (ks := [.fr [.sym], .rowF 0 0 8 .u64, .auto]) (LOk.ofTab (LTC rfl (loopF_ok (hp := []) sp_loop) LT0))).use (D := []) ?_ hq
  show (fnT _ _ _ _ ((stA).wr (s, m, ())) ((lNil).wr ()) _).sat _
  rw [step_tree]
  exact ⟨hn.2, ⟨rfl, rfl, sched_length hn.2, hn.1⟩, rfl, rfl⟩
theorem step_length (s m : List Int) : (stepF s m).length = 8 := rfl
theorem words_length (b : List Int) : (wordsF b).length = 16 := by
  unfold wordsF
  exact upto_inv (f := wordF b) (n := 128) (fun (_ : Nat) (m : List Int) => m.length = 16) (fun k m _ h => by rw [wordF_length]; exact h) 128 0 (List.replicate 16 0) (by omega) (by simp)
end Go.Proofs.Ytdpbkfmjknmmnaa
