/- The law ImageCuts, joined: a frame that is cut short is told so, and one with other packed bytes is unframed by those. -/
import Derived.Test.YtjalaohajcpllaaGreatA17
set_option linter.unusedVariables false
set_option linter.unusedSimpArgs false
namespace Go.Proofs.YtjalaohajcpllaaGreat
open Go Go.Ev Go.ChangeShapes Go.WideShapes Go.ChangeAt Go.RowKit
set_option maxRecDepth 100000
namespace imageCuts
theorem oS (H:Type) (enc:TypeId×Value→H) (W:World) (base:Nat) (args:Array Value) (ds gs:List (DataW H)) (before:List MemPlace)
  (dY: ∀ (j:Nat) t v,Tryz.f7.params[j]? =some t→args[j]? =some v→Value.okWide Tryz.prog W .any base t v)
  (hW:DataW.Whole enc Tryz.prog Tryz.f7.params.toList Rows.imageCutsSpec.vars false W args.toList ds gs before):
  Calls Tryz.prog 7 args W fun e W'=> ∃ v,e= .returned v∧Rows.imageCutsSpec.post enc Tryz.prog Tryz.f7 false true false false W args v W':=by
 have hW':=hW
 obtain ⟨p,q,hA0,hV,rfl,hfz,hnd⟩:=hW
 have hA:DataW.TrodAll enc Tryz.prog W 0 (fun _=>true) true Tryz.f7.params.toList args.toList ds p:=hA0
 rw[Tryz.params7] at hA dY
 obtain ⟨v0,vs0,d0,ds0,p0,q0,dc,rfl,rfl,h0,r0⟩:=trodAll_cons hA
 obtain ⟨v1,vs1,d1,ds1,p1,q1,rfl,rfl,rfl,h1,r1⟩:=trodAll_cons r0
 obtain ⟨v2,vs2,d2,ds2,p2,q2,rfl,rfl,rfl,h2,r2⟩:=trodAll_cons r1
 obtain ⟨v3,vs3,d3,ds3,p3,q3,rfl,rfl,rfl,h3,r3⟩:=trodAll_cons r2
 obtain ⟨rfl,rfl,rfl⟩:=trodAll_nil r3
 obtain rfl:args= #[v0,v1,v2,v3]:=by cases args;simp_all
 obtain ⟨x0,Kr,hd0⟩:=qM (dY 0 27 v0 rfl rfl) h0
 obtain ⟨x1,rfl,rfl,rfl,hw1⟩:=open_int Tryz.underlying3 (dY 1 3 v1 rfl rfl) h1
 obtain ⟨x2,rfl,rfl,rfl,hw2⟩:=open_int Tryz.underlying3 (dY 2 3 v2 rfl rfl) h2
 obtain ⟨x3,rfl,rfl,rfl,hw3⟩:=open_int Tryz.underlying5 (dY 3 5 v3 rfl rfl) h3
 refine (mm Tryz.call7 aas (args:=(ae (ai (eS false false u8)) (ae (ai (ax .i64)) (ae (ai (ax .i64)) (ae (ai (ax .u8)) ag))):ba (List LV) (List Int×Int×Int×Int×Unit)).wr (x0,x1,x2,x3,())) rfl Kr W (.cons hd0 (.cons rfl (.cons rfl (.cons rfl .nil))))).mono fun e W' ⟨he,hk⟩=>⟨_,he,?_⟩
 exact yM (by kernel_rfl) Tryz.underlying4 (vf (by kernel_rfl)) hW' rfl rfl hk
theorem lifted (os:Os) (started:os.Started) (H:Type) (enc:TypeId×Value→H):
  ReturnsInHanded {} Tryz.checked os 7 .any (Rows.imageCutsSpec.pre6 enc Tryz.prog Tryz.f7 Rows.imageCutsRow.domain false) (Rows.imageCutsSpec.post enc Tryz.prog Tryz.f7 false true false false):=by
 refine returnsInHanded_of_change (C:=Tryz.checked) yL started (by kernel_rfl) Tryz.func7
  (ChangeSpec.witness6 (enc:=enc) (C:=Tryz.checked) false ⟨#[],#[.slice none 0 0,.int .i64 0,.int .i64 0,.int .u8 0],[]⟩ 8 (by kernel_rfl) (by kernel_rfl) (by kernel_rfl) (by kernel_rfl)) ?_
 intro W base args ds gs before dY hW _ _
 exact oS H enc W base args ds gs before dY hW
theorem said:Rows.ImageCutsSaid:=
 OpenClaim.holds_of_wide 7 Tryz.f7 rfl rfl rfl rfl rfl rfl rfl ⟨rfl,rfl,rfl,rfl,rfl⟩ rfl rfl rfl rfl rfl (by kernel_rfl) Tryz.func7 (by kernel_rfl)
  (of_decide_eq_true (by kernel_rfl)) (by unfold Func.isWrapper;first|(rw[if_pos (by decide+kernel)];kernel_rfl)|(rw[if_neg (by decide+kernel)];exact ⟨rfl,rfl⟩))
  (fun os started H enc _=>lifted os started H enc)
end imageCuts
end Go.Proofs.YtjalaohajcpllaaGreat
