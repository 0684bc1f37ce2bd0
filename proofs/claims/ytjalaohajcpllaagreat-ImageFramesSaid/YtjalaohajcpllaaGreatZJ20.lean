/- The law ImageFrames, joined: a frame is what the document says, and is unframed as it was. -/
import Derived.Test.YtjalaohajcpllaaGreatA18
set_option linter.unusedVariables false
set_option linter.unusedSimpArgs false
namespace Go.Proofs.YtjalaohajcpllaaGreat
open Go Go.Ev Go.ChangeShapes Go.WideShapes Go.ChangeAt Go.RowKit
set_option maxRecDepth 100000
namespace imageFrames
theorem Dw (H:Type) (enc:TypeId×Value→H) (W:World) (base:Nat) (args:Array Value) (ds gs:List (DataW H)) (before:List MemPlace)
  (nk: ∀ (j:Nat) t v,Tryz.f4.params[j]? =some t→args[j]? =some v→Value.okWide Tryz.prog W .any base t v)
  (hW:DataW.Whole enc Tryz.prog Tryz.f4.params.toList Rows.imageFramesSpec.vars false W args.toList ds gs before):
  Calls Tryz.prog 4 args W fun e W'=> ∃ v,e= .returned v∧Rows.imageFramesSpec.post enc Tryz.prog Tryz.f4 false true false false W args v W':=by
 have hW':=hW
 obtain ⟨p,q,hA0,hV,rfl,hfz,hnd⟩:=hW
 have hA:DataW.TrodAll enc Tryz.prog W 0 (fun _=>true) true Tryz.f4.params.toList args.toList ds p:=hA0
 rw[Tryz.params4] at hA nk
 obtain ⟨v0,vs0,d0,ds0,p0,q0,dG,rfl,rfl,h0,r0⟩:=trodAll_cons hA
 obtain ⟨v1,vs1,d1,ds1,p1,q1,rfl,rfl,rfl,h1,r1⟩:=trodAll_cons r0
 obtain ⟨rfl,rfl,rfl⟩:=trodAll_nil r1
 obtain rfl:args= #[v0,v1]:=by cases args;simp_all
 obtain ⟨x0,ZX,hd0⟩:=sx (nk 0 27 v0 rfl rfl) h0
 obtain ⟨x1,hb1,hd1⟩:=sx (nk 1 27 v1 rfl rfl) h1
 refine (tQ Tryz.call4 ahv (args:=(ae (ah (dB false false u8)) (ae (ah (dB false false u8)) ag):a9 (List LV) (List Int×List Int×Unit)).wr (x0,x1,())) rfl ⟨ZX,hb1⟩ W (.cons hd0 (.cons hd1 .nil))).mono fun e W' ⟨he,hk⟩=>⟨_,he,?_⟩
 exact J1 (by kernel_rfl) Tryz.underlying4 (El (by kernel_rfl)) hW' rfl rfl hk
theorem lifted (os:Os) (started:os.Started) (H:Type) (enc:TypeId×Value→H):
  ReturnsInHanded {} Tryz.checked os 4 .any (Rows.imageFramesSpec.pre6 enc Tryz.prog Tryz.f4 Rows.imageFramesRow.domain false) (Rows.imageFramesSpec.post enc Tryz.prog Tryz.f4 false true false false):=by
 refine returnsInHanded_of_change (C:=Tryz.checked) JZ started (by kernel_rfl) Tryz.func4
  (ChangeSpec.witness6 (enc:=enc) (C:=Tryz.checked) false ⟨#[],#[.slice none 0 0,.slice none 0 0],[]⟩ 8 (by kernel_rfl) (by kernel_rfl) (by kernel_rfl) (by kernel_rfl)) ?_
 intro W base args ds gs before nk hW _ _
 exact Dw H enc W base args ds gs before nk hW
theorem said:Rows.ImageFramesSaid:=
 OpenClaim.holds_of_wide 4 Tryz.f4 rfl rfl rfl rfl rfl rfl rfl ⟨rfl,rfl,rfl,rfl,rfl⟩ rfl rfl rfl rfl rfl (by kernel_rfl) Tryz.func4 (by kernel_rfl)
  (of_decide_eq_true (by kernel_rfl)) (by unfold Func.isWrapper;first|(rw[if_pos (by decide+kernel)];kernel_rfl)|(rw[if_neg (by decide+kernel)];exact ⟨rfl,rfl⟩))
  (fun os started H enc _=>lifted os started H enc)
end imageFrames
end Go.Proofs.YtjalaohajcpllaaGreat
