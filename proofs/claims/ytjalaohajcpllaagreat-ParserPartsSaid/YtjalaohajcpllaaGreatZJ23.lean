/- The law ParserParts, joined: an image comes in parts that are it, one behind the other. -/
import Derived.Test.YtjalaohajcpllaaGreatA17
set_option linter.unusedVariables false
set_option linter.unusedSimpArgs false
namespace Go.Proofs.YtjalaohajcpllaaGreat
open Go Go.Ev Go.ChangeShapes Go.WideShapes Go.ChangeAt Go.RowKit
set_option maxRecDepth 100000
namespace parserParts
theorem oS (H:Type) (enc:TypeId×Value→H) (W:World) (base:Nat) (args:Array Value) (ds gs:List (DataW H)) (before:List MemPlace)
  (dY: ∀ (j:Nat) t v,Tryz.f3.params[j]? =some t→args[j]? =some v→Value.okWide Tryz.prog W .any base t v)
  (hW:DataW.Whole enc Tryz.prog Tryz.f3.params.toList Rows.parserPartsSpec.vars false W args.toList ds gs before):
  Calls Tryz.prog 3 args W fun e W'=> ∃ v,e= .returned v∧Rows.parserPartsSpec.post enc Tryz.prog Tryz.f3 false true false false W args v W':=by
 have hW':=hW
 obtain ⟨p,q,hA0,hV,rfl,hfz,hnd⟩:=hW
 have hA:DataW.TrodAll enc Tryz.prog W 0 (fun _=>true) true Tryz.f3.params.toList args.toList ds p:=hA0
 rw[Tryz.params3] at hA dY
 obtain ⟨v0,vs0,d0,ds0,p0,q0,dc,rfl,rfl,h0,r0⟩:=trodAll_cons hA
 obtain ⟨v1,vs1,d1,ds1,p1,q1,rfl,rfl,rfl,h1,r1⟩:=trodAll_cons r0
 obtain ⟨v2,vs2,d2,ds2,p2,q2,rfl,rfl,rfl,h2,r2⟩:=trodAll_cons r1
 obtain ⟨rfl,rfl,rfl⟩:=trodAll_nil r2
 obtain rfl:args= #[v0,v1,v2]:=by cases args;simp_all
 obtain ⟨x0,Kr,hd0⟩:=AZ (dY 0 22 v0 rfl rfl) h0
 obtain ⟨x1,Ol,hd1⟩:=CQ (dY 1 26 v1 rfl rfl) h1
 obtain ⟨x2,uF,hd2⟩:=qM (dY 2 27 v2 rfl rfl) h2
 refine (mm Tryz.call3 TK (args:=oP.wr (x0,x1,x2,())) rfl ⟨Kr.1,uF,Ol.1,Ol.2.1,Ol.2.2.1,Ol.2.2.2⟩ W (.cons hd0 (.cons hd1 (.cons hd2 .nil)))).mono fun e W' ⟨he,hk⟩=>⟨_,he,?_⟩
 exact yM (by kernel_rfl) Tryz.underlying4 (vf (by kernel_rfl)) hW' rfl rfl hk
theorem lifted (os:Os) (started:os.Started) (H:Type) (enc:TypeId×Value→H):
  ReturnsInHanded {} Tryz.checked os 3 .any (Rows.parserPartsSpec.pre6 enc Tryz.prog Tryz.f3 Rows.parserPartsRow.domain false) (Rows.parserPartsSpec.post enc Tryz.prog Tryz.f3 false true false false):=by
 refine returnsInHanded_of_change (C:=Tryz.checked) yL started (by kernel_rfl) Tryz.func3
  (ChangeSpec.witness6 (enc:=enc) (C:=Tryz.checked) false ⟨#[],#[.agg (Array.replicate 32 (.int .u8 0)),.agg #[.int .i64 0,.int .u64 0,.int .u64 0,.slice none 0 0],.slice none 0 0],[]⟩ 8 (by kernel_rfl) (by kernel_rfl) (by kernel_rfl) (by kernel_rfl)) ?_
 intro W base args ds gs before dY hW _ _
 exact oS H enc W base args ds gs before dY hW
theorem said:Rows.ParserPartsSaid:=
 OpenClaim.holds_of_wide 3 Tryz.f3 rfl rfl rfl rfl rfl rfl rfl ⟨rfl,rfl,rfl,rfl,rfl⟩ rfl rfl rfl rfl rfl (by kernel_rfl) Tryz.func3 (by kernel_rfl)
  (of_decide_eq_true (by kernel_rfl)) (by unfold Func.isWrapper;first|(rw[if_pos (by decide+kernel)];kernel_rfl)|(rw[if_neg (by decide+kernel)];exact ⟨rfl,rfl⟩))
  (fun os started H enc _=>lifted os started H enc)
end parserParts
end Go.Proofs.YtjalaohajcpllaaGreat
