/- The law SpecRooms, joined: an image is accepted exactly up to the limits of room and floor, and ErrBig takes precedence over ErrOld. -/
import Derived.Test.YtnbkagglkajbkaaGreatB17
set_option linter.unusedVariables false
set_option linter.unusedSimpArgs false
namespace Go.Proofs.YtnbkagglkajbkaaGreat
open Go Go.Ev Go.ChangeShapes Go.WideShapes Go.ChangeAt Go.RowKit Go.Proofs.Tryz
open Go.IntKind (i64 signed u16 u64 wrap)
set_option maxRecDepth 100000
namespace specRooms
theorem lz(H:Type)(enc:TypeId×Value→H)(W:World)(base:Nat)(args:Array Value)(ds gs:List (DataW H))(before:List MemPlace)
  (c7:∀ (j:Nat) t v,f8.params[j]? =some t→args[j]? =some v→Value.okWide Tryz.prog W .any base t v)
  (hW:DataW.Whole enc Tryz.prog f8.params.toList Rows.specRoomsSpec.vars false W args.toList ds gs before):
  Calls Tryz.prog 8 args W fun e W'=>∃v,e= .returned v∧Rows.specRoomsSpec.post enc Tryz.prog f8 false true false false W args v W':=by
 have hW':=hW;obtain⟨p,q,hA0,hV,rfl,hfz,hnd⟩:=hW;have hA:DataW.TrodAll enc Tryz.prog W 0 (fun _=>true) true f8.params.toList args.toList ds p:=hA0;rw[params8]at hA c7;obtain⟨v0,vs0,d0,ds0,p0,q0,dM,rfl,rfl,h0,r0⟩:=trodAll_cons hA;obtain⟨v1,vs1,d1,ds1,p1,q1,rfl,rfl,rfl,h1,r1⟩:=trodAll_cons r0;obtain⟨v2,vs2,d2,ds2,p2,q2,rfl,rfl,rfl,h2,r2⟩:=trodAll_cons r1;obtain⟨v3,vs3,d3,ds3,p3,q3,rfl,rfl,rfl,h3,r3⟩:=trodAll_cons r2;obtain⟨v4,vs4,d4,ds4,p4,q4,rfl,rfl,rfl,h4,r4⟩:=trodAll_cons r3;obtain⟨rfl,rfl,rfl⟩:=trodAll_nil r4;obtain rfl:args= #[v0,v1,v2,v3,v4]:=by cases args;simp_all
 obtain⟨x0,MF,hd0⟩:=nL (c7 0 22 v0 rfl rfl) h0;obtain⟨x1,rfl,rfl,rfl,hw1⟩:=open_int underlying23 (c7 1 23 v1 rfl rfl) h1;obtain⟨x2,rfl,rfl,rfl,hw2⟩:=open_int underlying23 (c7 2 23 v2 rfl rfl) h2;obtain⟨x3,hb3,hd3⟩:=kQ (c7 3 27 v3 rfl rfl) h3;obtain⟨x4,rfl,rfl,rfl,hw4⟩:=open_int underlying3 (c7 4 3 v4 rfl rfl) h4;refine(kr call8 afL (args:=(ae cB (ae (ah (ay .u64)) (ae (ah (ay .u64)) (ae (ah (e9 false false u8)) (ae (ah (ay .i64)) ag))))).wr (x0,x1,x2,x3,x4,())) rfl ⟨MF.1,hb3,(yV hw1).1,(yV hw1).2⟩ W (.cons hd0 (.cons rfl (.cons rfl (.cons hd3 (.cons rfl .nil)))))).mono fun e W' ⟨he,hk⟩=>⟨_,he,?_⟩;exact tO (by kernel_rfl) underlying4 (qJ (by kernel_rfl)) hW' rfl rfl hk
theorem lifted(os:Os)(started:os.Started)(H:Type)(enc:TypeId×Value→H):
  ReturnsInHanded {} checked os 8 .any (Rows.specRoomsSpec.pre6 enc Tryz.prog f8 Rows.specRoomsRow.domain false) (Rows.specRoomsSpec.post enc Tryz.prog f8 false true false false):=by
 refine returnsInHanded_of_change (C:=checked) tM started (by kernel_rfl) func8
  (ChangeSpec.witness6 (enc:=enc) (C:=checked) false ⟨#[],#[.agg (Array.replicate 32 (.int .u8 0)),.int .u64 0,.int .u64 0,.slice none 0 0,.int .i64 0],[]⟩ 8 (by kernel_rfl) (by kernel_rfl) (by kernel_rfl) (by kernel_rfl)) ?_
 intro W base args ds gs before c7 hW _ _;exact lz H enc W base args ds gs before c7 hW
set_option maxHeartbeats 10000000 in
theorem closed:joinedFacts checked.prog 8 f8 Rows.specRoomsSpec Rows.specRoomsRow=true:=by
 unfold joinedFacts;simp only[Bool.and_eq_true]
 and_intros
 all_goals (as_aux_lemma=>kernel_rfl)
theorem named:checked.prog.funcNamed Rows.specRoomsRow.func=some 8:=by kernel_rfl
theorem said:Rows.SpecRoomsSaid:=
 OpenClaim.holds_of_wide 8 f8 rfl rfl rfl rfl rfl rfl rfl ⟨rfl,rfl,rfl,rfl,rfl⟩ rfl rfl rfl rfl rfl named func8 closed
  (of_decide_eq_true (by kernel_rfl)) (by unfold Func.isWrapper;first|(rw[if_pos (by decide+kernel)];kernel_rfl)|(rw[if_neg (by decide+kernel)];exact⟨rfl,rfl⟩))
  (fun os started H enc _=>lifted os started H enc)
end specRooms
end Go.Proofs.YtnbkagglkajbkaaGreat
