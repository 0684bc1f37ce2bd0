/- What the laws lean on, part 8: a reader of code, plain facts, and what each function gives; no conditions. -/
import Derived.Test.YtnbkagglkajbkaaGreatC7
set_option linter.unusedVariables false
set_option linter.unusedSimpArgs false
noncomputable section
namespace Go.Proofs.YtnbkagglkajbkaaGreat
open Go Go.Ev Go.Proofs.Tryz
open Go.IntKind (i64 signed u16 u64 wrap)
set_option maxRecDepth 1000000
abbrev kr:Ty:=.pair (.int .i64) (.pair (.int .i64) (.int .u8))
abbrev eP:Type:=Int×Int×Int
abbrev Wp:aQ LV eP:=(qC (ae (aA .i64) (ae (aA .i64) (ae (aA .u8) ag)))).lV (fun x=>(x.1,x.2.1,x.2.2.1)) (fun y=>(y.1,y.2.1,y.2.2,())) (fun _=>rfl)
abbrev Jh:aQ (List LV) (List eP×Unit):=ae (ah (gg false false kr)) ag
def cL(t:eP):Int:=if t.1=0 then 1 else t.1
def mY(t:eP)(made:Int):Bool:=if t.1=0 then decide (t.2.1=0)else decide (t.2.2=0∧2≤t.1∧t.1≤257∧1≤t.2.1∧t.2.1≤4096∧t.2.1≤made)
def b8:Int→List eP→Bool
 |_,[]=>true
 |made,t::l=>mY t made&&decide (made+cL t≤8192)&&b8 (made+cL t) l
abbrev E9:Type:=Int
abbrev ab5(x:E9):LV:=LV.one (VV.sc (SV.int i64 (SI.sym x)))
abbrev ab6(x:E9):List (Nat×Ev.Item):= []
def Oc(t:Int×Int×Int):Tr (E9):=(.ite (t.fst==0) (.ret (1)) (.ret (t.fst)))
theorem Od(t:eP):aH Tryz.prog [] [] f130 (((ae Wp ag)).wr (t,())) ((ag).wr (())) [.fr [.sym],.syms,.auto,.aF]=(Oc t).end ab5 ab6 ((ag).wr (())):=by kernel_rfl
theorem Wq(t:eP):aK Tryz.prog ((ag).wr (())) [] (aJ f130):=(aK.nil _)
abbrev jv(t:eP):Prop:=True
abbrev Oe(t:eP):E9:=cL t
def vu:an:=cQ [] ((ae Wp ag)) (ag) (fun x_ y_=>jv x_.1) (fun x_ y_=>Oe x_.1) ab5 ab6
theorem ab7(t:eP)(h_:jv t):(Oc t).Is (Oe t):=by
 delta Oe;simp only[Oc,cL,dV,ao];exact⟨fun h=>by rw[if_pos h],fun h=>by rw[if_neg h]⟩
theorem oE:vu.Ok Tryz.prog 130:=
 bJ mixed aw func130 (by kernel_rfl) call130 (fun x_ y_=>Wq x_.1) (fun x_ y_=>Od x_.1) (fun x_ y_ h=>ab7 x_.1 h)
abbrev Tc:Type:=Bool
abbrev aoU(x:Tc):LV:=LV.one (VV.sc (SV.bool (SB.sym x)))
abbrev aoV(x:Tc):List (Nat×Ev.Item):= []
def ab8(t:Int×Int×Int)(made:Int):Tr (Tc):=(.ite (t.fst==0) (.ret (t.snd.fst==0)) (.ite ((t.snd.snd==0)==true)
 (.ite (decide (2≤t.fst)==true) (.ite (decide (t.fst≤257)==true) (.ite (decide (1≤t.snd.fst)==true) (.ret (decide (t.snd.fst≤if made<
 4096 then made else 4096))) (.ret (false))) (.ret (false))) (.ret (false))) (.ret (false))))
theorem Wr(t:eP)(made:Int):aH Tryz.prog [] [] f180 (((ae Wp (ae (ah (aA .i64)) ag))).wr (t,made,())) ((ag).wr (())) [.fr [.sym],.syms,.auto,.aF]=(ab8 t made).end aoU aoV ((ag).wr (())):=by kernel_rfl
theorem ab9(t:eP)(made:Int):aK Tryz.prog ((ag).wr (())) [] (aJ f180):=(aK.nil _)
abbrev xB(t:eP)(made:Int):Prop:=True
abbrev aca(t:eP)(made:Int):Tc:=mY t made
def Td:an:=cQ [] ((ae Wp (ae (ah (aA .i64)) ag))) (ag) (fun x_ y_=>xB x_.1 x_.2.1) (fun x_ y_=>aca x_.1 x_.2.1) aoU aoV
theorem akl(t:eP)(made:Int)(h_:xB t made):(ab8 t made).Is (aca t made):=by
 delta aca;have e:(t.2.1≤if made<4096 then made else 4096)↔(t.2.1≤4096∧t.2.1≤made):=by split<;>omega
 simp only[ab8,mY,dV,ao,iR,cu,beq_iff_eq,beq_eq_false_iff_ne,decide_eq_true_eq,decide_eq_false_iff_not,e];refine⟨fun h=>by rw[if_pos h];exact(Bool.eq_iff_iff.2 (by simp)),fun h=>?_⟩;rw[if_neg h];refine⟨fun h1=>⟨fun h2=>⟨fun h3=>⟨fun h4=>decide_eq_decide.2 ⟨fun h5=>⟨h1,h2,h3,h4,h5⟩,fun h=>h.2.2.2.2⟩,fun h4=>?_⟩,fun h3=>?_⟩,fun h2=>?_⟩,fun h1=>?_⟩
 ·exact(decide_eq_false fun h=>h4 h.2.2.2.1).symm
 ·exact(decide_eq_false fun h=>h3 h.2.2.1).symm
 ·exact(decide_eq_false fun h=>h2 h.2.1).symm
 ·exact(decide_eq_false fun h=>h1 h.1).symm
theorem Fa:Td.Ok Tryz.prog 180:=
 bJ mixed aw func180 (by kernel_rfl) call180 (fun x_ y_=>ab9 x_.1 x_.2.1) (fun x_ y_=>Wr x_.1 x_.2.1) (fun x_ y_ h=>akl x_.1 x_.2.1 h)
theorem s7{t:eP}{made:Int}(h:mY t made=true):1≤cL t∧cL t≤257:=by
 unfold mY at h;unfold cL
 split at h
 ·rename_i e;rw[if_pos e];omega
 ·rename_i e;rw[if_neg e];have:=of_decide_eq_true h;omega
abbrev oF:Type:=Int×(List (Int×Int×Int))×Int×Int
abbrev oG:aQ St oF:=(aT (jk 3 (ae (ah (aA i64)) (jk 2 (ae (ah (gg false false ((Ty.int
 i64).pair ((Ty.int i64).pair (Ty.int IntKind.u8))))) (ae (ah (aA i64)) (ae (ah (aA i64)) (jk 19
 ag))))))) ag).lV (fun y=>(y.1.1,y.1.2.1,y.1.2.2.1,y.1.2.2.2.1)) (fun x=>((x.1,(x.2.1,(x.2.2.1,(x.2.2.2,())))),())) (fun _=>rfl)
abbrev zz:List Wk:= [.fr (cb 28 [(3,.ak),(6,.ak),(7,.ak),(8,.ak)]),.syms,.auto,.aF]
abbrev Ji:Exit→List Wk:=wT zz 0 [.fr (cb 28 []),.syms,.auto,.aF] [.fr (cb 28 [(2,.ak)]),.syms,.auto,.aF]
abbrev vA:Type:=Bool
abbrev CG(x:vA):Exit×St:=(Exit.ret,⟨(gA 2 (LV.one (VV.sc (SV.bool (SB.sym x)))::(gA 25 []))),[]⟩)
abbrev vB:Type:=Unit
abbrev CH(x:vB):Exit×St:=(Exit.exit 0,⟨(gA 28 []),[]⟩)
def mw(made:Int)(l':List (Int×Int×Int))(n:Int)(i:Int):Tr (oF⊕(vA⊕vB)):=(.ite (decide (i
 <n)) (.need (0≤i∧i<(↑l'.length:Int)) (.need (xB (l'.getD i.toNat (0,0,0)) made) (.ite ((!mY (l'.getD i.toNat (0,0,0)) made)==
 false) (.need (jv (l'.getD i.toNat (0,0,0))) (.ite (decide (i64.wrap (8192-made)<cL (l'.getD i.toNat (0,0,0)))) (.ret (.inr
 (.inl (false)))) (.need (jv (l'.getD i.toNat (0,0,0))) (.ret (.inl (i64.wrap (made+cL (l'.getD i.toNat (0,0,0))),l',n,
 i64.wrap (i+1))))))) (.ret (.inr (.inl (false))))))) (.ret (.inr (.inr ()))))
theorem Fb(l:List eP)(made:Int)(l':List (Int×Int×Int))(n:Int)(i:Int):ct Tryz.prog [(130,vu),(180,Td)] [] f124 0 ((ag).wr (())) Ji (oG.wr (made,l',n,i))=(mw made l' n i).res oG.wr (Sum.elim CG CH):=by kernel_rfl
abbrev rp(made:Int)(l':List (Int×Int×Int))(n:Int)(i:Int):Prop:=n=l'.length∧0≤i∧i≤n∧0≤made∧made≤8192∧n<1099511627776
abbrev zA(made:Int)(l':List (Int×Int×Int))(n:Int)(i:Int):Bool:= !b8 made (l'.drop i.toNat)
abbrev zB(made:Int)(l':List (Int×Int×Int))(n:Int)(i:Int):vA:=false
abbrev zC(made:Int)(l':List (Int×Int×Int))(n:Int)(i:Int):vB:=()
abbrev zD:oF→aG:=mW (fun x_=>rp x_.1 x_.2.1 x_.2.2.1 x_.2.2.2) (fun x_=>zA x_.1 x_.2.1 x_.2.2.1 x_.2.2.2) (fun x_=>zB x_.1 x_.2.1 x_.2.2.1 x_.2.2.2) (fun x_=>zC x_.1 x_.2.1 x_.2.2.1 x_.2.2.2) CG CH
theorem Of(made:Int)(l':List (Int×Int×Int))(n:Int)(i:Int)(h_:rp made l' n i):cK (fun x_:oF=>mw x_.1 x_.2.1 x_.2.2.1 x_.2.2.2) (made,l',n,i) (bif zA made l' n i then .inl (zB made l' n i)else .inr (zC made l' n i)):=by
 delta zA zB zC;obtain⟨rfl,h1,h2,h3,h4,h5⟩:=h_;obtain⟨k,rfl⟩:∃k:Nat,i=k:=⟨i.toNat,by omega⟩;rw[Int.toNat_natCast];obtain⟨m,hm⟩:∃m,l'.length=k+m:=⟨l'.length-k,by omega⟩;clear h2
 induction m generalizing k made with
 |zero=>
  refine .stop ?_;rw[List.drop_of_length_le (by omega)];simp only[mw,a5,aq,ao,b8];exact⟨fun h=>by omega,fun _=>rfl⟩
 |succ m ih=>
  have hk:k<l'.length:=by omega
  have e1:i64.wrap (8192-made)=8192-made:=au (by omega) (by omega);rw[ja (0,0,0) hk,b8];generalize hx:l'.getD k (0,0,0)=x
  cases MJ:mY x made with
  |false=>
   refine .stop ?_;simp only[mw,a5,aq,ao,Int.toNat_natCast,hx,MJ];refine⟨fun _=>⟨⟨by omega,by omega⟩,trivial,?_⟩,fun h=>by omega⟩;simp[cu,ao]
  |true=>
   have Sp:=s7 MJ
   by_cases hle:made+cL x≤8192
   ·have sP:=ih (made+cL x) (by omega) (by omega) (k+1) (by omega) (by omega);rw[decide_eq_true hle,Bool.true_and,Bool.true_and];refine .go ?_ sP;simp only[mw,a5,aq,ao,Int.toNat_natCast,hx,MJ,Bool.not_true,beq_self_eq_true,a6,e1];refine⟨fun _=>⟨⟨by omega,by omega⟩,trivial,trivial,fun h=>by omega,fun _=>⟨trivial,?_⟩⟩,fun h=>by omega⟩;rw[au (n:=made+cL x) (by omega) (by omega),au (n:=(k:Int)+1) (by omega) (by omega)];rfl
   ·rw[decide_eq_false hle];refine .stop ?_;simp only[mw,a5,aq,ao,Int.toNat_natCast,hx,MJ,Bool.not_true,beq_self_eq_true,a6,e1];refine⟨fun _=>⟨⟨by omega,by omega⟩,trivial,trivial,fun h=>rfl,fun h=>by omega⟩,fun h=>by omega⟩
theorem Jj(l:List eP):∀x:oF,Ex Tryz.prog ((ag).wr (())) (.loop (aP f124 0)) (oG.wr x) (zD x):=
 cn mixed ((al oE (al Fa aw))) (ws:=Ji) (aK.nil _) (fun x_=>Fb l x_.1 x_.2.1 x_.2.2.1 x_.2.2.2) (fun z=>by cases z<;>(intro e;cases e)) oA (fun x_ h=>Of x_.1 x_.2.1 x_.2.2.1 x_.2.2.2 h)
abbrev xC:Type:=Bool
abbrev Te(x:xC):LV:=LV.one (VV.sc (SV.bool (SB.sym x)))
abbrev Tf(x:xC):List (Nat×Ev.Item):= []
def Fc(l:List (Int×Int×Int)):Tr (xC):=(.need (rp 0 l (↑l.length:Int) 0) (.ite (!b8 0 (List.drop 0 l))
 (.ret (false)) (.ret (true))))
theorem Jk(l:List eP):aH Tryz.prog [(130,vu),(180,Td)] [(0,bU oG ((ag).wr (())) zz (zD))] f124 ((Jh).wr (l,())) ((ag).wr (())) [.fr [.sym],.syms,.auto,.aF]=(Fc l).end Te Tf ((ag).wr (())):=by kernel_rfl
theorem Og(l:List eP):aK Tryz.prog ((ag).wr (())) [(0,bU oG ((ag).wr (())) zz (zD))] (aJ f124):=(aK.bI (iu (by kernel_rfl) (bM (hp:=(ag).wr (())) (Jj l)) iE))
abbrev vC(l:List eP):Prop:=l.length<1099511627776
abbrev Ff(l:List eP):xC:=b8 0 l
def Fg:an:=cQ [some kr] (Jh) (ag) (fun x_ y_=>vC x_.1) (fun x_ y_=>Ff x_.1) Te Tf
theorem Ws(l:List eP)(h_:vC l):(Fc l).Is (Ff l):=by
 delta Ff;simp only[Fc,aq,ao,cu];refine⟨⟨rfl,by omega,by omega,by omega,by omega,by omega⟩,?_⟩
 cases h:b8 0 l<;>simp[h]
theorem CI:Fg.Ok Tryz.prog 124:=
 bJ mixed ((al oE (al Fa aw))) func124 (by kernel_rfl) call124 (fun x_ y_=>Og x_.1) (fun x_ y_=>Jk x_.1) (fun x_ y_ h=>Ws x_.1 h)
abbrev oH:Type:=(List (Int×Int×Int))×Int×Int
abbrev oI:aQ St oH:=(aT (ae (ah (gg false false ((Ty.int i64).pair ((Ty.int i64).pair (Ty.int
 IntKind.u8))))) (jk 2 (ae (ah (aA i64)) (ae (ah (aA i64)) (jk 56 ag))))) ag).lV (fun y=>(y.1.1,y.1.2.1,
 y.1.2.2.1)) (fun x=>((x.1,(x.2.1,(x.2.2,()))),())) (fun _=>rfl)
abbrev zE:List Wk:= [.fr (cb 61 [(0,.ak),(3,.ak),(4,.ak)]),.syms,.auto,.aF]
abbrev Jl:Exit→List Wk:=wT zE 0 [.fr (cb 61 []),.syms,.auto,.aF] [.fr (cb 61 [(2,.ak)]),.syms,.auto,.aF]
abbrev vD:Type:=Bool
abbrev CJ(x:vD):Exit×St:=(Exit.ret,⟨(gA 2 (LV.one (VV.sc (SV.bool (SB.sym x)))::(gA 58 []))),[]⟩)
abbrev vE:Type:=Unit
abbrev CK(x:vE):Exit×St:=(Exit.exit 0,⟨(gA 61 []),[]⟩)
def jw(l':List (Int×Int×Int))(made:Int)(i:Int):Tr (oH⊕(vD⊕vE)):=(.ite (decide (i<
 (↑l'.length:Int))) (.need (0≤i∧i<(↑l'.length:Int)) (.ite ((l'.getD i.toNat (0,0,0)).fst==0) (.ite ((l'.getD i.toNat (0,0,0)).snd.fst !=
 0) (.ret (.inr (.inl (false)))) (.ite (decide (8192<i64.wrap (made+1))) (.ret (.inr (.inl (false)))) (.ret (.inl (l',i64.wrap
 (made+1),i64.wrap (i+1)))))) (.ite (decide ((l'.getD i.toNat (0,0,0)).fst<2)==false) (.ite (decide (257<(l'.getD i.toNat (0,0,
 0)).fst)==false) (.ite (((l'.getD i.toNat (0,0,0)).snd.snd !=0)==false) (.ite (decide ((l'.getD i.toNat (0,0,0)).snd.fst<1)==false) (.ite
 (decide (4096<(l'.getD i.toNat (0,0,0)).snd.fst)==false) (.ite (decide (made<(l'.getD i.toNat (0,0,0)).snd.fst)) (.ret (.inr (.inl (false))))
 (.ite (decide (8192<i64.wrap (made+(l'.getD i.toNat (0,0,0)).fst))) (.ret (.inr (.inl (false)))) (.ret (.inl (l',i64.wrap (made
 +(l'.getD i.toNat (0,0,0)).fst),i64.wrap (i+1)))))) (.ret (.inr (.inl (false))))) (.ret (.inr (.inl (false))))) (.ret (.inr (.inl
 (false))))) (.ret (.inr (.inl (false))))) (.ret (.inr (.inl (false))))))) (.ret (.inr (.inr ()))))
theorem Fh(l:List eP)(l':List (Int×Int×Int))(made:Int)(i:Int):ct Tryz.prog [] [] f202 0 ((ag).wr (())) Jl (oI.wr (l',made,i))=(jw l' made i).res oI.wr (Sum.elim CJ CK):=by kernel_rfl
abbrev rq(l':List (Int×Int×Int))(made:Int)(i:Int):Prop:=0≤i∧i≤l'.length∧0≤made∧made≤8192∧l'.length<1099511627776
abbrev zF(l':List (Int×Int×Int))(made:Int)(i:Int):Bool:= !b8 made (l'.drop i.toNat)
abbrev zG(l':List (Int×Int×Int))(made:Int)(i:Int):vD:=false
abbrev zJ(l':List (Int×Int×Int))(made:Int)(i:Int):vE:=()
abbrev zK:oH→aG:=mW (fun x_=>rq x_.1 x_.2.1 x_.2.2) (fun x_=>zF x_.1 x_.2.1 x_.2.2) (fun x_=>zG x_.1 x_.2.1 x_.2.2) (fun x_=>zJ x_.1 x_.2.1 x_.2.2) CJ CK
theorem Oh(l':List (Int×Int×Int))(made:Int)(i:Int)(h_:rq l' made i):cK (fun x_:oH=>jw x_.1 x_.2.1 x_.2.2) (l',made,i) (bif zF l' made i then .inl (zG l' made i)else .inr (zJ l' made i)):=by
 delta zF zG zJ;obtain⟨h1,h2,h3,h4,h5⟩:=h_;obtain⟨k,rfl⟩:∃k:Nat,i=k:=⟨i.toNat,by omega⟩;rw[Int.toNat_natCast];obtain⟨m,hm⟩:∃m,l'.length=k+m:=⟨l'.length-k,by omega⟩;clear h2
 induction m generalizing k made with
 |zero=>
  refine .stop ?_;rw[List.drop_of_length_le (by omega)];simp only[jw,a5,aq,ao,b8];exact⟨fun h=>by omega,fun _=>rfl⟩
 |succ m ih=>
  have hk:k<l'.length:=by omega
  rw[ja (0,0,0) hk,b8];generalize hx:l'.getD k (0,0,0)=x;have hi:i64.wrap ((k:Int)+1)=k+1:=au (by omega) (by omega)
  cases MJ:mY x made with
  |false=>
   refine .stop ?_;simp only[jw,a5,aq,ao,Int.toNat_natCast,hx];refine⟨fun _=>⟨⟨by omega,by omega⟩,?_⟩,fun h=>by omega⟩;obtain⟨a,b,c⟩:=x;simp only[mY]at MJ;simp only[cu,ao,beq_iff_eq,beq_eq_false_iff_ne,bne_iff_ne,bne_eq_false_iff_eq,decide_eq_true_eq,decide_eq_false_iff_not,reduceCtorEq,Bool.false_and,Bool.not_false,cond_true]
   split at MJ
   ·have:=of_decide_eq_false MJ;grind
   ·have:=of_decide_eq_false MJ;grind
  |true=>
   have Sp:=s7 MJ;obtain⟨a,b,c⟩:=x;simp only[mY,cL]at MJ Sp ⊢
   by_cases ha:a=0
   ·subst ha;rw[if_pos rfl]at MJ;have hb:=of_decide_eq_true MJ;have e1:i64.wrap (made+1)=made+1:=au (by omega) (by omega);simp only[if_true]
    by_cases hle:made+1≤8192
    ·have sP:=ih (made+1) (by omega) (by omega) (k+1) (by omega) (by omega);rw[decide_eq_true hle,Bool.true_and,Bool.true_and];refine .go ?_ sP;simp only[jw,a5,aq,ao,Int.toNat_natCast,hx,e1,hi,cu,beq_iff_eq,beq_eq_false_iff_ne,bne_iff_ne,bne_eq_false_iff_eq,reduceCtorEq];grind
    ·rw[decide_eq_false hle];refine .stop ?_;simp only[jw,a5,aq,ao,Int.toNat_natCast,hx,e1,hi,cu,beq_iff_eq,beq_eq_false_iff_ne,bne_iff_ne,bne_eq_false_iff_eq,reduceCtorEq,Bool.false_and,Bool.and_false,Bool.not_false,cond_true];grind
   ·rw[if_neg ha]at MJ Sp ⊢;have hb:=of_decide_eq_true MJ;have e1:i64.wrap (made+a)=made+a:=au (by omega) (by omega)
    by_cases hle:made+a≤8192
    ·have sP:=ih (made+a) (by omega) (by omega) (k+1) (by omega) (by omega);rw[decide_eq_true hle,Bool.true_and,Bool.true_and];refine .go ?_ sP;simp only[jw,a5,aq,ao,Int.toNat_natCast,hx,e1,hi,cu,beq_iff_eq,beq_eq_false_iff_ne,bne_iff_ne,bne_eq_false_iff_eq,decide_eq_true_eq,decide_eq_false_iff_not,reduceCtorEq];grind
    ·rw[decide_eq_false hle];refine .stop ?_;simp only[jw,a5,aq,ao,Int.toNat_natCast,hx,e1,hi,cu,beq_iff_eq,beq_eq_false_iff_ne,bne_iff_ne,bne_eq_false_iff_eq,decide_eq_true_eq,decide_eq_false_iff_not,reduceCtorEq,Bool.true_and,Bool.false_and,Bool.and_false,Bool.not_false,cond_true];grind
theorem Jm(l:List eP):∀x:oH,Ex Tryz.prog ((ag).wr (())) (.loop (aP f202 0)) (oI.wr x) (zK x):=
 cn mixed aw (ws:=Jl) (aK.nil _) (fun x_=>Fh l x_.1 x_.2.1 x_.2.2) (fun z=>by cases z<;>(intro e;cases e)) oA (fun x_ h=>Oh x_.1 x_.2.1 x_.2.2 h)
abbrev xD:Type:=Bool
abbrev Tg(x:xD):LV:=LV.one (VV.sc (SV.bool (SB.sym x)))
abbrev Th(x:xD):List (Nat×Ev.Item):= []
def Fk(l:List (Int×Int×Int)):Tr (xD):=(.need (rq l 0 0) (.ite (!b8 0 (List.drop 0 l)) (.ret (false))
 (.ret (true))))
theorem Jn(l:List eP):aH Tryz.prog [] [(0,bU oI ((ag).wr (())) zE (zK))] f202 ((Jh).wr (l,())) ((ag).wr (())) [.fr [.sym],.syms,.auto,.aF]=(Fk l).end Tg Th ((ag).wr (())):=by kernel_rfl
theorem Oi(l:List eP):aK Tryz.prog ((ag).wr (())) [(0,bU oI ((ag).wr (())) zE (zK))] (aJ f202):=(aK.bI (iu (by kernel_rfl) (bM (hp:=(ag).wr (())) (Jm l)) iE))
abbrev vF(l:List eP):Prop:=l.length<1099511627776
abbrev Fl(l:List eP):xD:=b8 0 l
def xE:an:=cQ [some kr] (Jh) (ag) (fun x_ y_=>vF x_.1) (fun x_ y_=>Fl x_.1) Tg Th
theorem Wt(l:List eP)(h_:vF l):(Fk l).Is (Fl l):=by
 delta Fl;simp only[Fk,aq,ao,cu];refine⟨⟨by omega,by omega,by omega,by omega,by omega⟩,?_⟩
 cases h:b8 0 l<;>simp[h]
theorem vG:xE.Ok Tryz.prog 202:=
 bJ mixed aw func202 (by kernel_rfl) call202 (fun x_ y_=>Oi x_.1) (fun x_ y_=>Jn x_.1) (fun x_ y_ h=>Wt x_.1 h)
abbrev rdt(l:List Int):LV:=.one (.sc (.rd true false u8 l))
def acb:an:=an.cm [some u8] bA ag fun x _=>.leaf (some (x.1.length≤70368744177664)) (rdt x.1) []
theorem Jo:aH Tryz.prog [] [] f177 [.one (.sc (.gY (.slice none 0 0)))] [] [.Nl 0 u8,.auto]=
 End.leaf (LV.one (VV.sc (SV.rd true false (Ty.int IntKind.u8) []))) []:=by kernel_rfl
theorem Jp(l:List Int):aH Tryz.prog [] [] f177 [.one (.sc (.rd false true u8 l))] [] [.Nl 0 u8,.auto]=
 End.need (((0:Nat)+l.length)*(1:Nat)≤(70368744177664:Nat)∧(0:Nat)+l.length≤(70368744177664:Nat)) (End.leaf (LV.one (VV.sc (SV.rd
 true false (Ty.int IntKind.u8) ([]++l)))) []):=by kernel_rfl
theorem acd:acb.Ok Tryz.prog 177:=by
 refine(an.aS call177 fun x y Q h=>?_).sym;obtain⟨l,_⟩:=x;obtain⟨hl,hq⟩:=h;have hl:l.length≤70368744177664:=hl;refine g8.akb (x:= []) (y:= []) (fun e=>?_) ?_
 ·subst e;refine(ar mixed aw func177 rfl (LT:= []) (ks:= [.Nl 0 u8,.auto]) (aK.nil _)).use (D:= []) ?_ hq;show(aH _ _ _ _ [.one (.sc (.gY (.slice none 0 0)))] [] _).sat _;rw[Jo];exact⟨rfl,rfl⟩
 ·refine(ar mixed aw func177 rfl (LT:= []) (ks:= [.Nl 0 u8,.auto]) (aK.nil _)).use (D:= []) ?_ hq;show(aH _ _ _ _ [.one (.sc (.rd false true u8 l))] [] _).sat _;rw[Jp];exact⟨⟨by omega,by omega⟩,rfl,rfl⟩
abbrev vH:Type:=Int×Int×(List Int)
abbrev zL:aQ St vH:=(aT (jk 3 (ai (ah (aD (0) (0))) (jk 12 (ae (ah (aA i64)) (ae (ah (aA
 i64)) (jk 10 ag)))))) (ai (fG (332) ((ai (j0 (1) (0)) ag))) (ae (cE (0) (Ty.int u16)) ag))).lV (fun y=>(y.1.1,
 y.1.2.1,y.2.1)) (fun x=>((x.1,(x.2.1,())),(x.2.2,()))) (fun _=>rfl)
abbrev Oj:List Wk:= [.fr (cb 28 [(3,.ak),(16,.ak),(17,.ak)]),.syms,.auto,.aF]
abbrev ace:Exit→List Wk:=wT Oj 0 [.fr (cb 28 [(3,.ak)]),.syms,.auto,.aF] [.fr (cb 28 [(2,.ak)]),.syms,.auto,.aF]
abbrev Ol:Type:=List Int
abbrev acf(x:Ol):Exit×St:=(Exit.exit 0,⟨(gA 3 (LV.one (VV.sc (SV.ptr 0 0))::(gA 24 []))),[some (Item.ba [SV.sl 1
 0] 332),some (Item.own 0 (Ty.int u16) x)]⟩)
def zM(n:Int)(i:Int)(p:List Int):Tr (vH⊕(Ol)):=(.ite (decide (i<n)) (.need (0≤i∧i<(↑p.length:Int))
 (.ret (.inl (n,i64.wrap (i+1),p.set i.toNat 1024)))) (.ret (.inr (p))))
theorem Om(b:Int)(n:Int)(i:Int)(p:List Int):ct Tryz.prog [] [] f181 0 ((ag).wr (())) ace (zL.wr (n,i,p))=(zM n i p).res zL.wr acf:=by kernel_rfl
abbrev zN(n:Int)(i:Int)(p:List Int):Prop:=i=0∧p=List.replicate p.length 0∧p.length<1000000∧n=p.length
abbrev On(n:Int)(i:Int)(p:List Int):Ol:=List.replicate p.length 1024
abbrev Oo:vH→aG:=e9 (fun x_=>zN x_.1 x_.2.1 x_.2.2) (fun x_=>On x_.1 x_.2.1 x_.2.2) acf
theorem acg(n:Int)(i:Int)(p:List Int)(h_:zN n i p):cK (fun x_:vH=>zM x_.1 x_.2.1 x_.2.2) (n,i,p) (On n i p):=by
 delta On;obtain⟨rfl,h1,h2,rfl⟩:=h_;generalize hm:p.length=m at*;subst h1;have hl:∀k,k≤m→(List.replicate k (1024:Int)++List.replicate (m-k) 0).length=m:=fun k hk=>by simp;omega
 have key:=cK.iter (L:=fun x_:vH=>zM x_.1 x_.2.1 x_.2.2) (z:=List.replicate m 1024) (fun k=>((m:Int),(k:Int),List.replicate k 1024++List.replicate (m-k) 0)) m (fun k hk=>?_) ?_
 ·exact key
 ·simp only[zM,a5,aq,ao,hl k (by omega)];refine⟨fun _=>⟨by omega,?_⟩,fun h=>by omega⟩;rw[au (by omega) (by omega),Int.toNat_natCast,List.set_append_right _ _ (by simp),List.length_replicate,Nat.sub_self,show m-k=(m-(k+1))+1 from by omega,List.replicate_succ,List.set_cons_zero,List.replicate_succ' (n:=k),List.append_assoc];rfl
 ·simp only[zM,a5,aq,ao,hl m (by omega),Nat.sub_self,List.replicate_zero,List.append_nil];exact⟨fun h=>by omega,fun _=>trivial⟩
theorem Wu(b:Int):∀x:vH,Ex Tryz.prog ((ag).wr (())) (.loop (aP f181 0)) (zL.wr x) (Oo x):=
 cn mixed aw (ws:=ace) (aK.nil _) (fun x_=>Om b x_.1 x_.2.1 x_.2.2) (fun z e=>by cases e) fH (fun x_ h=>acg x_.1 x_.2.1 x_.2.2 h)
def dx(k:Nat):List Int:=List.replicate (2 ^ k) 1024
def lJ(b:Int):Int:=if 1<if 8<b then 8 else b then if 8<b then 8 else b else 1
abbrev Ti:Type:=List Int
abbrev aoW(x:Ti):LV:=LV.one (VV.sc (SV.ptr 0 0))
abbrev aoX(x:Ti):List (Nat×Ev.Item):= [(0,Item.ba [SV.sl 1 0] 332),(1,Item.own 0 (Ty.int u16) x)]
def ach(b:Int):Tr (Ti):=(.need (0≤lJ b) (.need (shl i64 1 (lJ b)=shl i64 1 (lJ b)∧0≤shl
 i64 1 (lJ b)∧2*shl i64 1 (lJ b)≤70368744177664∧shl i64 1 (lJ b)≤70368744177664) (.need (zN
 (↑(List.replicate (shl i64 1 (lJ b)).toNat (0:Int)).length:Int) 0 (List.replicate (shl i64 1 (lJ b)).toNat (0:Int)))
 (.ret (List.replicate (List.replicate (shl i64 1 (lJ b)).toNat (0:Int)).length (1024:Int))))))
theorem Wv(b:Int):aH Tryz.prog [] [(0,bU zL ((ag).wr (())) Oj (Oo))] f181 ((VZ).wr (b,())) ((ag).wr (())) [.fr [.sym],.syms,.auto,.aF]=(ach b).end aoW aoX ((ag).wr (())):=by kernel_rfl
theorem aci(b:Int):aK Tryz.prog ((ag).wr (())) [(0,bU zL ((ag).wr (())) Oj (Oo))] (aJ f181):=(aK.bI (iu (by kernel_rfl) (bM (hp:=(ag).wr (())) (Wu b)) iE))
abbrev s8(b:Int):Prop:=1≤b∧b≤8
abbrev acj(b:Int):Ti:=dx b.toNat
def aoY:an:=cQ [] (VZ) (ag) (fun x_ y_=>s8 x_.1) (fun x_ y_=>acj x_.1) aoW aoX
theorem akm(b:Int)(h_:s8 b):(ach b).Is (acj b):=by
 delta acj;obtain⟨h1,h2⟩:=h_
 have e0:(if 1<if 8<b then 8 else b then if 8<b then 8 else b else 1)=b:=by
  rw[if_neg (by omega:¬ 8<b)];split<;>omega
 obtain⟨k,rfl⟩:∃k:Nat,b=k:=⟨b.toNat,by omega⟩;have h3:(2:Nat) ^ k≤256:=Nat.le_trans (Nat.pow_le_pow_right (by omega) (show k≤8 by omega)) (by decide);have e3:shl .i64 1 (k:Int)=((2 ^ k:Nat):Int):=k9 k (by omega);simp only[ach,lJ,aq,ao,e0,e3,dx,Int.toNat_natCast,List.length_replicate];generalize (2:Nat) ^ k=m at*;exact⟨by omega,⟨trivial,by omega,by omega,by omega⟩,⟨rfl,by rw[List.length_replicate],by rw[List.length_replicate];omega,by rw[List.length_replicate]⟩,trivial⟩
theorem akn:aoY.Ok Tryz.prog 181:=
 bJ mixed aw func181 (by kernel_rfl) call181 (fun x_ y_=>aci x_.1) (fun x_ y_=>Wv x_.1) (fun x_ y_ h=>akm x_.1 h)
abbrev jT(i:Nat):aQ Ev.Item Unit:=xd 332 (ai (j0 i 0) ag)
abbrev xF:Type:=(List Int)×Int×(List Int)×(List Int)×(List Int)
abbrev Tj(x:xF):LV:=LV.one (VV.agg [SV.arr (Ty.int i64) 2 x.1,SV.int i64 (SI.sym x.2.1),SV.ptr 0 0,
 SV.ptr 2 0,SV.ptr 4 0])
abbrev Tk(x:xF):List (Nat×Ev.Item):= [(0,Item.ba [SV.sl 1 0] 332),(1,Item.own 0 (Ty.int u16) x.2.2.1),(2,
 Item.ba [SV.sl 3 0] 332),(3,Item.own 0 (Ty.int u16) x.2.2.2.1),(4,Item.ba [SV.sl 5 0] 332),(5,Item.own 0 (Ty.int u16)
 x.2.2.2.2)]
def Tl:Tr (xF):=(.need (s8 8) (.need (s8 8) (.need (s8 6) (.ret ([1024,1024],0,dx 8,dx 8,dx
 6)))))
theorem Jq:aH Tryz.prog [(181,aoY)] [] f126 ((ag).wr (())) ((ag).wr (())) [.fr [.sym],.syms,.auto,.aF,.eZ 0 0 2 .i64]=(Tl).end Tj Tk ((ag).wr (())):=by kernel_rfl
theorem Oq:aK Tryz.prog ((ag).wr (())) [] (aJ f126):=(aK.nil _)
abbrev pX:Prop:=True
abbrev Fm:xF:=([1024,1024],0,dx 8,dx 8,dx 6)
def xG:an:=cQ [] (ag) (ag) (fun _ _=>pX) (fun _ _=>Fm) Tj Tk
theorem Ww(h_:pX):(Tl).Is (Fm):=by
 delta Fm;exact⟨⟨by decide,by decide⟩,⟨by decide,by decide⟩,⟨by decide,by decide⟩,rfl⟩
theorem vI:xG.Ok Tryz.prog 126:=
 bJ mixed ((al akn aw)) func126 (by kernel_rfl) call126 (fun x_ y_=>Oq) (fun x_ y_=>Jq) (fun x_ y_ h=>Ww h)
abbrev jSt(a b c:Nat):aQ Ev.Item (List Int×Int):=(xd 196 (ae (sF (.int .i64) 2) (ae (aA .i64) (ai (aD a 0) (ai (aD b 0) (ai (aD c 0) ag)))))).lV (fun x=>(x.1,x.2.1)) (fun y=>(y.1,y.2,())) (fun _=>rfl)
abbrev aBx:aQ Ev.Item Int:=(xd 249 (ai (j0 8 0) (ae (aA .u64) ag))).lV (fun x=>x.1) (fun w=>(w,())) (fun _=>rfl)
abbrev Ot:=jSt 1 3 5
abbrev jT2:=jT 2
abbrev jT4:=jT 4
abbrev jT6:=jT 6
abbrev Fo:aQ Hp ((List Int×Int)×List Int×List Int×List Int×Int×List Int×Unit):=
 ae (cx (jSt 1 3 5)) (ai (cx (jT 2)) (ae (cE 0 (.int .u16)) (ai (cx (jT 4)) (ae (cE 0 (.int .u16)) (ai (cx (jT 6)) (ae (cE 0 (.int .u16)) (ae (cx aBx) (ae (cE 0 u8) ag))))))))
abbrev zO:Type:=Int×Int×(List Int×Int)×(List Int)×(List Int)×(List Int)×Int×(List Int)
abbrev zP:aQ St zO:=(aT (jk 1 (ai (ah (aD (7) (0))) (jk 5 (ae (ah (aA i64)) (ae (ah (aA
 i64)) (jk 68 ag)))))) (ae (cx Ot) (ai (fG (332) ((ai (j0 (2) (1)) ag))) (ae (cE (1) (Ty.int u16)) (ai
 (fG (332) ((ai (j0 (4) (1)) ag))) (ae (cE (1) (Ty.int u16)) (ai (fG (332) ((ai (j0 (6) (1)) ag))) (ae (cE (1)
 (Ty.int u16)) (ae (fG (249) ((ai (j0 (8) (1)) (ae (aA u64) ag)))) (ae (cE (1) (Ty.int IntKind.u8))
 ag)))))))))).lV (fun y=>(y.1.1,y.1.2.1,y.2.1,y.2.2.1,y.2.2.2.1,y.2.2.2.2.1,y.2.2.2.2.2.1.1,y.2.2.2.2.2.2.1)) (fun x=>((x.1,(x.2.1,())),
 (x.2.2.1,(x.2.2.2.1,(x.2.2.2.2.1,(x.2.2.2.2.2.1,((x.2.2.2.2.2.2.1,()),(x.2.2.2.2.2.2.2,())))))))) (fun _=>rfl)
abbrev Ou:List Wk:= [.one 2,.one 4,.one 6,.one 8,.fr (cb 77 [(1,.ak),(7,.ak),(8,.ak)]),.syms,.auto,.aF]
abbrev ack:Exit→List Wk:=wT Ou 0 [.one 2,.one 4,.one 6,.one 8,.fr (cb 77 []),.syms,.auto,.aF] [.one 2,.one 4,.one 6,.one 8,
 .fr (cb 77 []),.syms,.auto,.aF]
abbrev Ov:Type:=(List Int×Int)×(List Int)×(List Int)×(List Int)×Int×(List Int)
abbrev acm(x:Ov):Exit×St:=(Exit.exit 0,⟨(gA 77 []),[some (Ot.wr x.1),some (Item.ba [SV.sl 2 1] 332),some
 (Item.own 1 (Ty.int u16) x.2.1),some (Item.ba [SV.sl 4 1] 332),some (Item.own 1 (Ty.int u16) x.2.2.1),some (Item.ba [SV.sl 6 1]
 332),some (Item.own 1 (Ty.int u16) x.2.2.2.1),some (Item.ba [SV.sl 8 1,SV.int u64 (SI.sym x.2.2.2.2.1)] 249),some (Item.own 1
 (Ty.int IntKind.u8) x.2.2.2.2.2)]⟩)
def Fp(d:Int)(i:Int)(s':List Int×Int)(q1:List Int)(q2:List Int)(q3:List Int)(w':Int)(l':List Int):Tr
 (zO⊕(Ov)):=(.ite (decide (0≤i)) (.need (0≤i) (.need (zh (aM i64 (shr i64 d i) 1) w' l') (.ret (.inl (d,
 i64.wrap (i-1),s',q1,q2,q3,(dW (aM i64 (shr i64 d i) 1) w' l').fst,(dW (aM i64 (shr i64
 d i) 1) w' l').snd))))) (.ret (.inr (s',q1,q2,q3,w',l'))))
theorem Ow(t:eP)(s:List Int×Int)(p1:List Int)(p2:List Int)(p3:List Int)(w:Int)(l:List Int)(d:Int)(i:Int)(s':List Int×Int)(q1:List Int)(q2:List Int)(q3:List Int)(w':Int)(l':List Int):ct Tryz.prog [(182,I6),(184,NI),(183,NR)] [] f127 0 ((Fo).wr (s,p1,p2,p3,w,l,())) ack (zP.wr (d,i,s',q1,q2,q3,w',l'))=(Fp d i s' q1 q2 q3 w' l').res zP.wr acm:=by kernel_rfl
def dp:Nat→Int→Int→List Int→Int×List Int
 |0,_,w,l=>(w,l)
 |k+1,d,w,l=>dp k d (dW (d/2 ^ k%2) w l).1 (dW (d/2 ^ k%2) w l).2
abbrev zQ(d:Int)(i:Int)(s':List Int×Int)(q1:List Int)(q2:List Int)(q3:List Int)(w':Int)(l':List Int):Prop:=pS w' l'∧0≤d∧ -1≤i∧i≤5∧l'.length<1099511000000
abbrev Ox(d:Int)(i:Int)(s':List Int×Int)(q1:List Int)(q2:List Int)(q3:List Int)(w':Int)(l':List Int):Ov:=(s',q1,q2,q3,(dp (i+1).toNat d w' l').1,(dp (i+1).toNat d w' l').2)
abbrev Oy:zO→aG:=e9 (fun x_=>zQ x_.1 x_.2.1 x_.2.2.1 x_.2.2.2.1 x_.2.2.2.2.1 x_.2.2.2.2.2.1 x_.2.2.2.2.2.2.1 x_.2.2.2.2.2.2.2) (fun x_=>Ox x_.1 x_.2.1 x_.2.2.1 x_.2.2.2.1 x_.2.2.2.2.1 x_.2.2.2.2.2.1 x_.2.2.2.2.2.2.1 x_.2.2.2.2.2.2.2) acm
theorem acn(d:Int)(i:Int)(s':List Int×Int)(q1:List Int)(q2:List Int)(q3:List Int)(w':Int)(l':List Int)(h_:zQ d i s' q1 q2 q3 w' l'):cK (fun x_:zO=>Fp x_.1 x_.2.1 x_.2.2.1 x_.2.2.2.1 x_.2.2.2.2.1 x_.2.2.2.2.2.1 x_.2.2.2.2.2.2.1 x_.2.2.2.2.2.2.2) (d,i,s',q1,q2,q3,w',l') (Ox d i s' q1 q2 q3 w' l'):=by
 delta Ox;obtain⟨h1,h2,h3,h4,h5⟩:=h_;obtain⟨k,hk⟩:∃k:Nat,i=(k:Int)-1:=⟨(i+1).toNat,by omega⟩;subst hk;clear h3;rw[show((k:Int)-1+1).toNat=k from by omega];have h6:l'.length+k<1099511000010:=by omega
 clear h5
 induction k generalizing w' l' with
 |zero=>
  refine .stop ?_;simp only[Fp,a5,aq,ao,dp];exact⟨fun h=>by omega,fun _=>trivial⟩
 |succ k ih=>
  have hb:aM .i64 (shr .i64 d k) 1=d/2 ^ k%2:=EL h2 k (by omega);have e2:(((k+1:Nat):Int)-1)=(k:Int):=by omega
  have hl:=pU (d/2 ^ k%2) w' l';have sP:=ih (dW (d/2 ^ k%2) w' l').1 (dW (d/2 ^ k%2) w' l').2 (pT h1 (by omega)) (by omega) (by omega);rw[e2];refine .go ?_ sP;simp only[Fp,a5,aq,ao,hb];refine⟨fun _=>⟨by omega,h1,?_⟩,fun h=>by omega⟩;rw[au (by omega) (by omega)]
theorem Wx(t:eP)(s:List Int×Int)(p1:List Int)(p2:List Int)(p3:List Int)(w:Int)(l:List Int):∀x:zO,Ex Tryz.prog ((Fo).wr (s,p1,p2,p3,w,l,())) (.loop (aP f127 0)) (zP.wr x) (Oy x):=
 cn mixed ((al xw (al I7 (al Jc aw)))) (ws:=ack) (aK.nil _) (fun x_=>Ow t s p1 p2 p3 w l x_.1 x_.2.1 x_.2.2.1 x_.2.2.2.1 x_.2.2.2.2.1 x_.2.2.2.2.2.1 x_.2.2.2.2.2.2.1 x_.2.2.2.2.2.2.2) (fun z e=>by cases e) fH (fun x_ h=>acn x_.1 x_.2.1 x_.2.2.1 x_.2.2.2.1 x_.2.2.2.2.1 x_.2.2.2.2.2.1 x_.2.2.2.2.2.2.1 x_.2.2.2.2.2.2.2 h)
def gr(t:Int×Int×Int):Int:=if 1<t.fst then 1 else t.fst
def zR(t:Int×Int×Int)(s:List Int×Int):List Int:=s.fst.set (0+s.snd.toNat) (cH ((List.take 2 (List.drop 0
 s.fst)).getD s.snd.toNat 0) (gr t))
def zS(t:Int×Int×Int)(s:List Int×Int)(p1:List Int)(w:Int)(l:List Int):Int×List Int×List Int:=aZ (lg
 p1) (i64.wrap t.snd.snd) 1 (bD ((List.take 2 (List.drop 0 s.fst)).getD s.snd.toNat 0) (gr t) w l).fst (bD ((List.take 2 (List.drop 0
 s.fst)).getD s.snd.toNat 0) (gr t) w l).snd p1
def lK(t:Int×Int×Int)(s:List Int×Int)(p2:List Int)(w:Int)(l:List Int):Int×List Int×List Int:=aZ (lg
 p2) (i64.wrap (t.fst-2)) 1 (bD ((List.take 2 (List.drop 0 s.fst)).getD s.snd.toNat 0) (gr t) w l).fst (bD ((List.take 2 (List.drop
 0 s.fst)).getD s.snd.toNat 0) (gr t) w l).snd p2
def lL(t:Int×Int×Int)(s:List Int×Int)(p2:List Int)(p3:List Int)(w:Int)(l:List Int):Int×List Int×List
 Int:=aZ (lg p3) (shr i64 (i64.wrap (t.snd.fst-1)) 6) 1 (lK t s p2 w l).fst (lK t s p2 w l).snd.fst p3
def Fq(t:Int×Int×Int)(s:List Int×Int)(p2:List Int)(p3:List Int)(w:Int)(l:List Int):Int×List Int:=
 dp 6 (i64.wrap (t.snd.fst-1)) (lL t s p2 p3 w l).fst (lL t s p2 p3 w l).snd.fst
abbrev Tm:Type:=(List Int×Int)×(List Int)×(List Int)×(List Int)×Int×(List Int)
abbrev aoZ(x:Tm):LV:=LV.c6 []
abbrev ao0(x:Tm):List (Nat×Ev.Item):= [(0,Ot.wr x.1),(1,Item.ba [SV.sl 2 1] 332),(2,Item.own 1 (Ty.int
 u16) x.2.1),(3,Item.ba [SV.sl 4 1] 332),(4,Item.own 1 (Ty.int u16) x.2.2.1),(5,Item.ba [SV.sl 6 1] 332),(6,Item.own 1 (Ty.int
 u16) x.2.2.2.1),(7,Item.ba [SV.sl 8 1,SV.int u64 (SI.sym x.2.2.2.2.1)] 249),(8,Item.own 1 (Ty.int IntKind.u8) x.2.2.2.2.2)]
def aco(t:Int×Int×Int)(s:List Int×Int)(p1:List Int)(p2:List Int)(p3:List Int)(w:Int)(l:List Int):Tr
 (Tm):=(.need (0≤s.snd∧s.snd<2) (.need (xu ((List.take 2 (List.drop 0 s.fst)).getD s.snd.toNat 0) (gr t) w l) (.need (0≤s.snd∧
 s.snd<2) (.ite (gr t==0) (.need (oB (i64.wrap t.snd.snd) (bD ((List.take 2 (List.drop 0 s.fst)).getD s.snd.toNat 0) (gr t)
 w l).fst (bD ((List.take 2 (List.drop 0 s.fst)).getD s.snd.toNat 0) (gr t) w l).snd p1) (.ret ((zR t s,gr t),(zS t s p1 w
 l).snd.snd,p2,p3,(zS t s p1 w l).fst,(zS t s p1 w l).snd.fst))) (.need (oB (i64.wrap (t.fst-2)) (bD ((List.take 2
 (List.drop 0 s.fst)).getD s.snd.toNat 0) (gr t) w l).fst (bD ((List.take 2 (List.drop 0 s.fst)).getD s.snd.toNat 0) (gr t) w l).snd p2)
 (.need (oB (shr i64 (i64.wrap (t.snd.fst-1)) 6) (lK t s p2 w l).fst (lK t s p2 w l).snd.fst p3) (.need (zQ
 (i64.wrap (t.snd.fst-1)) 5 (zR t s,gr t) p1 (lK t s p2 w l).snd.snd (lL t s p2 p3 w l).snd.snd (lL t s p2 p3 w l).fst
 (lL t s p2 p3 w l).snd.fst) (.ret ((zR t s,gr t),p1,(lK t s p2 w l).snd.snd,(lL t s p2 p3 w l).snd.snd,(Fq t s p2 p3 w
 l).fst,(Fq t s p2 p3 w l).snd)))))))))
theorem Wy(t:eP)(s:List Int×Int)(p1:List Int)(p2:List Int)(p3:List Int)(w:Int)(l:List Int):aH Tryz.prog [(182,I6),(184,NI),(183,NR)] [(0,bU zP ((Fo).wr (s,p1,p2,p3,w,l,())) Ou (Oy))] f127 (((ai (ah (aD 0 0)) (ai (ah (aD 7 0)) (ae Wp ag)))).wr (t,())) ((Fo).wr (s,p1,p2,p3,w,l,())) [.one 2,.one 4,.one 6,.one 8,.fr [.sym],.syms,.auto,.aF]=(aco t s p1 p2 p3 w l).end aoZ ao0 ((Fo).wr (s,p1,p2,p3,w,l,())):=by kernel_rfl
theorem acp(t:eP)(s:List Int×Int)(p1:List Int)(p2:List Int)(p3:List Int)(w:Int)(l:List Int):aK Tryz.prog ((Fo).wr (s,p1,p2,p3,w,l,())) [(0,bU zP ((Fo).wr (s,p1,p2,p3,w,l,())) Ou (Oy))] (aJ f127):=(aK.bI (iu (by kernel_rfl) (bM (hp:=(Fo).wr (s,p1,p2,p3,w,l,())) (Wx t s p1 p2 p3 w l)) iE))
def lM(t:eP)(s:List Int×Int)(p1 p2 p3:List Int)(w:Int)(l:List Int):(List Int×Int)×List Int×List Int×List Int×Int×List Int:=
 let c:=bD (s.1.getD s.2.toNat 0) (if t.1=0 then 0 else 1) w l
 let s':=(s.1.set s.2.toNat (cH (s.1.getD s.2.toNat 0) (if t.1=0 then 0 else 1)),(if t.1=0 then 0 else 1))
 if t.1=0 then
  let r:=aZ (lg p1) t.2.2 1 c.1 c.2 p1
  (s',r.2.2,p2,p3,r.1,r.2.1)
 else
  let r:=aZ (lg p2) (t.1-2) 1 c.1 c.2 p2
  let r2:=aZ (lg p3) ((t.2.1-1)/64) 1 r.1 r.2.1 p3
  let h:=dp 6 (t.2.1-1) r2.1 r2.2.1
  (s',p1,r.2.2,r2.2.2,h.1,h.2)
theorem gE:∀ (k:Nat) (v node w:Int) (l p:List Int),pS w l→l.length+k<1099511627775→pS (aZ k v node w l p).1 (aZ k v node w l p).2.1∧(aZ k v node w l p).2.1.length≤l.length+k
 |0,_,_,_,_,_,h,_=>⟨h,by simp[aZ]⟩
 |k+1,v,node,w,l,p,h,hl=>by
  have h1:=ju (kj p node) (v/2 ^ k%2) w l;have h2:=jt (p:=kj p node) (b:=v/2 ^ k%2) h (by omega);have:=gE k v (2*node+v/2 ^ k%2) _ _ (c9 p node (v/2 ^ k%2)) h2 (by omega);rw[aZ];exact⟨this.1,by have:=this.2;omega⟩
theorem s9:∀ (k:Nat) (v node w:Int) (l p:List Int),MI p→MI (aZ k v node w l p).2.2∧lg (aZ k v node w l p).2.2=lg p
 |0,_,_,_,_,_,h=>⟨h,rfl⟩
 |k+1,v,node,w,l,p,h=>by
  have:=s9 k v (2*node+v/2 ^ k%2) (bD (kj p node) (v/2 ^ k%2) w l).1 (bD (kj p node) (v/2 ^ k%2) w l).2 _ (zj h node (v/2 ^ k%2));rw[ld]at this;exact this
theorem zT:∀ (k:Nat) (d w:Int) (l:List Int),pS w l→l.length+k<1099511627775→pS (dp k d w l).1 (dp k d w l).2∧(dp k d w l).2.length≤l.length+k
 |0,_,_,_,h,_=>⟨h,by simp[dp]⟩
 |k+1,d,w,l,h,hl=>by
  have h1:=pU (d/2 ^ k%2) w l;have:=zT k d _ _ (pT (b:=d/2 ^ k%2) h (by omega)) (by omega);rw[dp];exact⟨this.1,by have:=this.2;omega⟩
structure SOk (s:List Int×Int) (p1 p2 p3:List Int):Prop where
 len:s.1.length=2
 bh:s.2=0∨s.2=1
 t1:MI p1
 l1:lg p1=8
 t2:MI p2
 l2:lg p2=8
 t3:MI p3
 l3:lg p3=6
def acq(t:eP):Prop:=(t.1=0∧0≤t.2.2∧t.2.2<256)∨(2≤t.1∧t.1≤257∧1≤t.2.1∧t.2.1≤4096)
abbrev Fs(t:eP)(s:List Int×Int)(p1:List Int)(p2:List Int)(p3:List Int)(w:Int)(l:List Int):Prop:=SOk s p1 p2 p3∧pS w l∧acq t∧l.length<1099500000000
abbrev acr(t:eP)(s:List Int×Int)(p1:List Int)(p2:List Int)(p3:List Int)(w:Int)(l:List Int):Tm:=lM t s p1 p2 p3 w l
def acs:an:=cQ [] ((ai (ah (aD 0 0)) (ai (ah (aD 7 0)) (ae Wp ag)))) (Fo) (fun x_ y_=>Fs x_.1 y_.1 y_.2.1 y_.2.2.1 y_.2.2.2.1 y_.2.2.2.2.1 y_.2.2.2.2.2.1) (fun x_ y_=>acr x_.1 y_.1 y_.2.1 y_.2.2.1 y_.2.2.2.1 y_.2.2.2.2.1 y_.2.2.2.2.2.1) aoZ ao0
theorem ako(t:eP)(s:List Int×Int)(p1:List Int)(p2:List Int)(p3:List Int)(w:Int)(l:List Int)(h_:Fs t s p1 p2 p3 w l):(aco t s p1 p2 p3 w l).Is (acr t s p1 p2 p3 w l):=by
 delta acr;obtain⟨hs,hc,ht,hl⟩:=h_
 have e0:gr t=if t.1=0 then 0 else 1:=by
  unfold gr;rcases ht with⟨h,_⟩|⟨h,_⟩
  ·rw[if_pos h,if_neg (by omega),h]
  ·rw[if_neg (show ¬t.1=0 by omega),if_pos (by omega)]
 have e1:(List.take 2 (List.drop 0 s.1)).getD s.2.toNat 0=s.1.getD s.2.toNat 0:=by rw[List.drop_zero,List.take_of_length_le (by rw[hs.len];exact Nat.le_refl _)]
 have hb:0≤s.2∧s.2<2:=by have:=hs.bh;omega
 have h1:=jt (p:=s.1.getD s.2.toNat 0) (b:=if t.1=0 then 0 else 1) hc (by omega);have h2:=ju (s.1.getD s.2.toNat 0) (if t.1=0 then 0 else 1) w l
 have B0:zR t s=s.1.set s.2.toNat (cH (s.1.getD s.2.toNat 0) (if t.1=0 then 0 else 1)):=by
  unfold zR;rw[e0,e1,Nat.zero_add]
 have p8:(2:Int) ^ 8=256:=by decide
 have p6:(2:Int) ^ 6=64:=by decide
 simp only[aco,aq,ao,dV,e0,e1,B0];refine⟨hb,hc,hb,fun e=>?_,fun e=>?_⟩
 ·have e:t.1=0:=Classical.byContradiction fun h=>by rw[if_neg h]at e;omega
  have ht:0≤t.2.2∧t.2.2<256:=by rcases ht with⟨_,h⟩|⟨h,_⟩<;>omega
  have e2:i64.wrap t.2.2=t.2.2:=au (by omega) (by omega)
  have ZU:zS t s p1 w l=aZ (lg p1) t.2.2 1 (bD (s.1.getD s.2.toNat 0) 0 w l).1 (bD (s.1.getD s.2.toNat 0) 0 w l).2 p1:=by
   unfold zS;rw[e0,e1,e2,if_pos e]
  simp only[lM,if_pos e]at h1 h2 ⊢;rw[e2,ZU];exact⟨⟨hs.t1,h1,ht.1,by rw[hs.l1,p8];exact ht.2,by rw[hs.l1];omega,by omega⟩,rfl⟩
 ·have e:¬t.1=0:=fun h=>by rw[if_pos h]at e;omega
  have ht:2≤t.1∧t.1≤257∧1≤t.2.1∧t.2.1≤4096:=by rcases ht with⟨h,_⟩|h<;>omega
  have e2:i64.wrap (t.1-2)=t.1-2:=au (by omega) (by omega);have e3:i64.wrap (t.2.1-1)=t.2.1-1:=au (by omega) (by omega);have e4:shr .i64 (t.2.1-1) 6=(t.2.1-1)/64:=cz .i64 _ 6 (by decide)
  have ea3:lK t s p2 w l=aZ (lg p2) (t.1-2) 1 (bD (s.1.getD s.2.toNat 0) 1 w l).1 (bD (s.1.getD s.2.toNat 0) 1 w l).2 p2:=by
   unfold lK;rw[e0,e1,e2,if_neg e]
  have ea4:lL t s p2 p3 w l=aZ (lg p3) ((t.2.1-1)/64) 1 (lK t s p2 w l).1 (lK t s p2 w l).2.1 p3:=by
   unfold lL;rw[e3,e4]
  have ea5:Fq t s p2 p3 w l=dp 6 (t.2.1-1) (lL t s p2 p3 w l).1 (lL t s p2 p3 w l).2.1:=by
   unfold Fq;rw[e3]
  simp only[lM,if_neg e]at h1 h2 ⊢;rw[e2,e3,e4];have h3:=gE (lg p2) (t.1-2) 1 _ _ p2 h1 (by rw[hs.l2];omega);rw[← ea3]at h3;have h4:=gE (lg p3) ((t.2.1-1)/64) 1 _ _ p3 h3.1 (by rw[hs.l2]at h3;rw[hs.l3];omega);rw[← ea4]at h4;have k3:=h3.2;have k4:=h4.2;rw[hs.l2]at k3;rw[hs.l3]at k4;refine⟨⟨hs.t2,h1,by omega,by rw[hs.l2,p8];omega,by rw[hs.l2];omega,by omega⟩,⟨hs.t3,h3.1,by omega,by rw[hs.l3,p6];omega,by rw[hs.l3];omega,by omega⟩,⟨h4.1,by omega,by omega,by omega,by omega⟩,?_⟩;rw[ea5,ea4,ea3]
theorem Tn:acs.Ok Tryz.prog 127:=
 bJ mixed ((al xw (al I7 (al Jc aw)))) func127 (by kernel_rfl) call127 (fun x_ y_=>acp x_.1 y_.1 y_.2.1 y_.2.2.1 y_.2.2.2.1 y_.2.2.2.2.1 y_.2.2.2.2.2.1) (fun x_ y_=>Wy x_.1 y_.1 y_.2.1 y_.2.2.1 y_.2.2.2.1 y_.2.2.2.2.1 y_.2.2.2.2.2.1) (fun x_ y_ h=>ako x_.1 y_.1 y_.2.1 y_.2.2.1 y_.2.2.2.1 y_.2.2.2.2.1 y_.2.2.2.2.2.1 h)
theorem Ft{t:eP}{s:List Int×Int}{p1 p2 p3:List Int}{w:Int}{l:List Int}(hs:SOk s p1 p2 p3)(hc:pS w l)(hl:l.length<1099500000000):
  let r:=lM t s p1 p2 p3 w l
  SOk r.1 r.2.1 r.2.2.1 r.2.2.2.1∧pS r.2.2.2.2.1 r.2.2.2.2.2∧r.2.2.2.2.2.length≤l.length+21:=by
 have h1:=jt (p:=s.1.getD s.2.toNat 0) (b:=if t.1=0 then 0 else 1) hc (by omega);have h2:=ju (s.1.getD s.2.toNat 0) (if t.1=0 then 0 else 1) w l;unfold lM
 split
 ·rename_i e;simp only[if_pos e]at h1 h2 ⊢;obtain⟨h3,h4⟩:=gE (lg p1) t.2.2 1 _ _ p1 h1 (by rw[hs.l1];omega);obtain⟨h5,h6⟩:=s9 (lg p1) t.2.2 1 (bD (s.1.getD s.2.toNat 0) 0 w l).1 (bD (s.1.getD s.2.toNat 0) 0 w l).2 p1 hs.t1;rw[hs.l1]at h3 h4 h5 h6 ⊢;exact⟨⟨by simp[hs.len],.inl rfl,h5,h6,hs.t2,hs.l2,hs.t3,hs.l3⟩,h3,by omega⟩
 ·rename_i e;simp only[if_neg e]at h1 h2 ⊢;obtain⟨h3,h4⟩:=gE (lg p2) (t.1-2) 1 _ _ p2 h1 (by rw[hs.l2];omega);obtain⟨h5,h6⟩:=s9 (lg p2) (t.1-2) 1 (bD (s.1.getD s.2.toNat 0) 1 w l).1 (bD (s.1.getD s.2.toNat 0) 1 w l).2 p2 hs.t2;rw[hs.l2]at h3 h4 h5 h6 ⊢;generalize aZ 8 (t.1-2) 1 (bD (s.1.getD s.2.toNat 0) 1 w l).1 (bD (s.1.getD s.2.toNat 0) 1 w l).2 p2=r at*;obtain⟨k3,k4⟩:=gE (lg p3) ((t.2.1-1)/64) 1 _ _ p3 h3 (by rw[hs.l3];omega);obtain⟨k5,k6⟩:=s9 (lg p3) ((t.2.1-1)/64) 1 r.1 r.2.1 p3 hs.t3;rw[hs.l3]at k3 k4 k5 k6 ⊢;generalize aZ 6 ((t.2.1-1)/64) 1 r.1 r.2.1 p3=r2 at*;obtain⟨m3,m4⟩:=zT 6 (t.2.1-1) _ _ k3 (by omega);exact⟨⟨by simp[hs.len],.inr rfl,hs.t1,hs.l1,h5,h6,k5,k6⟩,m3,by omega⟩
def fM:List eP→(List Int×Int)→List Int→List Int→List Int→Int→List Int→Int×List Int
 | [],_,_,_,_,w,l=>(w,l)
 |t::r,s,p1,p2,p3,w,l=>
  let x:=lM t s p1 p2 p3 w l
  fM r x.1 x.2.1 x.2.2.1 x.2.2.2.1 x.2.2.2.2.1 x.2.2.2.2.2
def qQ(l:List eP):Prop:=∀t∈l,0≤t.2.2∧t.2.2<256
theorem Fu{t:eP}{made:Int}(h:mY t made=true)(hb:0≤t.2.2∧t.2.2<256):acq t:=by
 unfold mY at h
 split at h
 ·rename_i e;exact .inl ⟨e,hb⟩
 ·have:=of_decide_eq_true h;exact .inr ⟨this.2.1,this.2.2.1,this.2.2.2.1,this.2.2.2.2.1⟩
abbrev ta:Type:=(List (Int×Int×Int))×Int×Int×Int×(List Int)×(List Int)×Int×(List Int)×(List Int)×(List Int)
abbrev tc:aQ St ta:=(aT (jk 3 (ai (ah (aD (0) (0))) (ai (ah (aD (2) (0))) (jk 7 (ae (ah (gg false
 false ((Ty.int i64).pair ((Ty.int i64).pair (Ty.int IntKind.u8))))) (ae (ah (aA i64)) (ae (ah (aA i64))
 (jk 9 ag)))))))) (ae (fG (249) ((ai (j0 (1) (0)) (ae (aA u64) ag)))) (ae (cE (0) (Ty.int IntKind.u8)) (ae (fG (196)
 ((ae (sF (Ty.int i64) (2)) (ae (aA i64) (ai (aD (3) (0)) (ai (aD (5) (0)) (ai (aD (7) (0)) ag))))))) (ai
 (fG (332) ((ai (j0 (4) (0)) ag))) (ae (cE (0) (Ty.int u16)) (ai (fG (332) ((ai (j0 (6) (0)) ag))) (ae (cE (0)
 (Ty.int u16)) (ai (fG (332) ((ai (j0 (8) (0)) ag))) (ae (cE (0) (Ty.int u16)) ag)))))))))).lV (fun y=>(y.1.1,
 y.1.2.1,y.1.2.2.1,y.2.1.1,y.2.2.1,y.2.2.2.1.1,y.2.2.2.1.2.1,y.2.2.2.2.1,y.2.2.2.2.2.1,y.2.2.2.2.2.2.1)) (fun x=>((x.1,(x.2.1,(x.2.2.1,
 ()))),((x.2.2.2.1,()),(x.2.2.2.2.1,((x.2.2.2.2.2.1,(x.2.2.2.2.2.2.1,())),(x.2.2.2.2.2.2.2.1,(x.2.2.2.2.2.2.2.2.1,(x.2.2.2.2.2.2.2.2.2,
 ())))))))) (fun _=>rfl)
abbrev Fv:List Wk:= [.fr (cb 24 [(3,.ak),(4,.ak),(12,.ak),(13,.ak),(14,.ak)]),.syms,.auto,.aF,.dz 2 0 2 .i64]
abbrev To:Exit→List Wk:=wT Fv 0 [.fr (cb 24 [(3,.ak)]),.syms,.auto,.aF,.dz 2 0 2 .i64] [.fr (cb 24 [(2,.ak)]),.syms,
 .auto,.aF,.dz 2 0 2 .i64]
def hS(l':List (Int×Int×Int))(i:Int):Int×Int×Int:=l'.getD i.toNat (0,0,0)
abbrev Fw:Type:=Int×(List Int)
abbrev Tp(x:Fw):Exit×St:=(Exit.exit 0,⟨(gA 3 (LV.one (VV.sc (SV.ptr 0 0))::(gA 20 []))),[some (Item.ba [SV.sl 1
 0,SV.int u64 (SI.sym x.1)] 249),some (Item.own 0 (Ty.int IntKind.u8) x.2)]⟩)
def xH(l':List (Int×Int×Int))(n:Int)(i:Int)(w:Int)(o:List Int)(cs:List Int)(bh:Int)(p1:List Int)(p2:
 List Int) (p3:List Int):Tr (ta⊕(Fw)):=(.ite (decide (i<n)) (.need (0≤i∧i<(↑l'.length:Int)) (.need (Fs (hS l' i)
 (cs,bh) p1 p2 p3 w o) (.ret (.inl (l',n,i64.wrap (i+1),(lM (hS l' i) (cs,bh) p1 p2 p3 w o).snd.snd.snd.snd.fst,(lM (hS
 l' i) (cs,bh) p1 p2 p3 w o).snd.snd.snd.snd.snd,(lM (hS l' i) (cs,bh) p1 p2 p3 w o).fst.fst,(lM (hS l' i) (cs,bh) p1 p2 p3 w
 o).fst.snd,(lM (hS l' i) (cs,bh) p1 p2 p3 w o).snd.fst,(lM (hS l' i) (cs,bh) p1 p2 p3 w o).snd.snd.fst,(lM (hS l' i) (cs,
 bh) p1 p2 p3 w o).snd.snd.snd.fst))))) (.ret (.inr (w,o))))
theorem Jr(l:List eP)(l':List (Int×Int×Int))(n:Int)(i:Int)(w:Int)(o:List Int)(cs:List Int)(bh:Int)(p1:List Int)(p2:List Int)(p3:List Int):ct Tryz.prog [(124,Fg),(125,abw),(126,xG),(127,acs)] [] f74 0 ((ag).wr (())) To (tc.wr (l',n,i,w,o,cs,bh,p1,p2,p3))=(xH l' n i w o cs bh p1 p2 p3).res tc.wr Tp:=by kernel_rfl
abbrev vJ(l':List (Int×Int×Int))(n:Int)(i:Int)(w:Int)(o:List Int)(cs:List Int)(bh:Int)(p1:List Int)(p2:List Int)(p3:List Int):Prop:=n=l'.length∧0≤i∧i≤n∧(∃made,b8 made (l'.drop i.toNat)=true)∧qQ l'∧SOk (cs,bh) p1 p2 p3∧pS w o∧o.length+21*(n-i)<1099500000000∧n<1099500000000
abbrev Fx(l':List (Int×Int×Int))(n:Int)(i:Int)(w:Int)(o:List Int)(cs:List Int)(bh:Int)(p1:List Int)(p2:List Int)(p3:List Int):Fw:=fM (l'.drop i.toNat) (cs,bh) p1 p2 p3 w o
abbrev Fy:ta→aG:=e9 (fun x_=>vJ x_.1 x_.2.1 x_.2.2.1 x_.2.2.2.1 x_.2.2.2.2.1 x_.2.2.2.2.2.1 x_.2.2.2.2.2.2.1 x_.2.2.2.2.2.2.2.1 x_.2.2.2.2.2.2.2.2.1 x_.2.2.2.2.2.2.2.2.2) (fun x_=>Fx x_.1 x_.2.1 x_.2.2.1 x_.2.2.2.1 x_.2.2.2.2.1 x_.2.2.2.2.2.1 x_.2.2.2.2.2.2.1 x_.2.2.2.2.2.2.2.1 x_.2.2.2.2.2.2.2.2.1 x_.2.2.2.2.2.2.2.2.2) Tp
theorem Wz(l':List (Int×Int×Int))(n:Int)(i:Int)(w:Int)(o:List Int)(cs:List Int)(bh:Int)(p1:List Int)(p2:List Int)(p3:List Int)(h_:vJ l' n i w o cs bh p1 p2 p3):cK (fun x_:ta=>xH x_.1 x_.2.1 x_.2.2.1 x_.2.2.2.1 x_.2.2.2.2.1 x_.2.2.2.2.2.1 x_.2.2.2.2.2.2.1 x_.2.2.2.2.2.2.2.1 x_.2.2.2.2.2.2.2.2.1 x_.2.2.2.2.2.2.2.2.2) (l',n,i,w,o,cs,bh,p1,p2,p3) (Fx l' n i w o cs bh p1 p2 p3):=by
 delta Fx;obtain⟨rfl,h1,h2,⟨made,h3⟩,h4,h5,h6,h7,h8⟩:=h_;obtain⟨k,rfl⟩:∃k:Nat,i=k:=⟨i.toNat,by omega⟩;rw[Int.toNat_natCast]at h3 ⊢;obtain⟨m,hm⟩:∃m,l'.length=k+m:=⟨l'.length-k,by omega⟩;clear h2
 induction m generalizing k made w o cs bh p1 p2 p3 with
 |zero=>
  refine .stop ?_;rw[List.drop_of_length_le (by omega)];simp only[xH,a5,aq,ao,fM];exact⟨fun h=>by omega,fun _=>trivial⟩
 |succ m ih=>
  have hk:k<l'.length:=by omega
  rw[ja (0,0,0) hk,b8,Bool.and_eq_true,Bool.and_eq_true]at h3;obtain⟨⟨k1,k2⟩,k3⟩:=h3;rw[ja (0,0,0) hk,fM]
  have BX:l'.getD k (0,0,0)∈l':=by
   rw[List.getD_eq_getElem?_getD,List.getElem?_eq_getElem hk];exact List.getElem_mem hk
  have hx:hS l' (k:Int)=l'.getD k (0,0,0):=rfl;generalize l'.getD k (0,0,0)=x at*;obtain⟨q1,q2,q3⟩:=Ft (t:=x) h5 h6 (by omega);have sP:=ih _ _ _ _ _ _ _ _ q1 q2 (k+1) (by omega) k3 (by omega) (by omega);refine .go ?_ sP;have hi:i64.wrap ((k:Int)+1)=k+1:=au (by omega) (by omega);simp only[xH,a5,aq,ao,hx,hi];exact⟨fun _=>⟨⟨by omega,by omega⟩,⟨h5,h6,Fu k1 (h4 _ BX),by omega⟩,rfl⟩,fun h=>by omega⟩
theorem Oz(l:List eP):∀x:ta,Ex Tryz.prog ((ag).wr (())) (.loop (aP f74 0)) (tc.wr x) (Fy x):=
 cn mixed ((al CI (al SY (al vI (al Tn aw))))) (ws:=To) (aK.nil _) (fun x_=>Jr l x_.1 x_.2.1 x_.2.2.1 x_.2.2.2.1 x_.2.2.2.2.1 x_.2.2.2.2.2.1 x_.2.2.2.2.2.2.1 x_.2.2.2.2.2.2.2.1 x_.2.2.2.2.2.2.2.2.1 x_.2.2.2.2.2.2.2.2.2) (fun z e=>by cases e) fH (fun x_ h=>Wz x_.1 x_.2.1 x_.2.2.1 x_.2.2.2.1 x_.2.2.2.2.1 x_.2.2.2.2.2.1 x_.2.2.2.2.2.2.1 x_.2.2.2.2.2.2.2.1 x_.2.2.2.2.2.2.2.2.1 x_.2.2.2.2.2.2.2.2.2 h)
abbrev Fz:Type:=List Int
abbrev acu(x:Fz):LV:=LV.one (VV.sc (SV.rd true false (Ty.int IntKind.u8) x))
abbrev acv(x:Fz):List (Nat×Ev.Item):= []
def acw(w:Int)(l:List Int):Tr (Fz):=(.need (l.length≤70368744177664) (.ret (l)))
theorem OA(w:Int)(l:List Int):aH Tryz.prog [(177,acb)] [] f128 ((ko).wr (())) ((xe).wr (w,l,())) [.fr [.sym],.syms,.auto,.aF]=(acw w l).end acu acv ((xe).wr (w,l,())):=by kernel_rfl
theorem WA(w:Int)(l:List Int):aK Tryz.prog ((xe).wr (w,l,())) [] (aJ f128):=(aK.nil _)
abbrev zU(w:Int)(l:List Int):Prop:=l.length<1099511627776
abbrev OB(w:Int)(l:List Int):Fz:=l
def acx:an:=cQ [] (ko) (xe) (fun x_ y_=>zU y_.1 y_.2.1) (fun x_ y_=>OB y_.1 y_.2.1) acu acv
theorem acy(w:Int)(l:List Int)(h_:zU w l):(acw w l).Is (OB w l):=by
 delta OB;exact⟨by omega,rfl⟩
theorem acz:acx.Ok Tryz.prog 128:=
 bJ mixed ((al acd aw)) func128 (by kernel_rfl) call128 (fun x_ y_=>WA y_.1 y_.2.1) (fun x_ y_=>OA y_.1 y_.2.1) (fun x_ y_ h=>acy y_.1 y_.2.1 h)
def xI(l:List (Int×Int×Int)):Int×List Int:=fM (List.drop 0 l) ([1024,1024],0) (dx 8) (dx 8) (dx 6)
 4294967295 [0,0,0,0]
abbrev FA:Type:=List Int
abbrev acA(x:FA):LV:=LV.one (VV.sc (SV.rd true false (Ty.int IntKind.u8) x))
abbrev acB(x:FA):List (Nat×Ev.Item):= []
def OC(l:List (Int×Int×Int)):Tr (FA):=(.need (vC l) (.ite (!b8 0 l) (.ret ([])) (.need (EB) (.need
 (pX) (.need (vJ l (↑l.length:Int) 0 4294967295 [0,0,0,0] [1024,1024] 0 (dx 8) (dx 8) (dx 6)) (.need (zU (xI l).fst
 (xI l).snd) (.ret ((xI l).snd))))))))
theorem OD(l:List eP):aH Tryz.prog [(124,Fg),(125,abw),(126,xG),(127,acs),(128,acx)] [(0,bU tc ((ag).wr (())) Fv (Fy))] f74 ((Jh).wr (l,())) ((ag).wr (())) [.fr [.rd true u8],.fr [.sym],.syms,.auto,.aF]=(OC l).end acA acB ((ag).wr (())):=by kernel_rfl
theorem WB(l:List eP):aK Tryz.prog ((ag).wr (())) [(0,bU tc ((ag).wr (())) Fv (Fy))] (aJ f74):=(aK.bI (iu (by kernel_rfl) (bM (hp:=(ag).wr (())) (Oz l)) iE))
theorem FB:∀ (l:List eP) {s:List Int×Int} {p1 p2 p3:List Int} {w:Int} {o:List Int},SOk s p1 p2 p3→pS w o→o.length+21*l.length<1099500000000→
  pS (fM l s p1 p2 p3 w o).1 (fM l s p1 p2 p3 w o).2∧(fM l s p1 p2 p3 w o).2.length≤o.length+21*l.length
 | [],_,_,_,_,_,_,_,h,_=>⟨h,by simp[fM]⟩
 |t::r,s,p1,p2,p3,w,o,hs,hc,hl=>by
  rw[List.length_cons]at hl;obtain⟨q1,q2,q3⟩:=Ft (t:=t) hs hc (by omega);have:=FB r q1 q2 (by omega);rw[fM,List.length_cons];exact⟨this.1,by have:=this.2;omega⟩
theorem jx(k:Nat)(h:k≤8):MI (dx k)∧lg (dx k)=k:=by
 have hl:(dx k).length=2 ^ k:=by simp[dx]
 have e:lg (dx k)=k:=by unfold lg;rw[hl,Nat.log2_two_pow]
 refine⟨⟨by rw[e];exact h,by rw[e,hl],fun i=>?_,fun i _ hi=>?_⟩,e⟩
 ·unfold dx;rw[List.getD_eq_getElem?_getD,List.getElem?_replicate]
  split<;>simp
 ·rw[e]at hi;unfold dx;rw[List.getD_eq_getElem?_getD,List.getElem?_replicate,if_pos hi];simp
theorem akp:SOk ([1024,1024],0) (dx 8) (dx 8) (dx 6):=
 ⟨rfl,.inl rfl,(jx 8 (by omega)).1,(jx 8 (by omega)).2,(jx 8 (by omega)).1,(jx 8 (by omega)).2,(jx 6 (by omega)).1,(jx 6 (by omega)).2⟩
theorem acC:pS 4294967295 [0,0,0,0]:=⟨by omega,by omega,fun z hz=>by simp at hz;subst hz;exact⟨by omega,by omega⟩,by simp⟩
def fN(l:List eP):List Int:=if b8 0 l then(fM l ([1024,1024],0) (dx 8) (dx 8) (dx 6) 4294967295 [0,0,0,0]).2 else []
abbrev oJ(l:List eP):Prop:=l.length<1000000000∧qQ l
abbrev OE(l:List eP):FA:=fN l
def acD:an:=cQ [some kr] (Jh) (ag) (fun x_ y_=>oJ x_.1) (fun x_ y_=>OE x_.1) acA acB
theorem acE(l:List eP)(h_:oJ l):(OC l).Is (OE l):=by
 delta OE;obtain⟨h1,h2⟩:=h_;have ht:=FB l akp acC (by simp;omega);have ea:xI l=fM l ([1024,1024],0) (dx 8) (dx 8) (dx 6) 4294967295 [0,0,0,0]:=rfl;simp only[OC,aq,ao,cu,fN,ea];refine⟨by show _<_;omega,fun h=>?_,fun h=>⟨trivial,trivial,⟨rfl,by omega,by omega,⟨0,by simpa using h⟩,h2,akp,acC,by simp;omega,by omega⟩,?_,?_⟩⟩
 ·rw[if_neg (by simpa using h)]
 ·have:=ht.2;simp only[List.length_cons,List.length_nil]at this;show _<_;omega
 ·rw[if_pos (by simpa using h)]
theorem acF:acD.Ok Tryz.prog 74:=
 bJ mixed ((al CI (al SY (al vI (al Tn (al acz aw)))))) func74 (by kernel_rfl) call74 (fun x_ y_=>WB x_.1) (fun x_ y_=>OD x_.1) (fun x_ y_ h=>acE x_.1 h)
abbrev jTi(i:Nat):aQ Ev.Item Int:=(xd 347 (ae (aA .i64) (ai (j0 i 0) ag))).lV (fun x=>x.1) (fun w=>(w,())) (fun _=>rfl)
abbrev are:=jTi 3
abbrev arf:=jTi 5
abbrev arh:=jTi 7
abbrev td:Type:=(List (Int×Int×Int))×Int×Int×Int×Int×(List Int)×Int×(List Int)×Int×(List Int)×Int×(List Int)×(List
 Int)×Int×Int×Int
abbrev xJ:aQ St td:=(aT (ae (ah (gg false false ((Ty.int i64).pair ((Ty.int i64).pair (Ty.int
 IntKind.u8))))) (jk 2 (ai (ah (aD (0) (0))) (ai (ah (aD (2) (0))) (ai (ah (aD (4) (0))) (ai (ah (aD (6) (0))) (ai (ah
 (aD (8) (0))) (ae (ah (aA i64)) (ae (ah (aA i64)) (ai (ah (aD (9) (0))) (jk 1 (ae (ah (aA i64))
 (jk 68 ag))))))))))))) (ae (cx Je) (ae (cE (0) (Ty.int IntKind.u8)) (ae (cx are) (ae (cE (0) (Ty.int i64)) (ae
 (cx arf) (ae (cE (0) (Ty.int i64)) (ae (cx arh) (ae (cE (0) (Ty.int i64)) (ae (fG (193) ((ae (sF (Ty.int
 i64) (2)) ag))) (ae (fG (199) ((ae (aA i64) (ae (aA i64) (ae (aA IntKind.u8) ag)))))
 ag))))))))))).lV (fun y=>(y.1.1,y.1.2.1,y.1.2.2.1,y.1.2.2.2.1,y.2.1,y.2.2.1,y.2.2.2.1,y.2.2.2.2.1,y.2.2.2.2.2.1,y.2.2.2.2.2.2.1,
 y.2.2.2.2.2.2.2.1,y.2.2.2.2.2.2.2.2.1,y.2.2.2.2.2.2.2.2.2.1.1,y.2.2.2.2.2.2.2.2.2.2.1.1,y.2.2.2.2.2.2.2.2.2.2.1.2.1,
 y.2.2.2.2.2.2.2.2.2.2.1.2.2.1)) (fun x=>((x.1,(x.2.1,(x.2.2.1,(x.2.2.2.1,())))),(x.2.2.2.2.1,(x.2.2.2.2.2.1,(x.2.2.2.2.2.2.1,
 (x.2.2.2.2.2.2.2.1,(x.2.2.2.2.2.2.2.2.1,(x.2.2.2.2.2.2.2.2.2.1,(x.2.2.2.2.2.2.2.2.2.2.1,(x.2.2.2.2.2.2.2.2.2.2.2.1,((x.2.2.2.2.2.2.2.2.2.2.2.2.1,
 ()),((x.2.2.2.2.2.2.2.2.2.2.2.2.2.1,(x.2.2.2.2.2.2.2.2.2.2.2.2.2.2.1,(x.2.2.2.2.2.2.2.2.2.2.2.2.2.2.2,()))),())))))))))))) (fun _=>rfl)
abbrev Tq:List Wk:= [.fr (cb 81 [(0,.ak),(3,.ak),(4,.ak),(5,.ak),(6,.ak),(7,.ak),(8,.ak),(9,.ak),(10,.ak),
 (12,.ak)]),.syms,.auto,.aF,.dz 8 0 2 .i64]
abbrev Ts:Exit→List Wk:=wT Tq 2 [.fr (cb 81 [(0,.ak),(3,.ak),(4,.ak),(5,.ak),(6,.ak),(7,.ak),(8,.ak),(9,
 .ak)]),.syms,.auto,.aF,.dz 8 0 2 .i64] [.fr (cb 81 [(2,.ak)]),.syms,.auto,.aF,.dz 8 0 2 .i64]
abbrev FC:Type:=(List (Int×Int×Int))×Int×Int×Int×(List Int)×Int×(List Int)×Int×(List Int)×Int×(List Int)×(List Int)
abbrev Tt(x:FC):Exit×St:=(Exit.exit 2,⟨(LV.one (VV.sc (SV.rd false false ((Ty.int i64).pair ((Ty.int
 i64).pair (Ty.int IntKind.u8))) x.1))::(gA 2 (LV.one (VV.sc (SV.ptr 0 0))::(LV.one (VV.sc (SV.ptr 2 0))::(LV.one (VV.sc (SV.ptr 4 0))::
 (LV.one (VV.sc (SV.ptr 6 0))::(LV.one (VV.sc (SV.ptr 8 0))::(LV.one (VV.sc (SV.int i64 (SI.sym x.2.1)))::(LV.one (VV.sc (SV.int
 i64 (SI.sym x.2.2.1)))::(gA 71 [])))))))))),[some (Je.wr x.2.2.2.1),some (Item.own 0 (Ty.int IntKind.u8) x.2.2.2.2.1),some (are.wr
 x.2.2.2.2.2.1),some (Item.own 0 (Ty.int i64) x.2.2.2.2.2.2.1),some (arf.wr x.2.2.2.2.2.2.2.1),some (Item.own 0 (Ty.int i64)
 x.2.2.2.2.2.2.2.2.1),some (arh.wr x.2.2.2.2.2.2.2.2.2.1),some (Item.own 0 (Ty.int i64) x.2.2.2.2.2.2.2.2.2.2.1),some (Item.ba [SV.arr
 (Ty.int i64) 2 x.2.2.2.2.2.2.2.2.2.2.2] 193)]⟩)
def xK(l':List (Int×Int×Int))(dH:Int)(i:Int)(k:Int)(w:Int)(o:List Int)(b1:Int)(p1:List Int)(b2:Int)
 (p2:List Int) (b3:Int) (p3:List Int) (cs:List Int) (t1:Int) (t2:Int) (t3:Int):Tr (td⊕(FC)):=(.ite (decide (0≤k)) (.need
 (0≤u64.wrap k) (.need (zq (aM i64 (shr i64 (i64.wrap (t2-1)) (u64.wrap k)) 1) w o) (.ret (.inl
 (l',dH,i,i64.wrap (k-1),(dW (aM i64 (shr i64 (i64.wrap (t2-1)) (u64.wrap k)) 1) w o).fst,
 (dW (aM i64 (shr i64 (i64.wrap (t2-1)) (u64.wrap k)) 1) w o).snd,b1,p1,b2,p2,b3,p3,cs,t1,t2,t3)))))
 (.ret (.inr (l',dH,i,w,o,b1,p1,b2,p2,b3,p3,cs))))
theorem Js(l:List eP)(l':List (Int×Int×Int))(dH:Int)(i:Int)(k:Int)(w:Int)(o:List Int)(b1:Int)(p1:List Int)(b2:Int)(p2:List Int)(b3:Int)(p3:List Int)(cs:List Int)(t1:Int)(t2:Int)(t3:Int):ct Tryz.prog [(202,xE),(203,EV),(204,E1),(205,CF),(207,ET),(206,E8)] [] f140 2 ((ag).wr (())) Ts (xJ.wr (l',dH,i,k,w,o,b1,p1,b2,p2,b3,p3,cs,t1,t2,t3))=(xK l' dH i k w o b1 p1 b2 p2 b3 p3 cs t1 t2 t3).res xJ.wr Tt:=by kernel_rfl
abbrev vK(l':List (Int×Int×Int))(dH:Int)(i:Int)(k:Int)(w:Int)(o:List Int)(b1:Int)(p1:List Int)(b2:Int)(p2:List Int)(b3:Int)(p3:List Int)(cs:List Int)(t1:Int)(t2:Int)(t3:Int):Prop:=pS w o∧1≤t2∧t2≤4096∧ -1≤k∧k≤5∧o.length<1099511000000
abbrev FD(l':List (Int×Int×Int))(dH:Int)(i:Int)(k:Int)(w:Int)(o:List Int)(b1:Int)(p1:List Int)(b2:Int)(p2:List Int)(b3:Int)(p3:List Int)(cs:List Int)(t1:Int)(t2:Int)(t3:Int):FC:=(l',dH,i,(dp (k+1).toNat (t2-1) w o).1,(dp (k+1).toNat (t2-1) w o).2,b1,p1,b2,p2,b3,p3,cs)
abbrev Tu:td→aG:=e9 (fun x_=>vK x_.1 x_.2.1 x_.2.2.1 x_.2.2.2.1 x_.2.2.2.2.1 x_.2.2.2.2.2.1 x_.2.2.2.2.2.2.1 x_.2.2.2.2.2.2.2.1 x_.2.2.2.2.2.2.2.2.1 x_.2.2.2.2.2.2.2.2.2.1 x_.2.2.2.2.2.2.2.2.2.2.1 x_.2.2.2.2.2.2.2.2.2.2.2.1 x_.2.2.2.2.2.2.2.2.2.2.2.2.1 x_.2.2.2.2.2.2.2.2.2.2.2.2.2.1 x_.2.2.2.2.2.2.2.2.2.2.2.2.2.2.1 x_.2.2.2.2.2.2.2.2.2.2.2.2.2.2.2) (fun x_=>FD x_.1 x_.2.1 x_.2.2.1 x_.2.2.2.1 x_.2.2.2.2.1 x_.2.2.2.2.2.1 x_.2.2.2.2.2.2.1 x_.2.2.2.2.2.2.2.1 x_.2.2.2.2.2.2.2.2.1 x_.2.2.2.2.2.2.2.2.2.1 x_.2.2.2.2.2.2.2.2.2.2.1 x_.2.2.2.2.2.2.2.2.2.2.2.1 x_.2.2.2.2.2.2.2.2.2.2.2.2.1 x_.2.2.2.2.2.2.2.2.2.2.2.2.2.1 x_.2.2.2.2.2.2.2.2.2.2.2.2.2.2.1 x_.2.2.2.2.2.2.2.2.2.2.2.2.2.2.2) Tt
theorem WC(l':List (Int×Int×Int))(dH:Int)(i:Int)(k:Int)(w:Int)(o:List Int)(b1:Int)(p1:List Int)(b2:Int)(p2:List Int)(b3:Int)(p3:List Int)(cs:List Int)(t1:Int)(t2:Int)(t3:Int)(h_:vK l' dH i k w o b1 p1 b2 p2 b3 p3 cs t1 t2 t3):cK (fun x_:td=>xK x_.1 x_.2.1 x_.2.2.1 x_.2.2.2.1 x_.2.2.2.2.1 x_.2.2.2.2.2.1 x_.2.2.2.2.2.2.1 x_.2.2.2.2.2.2.2.1 x_.2.2.2.2.2.2.2.2.1 x_.2.2.2.2.2.2.2.2.2.1 x_.2.2.2.2.2.2.2.2.2.2.1 x_.2.2.2.2.2.2.2.2.2.2.2.1 x_.2.2.2.2.2.2.2.2.2.2.2.2.1 x_.2.2.2.2.2.2.2.2.2.2.2.2.2.1 x_.2.2.2.2.2.2.2.2.2.2.2.2.2.2.1 x_.2.2.2.2.2.2.2.2.2.2.2.2.2.2.2) (l',dH,i,k,w,o,b1,p1,b2,p2,b3,p3,cs,t1,t2,t3) (FD l' dH i k w o b1 p1 b2 p2 b3 p3 cs t1 t2 t3):=by
 delta FD;obtain⟨h1,h2,h2',h3,h4,h5⟩:=h_;obtain⟨n,hk⟩:∃n:Nat,k=(n:Int)-1:=⟨(k+1).toNat,by omega⟩;subst hk;clear h3;rw[show((n:Int)-1+1).toNat=n from by omega];have h6:o.length+n<1099511000010:=by omega
 clear h5
 induction n generalizing w o with
 |zero=>
  refine .stop ?_;simp only[xK,a5,aq,ao,dp];exact⟨fun h=>by omega,fun _=>trivial⟩
 |succ n ih=>
  have hb:aM .i64 (shr .i64 (t2-1) n) 1=(t2-1)/2 ^ n%2:=EL (by omega) n (by omega);have e1:i64.wrap (t2-1)=t2-1:=au (by omega) (by omega);have e2:(((n+1:Nat):Int)-1)=(n:Int):=by omega
  have e3:u64.wrap (n:Int)=n:=wrap_u64 (by omega) (by omega);have hl:=pU ((t2-1)/2 ^ n%2) w o;have sP:=ih (dW ((t2-1)/2 ^ n%2) w o).1 (dW ((t2-1)/2 ^ n%2) w o).2 (pT h1 (by omega)) (by omega) (by omega);rw[e2];refine .go ?_ sP;simp only[xK,a5,aq,ao,e1,e3,hb];refine⟨fun _=>⟨by omega,h1,?_⟩,fun h=>by omega⟩;rw[au (by omega) (by omega)]
theorem OF(l:List eP):∀x:td,Ex Tryz.prog ((ag).wr (())) (.loop (aP f140 2)) (xJ.wr x) (Tu x):=
 cn mixed ((al vG (al zw (al zx (al sX (al zr (al zy aw))))))) (ws:=Ts) (aK.nil _) (fun x_=>Js l x_.1 x_.2.1 x_.2.2.1 x_.2.2.2.1 x_.2.2.2.2.1 x_.2.2.2.2.2.1 x_.2.2.2.2.2.2.1 x_.2.2.2.2.2.2.2.1 x_.2.2.2.2.2.2.2.2.1 x_.2.2.2.2.2.2.2.2.2.1 x_.2.2.2.2.2.2.2.2.2.2.1 x_.2.2.2.2.2.2.2.2.2.2.2.1 x_.2.2.2.2.2.2.2.2.2.2.2.2.1 x_.2.2.2.2.2.2.2.2.2.2.2.2.2.1 x_.2.2.2.2.2.2.2.2.2.2.2.2.2.2.1 x_.2.2.2.2.2.2.2.2.2.2.2.2.2.2.2) (fun z e=>by cases e) fH (fun x_ h=>WC x_.1 x_.2.1 x_.2.2.1 x_.2.2.2.1 x_.2.2.2.2.1 x_.2.2.2.2.2.1 x_.2.2.2.2.2.2.1 x_.2.2.2.2.2.2.2.1 x_.2.2.2.2.2.2.2.2.1 x_.2.2.2.2.2.2.2.2.2.1 x_.2.2.2.2.2.2.2.2.2.2.1 x_.2.2.2.2.2.2.2.2.2.2.2.1 x_.2.2.2.2.2.2.2.2.2.2.2.2.1 x_.2.2.2.2.2.2.2.2.2.2.2.2.2.1 x_.2.2.2.2.2.2.2.2.2.2.2.2.2.2.1 x_.2.2.2.2.2.2.2.2.2.2.2.2.2.2.2 h)
abbrev te:Type:=(List (Int×Int×Int))×Int×Int×Int×(List Int)×Int×(List Int)×Int×(List Int)×Int×(List Int)×(List Int)
abbrev tf:aQ St te:=(aT (ae (ah (gg false false ((Ty.int i64).pair ((Ty.int i64).pair (Ty.int
 IntKind.u8))))) (jk 2 (ai (ah (aD (0) (0))) (ai (ah (aD (2) (0))) (ai (ah (aD (4) (0))) (ai (ah (aD (6) (0))) (ai (ah
 (aD (8) (0))) (ae (ah (aA i64)) (ae (ah (aA i64)) (jk 71 ag)))))))))) (ae (cx Je) (ae (cE (0) (Ty.int
 IntKind.u8)) (ae (cx are) (ae (cE (0) (Ty.int i64)) (ae (cx arf) (ae (cE (0) (Ty.int i64)) (ae (cx arh)
 (ae (cE (0) (Ty.int i64)) (ae (fG (193) ((ae (sF (Ty.int i64) (2)) ag))) ag)))))))))).lV (fun y=>(y.1.1,y.1.2.1,
 y.1.2.2.1,y.2.1,y.2.2.1,y.2.2.2.1,y.2.2.2.2.1,y.2.2.2.2.2.1,y.2.2.2.2.2.2.1,y.2.2.2.2.2.2.2.1,y.2.2.2.2.2.2.2.2.1,y.2.2.2.2.2.2.2.2.2.1.1))
 (fun x=>((x.1,(x.2.1,(x.2.2.1,()))),(x.2.2.2.1,(x.2.2.2.2.1,(x.2.2.2.2.2.1,(x.2.2.2.2.2.2.1,(x.2.2.2.2.2.2.2.1,(x.2.2.2.2.2.2.2.2.1,
 (x.2.2.2.2.2.2.2.2.2.1,(x.2.2.2.2.2.2.2.2.2.2.1,((x.2.2.2.2.2.2.2.2.2.2.2,()),()))))))))))) (fun _=>rfl)
abbrev FE:List Wk:= [.fr (cb 81 [(0,.ak),(3,.ak),(4,.ak),(5,.ak),(6,.ak),(7,.ak),(8,.ak),(9,.ak)]),.syms,
 .auto,.aF,.dz 8 0 2 .i64]
abbrev Tv:Exit→List Wk:=wT FE 0 [.fr (cb 81 [(3,.ak)]),.syms,.auto,.aF,.dz 8 0 2 .i64] [.fr (cb 81 [(2,.ak)]),.syms,
 .auto,.aF,.dz 8 0 2 .i64]
def tg(dH:Int)(cs:List Int):List Int:=cs.set (0+dH.toNat) (cH ((List.take 2 (List.drop 0 cs)).getD dH.toNat 0)
 1)
def th(l':List (Int×Int×Int))(i:Int):Int:=i64.wrap (l'.getD i.toNat (0,0,0)).snd.snd
def ti(l':List (Int×Int×Int))(i:Int):Int:=i64.wrap ((l'.getD i.toNat (0,0,0)).fst-2)
def hX(l':List (Int×Int×Int))(i:Int):Int:=i64.wrap ((i64.wrap ((l'.getD i.toNat (0,0,0)).snd.fst-
 1)).tdiv 64)
def oK(l':List (Int×Int×Int))(dH:Int)(i:Int)(w:Int)(o:List Int)(p1:List Int)(cs:List Int):Int×List
 Int×List Int:=aZ (lg p1) (th l' i) 1 (bD ((List.take 2 (List.drop 0 cs)).getD dH.toNat 0) 0 w o).fst (bD ((List.take 2 (List.drop
 0 cs)).getD dH.toNat 0) 0 w o).snd p1
def cj(l':List (Int×Int×Int))(dH:Int)(i:Int)(w:Int)(o:List Int)(p2:List Int)(cs:List Int):Int×List
 Int×List Int:=aZ (lg p2) (ti l' i) 1 (bD ((List.take 2 (List.drop 0 cs)).getD dH.toNat 0) 1 w o).fst (bD ((List.take 2 (List.drop
 0 cs)).getD dH.toNat 0) 1 w o).snd p2
def tj(l':List (Int×Int×Int))(dH:Int)(i:Int)(w:Int)(o:List Int)(p2:List Int)(p3:List Int)(cs:List Int)
 :Int×List Int:=dp 6 ((l'.getD i.toNat (0,0,0)).snd.fst-1) (aZ (lg p3) (hX l' i) 1 (cj l' dH i w o p2 cs).fst (cj
 l' dH i w o p2 cs).snd.fst p3).fst (aZ (lg p3) (hX l' i) 1 (cj l' dH i w o p2 cs).fst (cj l' dH i w o p2 cs).snd.fst
 p3).snd.fst
abbrev FF:Type:=Int×(List Int)
abbrev Tw(x:FF):Exit×St:=(Exit.exit 0,⟨(gA 3 (LV.one (VV.sc (SV.ptr 0 0))::(gA 77 []))),[some (Je.wr x.1),
 some (Item.own 0 (Ty.int IntKind.u8) x.2)]⟩)
def tk(l':List (Int×Int×Int))(dH:Int)(i:Int)(w:Int)(o:List Int)(b1:Int)(p1:List Int)(b2:Int)(p2:List
 Int) (b3:Int) (p3:List Int) (cs:List Int):Tr (te⊕(FF)):=(.ite (decide (i<(↑l'.length:Int))) (.need (0≤i∧i<(↑l'.length:
 Int)) (.ite (decide (0<(l'.getD i.toNat (0,0,0)).fst)) (.need (0≤dH∧dH<2) (.need (sW ((List.take 2 (List.drop 0 cs)).getD dH.toNat 0)
 1 w o) (.need (0≤dH∧dH<2) (.need (oD (ti l' i) (bD ((List.take 2 (List.drop 0 cs)).getD dH.toNat 0) 1 w o).fst (bD
 ((List.take 2 (List.drop 0 cs)).getD dH.toNat 0) 1 w o).snd b2 p2) (.need (oD (hX l' i) (cj l' dH i w o p2 cs).fst (cj l' dH
 i w o p2 cs).snd.fst b3 p3) (.need (vK l' 1 i 5 (aZ (lg p3) (hX l' i) 1 (cj l' dH i w o p2 cs).fst (cj l' dH i w o p2
 cs).snd.fst p3).fst (aZ (lg p3) (hX l' i) 1 (cj l' dH i w o p2 cs).fst (cj l' dH i w o p2 cs).snd.fst p3).snd.fst b1 p1 b2
 (cj l' dH i w o p2 cs).snd.snd b3 (aZ (lg p3) (hX l' i) 1 (cj l' dH i w o p2 cs).fst (cj l' dH i w o p2 cs).snd.fst
 p3).snd.snd (tg dH cs) (l'.getD i.toNat (0,0,0)).fst (l'.getD i.toNat (0,0,0)).snd.fst (l'.getD i.toNat (0,0,0)).snd.snd) (.ret (.inl (l',
 1,i64.wrap (i+1),(tj l' dH i w o p2 p3 cs).fst,(tj l' dH i w o p2 p3 cs).snd,b1,p1,b2,(cj l' dH i w o p2
 cs).snd.snd,b3,(aZ (lg p3) (hX l' i) 1 (cj l' dH i w o p2 cs).fst (cj l' dH i w o p2 cs).snd.fst p3).snd.snd,tg dH
 cs))))))))) (.need (0≤dH∧dH<2) (.need (sW ((List.take 2 (List.drop 0 cs)).getD dH.toNat 0) 0 w o) (.need (0≤dH∧dH<2) (.need
 (oD (th l' i) (bD ((List.take 2 (List.drop 0 cs)).getD dH.toNat 0) 0 w o).fst (bD ((List.take 2 (List.drop 0 cs)).getD dH.toNat 0)
 0 w o).snd b1 p1) (.ret (.inl (l',0,i64.wrap (i+1),(oK l' dH i w o p1 cs).fst,(oK l' dH i w o p1 cs).snd.fst,b1,(oK
 l' dH i w o p1 cs).snd.snd,b2,p2,b3,p3,cs.set (0+dH.toNat) (cH ((List.take 2 (List.drop 0 cs)).getD dH.toNat 0) 0)))))))))) (.ret (.inr
 (w,o))))
theorem Jt(l:List eP)(l':List (Int×Int×Int))(dH:Int)(i:Int)(w:Int)(o:List Int)(b1:Int)(p1:List Int)(b2:Int)(p2:List Int)(b3:Int)(p3:List Int)(cs:List Int):ct Tryz.prog [(202,xE),(203,EV),(204,E1),(205,CF),(207,ET),(206,E8)] [(2,bU xJ ((ag).wr (())) Tq (Tu))] f140 0 ((ag).wr (())) Tv (tf.wr (l',dH,i,w,o,b1,p1,b2,p2,b3,p3,cs))=(tk l' dH i w o b1 p1 b2 p2 b3 p3 cs).res tf.wr Tw:=by kernel_rfl
abbrev vL(l':List (Int×Int×Int))(dH:Int)(i:Int)(w:Int)(o:List Int)(b1:Int)(p1:List Int)(b2:Int)(p2:List Int)(b3:Int)(p3:List Int)(cs:List Int):Prop:=0≤i∧i≤l'.length∧(∃made,b8 made (l'.drop i.toNat)=true)∧qQ l'∧SOk (cs,dH) p1 p2 p3∧pS w o∧o.length+21*((l'.length:Int)-i)<1099500000000∧(l'.length:Int)<1099500000000∧b1=8∧b2=8∧b3=6
abbrev FG(l':List (Int×Int×Int))(dH:Int)(i:Int)(w:Int)(o:List Int)(b1:Int)(p1:List Int)(b2:Int)(p2:List Int)(b3:Int)(p3:List Int)(cs:List Int):FF:=fM (l'.drop i.toNat) (cs,dH) p1 p2 p3 w o
abbrev FH:te→aG:=e9 (fun x_=>vL x_.1 x_.2.1 x_.2.2.1 x_.2.2.2.1 x_.2.2.2.2.1 x_.2.2.2.2.2.1 x_.2.2.2.2.2.2.1 x_.2.2.2.2.2.2.2.1 x_.2.2.2.2.2.2.2.2.1 x_.2.2.2.2.2.2.2.2.2.1 x_.2.2.2.2.2.2.2.2.2.2.1 x_.2.2.2.2.2.2.2.2.2.2.2) (fun x_=>FG x_.1 x_.2.1 x_.2.2.1 x_.2.2.2.1 x_.2.2.2.2.1 x_.2.2.2.2.2.1 x_.2.2.2.2.2.2.1 x_.2.2.2.2.2.2.2.1 x_.2.2.2.2.2.2.2.2.1 x_.2.2.2.2.2.2.2.2.2.1 x_.2.2.2.2.2.2.2.2.2.2.1 x_.2.2.2.2.2.2.2.2.2.2.2) Tw
theorem WD(l':List (Int×Int×Int))(dH:Int)(i:Int)(w:Int)(o:List Int)(b1:Int)(p1:List Int)(b2:Int)(p2:List Int)(b3:Int)(p3:List Int)(cs:List Int)(h_:vL l' dH i w o b1 p1 b2 p2 b3 p3 cs):cK (fun x_:te=>tk x_.1 x_.2.1 x_.2.2.1 x_.2.2.2.1 x_.2.2.2.2.1 x_.2.2.2.2.2.1 x_.2.2.2.2.2.2.1 x_.2.2.2.2.2.2.2.1 x_.2.2.2.2.2.2.2.2.1 x_.2.2.2.2.2.2.2.2.2.1 x_.2.2.2.2.2.2.2.2.2.2.1 x_.2.2.2.2.2.2.2.2.2.2.2) (l',dH,i,w,o,b1,p1,b2,p2,b3,p3,cs) (FG l' dH i w o b1 p1 b2 p2 b3 p3 cs):=by
 delta FG;obtain⟨h1,h2,⟨made,h3⟩,h4,h5,h6,h7,h8,rfl,rfl,rfl⟩:=h_;obtain⟨k,rfl⟩:∃k:Nat,i=k:=⟨i.toNat,by omega⟩;rw[Int.toNat_natCast]at h3 ⊢;obtain⟨m,hm⟩:∃m,l'.length=k+m:=⟨l'.length-k,by omega⟩;clear h2
 induction m generalizing k made w o cs dH p1 p2 p3 with
 |zero=>
  refine .stop ?_;rw[List.drop_of_length_le (by omega)];simp only[tk,a5,aq,ao,fM];exact⟨fun h=>by omega,fun _=>trivial⟩
 |succ m ih=>
  have hk:k<l'.length:=by omega
  rw[ja (0,0,0) hk,b8,Bool.and_eq_true,Bool.and_eq_true]at h3;obtain⟨⟨k1,k2⟩,k3⟩:=h3;rw[ja (0,0,0) hk,fM]
  have BX:l'.getD k (0,0,0)∈l':=by
   rw[List.getD_eq_getElem?_getD,List.getElem?_eq_getElem hk];exact List.getElem_mem hk
  have hxe:l'.getD ((k:Int)).toNat (0,0,0)=l'.getD k (0,0,0):=rfl;generalize l'.getD k (0,0,0)=x at*;have ht:=Fu k1 (h4 _ BX);obtain⟨q1,q2,q3⟩:=Ft (t:=x) h5 h6 (by omega);have sP:=ih _ _ _ _ _ _ _ _ q1 q2 (k+1) (by omega) k3 (by omega) (by omega);refine .go ?_ sP;have hi:i64.wrap ((k:Int)+1)=k+1:=au (by omega) (by omega);have hlen:cs.length=2:=h5.len;have e1:(List.take 2 (List.drop 0 cs)).getD dH.toNat 0=cs.getD dH.toNat 0:=by rw[List.drop_zero,List.take_of_length_le (by omega)]
  have hb:0≤dH∧dH<2:=by have:=h5.bh;simp only at this;omega
  have p8:(2:Int) ^ 8=256:=by decide
  have p6:(2:Int) ^ 6=64:=by decide
  have l1:=h5.l1;have l2:=h5.l2;have l3:=h5.l3;have hn:(0:Int)≤k∧(k:Int)<l'.length:=⟨by omega,by omega⟩;have h9:=jt (p:=cs.getD dH.toNat 0) (b:=if x.1=0 then 0 else 1) h6 (by omega);have Z0:=ju (cs.getD dH.toNat 0) (if x.1=0 then 0 else 1) w o;rcases ht with⟨e,hb1,sa⟩|⟨hb1,sa,hb3,hb4⟩
  ·have e2:i64.wrap x.2.2=x.2.2:=au (by omega) (by omega);have B0:th l' k=x.2.2:=by unfold th;rw[hxe,e2]
   have ea4:oK l' dH k w o p1 cs=aZ (lg p1) x.2.2 1 (bD (cs.getD dH.toNat 0) 0 w o).1 (bD (cs.getD dH.toNat 0) 0 w o).2 p1:=by
    unfold oK;rw[B0,e1]
   rw[if_pos e]at h9 Z0;simp only[tk,a5,aq,ao,hxe,hi,e1];refine⟨fun _=>⟨hn,fun h=>by omega,fun _=>⟨hb,h6,hb,?_,?_⟩⟩,fun h=>by omega⟩
   ·rw[B0];exact⟨h5.t1,h9,hb1,by rw[l1,p8];omega,by omega,by omega,by omega⟩
   ·rw[ea4];simp only[lM,if_pos e,Nat.zero_add];rfl
  ·have e0:¬x.1=0:=(by omega);have e2:i64.wrap (x.1-2)=x.1-2:=au (by omega) (by omega);have e3:i64.wrap (x.2.1-1)=x.2.1-1:=au (by omega) (by omega);have e4:i64.wrap ((x.2.1-1).tdiv 64)=(x.2.1-1)/64:=(by rw[Int.tdiv_eq_ediv_of_nonneg (by omega),au (by omega) (by omega)]);have ZV:tg dH cs=cs.set dH.toNat (cH (cs.getD dH.toNat 0) 1):=(by unfold tg;rw[e1,Nat.zero_add]);have ZU:ti l' k=x.1-2:=(by unfold ti;rw[hxe,e2]);have ea3:hX l' k=(x.2.1-1)/64:=by unfold hX;rw[hxe,e3,e4]
   have ea5:cj l' dH k w o p2 cs=aZ (lg p2) (x.1-2) 1 (bD (cs.getD dH.toNat 0) 1 w o).1 (bD (cs.getD dH.toNat 0) 1 w o).2 p2:=by
    unfold cj;rw[ZU,e1]
   have ea6:tj l' dH k w o p2 p3 cs=dp 6 (x.2.1-1) (aZ (lg p3) ((x.2.1-1)/64) 1 (cj l' dH k w o p2 cs).1 (cj l' dH k w o p2 cs).2.1 p3).1 (aZ (lg p3) ((x.2.1-1)/64) 1 (cj l' dH k w o p2 cs).1 (cj l' dH k w o p2 cs).2.1 p3).2.1:=by
    unfold tj;rw[ea3,hxe]
   rw[if_neg e0]at h9 Z0;have h3:=gE (lg p2) (x.1-2) 1 _ _ p2 h9 (by rw[l2];omega);rw[← ea5]at h3;have h4':=gE (lg p3) ((x.2.1-1)/64) 1 _ _ p3 h3.1 (by rw[l2]at h3;rw[l3];omega);have k3:=h3.2;have k4:=h4'.2;rw[l2]at k3;rw[l3]at k4;simp only[tk,a5,aq,ao,hxe,hi,e1,ZV,ZU,ea3];refine⟨fun _=>⟨hn,fun _=>⟨hb,h6,hb,⟨h5.t2,h9,by omega,by rw[l2,p8];omega,by omega,by omega,by omega⟩,⟨h5.t3,h3.1,by omega,by rw[l3,p6];omega,by omega,by omega,by omega⟩,⟨h4'.1,by omega,by omega,by omega,by omega,by rw[l3];omega⟩,?_⟩,fun h=>by omega⟩,fun h=>by omega⟩;simp only[lM,if_neg e0,ea6,ea5];rfl
theorem OG(l:List eP):∀x:te,Ex Tryz.prog ((ag).wr (())) (.loop (aP f140 0)) (tf.wr x) (FH x):=
 cn mixed ((al vG (al zw (al zx (al sX (al zr (al zy aw))))))) (ws:=Tv) (aK.inner (by kernel_rfl) (iu (by kernel_rfl) (bM (hp:=(ag).wr (())) (OF l)) iE)) (fun x_=>Jt l x_.1 x_.2.1 x_.2.2.1 x_.2.2.2.1 x_.2.2.2.2.1 x_.2.2.2.2.2.1 x_.2.2.2.2.2.2.1 x_.2.2.2.2.2.2.2.1 x_.2.2.2.2.2.2.2.2.1 x_.2.2.2.2.2.2.2.2.2.1 x_.2.2.2.2.2.2.2.2.2.2.1 x_.2.2.2.2.2.2.2.2.2.2.2) (fun z e=>by cases e) fH (fun x_ h=>WD x_.1 x_.2.1 x_.2.2.1 x_.2.2.2.1 x_.2.2.2.2.1 x_.2.2.2.2.2.1 x_.2.2.2.2.2.2.1 x_.2.2.2.2.2.2.2.1 x_.2.2.2.2.2.2.2.2.1 x_.2.2.2.2.2.2.2.2.2.1 x_.2.2.2.2.2.2.2.2.2.2.1 x_.2.2.2.2.2.2.2.2.2.2.2 h)
abbrev FI:Type:=List Int
abbrev acG(x:FI):LV:=LV.one (VV.sc (SV.sl 0 0))
abbrev acH(x:FI):List (Nat×Ev.Item):= [(0,Item.own 0 (Ty.int IntKind.u8) x)]
def OH(l:List (Int×Int×Int)):Tr (FI):=(.need (vF l) (.ite (!b8 0 l) (.ret ([])) (.need (zt) (.need
 (oC 8) (.need (oC 8) (.need (oC 6) (.need (vL l 0 0 4294967295 [0,0,0,0] 8 (kp 8) 8 (kp 8) 6 (kp 6) [1024,1024])
 (.ret ((fM (List.drop 0 l) ([1024,1024],0) (kp 8) (kp 8) (kp 6) 4294967295 [0,0,0,0]).snd)))))))))
theorem OI(l:List eP):aH Tryz.prog [(202,xE),(203,EV),(204,E1),(205,CF),(207,ET),(206,E8)] [(0,bU tf ((ag).wr (())) FE (FH))] f140 ((Jh).wr (l,())) ((ag).wr (())) [.cP 0 u8,.fr [.sym],.syms,.auto,.aF]=(OH l).end acG acH ((ag).wr (())):=by kernel_rfl
theorem WE(l:List eP):aK Tryz.prog ((ag).wr (())) [(0,bU tf ((ag).wr (())) FE (FH))] (aJ f140):=(aK.bI (iu (by kernel_rfl) (bM (hp:=(ag).wr (())) (OG l)) iE))
theorem vM(p:List Int)(x:Int):(p.set 0 x).length=p.length:=by simp
theorem acI(p:List Int)(x:Int):lg (p.set 0 x)=lg p:=by unfold lg;simp
theorem aBC(p:List Int)(x:Int){n:Int}(h:1≤n):kj (p.set 0 x) n=kj p n:=by
 unfold kj qD;rw[vM,iS]
 split
 ·rw[if_neg (by omega)]
 ·rfl
theorem ari(p:List Int)(x:Int){n:Int}(b:Int)(h:1≤n):c9 (p.set 0 x) n b=(c9 p n b).set 0 x:=by
 unfold c9 qD;rw[vM,iS]
 split
 ·rw[if_neg (by omega),List.set_comm _ _ (by omega)]
 ·rfl
theorem xL:∀ (k:Nat) (v node w:Int) (l p:List Int) (x:Int),1≤node→0≤v→
  aZ k v node w l (p.set 0 x)=((aZ k v node w l p).1,(aZ k v node w l p).2.1,(aZ k v node w l p).2.2.set 0 x)
 |0,_,_,_,_,_,_,_,_=>rfl
 |k+1,v,node,w,l,p,x,h,hv=>by
  have hb:0≤v/2 ^ k%2:=by omega
  rw[aZ,aZ];simp only[aBC p x h,ari p x _ h];exact xL k v _ _ _ _ x (by omega) hv
theorem av9{t:eP}(ht:acq t)(s:List Int×Int)(p1 p2 p3:List Int)(w:Int)(l:List Int)(x:Int):
  let r:=lM t s p1 p2 p3 w l
  lM t s (p1.set 0 x) (p2.set 0 x) (p3.set 0 x) w l=(r.1,r.2.1.set 0 x,r.2.2.1.set 0 x,r.2.2.2.1.set 0 x,r.2.2.2.2.1,r.2.2.2.2.2):=by
 unfold lM;simp only[acI]
 split
 ·rename_i e;rw[xL _ _ _ _ _ _ _ (by omega) (by rcases ht with h|h<;>omega)]
 ·rename_i e;have h:2≤t.1∧1≤t.2.1:=by rcases ht with h|h<;>omega
  rw[xL _ _ _ _ _ _ _ (by omega) (by omega),xL _ _ _ _ _ _ _ (by omega) (by omega)]
theorem acJ:∀ (l:List eP) (made:Int) (s:List Int×Int) (p1 p2 p3:List Int) (w:Int) (o:List Int) (x:Int),b8 made l=true→qQ l→fM l s (p1.set 0 x) (p2.set 0 x) (p3.set 0 x) w o=fM l s p1 p2 p3 w o
 | [],_,_,_,_,_,_,_,_,_,_=>rfl
 |t::r,made,s,p1,p2,p3,w,o,x,h,hb=>by
  rw[b8,Bool.and_eq_true,Bool.and_eq_true]at h;have ht:=Fu h.1.1 (hb t (by simp));rw[fM,fM];simp only[av9 ht s p1 p2 p3 w o x];exact acJ r _ _ _ _ _ _ _ x h.2 fun y hy=>hb y (by simp[hy])
theorem FJ(k:Nat):kp k=(dx k).set 0 0:=by
 unfold kp dx;have:0<(2:Nat) ^ k:=Nat.two_pow_pos k;obtain⟨m,hm⟩:∃m,(2:Nat) ^ k=m+1:=⟨2 ^ k-1,by omega⟩;rw[hm,List.replicate_succ,List.set_cons_zero];rfl
theorem my(k:Nat)(h:k≤8):MI (kp k)∧lg (kp k)=k:=by
 obtain⟨⟨h1,h2,h3,h4⟩,h5⟩:=jx k h;rw[FJ];refine⟨⟨by rw[acI];exact h1,by rw[acI,vM];exact h2,fun i=>?_,fun i k1 k2=>?_⟩,by rw[acI];exact h5⟩
 ·rw[iS];split
  ·omega
  ·exact h3 i
 ·rw[acI]at k2;rw[iS,if_neg (by omega)];exact h4 i k1 k2
theorem aBD:SOk ([1024,1024],0) (kp 8) (kp 8) (kp 6):=
 ⟨rfl,.inl rfl,(my 8 (by omega)).1,(my 8 (by omega)).2,(my 8 (by omega)).1,(my 8 (by omega)).2,(my 6 (by omega)).1,(my 6 (by omega)).2⟩
abbrev tm(l:List eP):Prop:=l.length<1000000000∧qQ l
abbrev OJ(l:List eP):FI:=fN l
def acK:an:=cQ [some kr] (Jh) (ag) (fun x_ y_=>tm x_.1) (fun x_ y_=>OJ x_.1) acG acH
theorem acL(l:List eP)(h_:tm l):(OH l).Is (OJ l):=by
 delta OJ;obtain⟨h1,h2⟩:=h_;simp only[OH,aq,ao,cu,fN,List.drop_zero];refine⟨by show _<_;omega,fun h=>?_,fun h=>⟨trivial,by decide,by decide,by decide,⟨by omega,by omega,⟨0,by simpa using h⟩,h2,aBD,acC,by simp;omega,by omega,rfl,rfl,rfl⟩,?_⟩⟩
 ·rw[if_neg (by simpa using h)]
 ·have h:b8 0 l=true:=by simpa using h
  rw[if_pos h,FJ,FJ,acJ l 0 _ _ _ _ _ _ _ h h2]
theorem acM:acK.Ok Tryz.prog 140:=
 bJ mixed ((al vG (al zw (al zx (al sX (al zr (al zy aw))))))) func140 (by kernel_rfl) call140 (fun x_ y_=>WE x_.1) (fun x_ y_=>OI x_.1) (fun x_ y_ h=>acL x_.1 h)
end Go.Proofs.YtnbkagglkajbkaaGreat
end
