/- What the laws lean on, part 13: a reader of code, plain facts, and what each function gives; no conditions. -/
import Derived.Test.YtjalaohajcpllaaGreatA12
section
set_option linter.unusedVariables false
set_option linter.unusedSimpArgs false
namespace Go.Proofs.YtjalaohajcpllaaGreat
open Go Go.Ev
set_option maxRecDepth 1000000
abbrev bsA:a9 (List LV) (List Int×Int×Unit):=ae (ah (dB false false u8)) (ae (ah (ay .i64)) ag)
def eh:Nat→List Int→Int→Int→Int→Int
 |0,_,_,_,n=>n
 |k+1,b,a,d,n=>if b.getD (a+n).toNat 0=b.getD (a+n-d).toNat 0 then eh k b a d (n+1) else n
theorem mT: ∀ (k:Nat) (b:List Int) (a d n:Int),n≤eh k b a d n∧eh k b a d n≤n+k
 |0,_,_,_,n=>⟨Int.le_refl _,by simp[eh]⟩
 |k+1,b,a,d,n=>by
  rw[eh]
  split
  ·have:=mT k b a d (n+1);omega
  ·omega
theorem ED: ∀ (j k:Nat) (b:List Int) (a d n:Int),eh (j+k) b a d n=if eh j b a d n<n+j then eh j b a d n else eh k b a d (n+j)
 |0,k,b,a,d,n=>by simp[eh]
 |j+1,k,b,a,d,n=>by
  rw[show j+1+k=(j+k)+1 from by omega,eh,eh]
  split
  ·rw[ED j k b a d (n+1),show n+1+(j:Int)=n+((j+1:Nat):Int) from by omega]
  ·rw[if_pos (by omega)]
abbrev aec:Type:=(List Int)×Int×Int×Int×Int×Int×Int×Int
noncomputable abbrev ai7:a9 St aec:=(bH (ae (ah (dB false false (Ty.int IntKind.u8))) (ae (ah (ay IntKind.i64)) (jk 2 (ae (ah
 (ay IntKind.i64)) (ae (ah (ay IntKind.i64)) (ae (ah (ay IntKind.i64)) (ae (ah (ay IntKind.i64)) (jk 26 (ae (ah (ay
 IntKind.i64)) (ae (ah (ay IntKind.i64)) (jk 47 ag))))))))))) ag).jQ (fun y=>(y.1.1,y.1.2.1,y.1.2.2.1,y.1.2.2.2.1,y.1.2.2.2.2.1,
 y.1.2.2.2.2.2.1,y.1.2.2.2.2.2.2.1,y.1.2.2.2.2.2.2.2.1)) (fun x=>((x.1,(x.2.1,(x.2.2.1,(x.2.2.2.1,(x.2.2.2.2.1,(x.2.2.2.2.2.1,
 (x.2.2.2.2.2.2.1,(x.2.2.2.2.2.2.2,())))))))),())) (fun _=>rfl)
abbrev arG:List Wk:= [.fr (cK 83 [(0,.an),(1,.an),(4,.an),(5,.an),(6,.an),(7,.an),(34,.an),(35,.an)]),.syms,
 .auto,.ax]
abbrev arH:Exit→List Wk:=qI arG 2 [.fr (cK 83 [(0,.an),(1,.an),(4,.an),(6,.an),(7,.an)]),.syms,.auto,.ax] [.fr (cK
 83 [(4,.an),(5,.an)]),.syms,.auto,.ax]
abbrev amg:Type:=(List Int)×Int×Int×Int×Int×Int×Int×Int
noncomputable abbrev Uq (x:amg):Exit×St:=(Exit.exit 1,⟨(LV.one (VV.sc (SV.rd false false (Ty.int IntKind.u8) x.1))::(LV.one (VV.sc
 (SV.int IntKind.i64 (SI.sym x.2.1)))::(eE 2 (LV.one (VV.sc (SV.int IntKind.i64 (SI.sym x.2.2.1)))::(LV.one (VV.sc (SV.int IntKind.i64 (SI.sym
 x.2.2.2.1)))::(LV.one (VV.sc (SV.int IntKind.i64 (SI.sym x.2.2.2.2.1)))::(LV.one (VV.sc (SV.int IntKind.i64 (SI.sym x.2.2.2.2.2.1)))::(eE 26
 (LV.one (VV.sc (SV.int IntKind.i64 (SI.sym x.2.2.2.2.2.2.1)))::(LV.one (VV.sc (SV.int IntKind.i64 (SI.sym x.2.2.2.2.2.2.2)))::(eE 47
 []))))))))))),[]⟩)
abbrev amh:Type:=(List Int)×Int×Int×Int×Int
noncomputable abbrev Ur (x:amh):Exit×St:=(Exit.exit 2,⟨(LV.one (VV.sc (SV.rd false false (Ty.int IntKind.u8) x.1))::(LV.one (VV.sc
 (SV.int IntKind.i64 (SI.sym x.2.1)))::(eE 2 (LV.one (VV.sc (SV.int IntKind.i64 (SI.sym x.2.2.1)))::(eE 1 (LV.one (VV.sc (SV.int IntKind.i64
 (SI.sym x.2.2.2.1)))::(LV.one (VV.sc (SV.int IntKind.i64 (SI.sym x.2.2.2.2)))::(eE 75 [])))))))),[]⟩)
noncomputable def Xr (b':List Int) (a:Int) (n:Int) (di:Int) (mo:Int) (d:Int) (li:Int) (i:Int):Tr (aec⊕(amg⊕amh)):=(.ite
 (decide (i<li)) (.need (0≤IntKind.i64.wrap (a+i)∧IntKind.i64.wrap (a+i)<(↑b'.length:Int)) (.need (0≤IntKind.i64.wrap (IntKind.i64.wrap
 (a+i)-d)∧IntKind.i64.wrap (IntKind.i64.wrap (a+i)-d)<(↑b'.length:Int)) (.ite (b'.getD (IntKind.i64.wrap (a+i)).toNat 0!=b'.getD
 (IntKind.i64.wrap (IntKind.i64.wrap (a+i)-d)).toNat 0) (.ret (.inr (.inl (b',a,n,di,mo,d,li,i)))) (.ret (.inl (b',a,n,di,mo,d,li,
 IntKind.i64.wrap (i+1))))))) (.ret (.inr (.inr (b',a,n,mo,d)))))
theorem aed (b:List Int) (at_:Int) (b':List Int) (a:Int) (n:Int) (di:Int) (mo:Int) (d:Int) (li:Int) (i:Int):c8 Tryz.prog [] [] Tryz.f98 2 ((ag).wr (())) arH (ai7.wr (b',a,n,di,mo,d,li,i))=(Xr b' a n di mo d li i).res ai7.wr (Sum.elim Uq Ur):=by kernel_rfl
abbrev B9 (b':List Int) (a:Int) (n:Int) (di:Int) (mo:Int) (d:Int) (li:Int) (i:Int):Prop:=0≤i∧i≤li∧a+li≤b'.length∧1≤d∧d≤a∧b'.length<1099511627776
noncomputable abbrev arI (x_:aec):a6:= .need ((fun (b':List Int) (a:Int) (n:Int) (di:Int) (mo:Int) (d:Int) (li:Int) (i:Int)=>B9 b' a n di mo d li i) x_.1 x_.2.1 x_.2.2.1 x_.2.2.2.1 x_.2.2.2.2.1 x_.2.2.2.2.2.1 x_.2.2.2.2.2.2.1 x_.2.2.2.2.2.2.2) (.ite ((fun (b':List Int) (a:Int) (n:Int) (di:Int) (mo:Int) (d:Int) (li:Int) (i:Int)=>decide (eh (li-i).toNat b' a d i<li)) x_.1 x_.2.1 x_.2.2.1 x_.2.2.2.1 x_.2.2.2.2.1 x_.2.2.2.2.2.1 x_.2.2.2.2.2.2.1 x_.2.2.2.2.2.2.2) (.leaf (Uq ((fun (b':List Int) (a:Int) (n:Int) (di:Int) (mo:Int) (d:Int) (li:Int) (i:Int)=>(b',a,n,di,mo,d,li,eh (li-i).toNat b' a d i)) x_.1 x_.2.1 x_.2.2.1 x_.2.2.2.1 x_.2.2.2.2.1 x_.2.2.2.2.2.1 x_.2.2.2.2.2.2.1 x_.2.2.2.2.2.2.2)).1 (Uq ((fun (b':List Int) (a:Int) (n:Int) (di:Int) (mo:Int) (d:Int) (li:Int) (i:Int)=>(b',a,n,di,mo,d,li,eh (li-i).toNat b' a d i)) x_.1 x_.2.1 x_.2.2.1 x_.2.2.2.1 x_.2.2.2.2.1 x_.2.2.2.2.2.1 x_.2.2.2.2.2.2.1 x_.2.2.2.2.2.2.2)).2) (.leaf (Ur ((fun (b':List Int) (a:Int) (n:Int) (di:Int) (mo:Int) (d:Int) (li:Int) (i:Int)=>(b',a,n,mo,d)) x_.1 x_.2.1 x_.2.2.1 x_.2.2.2.1 x_.2.2.2.2.1 x_.2.2.2.2.2.1 x_.2.2.2.2.2.2.1 x_.2.2.2.2.2.2.2)).1 (Ur ((fun (b':List Int) (a:Int) (n:Int) (di:Int) (mo:Int) (d:Int) (li:Int) (i:Int)=>(b',a,n,mo,d)) x_.1 x_.2.1 x_.2.2.1 x_.2.2.2.1 x_.2.2.2.2.1 x_.2.2.2.2.2.1 x_.2.2.2.2.2.2.1 x_.2.2.2.2.2.2.2)).2))
theorem aoa (b':List Int) (a:Int) (n:Int) (di:Int) (mo:Int) (d:Int) (li:Int) (i:Int) (h_:B9 b' a n di mo d li i):cJ (fun x_:aec=>Xr x_.1 x_.2.1 x_.2.2.1 x_.2.2.2.1 x_.2.2.2.2.1 x_.2.2.2.2.2.1 x_.2.2.2.2.2.2.1 x_.2.2.2.2.2.2.2) (b',a,n,di,mo,d,li,i) (bif decide (eh (li-i).toNat b' a d i<li) then .inl ((b',a,n,di,mo,d,li,eh (li-i).toNat b' a d i)) else .inr ((b',a,n,mo,d))):=by
 obtain ⟨h1,h2,h3,h4,h5,h6⟩:=h_
 obtain ⟨k,hk⟩: ∃ k:Nat,(li-i).toNat=k:=⟨_,rfl⟩
 rw[hk]
 induction k generalizing i with
 |zero=>
  refine .stop ?_
  have e:decide (eh 0 b' a d i<li)=false:=decide_eq_false (by show ¬ i<li;omega)
  rw[e]
  simp only[Xr,aN,ai,aj]
  exact ⟨fun h=>by omega,fun _=>rfl⟩
 |succ k ih=>
  have w1:IntKind.i64.wrap (a+i)=a+i:=aq (by omega) (by omega)
  have w2:IntKind.i64.wrap (a+i-d)=a+i-d:=aq (by omega) (by omega)
  have w3:IntKind.i64.wrap (i+1)=i+1:=aq (by omega) (by omega)
  rw[eh]
  by_cases he:b'.getD (a+i).toNat 0=b'.getD (a+i-d).toNat 0
  ·rw[if_pos he]
   refine .go ?_ (ih (i+1) (by omega) (by omega) (by omega))
   simp only[Xr,aN,ai,aj,xA,w1,w2,w3]
   exact ⟨fun _=>⟨⟨by omega,by omega⟩,⟨by omega,by omega⟩,fun _=>trivial,fun h=>absurd he h⟩,fun h=>by omega⟩
  ·rw[if_neg he]
   refine .stop ?_
   have e:decide (i<li)=true:=by simp;omega
   rw[e]
   simp only[Xr,aN,ai,aj,xA,w1,w2,w3]
   exact ⟨fun _=>⟨⟨by omega,by omega⟩,⟨by omega,by omega⟩,fun h=>absurd h he,fun _=>rfl⟩,fun h=>by omega⟩
theorem ai8 (b:List Int) (at_:Int): ∀ x:aec,Ex Tryz.prog ((ag).wr (())) (.loop (aU Tryz.f98 2)) (ai7.wr x) (arI x):=
 bT mixed aD (ws:=arH) (aP.nil _) (E:=Sum.elim Uq Ur) (L:=fun x_=>Xr x_.1 x_.2.1 x_.2.2.1 x_.2.2.2.1 x_.2.2.2.2.1 x_.2.2.2.2.2.1 x_.2.2.2.2.2.2.1 x_.2.2.2.2.2.2.2) (pre:=fun x_=>(fun (b':List Int) (a:Int) (n:Int) (di:Int) (mo:Int) (d:Int) (li:Int) (i:Int)=>B9 b' a n di mo d li i) x_.1 x_.2.1 x_.2.2.1 x_.2.2.2.1 x_.2.2.2.2.1 x_.2.2.2.2.2.1 x_.2.2.2.2.2.2.1 x_.2.2.2.2.2.2.2) (sp:=fun x_=>bif (fun (b':List Int) (a:Int) (n:Int) (di:Int) (mo:Int) (d:Int) (li:Int) (i:Int)=>decide (eh (li-i).toNat b' a d i<li)) x_.1 x_.2.1 x_.2.2.1 x_.2.2.2.1 x_.2.2.2.2.1 x_.2.2.2.2.2.1 x_.2.2.2.2.2.2.1 x_.2.2.2.2.2.2.2 then .inl ((fun (b':List Int) (a:Int) (n:Int) (di:Int) (mo:Int) (d:Int) (li:Int) (i:Int)=>(b',a,n,di,mo,d,li,eh (li-i).toNat b' a d i)) x_.1 x_.2.1 x_.2.2.1 x_.2.2.2.1 x_.2.2.2.2.1 x_.2.2.2.2.2.1 x_.2.2.2.2.2.2.1 x_.2.2.2.2.2.2.2) else .inr ((fun (b':List Int) (a:Int) (n:Int) (di:Int) (mo:Int) (d:Int) (li:Int) (i:Int)=>(b',a,n,mo,d)) x_.1 x_.2.1 x_.2.2.1 x_.2.2.2.1 x_.2.2.2.2.1 x_.2.2.2.2.2.1 x_.2.2.2.2.2.2.1 x_.2.2.2.2.2.2.2)) (fun x_=>aed b at_ x_.1 x_.2.1 x_.2.2.1 x_.2.2.2.1 x_.2.2.2.2.1 x_.2.2.2.2.2.1 x_.2.2.2.2.2.2.1 x_.2.2.2.2.2.2.2) (fun z=>by cases z<;>(intro e;cases e)) sy (fun x_ h=>aoa x_.1 x_.2.1 x_.2.2.1 x_.2.2.2.1 x_.2.2.2.2.1 x_.2.2.2.2.2.1 x_.2.2.2.2.2.2.1 x_.2.2.2.2.2.2.2 h)
abbrev aee:Type:=(List Int)×Int×Int×Int×Int
noncomputable abbrev ai9:a9 St aee:=(bH (ae (ah (dB false false (Ty.int IntKind.u8))) (ae (ah (ay IntKind.i64)) (jk 2 (ae (ah
 (ay IntKind.i64)) (jk 1 (ae (ah (ay IntKind.i64)) (ae (ah (ay IntKind.i64)) (jk 75 ag)))))))) ag).jQ (fun y=>(y.1.1,y.1.2.1,
 y.1.2.2.1,y.1.2.2.2.1,y.1.2.2.2.2.1)) (fun x=>((x.1,(x.2.1,(x.2.2.1,(x.2.2.2.1,(x.2.2.2.2,()))))),())) (fun _=>rfl)
abbrev arJ:List Wk:= [.fr (cK 83 [(0,.an),(1,.an),(4,.an),(6,.an),(7,.an)]),.syms,.auto,.ax]
abbrev arK:Exit→List Wk:=qI arJ 4 [.fr (cK 83 [(0,.an),(1,.an),(4,.an),(6,.an),(7,.an)]),.syms,.auto,.ax] [.fr (cK
 83 [(4,.an),(5,.an)]),.syms,.auto,.ax]
abbrev arL:Type:=(List Int)×Int×Int×Int×Int
noncomputable abbrev aja (x:arL):Exit×St:=(Exit.exit 4,⟨(LV.one (VV.sc (SV.rd false false (Ty.int IntKind.u8) x.1))::(LV.one (VV.sc
 (SV.int IntKind.i64 (SI.sym x.2.1)))::(eE 2 (LV.one (VV.sc (SV.int IntKind.i64 (SI.sym x.2.2.1)))::(eE 1 (LV.one (VV.sc (SV.int IntKind.i64
 (SI.sym x.2.2.2.1)))::(LV.one (VV.sc (SV.int IntKind.i64 (SI.sym x.2.2.2.2)))::(eE 75 [])))))))),[]⟩)
noncomputable def Xs (b':List Int) (a:Int) (n:Int) (mo:Int) (d:Int):Tr (aee⊕(arL)):=(.ite (decide (n<mo)==true) (.need (0≤
 IntKind.i64.wrap (a+n)∧IntKind.i64.wrap (a+n)<(↑b'.length:Int)) (.need (0≤IntKind.i64.wrap (IntKind.i64.wrap (a+n)-d)∧
 IntKind.i64.wrap (IntKind.i64.wrap (a+n)-d)<(↑b'.length:Int)) (.ite (b'.getD (IntKind.i64.wrap (a+n)).toNat 0==b'.getD (IntKind.i64.wrap
 (IntKind.i64.wrap (a+n)-d)).toNat 0) (.ret (.inl (b',a,IntKind.i64.wrap (n+1),mo,d))) (.ret (.inr (b',a,n,mo,d)))))) (.ret (.inr (b',a,
 n,mo,d))))
theorem aef (b:List Int) (at_:Int) (b':List Int) (a:Int) (n:Int) (mo:Int) (d:Int):c8 Tryz.prog [] [] Tryz.f98 4 ((ag).wr (())) arK (ai9.wr (b',a,n,mo,d))=(Xs b' a n mo d).res ai9.wr aja:=by kernel_rfl
abbrev Ca (b':List Int) (a:Int) (n:Int) (mo:Int) (d:Int):Prop:=0≤n∧n≤mo∧a+mo≤b'.length∧1≤d∧d≤a∧b'.length<1099511627776
noncomputable abbrev arM (x_:aee):a6:= .need ((fun (b':List Int) (a:Int) (n:Int) (mo:Int) (d:Int)=>Ca b' a n mo d) x_.1 x_.2.1 x_.2.2.1 x_.2.2.2.1 x_.2.2.2.2) (.leaf (aja ((fun (b':List Int) (a:Int) (n:Int) (mo:Int) (d:Int)=>(b',a,eh (mo-n).toNat b' a d n,mo,d)) x_.1 x_.2.1 x_.2.2.1 x_.2.2.2.1 x_.2.2.2.2)).1 (aja ((fun (b':List Int) (a:Int) (n:Int) (mo:Int) (d:Int)=>(b',a,eh (mo-n).toNat b' a d n,mo,d)) x_.1 x_.2.1 x_.2.2.1 x_.2.2.2.1 x_.2.2.2.2)).2)
theorem aob (b':List Int) (a:Int) (n:Int) (mo:Int) (d:Int) (h_:Ca b' a n mo d):cJ (fun x_:aee=>Xs x_.1 x_.2.1 x_.2.2.1 x_.2.2.2.1 x_.2.2.2.2) (b',a,n,mo,d) ((b',a,eh (mo-n).toNat b' a d n,mo,d)):=by
 obtain ⟨h1,h2,h3,h4,h5,h6⟩:=h_
 obtain ⟨k,hk⟩: ∃ k:Nat,(mo-n).toNat=k:=⟨_,rfl⟩
 rw[hk]
 induction k generalizing n with
 |zero=>
  refine .stop ?_
  have e:(decide (n<mo)==true)=false:=by simp;omega
  simp only[Xs,e,a7,aj];rfl
 |succ k ih=>
  have w1:IntKind.i64.wrap (a+n)=a+n:=aq (by omega) (by omega)
  have w2:IntKind.i64.wrap (a+n-d)=a+n-d:=aq (by omega) (by omega)
  have w3:IntKind.i64.wrap (n+1)=n+1:=aq (by omega) (by omega)
  have e:(decide (n<mo)==true)=true:=by simp;omega
  rw[eh]
  by_cases he:b'.getD (a+n).toNat 0=b'.getD (a+n-d).toNat 0
  ·rw[if_pos he]
   refine .go ?_ (ih (n+1) (by omega) (by omega) (by omega))
   simp only[Xs,e,aS,ai,aj,da,w1,w2,w3]
   exact ⟨⟨by omega,by omega⟩,⟨by omega,by omega⟩,fun _=>trivial,fun h=>absurd he h⟩
  ·rw[if_neg he]
   refine .stop ?_
   simp only[Xs,e,aS,ai,aj,da,w1,w2,w3]
   exact ⟨⟨by omega,by omega⟩,⟨by omega,by omega⟩,fun h=>absurd h he,fun _=>trivial⟩
theorem ajb (b:List Int) (at_:Int): ∀ x:aee,Ex Tryz.prog ((ag).wr (())) (.loop (aU Tryz.f98 4)) (ai9.wr x) (arM x):=
 bT mixed aD (ws:=arK) (aP.nil _) (E:=aja) (L:=fun x_=>Xs x_.1 x_.2.1 x_.2.2.1 x_.2.2.2.1 x_.2.2.2.2) (pre:=fun x_=>(fun (b':List Int) (a:Int) (n:Int) (mo:Int) (d:Int)=>Ca b' a n mo d) x_.1 x_.2.1 x_.2.2.1 x_.2.2.2.1 x_.2.2.2.2) (sp:=fun x_=>(fun (b':List Int) (a:Int) (n:Int) (mo:Int) (d:Int)=>(b',a,eh (mo-n).toNat b' a d n,mo,d)) x_.1 x_.2.1 x_.2.2.1 x_.2.2.2.1 x_.2.2.2.2) (fun x_=>aef b at_ x_.1 x_.2.1 x_.2.2.1 x_.2.2.2.1 x_.2.2.2.2) (fun z e=>by cases e) dc (fun x_ h=>aob x_.1 x_.2.1 x_.2.2.1 x_.2.2.2.1 x_.2.2.2.2 h)
def dK:Nat→List Int→Int→Nat→Int→Int→Int→Int×Int
 |0,_,_,_,_,n,di=>(n,di)
 |k+1,b,a,mo,d,n,di=>if n<eh mo b a d 0 then dK k b a mo (d+1) (eh mo b a d 0) d else dK k b a mo (d+1) n di
theorem EE: ∀ (k:Nat) (b:List Int) (a:Int) (mo:Nat) (d n di:Int),(mo:Int)≤n→dK k b a mo d n di=(n,di)
 |0,_,_,_,_,_,_,_=>rfl
 |k+1,b,a,mo,d,n,di,h=>by
  have:=mT mo b a d 0
  rw[dK,if_neg (by omega)]
  exact EE k b a mo (d+1) n di h
abbrev aeg:Type:=(List Int)×Int×Int×Int×Int×Int
noncomputable abbrev Xt:a9 St aeg:=(bH (ae (ah (dB false false (Ty.int IntKind.u8))) (ae (ah (ay IntKind.i64)) (jk 2 (ae (ah
 (ay IntKind.i64)) (ae (ah (ay IntKind.i64)) (ae (ah (ay IntKind.i64)) (ae (ah (ay IntKind.i64)) (jk 75 ag)))))))) ag).jQ
 (fun y=>(y.1.1,y.1.2.1,y.1.2.2.1,y.1.2.2.2.1,y.1.2.2.2.2.1,y.1.2.2.2.2.2.1)) (fun x=>((x.1,(x.2.1,(x.2.2.1,(x.2.2.2.1,(x.2.2.2.2.1,
 (x.2.2.2.2.2,())))))),())) (fun _=>rfl)
abbrev ajc:List Wk:= [.fr (cK 83 [(0,.an),(1,.an),(4,.an),(5,.an),(6,.an),(7,.an)]),.syms,.auto,.ax]
abbrev arN:Exit→List Wk:=qI ajc 0 [.fr (cK 83 [(4,.an),(5,.an)]),.syms,.auto,.ax] [.fr (cK 83 [(4,.an),(5,.an)]),.syms,
 .auto,.ax]
abbrev arO:Type:=Int×Int
noncomputable abbrev ajd (x:arO):Exit×St:=(Exit.exit 0,⟨(eE 4 (LV.one (VV.sc (SV.int IntKind.i64 (SI.sym x.1)))::(LV.one (VV.sc (SV.int
 IntKind.i64 (SI.sym x.2)))::(eE 77 [])))),[]⟩)
noncomputable def Qi (b':List Int) (a:Int) (n:Int) (di:Int) (mo:Int) (d:Int):Tr (aeg⊕(arO)):=(.ite (decide (d≤if 4096<a then
 4096 else a)==true) (.ite (decide (n<mo)) (.need (B9 b' a n di mo d (IntKind.i64.wrap (n+1)) 0) (.ite (decide (eh (Int.toNat
 (IntKind.i64.wrap (n+1)-0)) b' a d 0<IntKind.i64.wrap (n+1))) (.ret (.inl (b',a,n,di,mo,IntKind.i64.wrap (d+1)))) (.need (Ca b' a
 (IntKind.i64.wrap (n+1)) mo d) (.ret (.inl (b',a,eh (Int.toNat (mo-IntKind.i64.wrap (n+1))) b' a d (IntKind.i64.wrap (n+1)),d,mo,
 IntKind.i64.wrap (d+1))))))) (.ret (.inr (n,di)))) (.ret (.inr (n,di))))
theorem aeh (b:List Int) (at_:Int) (b':List Int) (a:Int) (n:Int) (di:Int) (mo:Int) (d:Int):c8 Tryz.prog [] [(2,aX ai7 ((ag).wr (())) arG (arI)),(4,aX ai9 ((ag).wr (())) arJ (arM))] Tryz.f98 0 ((ag).wr (())) arN (Xt.wr (b',a,n,di,mo,d))=(Qi b' a n di mo d).res Xt.wr ajd:=by kernel_rfl
abbrev Cb (b':List Int) (a:Int) (n:Int) (di:Int) (mo:Int) (d:Int):Prop:=0≤n∧0≤mo∧a+mo≤b'.length∧1≤d∧0≤a∧b'.length<1099511627776∧d≤a+1
noncomputable abbrev aje (x_:aeg):a6:= .need ((fun (b':List Int) (a:Int) (n:Int) (di:Int) (mo:Int) (d:Int)=>Cb b' a n di mo d) x_.1 x_.2.1 x_.2.2.1 x_.2.2.2.1 x_.2.2.2.2.1 x_.2.2.2.2.2) (.leaf (ajd ((fun (b':List Int) (a:Int) (n:Int) (di:Int) (mo:Int) (d:Int)=>dK ((if 4096<a then 4096 else a)+1-d).toNat b' a mo.toNat d n di) x_.1 x_.2.1 x_.2.2.1 x_.2.2.2.1 x_.2.2.2.2.1 x_.2.2.2.2.2)).1 (ajd ((fun (b':List Int) (a:Int) (n:Int) (di:Int) (mo:Int) (d:Int)=>dK ((if 4096<a then 4096 else a)+1-d).toNat b' a mo.toNat d n di) x_.1 x_.2.1 x_.2.2.1 x_.2.2.2.1 x_.2.2.2.2.1 x_.2.2.2.2.2)).2)
theorem aoc (b':List Int) (a:Int) (n:Int) (di:Int) (mo:Int) (d:Int) (h_:Cb b' a n di mo d):cJ (fun x_:aeg=>Qi x_.1 x_.2.1 x_.2.2.1 x_.2.2.2.1 x_.2.2.2.2.1 x_.2.2.2.2.2) (b',a,n,di,mo,d) (dK ((if 4096<a then 4096 else a)+1-d).toNat b' a mo.toNat d n di):=by
 obtain ⟨h1,h2,h3,h4,h5,h6,h7⟩:=h_
 obtain ⟨k,hk⟩: ∃ k:Nat,((if 4096<a then 4096 else a)+1-d).toNat=k:=⟨_,rfl⟩
 rw[hk]
 induction k generalizing n di d with
 |zero=>
  refine .stop ?_
  have e:(decide (d≤if 4096<a then 4096 else a)==true)=false:=by simp;omega
  simp only[Qi,e,a7,aj];rfl
 |succ k ih=>
  have hd:d≤if 4096<a then 4096 else a:=by omega
  have e:(decide (d≤if 4096<a then 4096 else a)==true)=true:=by simpa using hd
  have hda:d≤a:=by split at hd<;>omega
  by_cases hn:n<mo
  ·have e2:decide (n<mo)=true:=by simpa using hn
   have w1:IntKind.i64.wrap (n+1)=n+1:=aq (by omega) (by omega)
   have w2:IntKind.i64.wrap (d+1)=d+1:=aq (by omega) (by omega)
   obtain ⟨r1,r2⟩:=mT (n+1).toNat b' a d 0
   have hs:=ED (n+1).toNat (mo-(n+1)).toNat b' a d 0
   rw[show (n+1).toNat+(mo-(n+1)).toNat=mo.toNat from by omega,show (0:Int)+((n+1).toNat:Int)=n+1 from by omega] at hs
   have hu:Int.toNat (n+1-0)=(n+1).toNat:=by rw[Int.sub_zero]
   have p2:B9 b' a n di mo d (n+1) 0:=⟨by omega,by omega,by omega,h4,hda,h6⟩
   have p4:Ca b' a (n+1) mo d:=⟨by omega,by omega,h3,h4,hda,h6⟩
   rw[dK]
   by_cases hc:eh (n+1).toNat b' a d 0<n+1
   ·rw[if_pos hc] at hs
    rw[hs,if_neg (by omega)]
    refine .go ?_ (ih n di (d+1) h1 (by omega) (by omega) (by omega))
    simp only[Qi,e,e2,aS,ai,aN,aj,w1,w2,hu]
    exact ⟨p2,fun _=>trivial,fun h=>absurd hc h⟩
   ·rw[if_neg hc] at hs
    obtain ⟨r3,r4⟩:=mT (mo-(n+1)).toNat b' a d (n+1)
    rw[hs,if_pos (by omega)]
    refine .go ?_ (ih _ d (d+1) (by omega) (by omega) (by omega) (by omega))
    simp only[Qi,e,e2,aS,ai,aN,aj,w1,w2,hu]
    exact ⟨p2,fun h=>absurd h hc,fun _=>⟨p4,trivial⟩⟩
  ·have e2:decide (n<mo)=false:=by simpa using hn
   rw[EE _ _ _ _ _ _ _ (by omega)]
   refine .stop ?_
   simp only[Qi,e,e2,aS,a7,aj]
theorem ajf (b:List Int) (at_:Int): ∀ x:aeg,Ex Tryz.prog ((ag).wr (())) (.loop (aU Tryz.f98 0)) (Xt.wr x) (aje x):=
 bT mixed aD (ws:=arN) (aP.inner (by kernel_rfl) (jr (by kernel_rfl) (bz (hp:=(ag).wr (())) (ai8 b at_)) (jr (by kernel_rfl) (bz (hp:=(ag).wr (())) (ajb b at_)) jH))) (E:=ajd) (L:=fun x_=>Qi x_.1 x_.2.1 x_.2.2.1 x_.2.2.2.1 x_.2.2.2.2.1 x_.2.2.2.2.2) (pre:=fun x_=>(fun (b':List Int) (a:Int) (n:Int) (di:Int) (mo:Int) (d:Int)=>Cb b' a n di mo d) x_.1 x_.2.1 x_.2.2.1 x_.2.2.2.1 x_.2.2.2.2.1 x_.2.2.2.2.2) (sp:=fun x_=>(fun (b':List Int) (a:Int) (n:Int) (di:Int) (mo:Int) (d:Int)=>dK ((if 4096<a then 4096 else a)+1-d).toNat b' a mo.toNat d n di) x_.1 x_.2.1 x_.2.2.1 x_.2.2.2.1 x_.2.2.2.2.1 x_.2.2.2.2.2) (fun x_=>aeh b at_ x_.1 x_.2.1 x_.2.2.1 x_.2.2.2.1 x_.2.2.2.2.1 x_.2.2.2.2.2) (fun z e=>by cases e) dc (fun x_ h=>aoc x_.1 x_.2.1 x_.2.2.1 x_.2.2.2.1 x_.2.2.2.2.1 x_.2.2.2.2.2 h)
def bO (b:List Int) (a:Int):Int×Int:=
 if a≤0∨b.length≤a then (0,0)
 else
  let s:=dK (if 4096<a then 4096 else a).toNat b a (if (b.length:Int)-a<257 then (b.length:Int)-a else 257).toNat 1 0 0
  if s.1<3 then (0,0) else s
noncomputable def rA (b:List Int) (at_:Int):Int:=(↑b.length:Int)
noncomputable def lz (b:List Int) (at_:Int):Int:=if IntKind.i64.wrap (rA b at_-at_)<257 then IntKind.i64.wrap (rA b at_-
 at_) else 257
noncomputable def lA (b:List Int) (at_:Int):Int×Int:=dK (Int.toNat ((if 4096<at_ then 4096 else at_)+(1:Int)-1)) b at_
 (lz b at_).toNat 1 0 0
abbrev Qj:Type:=Int×Int
noncomputable abbrev Qk (x:Qj):LV:=LV.cV [VV.sc (SV.int IntKind.i64 (SI.sym x.1)),VV.sc (SV.int IntKind.i64 (SI.sym x.2))]
noncomputable abbrev Ql (x:Qj):List (Nat×Ev.Item):= []
noncomputable def x9 (b:List Int) (at_:Int):Tr (Qj):=(.ite (decide (at_<0)==false) (.ite (decide (rA b at_≤at_)) (.ret (0,
 0)) (.need (Cb b at_ 0 0 (lz b at_) 1) (.ite (decide ((lA b at_).fst<3)) (.ret (0,0)) (.ret ((lA b at_).fst,(lA b
 at_).snd))))) (.ret (0,0)))
theorem Qm (b:List Int) (at_:Int):aY Tryz.prog [] [(0,aX Xt ((ag).wr (())) ajc (aje))] Tryz.f98 ((bsA).wr (b,at_,())) ((ag).wr (())) [.fr [.sym],.syms,.auto,.ax]=(x9 b at_).end Qk Ql ((ag).wr (())):=by kernel_rfl
theorem Xu (b:List Int) (at_:Int):aP Tryz.prog ((ag).wr (())) [(0,aX Xt ((ag).wr (())) ajc (aje))] (aH Tryz.f98):=(aP.cy (jr (by kernel_rfl) (bz (hp:=(ag).wr (())) (ajf b at_)) jH))
abbrev pP (b:List Int) (at_:Int):Prop:=b.length<1099511627776∧at_<1099511627776
noncomputable def Qn:au:=au.bV [] (bsA) (ag) fun x_ y_=> .leaf (some ((fun (b:List Int) (at_:Int)=>pP b at_) x_.1 x_.2.1)) (Qk ((fun (b:List Int) (at_:Int)=>bO b at_) x_.1 x_.2.1)) (Ql ((fun (b:List Int) (at_:Int)=>bO b at_) x_.1 x_.2.1))
theorem aei (b:List Int) (at_:Int) (h_:pP b at_):(x9 b at_).Is (bO b at_):=by
 obtain ⟨h1,h2⟩:=h_
 by_cases c1:at_<0
 ·have e:bO b at_=(0,0):=by unfold bO;rw[if_pos (by omega)]
  have e1:(decide (at_<0)==false)=false:=by simpa using c1
  rw[e];simp only[x9,e1,a7,aj]
 ·have e1:(decide (at_<0)==false)=true:=by simpa using c1
  have sC:rA b at_=(b.length:Int):=rfl
  by_cases c2:(b.length:Int)≤at_
  ·have e:bO b at_=(0,0):=by unfold bO;rw[if_pos (by omega)]
   have e2:decide (rA b at_≤at_)=true:=by rw[sC];simpa using c2
   rw[e];simp only[x9,e1,e2,aS,aj]
  ·have e2:decide (rA b at_≤at_)=false:=by rw[sC];simpa using c2
   have w1:IntKind.i64.wrap ((b.length:Int)-at_)=(b.length:Int)-at_:=aq (by omega) (by omega)
   have nF:lz b at_=if (b.length:Int)-at_<257 then (b.length:Int)-at_ else 257:=by unfold lz;rw[sC,w1]
   have hm:0≤lz b at_∧at_+lz b at_≤b.length:=by rw[nF];split<;>omega
   have hp:Cb b at_ 0 0 (lz b at_) 1:=⟨by omega,hm.1,hm.2,by omega,by omega,h1,by omega⟩
   have Zi:lA b at_=dK (if 4096<at_ then 4096 else at_).toNat b at_ (lz b at_).toNat 1 0 0:=by
    unfold lA;rw[Int.add_sub_cancel]
   have e:bO b at_=if (lA b at_).1<3 then (0,0) else lA b at_:=by
    unfold bO
    by_cases c3:at_=0
    ·rw[if_pos (by omega)]
     have:lA b at_=(0,0):=by rw[Zi,c3];rfl
     rw[this];rfl
    ·rw[if_neg (by omega),Zi,nF]
   rw[e]
   simp only[x9,e1,e2,aS,a7,ai,aN,aj]
   refine ⟨hp,fun h=>?_,fun h=>?_⟩
   ·rw[if_pos h]
   ·rw[if_neg h]
theorem Lm:Qn.Ok Tryz.prog 98:=
 bM (tys:= []) (A:=bsA) (H:=ag) (LT:=fun x_ y_=>(fun (b:List Int) (at_:Int)=> [(0,aX Xt ((ag).wr (())) ajc (aje))]) x_.1 x_.2.1) (ks:= [.fr [.sym],.syms,.auto,.ax]) (V:=Qk) (D:=Ql) (T:=fun x_ y_=>x9 x_.1 x_.2.1) (pre:=fun x_ y_=>(fun (b:List Int) (at_:Int)=>pP b at_) x_.1 x_.2.1) (sp:=fun x_ y_=>(fun (b:List Int) (at_:Int)=>bO b at_) x_.1 x_.2.1) mixed aD Tryz.func98 (by kernel_rfl) Tryz.call98 (fun x_ y_=>Xu x_.1 x_.2.1) (fun x_ y_=>Qm x_.1 x_.2.1) (fun x_ y_ h=>aei x_.1 x_.2.1 h)
end Go.Proofs.YtjalaohajcpllaaGreat
end
section
set_option linter.unusedVariables false
set_option linter.unusedSimpArgs false
namespace Go.Proofs.YtjalaohajcpllaaGreat
open Go Go.Ev
set_option maxRecDepth 1000000
abbrev aej:Type:=(List Int)×Int×Int×Int×Int×Int
noncomputable abbrev ajg:a9 St aej:=(bH (ae (ah (dB false false (Ty.int IntKind.u8))) (ae (ah (ay IntKind.i64)) (jk 4 (ae (ah
 (ay IntKind.i64)) (ae (ah (ay IntKind.i64)) (ae (ah (ay IntKind.i64)) (ae (ah (ay IntKind.i64)) (jk 57 ag)))))))) ag).jQ
 (fun y=>(y.1.1,y.1.2.1,y.1.2.2.1,y.1.2.2.2.1,y.1.2.2.2.2.1,y.1.2.2.2.2.2.1)) (fun x=>((x.1,(x.2.1,(x.2.2.1,(x.2.2.2.1,(x.2.2.2.2.1,
 (x.2.2.2.2.2,())))))),())) (fun _=>rfl)
abbrev arP:List Wk:= [.fr (cK 67 [(0,.an),(1,.an),(6,.an),(7,.an),(8,.an),(9,.an)]),.syms,.auto,.ax]
abbrev arQ:Exit→List Wk:=qI arP 2 [.fr (cK 67 [(0,.an),(1,.an),(6,.an),(7,.an),(8,.an),(9,.an)]),.syms,.auto,.ax]
 [.fr (cK 67 [(4,.an),(5,.an)]),.syms,.auto,.ax]
abbrev arR:Type:=(List Int)×Int×Int×Int×Int×Int
noncomputable abbrev ajh (x:arR):Exit×St:=(Exit.exit 2,⟨(LV.one (VV.sc (SV.rd false false (Ty.int IntKind.u8) x.1))::(LV.one (VV.sc
 (SV.int IntKind.i64 (SI.sym x.2.1)))::(eE 4 (LV.one (VV.sc (SV.int IntKind.i64 (SI.sym x.2.2.1)))::(LV.one (VV.sc (SV.int IntKind.i64 (SI.sym
 x.2.2.2.1)))::(LV.one (VV.sc (SV.int IntKind.i64 (SI.sym x.2.2.2.2.1)))::(LV.one (VV.sc (SV.int IntKind.i64 (SI.sym x.2.2.2.2.2)))::(eE 57
 [])))))))),[]⟩)
noncomputable def Qo (b':List Int) (a:Int) (be:Int) (di:Int) (d:Int) (n:Int):Tr (aej⊕(arR)):=(.ite (decide (n<257)==true)
 (.ite (decide (IntKind.i64.wrap (a+n)<(↑b'.length:Int))==true) (.need (0≤IntKind.i64.wrap (a+n)∧IntKind.i64.wrap (a+n)<(↑b'.length:
 Int)) (.need (0≤IntKind.i64.wrap (IntKind.i64.wrap (a+n)-d)∧IntKind.i64.wrap (IntKind.i64.wrap (a+n)-d)<(↑b'.length:Int)) (.ite
 (b'.getD (IntKind.i64.wrap (a+n)).toNat 0==b'.getD (IntKind.i64.wrap (IntKind.i64.wrap (a+n)-d)).toNat 0) (.ret (.inl (b',a,be,di,d,
 IntKind.i64.wrap (n+1)))) (.ret (.inr (b',a,be,di,d,n)))))) (.ret (.inr (b',a,be,di,d,n)))) (.ret (.inr (b',a,be,di,d,n))))
theorem aek (b:List Int) (at_:Int) (b':List Int) (a:Int) (be:Int) (di:Int) (d:Int) (n:Int):c8 Tryz.prog [] [] Tryz.f103 2 ((ag).wr (())) arQ (ajg.wr (b',a,be,di,d,n))=(Qo b' a be di d n).res ajg.wr ajh:=by kernel_rfl
abbrev Cc (b':List Int) (a:Int) (be:Int) (di:Int) (d:Int) (n:Int):Prop:=0≤n∧n≤(if (b'.length:Int)-a<257 then (b'.length:Int)-a else 257)∧1≤d∧d≤a∧b'.length<1099511627776
noncomputable abbrev arS (x_:aej):a6:= .need ((fun (b':List Int) (a:Int) (be:Int) (di:Int) (d:Int) (n:Int)=>Cc b' a be di d n) x_.1 x_.2.1 x_.2.2.1 x_.2.2.2.1 x_.2.2.2.2.1 x_.2.2.2.2.2) (.leaf (ajh ((fun (b':List Int) (a:Int) (be:Int) (di:Int) (d:Int) (n:Int)=>(b',a,be,di,d,eh ((if (b'.length:Int)-a<257 then (b'.length:Int)-a else 257)-n).toNat b' a d n)) x_.1 x_.2.1 x_.2.2.1 x_.2.2.2.1 x_.2.2.2.2.1 x_.2.2.2.2.2)).1 (ajh ((fun (b':List Int) (a:Int) (be:Int) (di:Int) (d:Int) (n:Int)=>(b',a,be,di,d,eh ((if (b'.length:Int)-a<257 then (b'.length:Int)-a else 257)-n).toNat b' a d n)) x_.1 x_.2.1 x_.2.2.1 x_.2.2.2.1 x_.2.2.2.2.1 x_.2.2.2.2.2)).2)
theorem aod (b':List Int) (a:Int) (be:Int) (di:Int) (d:Int) (n:Int) (h_:Cc b' a be di d n):cJ (fun x_:aej=>Qo x_.1 x_.2.1 x_.2.2.1 x_.2.2.2.1 x_.2.2.2.2.1 x_.2.2.2.2.2) (b',a,be,di,d,n) ((b',a,be,di,d,eh ((if (b'.length:Int)-a<257 then (b'.length:Int)-a else 257)-n).toNat b' a d n)):=by
 obtain ⟨h1,h2,h4,h5,h6⟩:=h_
 obtain ⟨k,hk⟩: ∃ k:Nat,((if (b'.length:Int)-a<257 then (b'.length:Int)-a else 257)-n).toNat=k:=⟨_,rfl⟩
 rw[hk]
 induction k generalizing n with
 |zero=>
  refine .stop ?_
  by_cases c:n<257
  ·have e:(decide (n<257)==true)=true:=by simpa using c
   have e2:(decide (IntKind.i64.wrap (a+n)<(b'.length:Int))==true)=false:=by
    rw[aq (by omega) (by split at h2<;>omega)];simp;split at hk<;>omega
   simp only[Qo,e,e2,aS,a7,aj];rfl
  ·have e:(decide (n<257)==true)=false:=by simpa using c
   simp only[Qo,e,a7,aj];rfl
 |succ k ih=>
  have hn:n<257∧a+n<b'.length:=by split at hk<;>omega
  have w1:IntKind.i64.wrap (a+n)=a+n:=aq (by omega) (by omega)
  have w2:IntKind.i64.wrap (a+n-d)=a+n-d:=aq (by omega) (by omega)
  have w3:IntKind.i64.wrap (n+1)=n+1:=aq (by omega) (by omega)
  have e:(decide (n<257)==true)=true:=by simpa using hn.1
  have e2:(decide (a+n<(b'.length:Int))==true)=true:=by simpa using hn.2
  rw[eh]
  by_cases he:b'.getD (a+n).toNat 0=b'.getD (a+n-d).toNat 0
  ·rw[if_pos he]
   refine .go ?_ (ih (n+1) (by omega) (by split<;>omega) (by omega))
   simp only[Qo,e,e2,aS,ai,aj,da,w1,w2,w3]
   exact ⟨⟨by omega,by omega⟩,⟨by omega,by omega⟩,fun _=>trivial,fun h=>absurd he h⟩
  ·rw[if_neg he]
   refine .stop ?_
   simp only[Qo,e,e2,aS,ai,aj,da,w1,w2,w3]
   exact ⟨⟨by omega,by omega⟩,⟨by omega,by omega⟩,fun h=>absurd h he,fun _=>trivial⟩
theorem aji (b:List Int) (at_:Int): ∀ x:aej,Ex Tryz.prog ((ag).wr (())) (.loop (aU Tryz.f103 2)) (ajg.wr x) (arS x):=
 bT mixed aD (ws:=arQ) (aP.nil _) (E:=ajh) (L:=fun x_=>Qo x_.1 x_.2.1 x_.2.2.1 x_.2.2.2.1 x_.2.2.2.2.1 x_.2.2.2.2.2) (pre:=fun x_=>(fun (b':List Int) (a:Int) (be:Int) (di:Int) (d:Int) (n:Int)=>Cc b' a be di d n) x_.1 x_.2.1 x_.2.2.1 x_.2.2.2.1 x_.2.2.2.2.1 x_.2.2.2.2.2) (sp:=fun x_=>(fun (b':List Int) (a:Int) (be:Int) (di:Int) (d:Int) (n:Int)=>(b',a,be,di,d,eh ((if (b'.length:Int)-a<257 then (b'.length:Int)-a else 257)-n).toNat b' a d n)) x_.1 x_.2.1 x_.2.2.1 x_.2.2.2.1 x_.2.2.2.2.1 x_.2.2.2.2.2) (fun x_=>aek b at_ x_.1 x_.2.1 x_.2.2.1 x_.2.2.2.1 x_.2.2.2.2.1 x_.2.2.2.2.2) (fun z e=>by cases e) dc (fun x_ h=>aod x_.1 x_.2.1 x_.2.2.1 x_.2.2.2.1 x_.2.2.2.2.1 x_.2.2.2.2.2 h)
abbrev ael:Type:=(List Int)×Int×Int×Int×Int
noncomputable abbrev Xv:a9 St ael:=(bH (ae (ah (dB false false (Ty.int IntKind.u8))) (ae (ah (ay IntKind.i64)) (jk 4 (ae (ah
 (ay IntKind.i64)) (ae (ah (ay IntKind.i64)) (ae (ah (ay IntKind.i64)) (jk 58 ag))))))) ag).jQ (fun y=>(y.1.1,y.1.2.1,
 y.1.2.2.1,y.1.2.2.2.1,y.1.2.2.2.2.1)) (fun x=>((x.1,(x.2.1,(x.2.2.1,(x.2.2.2.1,(x.2.2.2.2,()))))),())) (fun _=>rfl)
abbrev ajj:List Wk:= [.fr (cK 67 [(0,.an),(1,.an),(6,.an),(7,.an),(8,.an)]),.syms,.auto,.ax]
abbrev arT:Exit→List Wk:=qI ajj 0 [.fr (cK 67 [(6,.an),(7,.an)]),.syms,.auto,.ax] [.fr (cK 67 [(4,.an),(5,.an)]),.syms,
 .auto,.ax]
noncomputable def Us (b':List Int) (a:Int) (be:Int) (di:Int) (d:Int):Int:=eh ((if (↑b'.length:Int)-a<257 then (↑b'.length:
 Int)-a else 257)-0).toNat b' a d 0
abbrev arU:Type:=Int×Int
noncomputable abbrev ajk (x:arU):Exit×St:=(Exit.exit 0,⟨(eE 6 (LV.one (VV.sc (SV.int IntKind.i64 (SI.sym x.1)))::(LV.one (VV.sc (SV.int
 IntKind.i64 (SI.sym x.2)))::(eE 59 [])))),[]⟩)
noncomputable def Ln (b':List Int) (a:Int) (be:Int) (di:Int) (d:Int):Tr (ael⊕(arU)):=(.ite (decide (0<a)==true) (.ite (decide
 (a<(↑b'.length:Int))==true) (.ite (decide (d≤a)==true) (.ite (decide (d≤4096)) (.need (Cc b' a be di d 0) (.ite (decide (be<Us b'
 a be di d)) (.ret (.inl (b',a,Us b' a be di d,d,IntKind.i64.wrap (d+1)))) (.ret (.inl (b',a,be,di,IntKind.i64.wrap (d+1)))))) (.ret
 (.inr (be,di)))) (.ret (.inr (be,di)))) (.ret (.inr (be,di)))) (.ret (.inr (be,di))))
theorem aem (b:List Int) (at_:Int) (b':List Int) (a:Int) (be:Int) (di:Int) (d:Int):c8 Tryz.prog [] [(2,aX ajg ((ag).wr (())) arP (arS))] Tryz.f103 0 ((ag).wr (())) arT (Xv.wr (b',a,be,di,d))=(Ln b' a be di d).res Xv.wr ajk:=by kernel_rfl
abbrev Cd (b':List Int) (a:Int) (be:Int) (di:Int) (d:Int):Prop:=1≤d∧b'.length<1099511627776
noncomputable abbrev ajl (x_:ael):a6:= .need ((fun (b':List Int) (a:Int) (be:Int) (di:Int) (d:Int)=>Cd b' a be di d) x_.1 x_.2.1 x_.2.2.1 x_.2.2.2.1 x_.2.2.2.2) (.leaf (ajk ((fun (b':List Int) (a:Int) (be:Int) (di:Int) (d:Int)=>(if a≤0∨b'.length≤a then (be,di) else dK ((if 4096<a then 4096 else a)+1-d).toNat b' a (if (b'.length:Int)-a<257 then (b'.length:Int)-a else 257).toNat d be di)) x_.1 x_.2.1 x_.2.2.1 x_.2.2.2.1 x_.2.2.2.2)).1 (ajk ((fun (b':List Int) (a:Int) (be:Int) (di:Int) (d:Int)=>(if a≤0∨b'.length≤a then (be,di) else dK ((if 4096<a then 4096 else a)+1-d).toNat b' a (if (b'.length:Int)-a<257 then (b'.length:Int)-a else 257).toNat d be di)) x_.1 x_.2.1 x_.2.2.1 x_.2.2.2.1 x_.2.2.2.2)).2)
theorem aoe (b':List Int) (a:Int) (be:Int) (di:Int) (d:Int) (h_:Cd b' a be di d):cJ (fun x_:ael=>Ln x_.1 x_.2.1 x_.2.2.1 x_.2.2.2.1 x_.2.2.2.2) (b',a,be,di,d) ((if a≤0∨b'.length≤a then (be,di) else dK ((if 4096<a then 4096 else a)+1-d).toNat b' a (if (b'.length:Int)-a<257 then (b'.length:Int)-a else 257).toNat d be di)):=by
 obtain ⟨h1,h2⟩:=h_
 by_cases c:a≤0∨b'.length≤a
 ·rw[if_pos c]
  refine .stop ?_
  simp only[Ln,bI,ai,aj]
  by_cases c1:0<a
  ·have e:(decide (a<(b'.length:Int))==true)=false:=by simp;omega
   simp[e]
  ·have e:(decide (0<a)==true)=false:=by simp;omega
   simp[e]
 ·rw[if_neg c]
  obtain ⟨k,hk⟩: ∃ k:Nat,((if 4096<a then 4096 else a)+1-d).toNat=k:=⟨_,rfl⟩
  rw[hk]
  have e1:(decide (0<a)==true)=true:=by simp;omega
  have e2:(decide (a<(b'.length:Int))==true)=true:=by simp;omega
  induction k generalizing be di d with
  |zero=>
   refine .stop ?_
   by_cases c3:d≤a
   ·have e3:(decide (d≤a)==true)=true:=by simpa using c3
    have e4:decide (d≤4096)=false:=by simp;split at hk<;>omega
    simp only[Ln,e1,e2,e3,e4,aS,a7,aj];rfl
   ·have e3:(decide (d≤a)==true)=false:=by simpa using c3
    simp only[Ln,e1,e2,e3,aS,a7,aj];rfl
  |succ k ih=>
   have hd:d≤a∧d≤4096:=by split at hk<;>omega
   have e3:(decide (d≤a)==true)=true:=by simpa using hd.1
   have e4:decide (d≤4096)=true:=by simpa using hd.2
   have w2:IntKind.i64.wrap (d+1)=d+1:=aq (by omega) (by omega)
   have p2:Cc b' a be di d 0:=⟨by omega,by split<;>omega,h1,hd.1,h2⟩
   have ea:Us b' a be di d=eh (if (b'.length:Int)-a<257 then (b'.length:Int)-a else 257).toNat b' a d 0:=by
    show eh ((if (b'.length:Int)-a<257 then (b'.length:Int)-a else 257)-0).toNat b' a d 0=_
    rw[Int.sub_zero]
   rw[dK]
   by_cases hb:be<Us b' a be di d
   ·rw[← ea,if_pos hb]
    refine .go ?_ (ih _ d (d+1) (by omega) (by omega))
    simp only[Ln,e1,e2,e3,e4,aS,ai,aN,aj,w2]
    exact ⟨p2,fun _=>trivial,fun h=>absurd hb h⟩
   ·rw[← ea,if_neg hb]
    refine .go ?_ (ih be di (d+1) (by omega) (by omega))
    simp only[Ln,e1,e2,e3,e4,aS,ai,aN,aj,w2]
    exact ⟨p2,fun h=>absurd h hb,fun _=>trivial⟩
theorem ajm (b:List Int) (at_:Int): ∀ x:ael,Ex Tryz.prog ((ag).wr (())) (.loop (aU Tryz.f103 0)) (Xv.wr x) (ajl x):=
 bT mixed aD (ws:=arT) (aP.inner (by kernel_rfl) (jr (by kernel_rfl) (bz (hp:=(ag).wr (())) (aji b at_)) jH)) (E:=ajk) (L:=fun x_=>Ln x_.1 x_.2.1 x_.2.2.1 x_.2.2.2.1 x_.2.2.2.2) (pre:=fun x_=>(fun (b':List Int) (a:Int) (be:Int) (di:Int) (d:Int)=>Cd b' a be di d) x_.1 x_.2.1 x_.2.2.1 x_.2.2.2.1 x_.2.2.2.2) (sp:=fun x_=>(fun (b':List Int) (a:Int) (be:Int) (di:Int) (d:Int)=>(if a≤0∨b'.length≤a then (be,di) else dK ((if 4096<a then 4096 else a)+1-d).toNat b' a (if (b'.length:Int)-a<257 then (b'.length:Int)-a else 257).toNat d be di)) x_.1 x_.2.1 x_.2.2.1 x_.2.2.2.1 x_.2.2.2.2) (fun x_=>aem b at_ x_.1 x_.2.1 x_.2.2.1 x_.2.2.2.1 x_.2.2.2.2) (fun z e=>by cases e) dc (fun x_ h=>aoe x_.1 x_.2.1 x_.2.2.1 x_.2.2.2.1 x_.2.2.2.2 h)
noncomputable def we (b:List Int) (at_:Int):Int×Int:=if at_≤0∨(↑b.length:Int)≤at_ then (0,0) else dK (Int.toNat ((if 4096
 <at_ then 4096 else at_)+(1:Int)-1)) b at_ (if (↑b.length:Int)-at_<257 then (↑b.length:Int)-at_ else 257).toNat 1 0 0
abbrev Qp:Type:=Int×Int
noncomputable abbrev Qq (x:Qp):LV:=LV.cV [VV.sc (SV.int IntKind.i64 (SI.sym x.1)),VV.sc (SV.int IntKind.i64 (SI.sym x.2))]
noncomputable abbrev Qr (x:Qp):List (Nat×Ev.Item):= []
noncomputable def HR (b:List Int) (at_:Int):Tr (Qp):=(.need (Cd b at_ 0 0 1) (.ite (decide ((we b at_).fst<3)) (.ret (0,0))
 (.ret ((we b at_).fst,(we b at_).snd))))
theorem Qs (b:List Int) (at_:Int):aY Tryz.prog [] [(0,aX Xv ((ag).wr (())) ajj (ajl))] Tryz.f103 ((bsA).wr (b,at_,())) ((ag).wr (())) [.fr [.sym],.syms,.auto,.ax]=(HR b at_).end Qq Qr ((ag).wr (())):=by kernel_rfl
theorem Xw (b:List Int) (at_:Int):aP Tryz.prog ((ag).wr (())) [(0,aX Xv ((ag).wr (())) ajj (ajl))] (aH Tryz.f103):=(aP.cy (jr (by kernel_rfl) (bz (hp:=(ag).wr (())) (ajm b at_)) jH))
abbrev pQ (b:List Int) (at_:Int):Prop:=b.length<1099511627776
noncomputable def Qt:au:=au.bV [] (bsA) (ag) fun x_ y_=> .leaf (some ((fun (b:List Int) (at_:Int)=>pQ b at_) x_.1 x_.2.1)) (Qq ((fun (b:List Int) (at_:Int)=>bO b at_) x_.1 x_.2.1)) (Qr ((fun (b:List Int) (at_:Int)=>bO b at_) x_.1 x_.2.1))
theorem aen (b:List Int) (at_:Int) (h_:pQ b at_):(HR b at_).Is (bO b at_):=by
 unfold bO
 have hp:Cd b at_ 0 0 1:=⟨by omega,h_⟩
 have ea:we b at_=if at_≤0∨(b.length:Int)≤at_ then (0,0) else dK (if 4096<at_ then 4096 else at_).toNat b at_ (if (b.length:Int)-at_<257 then (b.length:Int)-at_ else 257).toNat 1 0 0:=by
  unfold we;rw[Int.add_sub_cancel]
 simp only[HR,ai,aN,aj,ea]
 refine ⟨hp,fun h=>?_,fun h=>?_⟩
 ·split
  ·rfl
  ·rename_i c;rw[if_neg c] at h;rw[if_pos h]
 ·split
  ·rfl
  ·rename_i c;rw[if_neg c] at h;rw[if_neg h]
theorem Lo:Qt.Ok Tryz.prog 103:=
 bM (tys:= []) (A:=bsA) (H:=ag) (LT:=fun x_ y_=>(fun (b:List Int) (at_:Int)=> [(0,aX Xv ((ag).wr (())) ajj (ajl))]) x_.1 x_.2.1) (ks:= [.fr [.sym],.syms,.auto,.ax]) (V:=Qq) (D:=Qr) (T:=fun x_ y_=>HR x_.1 x_.2.1) (pre:=fun x_ y_=>(fun (b:List Int) (at_:Int)=>pQ b at_) x_.1 x_.2.1) (sp:=fun x_ y_=>(fun (b:List Int) (at_:Int)=>bO b at_) x_.1 x_.2.1) mixed aD Tryz.func103 (by kernel_rfl) Tryz.call103 (fun x_ y_=>Xw x_.1 x_.2.1) (fun x_ y_=>Qs x_.1 x_.2.1) (fun x_ y_ h=>aen x_.1 x_.2.1 h)
end Go.Proofs.YtjalaohajcpllaaGreat
end
section
set_option linter.unusedVariables false
set_option linter.unusedSimpArgs false
namespace Go.Proofs.YtjalaohajcpllaaGreat
open Go Go.Ev
set_option maxRecDepth 1000000
theorem sN: ∀ (k:Nat) (b:List Int) (a:Int) (mo:Nat) (d n di:Int),0≤n→n≤mo→(n=0∨(1≤di∧di<d))→1≤d→
  0≤(dK k b a mo d n di).1∧(dK k b a mo d n di).1≤mo∧((dK k b a mo d n di).1=0∨(1≤(dK k b a mo d n di).2∧(dK k b a mo d n di).2<d+k))
 |0,_,_,_,_,_,_,h1,h2,h3,h4=>⟨h1,h2,by simpa [dK] using h3⟩
 |k+1,b,a,mo,d,n,di,h1,h2,h3,h4=>by
  obtain ⟨r1,r2⟩:=mT mo b a d 0
  rw[dK]
  split
  ·obtain ⟨s1,s2,s3⟩:=sN k b a mo (d+1) (eh mo b a d 0) d (by omega) (by omega) (by omega) (by omega)
   exact ⟨s1,s2,by omega⟩
  ·obtain ⟨s1,s2,s3⟩:=sN k b a mo (d+1) n di h1 h2 (by omega) (by omega)
   exact ⟨s1,s2,by omega⟩
theorem kF (b:List Int) (a:Int):bO b a=(0,0)∨(3≤(bO b a).1∧(bO b a).1≤257∧a+(bO b a).1≤b.length∧1≤(bO b a).2∧(bO b a).2≤a∧(bO b a).2≤4096):=by
 unfold bO
 split
 ·exact .inl rfl
 ·rename_i c
  obtain ⟨s1,s2,s3⟩:=sN (if 4096<a then 4096 else a).toNat b a (if (b.length:Int)-a<257 then (b.length:Int)-a else 257).toNat 1 0 0 (by omega) (by omega) (.inl rfl) (by omega)
  have JW:(((if (b.length:Int)-a<257 then (b.length:Int)-a else 257).toNat:Nat):Int)≤257∧a+(((if (b.length:Int)-a<257 then (b.length:Int)-a else 257).toNat:Nat):Int)≤b.length:=by split<;>omega
  have hk:((if 4096<a then 4096 else a).toNat:Int)≤a∧((if 4096<a then 4096 else a).toNat:Int)≤4096:=by split<;>omega
  simp only
  generalize dK (if 4096<a then 4096 else a).toNat b a (if (b.length:Int)-a<257 then (b.length:Int)-a else 257).toNat 1 0 0=s at*
  generalize (if (b.length:Int)-a<257 then (b.length:Int)-a else 257).toNat=mo at*
  generalize (if 4096<a then 4096 else a).toNat=kk at*
  by_cases c2:s.1<3
  ·rw[if_pos c2];exact .inl rfl
  ·rw[if_neg c2]
   exact .inr ⟨by omega,by omega,by omega,by omega,by omega,by omega⟩
def cr:Nat→List Int→Int→List bQ→List bQ
 |0,_,_,out=>out
 |k+1,b,a,out=>
  if a<b.length then
   if 0<(bO b a).1 then cr k b (a+(bO b a).1) (out++ [((bO b a).1,(bO b a).2,0)])
   else cr k b (a+1) (out++ [(0,0,b.getD a.toNat 0)])
  else out
abbrev Ce:Type:=(List Int)×Int×(List (Int×Int×Int))
noncomputable abbrev ya:a9 St Ce:=(bH (ae (ah (dB false false (Ty.int IntKind.u8))) (jk 2 (ak (ah (jY (0) (0))) (ae (ah
 (ay IntKind.i64)) (jk 35 ag))))) (ae (cg (0) ((Ty.int IntKind.i64).pair ((Ty.int IntKind.i64).pair (Ty.int IntKind.u8)))) ag)).jQ (fun y=>
 (y.1.1,y.1.2.1,y.2.1)) (fun x=>((x.1,(x.2.1,())),(x.2.2,()))) (fun _=>rfl)
abbrev HS:List Wk:= [.ct 3 dw,.fr (cK 40 [(0,.an),(3,.an),(4,.an)]),.syms,.auto,.ax]
abbrev aeo:Exit→List Wk:=qI HS 0 [.ct 3 dw,.fr (cK 40 [(3,.an)]),.syms,.auto,.ax] [.ct 3 dw,.fr (cK 40 [(2,.an)]),
 .syms,.auto,.ax]
abbrev aep:Type:=List (Int×Int×Int)
noncomputable abbrev HT (x:aep):Exit×St:=(Exit.exit 0,⟨(eE 3 (LV.one (VV.sc (SV.sl 0 0))::(eE 36 []))),[some (Item.own 0 ((Ty.int
 IntKind.i64).pair ((Ty.int IntKind.i64).pair (Ty.int IntKind.u8))) x)]⟩)
noncomputable def yb (b':List Int) (a:Int) (out:List (Int×Int×Int)):Tr (Ce⊕(aep)):=(.ite (decide (a<(↑b'.length:Int)))
 (.need (0≤a∧a<(↑b'.length:Int)) (.need (pP b' a) (.ite (decide (0<(bO b' a).fst)) (.need ((out.length+1)*24≤70368744177664∧
 out.length+1≤70368744177664) (.need (ic ((bO b' a).fst,(bO b' a).snd,0)) (.ret (.inl (b',IntKind.i64.wrap (a+bq ((bO b'
 a).fst,(bO b' a).snd,0)),out++ [((bO b' a).fst,(bO b' a).snd,0)]))))) (.need ((out.length+1)*24≤70368744177664∧out.length+1≤
 70368744177664) (.need (ic (0,0,b'.getD a.toNat 0)) (.ret (.inl (b',IntKind.i64.wrap (a+1),out++ [(0,0,b'.getD a.toNat 0)])))))))) (.ret
 (.inr (out))))
theorem Qu (b:List Int) (b':List Int) (a:Int) (out:List (Int×Int×Int)):c8 Tryz.prog [(98,Qn),(82,xG)] [] Tryz.f63 0 ((ag).wr (())) aeo (ya.wr (b',a,out))=(yb b' a out).res ya.wr HT:=by kernel_rfl
abbrev wg (b':List Int) (a:Int) (out:List (Int×Int×Int)):Prop:=0≤a∧a≤b'.length∧b'.length≤8192∧out.length≤a
noncomputable abbrev HU (x_:Ce):a6:= .need ((fun (b':List Int) (a:Int) (out:List (Int×Int×Int))=>wg b' a out) x_.1 x_.2.1 x_.2.2) (.leaf (HT ((fun (b':List Int) (a:Int) (out:List (Int×Int×Int))=>cr 9000 b' a out) x_.1 x_.2.1 x_.2.2)).1 (HT ((fun (b':List Int) (a:Int) (out:List (Int×Int×Int))=>cr 9000 b' a out) x_.1 x_.2.1 x_.2.2)).2)
theorem aeq (b':List Int) (a:Int) (out:List (Int×Int×Int)) (h_:wg b' a out):cJ (fun x_:Ce=>yb x_.1 x_.2.1 x_.2.2) (b',a,out) (cr 9000 b' a out):=by
 obtain ⟨h1,h2,h3,h4⟩:=h_
 obtain ⟨f,hf1,hf2⟩: ∃ f:Nat,f=9000∧((b'.length:Int)-a).toNat<f:=⟨9000,rfl,by omega⟩
 rw[← hf1]
 clear hf1
 induction f generalizing a out with
 |zero=>omega
 |succ f ih=>
  rw[cr]
  by_cases hc:a<b'.length
  ·rw[if_pos hc]
   have hr:=kF b' a
   have hp:pP b' a:=⟨by omega,by omega⟩
   by_cases hb:0<(bO b' a).1
   ·have hr2:=hr.resolve_left (fun h=>by rw[h] at hb;simp at hb)
    have hl:bq ((bO b' a).1,(bO b' a).2,0)=(bO b' a).1:=by unfold bq;rw[if_neg (by simp only;omega)]
    have w1:IntKind.i64.wrap (a+(bO b' a).1)=a+(bO b' a).1:=aq (by omega) (by omega)
    rw[if_pos hb]
    refine .go ?_ (ih _ _ (by omega) (by omega) (by simp;omega) (by omega))
    simp only[yb,aN,ai,aj,hl,w1]
    exact ⟨fun _=>⟨⟨h1,hc⟩,hp,fun _=>⟨⟨by omega,by omega⟩,trivial,trivial⟩,fun h=>absurd hb h⟩,fun h=>absurd hc h⟩
   ·have w1:IntKind.i64.wrap (a+1)=a+1:=aq (by omega) (by omega)
    rw[if_neg hb]
    refine .go ?_ (ih _ _ (by omega) (by omega) (by simp;omega) (by omega))
    simp only[yb,aN,ai,aj,w1]
    exact ⟨fun _=>⟨⟨h1,hc⟩,hp,fun h=>absurd h hb,fun _=>⟨⟨by omega,by omega⟩,trivial,trivial⟩⟩,fun h=>absurd hc h⟩
  ·rw[if_neg hc]
   refine .stop ?_
   simp only[yb,aN,ai,aj]
   exact ⟨fun h=>absurd h hc,fun _=>trivial⟩
theorem Xx (b:List Int): ∀ x:Ce,Ex Tryz.prog ((ag).wr (())) (.loop (aU Tryz.f63 0)) (ya.wr x) (HU x):=
 bT mixed ((ao Lm (ao pn aD))) (ws:=aeo) (aP.nil _) (E:=HT) (L:=fun x_=>yb x_.1 x_.2.1 x_.2.2) (pre:=fun x_=>(fun (b':List Int) (a:Int) (out:List (Int×Int×Int))=>wg b' a out) x_.1 x_.2.1 x_.2.2) (sp:=fun x_=>(fun (b':List Int) (a:Int) (out:List (Int×Int×Int))=>cr 9000 b' a out) x_.1 x_.2.1 x_.2.2) (fun x_=>Qu b x_.1 x_.2.1 x_.2.2) (fun z e=>by cases e) dc (fun x_ h=>aeq x_.1 x_.2.1 x_.2.2 h)
abbrev wh:Type:=(List Int)×Int×(List (Int×Int×Int))
noncomputable abbrev rB:a9 St wh:=(bH (ae (ah (dB false false (Ty.int IntKind.u8))) (jk 2 (ak (ah (jY (0) (0))) (ae
 (ah (ay IntKind.i64)) (jk 39 ag))))) (ae (cg (0) ((Ty.int IntKind.i64).pair ((Ty.int IntKind.i64).pair (Ty.int IntKind.u8)))) ag)).jQ
 (fun y=>(y.1.1,y.1.2.1,y.2.1)) (fun x=>((x.1,(x.2.1,())),(x.2.2,()))) (fun _=>rfl)
abbrev Ao:List Wk:= [.ct 3 dw,.fr (cK 44 [(0,.an),(3,.an),(4,.an)]),.syms,.auto,.ax]
abbrev Ut:Exit→List Wk:=qI Ao 0 [.ct 3 dw,.fr (cK 44 [(3,.an)]),.syms,.auto,.ax] [.ct 3 dw,.fr (cK 44 [(2,
 .an)]),.syms,.auto,.ax]
noncomputable def Cf (b':List Int) (a:Int) (out:List (Int×Int×Int)):Int:=(↑b'.length:Int)
abbrev Uu:Type:=List (Int×Int×Int)
noncomputable abbrev Ap (x:Uu):Exit×St:=(Exit.exit 0,⟨(eE 3 (LV.one (VV.sc (SV.sl 0 0))::(eE 40 []))),[some (Item.own 0
 ((Ty.int IntKind.i64).pair ((Ty.int IntKind.i64).pair (Ty.int IntKind.u8))) x)]⟩)
noncomputable def rC (b':List Int) (a:Int) (out:List (Int×Int×Int)):Tr (wh⊕(Uu)):=(.ite (decide (a<Cf b' a out)
 ==true) (.ite (decide (Cf b' a out≤8192)) (.need (pQ b' a) (.ite ((bO b' a).fst==0) (.need (0≤a∧a<(↑b'.length:Int)) (.need
 ((out.length+1)*24≤70368744177664∧out.length+1≤70368744177664) (.ret (.inl (b',IntKind.i64.wrap (a+1),out++ [(0,0,b'.getD a.toNat
 0)]))))) (.need ((out.length+1)*24≤70368744177664∧out.length+1≤70368744177664) (.ret (.inl (b',IntKind.i64.wrap (a+(bO b' a).fst),
 out++ [((bO b' a).fst,(bO b' a).snd,0)])))))) (.ret (.inr (out)))) (.ret (.inr (out))))
theorem Lp (b:List Int) (b':List Int) (a:Int) (out:List (Int×Int×Int)):c8 Tryz.prog [(103,Qt)] [] Tryz.f65 0 ((ag).wr (())) Ut (rB.wr (b',a,out))=(rC b' a out).res rB.wr Ap:=by kernel_rfl
abbrev rD (b':List Int) (a:Int) (out:List (Int×Int×Int)):Prop:=0≤a∧a≤b'.length∧b'.length≤8192∧out.length≤a
noncomputable abbrev Aq (x_:wh):a6:= .need ((fun (b':List Int) (a:Int) (out:List (Int×Int×Int))=>rD b' a out) x_.1 x_.2.1 x_.2.2) (.leaf (Ap ((fun (b':List Int) (a:Int) (out:List (Int×Int×Int))=>cr 9000 b' a out) x_.1 x_.2.1 x_.2.2)).1 (Ap ((fun (b':List Int) (a:Int) (out:List (Int×Int×Int))=>cr 9000 b' a out) x_.1 x_.2.1 x_.2.2)).2)
theorem Xy (b':List Int) (a:Int) (out:List (Int×Int×Int)) (h_:rD b' a out):cJ (fun x_:wh=>rC x_.1 x_.2.1 x_.2.2) (b',a,out) (cr 9000 b' a out):=by
 obtain ⟨h1,h2,h3,h4⟩:=h_
 obtain ⟨f,hf1,hf2⟩: ∃ f:Nat,f=9000∧((b'.length:Int)-a).toNat<f:=⟨9000,rfl,by omega⟩
 rw[← hf1]
 clear hf1
 have e2:decide ((b'.length:Int)≤8192)=true:=by simp;omega
 induction f generalizing a out with
 |zero=>omega
 |succ f ih=>
  have ea:Cf b' a out=(b'.length:Int):=rfl
  rw[cr]
  by_cases hc:a<b'.length
  ·rw[if_pos hc]
   have e1:(decide (a<(b'.length:Int))==true)=true:=by simpa using hc
   have hr:=kF b' a
   have hp:pQ b' a:=by show _<_;omega
   by_cases hb:0<(bO b' a).1
   ·have hr2:=hr.resolve_left (fun h=>by rw[h] at hb;simp at hb)
    have w1:IntKind.i64.wrap (a+(bO b' a).1)=a+(bO b' a).1:=aq (by omega) (by omega)
    rw[if_pos hb]
    refine .go ?_ (ih _ _ (by omega) (by omega) (by simp;omega) (by omega))
    simp only[rC,ea,e1,e2,aS,da,ai,aj,w1]
    exact ⟨hp,fun h=>by omega,fun _=>⟨⟨by omega,by omega⟩,trivial⟩⟩
   ·have hz:(bO b' a).1=0:=by rcases hr with h|h
                              · rw[h]
                              · omega
    have w1:IntKind.i64.wrap (a+1)=a+1:=aq (by omega) (by omega)
    rw[if_neg hb]
    refine .go ?_ (ih _ _ (by omega) (by omega) (by simp;omega) (by omega))
    simp only[rC,ea,e1,e2,aS,da,ai,aj,w1]
    exact ⟨hp,fun _=>⟨⟨h1,hc⟩,⟨by omega,by omega⟩,trivial⟩,fun h=>absurd hz h⟩
  ·rw[if_neg hc]
   refine .stop ?_
   have e1:(decide (a<(b'.length:Int))==true)=false:=by simpa using hc
   simp only[rC,ea,e1,a7,aj]
theorem Qv (b:List Int): ∀ x:wh,Ex Tryz.prog ((ag).wr (())) (.loop (aU Tryz.f65 0)) (rB.wr x) (Aq x):=
 bT mixed ((ao Lo aD)) (ws:=Ut) (aP.nil _) (E:=Ap) (L:=fun x_=>rC x_.1 x_.2.1 x_.2.2) (pre:=fun x_=>(fun (b':List Int) (a:Int) (out:List (Int×Int×Int))=>rD b' a out) x_.1 x_.2.1 x_.2.2) (sp:=fun x_=>(fun (b':List Int) (a:Int) (out:List (Int×Int×Int))=>cr 9000 b' a out) x_.1 x_.2.1 x_.2.2) (fun x_=>Lp b x_.1 x_.2.1 x_.2.2) (fun z e=>by cases e) dc (fun x_ h=>Xy x_.1 x_.2.1 x_.2.2 h)
abbrev HV:Type:=Unit
noncomputable abbrev HW (x:HV):LV:=LV.one (VV.sc (SV.gz (Value.slice none 0 0)))
noncomputable abbrev HX (x:HV):List (Nat×Ev.Item):= []
abbrev HY:Type:=List (Int×Int×Int)
noncomputable abbrev HZ (x:HY):LV:=LV.one (VV.sc (SV.sl 0 0))
noncomputable abbrev H0 (x:HY):List (Nat×Ev.Item):= [(0,Item.own 0 ((Ty.int IntKind.i64).pair ((Ty.int IntKind.i64).pair (Ty.int
 IntKind.u8))) x)]
noncomputable def Cg (b:List Int):Tr (HV⊕HY):=(.ite (decide (8192<(↑b.length:Int))) (.ret (.inl ())) (.need (wg b 0 [])
 (.ret (.inr (cr 9000 b 0 [])))))
theorem Qw (b:List Int):aY Tryz.prog [(98,Qn),(82,xG)] [(0,aX ya ((ag).wr (())) HS (HU))] Tryz.f63 (((ae (ah (dB false false u8)) ag)).wr (b,())) ((ag).wr (())) [.ct 2 dw,.ct 3 dw,.fr [.sym],.syms,.auto,.ax]=(Cg b).end (Sum.elim HW HZ) (Sum.elim HX H0) ((ag).wr (())):=by kernel_rfl
theorem Xz (b:List Int):aP Tryz.prog ((ag).wr (())) [(0,aX ya ((ag).wr (())) HS (HU))] (aH Tryz.f63):=(aP.cy (jr (by kernel_rfl) (bz (hp:=(ag).wr (())) (Xx b)) jH))
abbrev mU (b:List Int):Prop:=True
noncomputable def aer:au:=au.bV [] ((ae (ah (dB false false u8)) ag)) (ag) fun x_ y_=> .ite ((fun (b:List Int)=>decide (8192<(b.length:Int))) x_.1) (.leaf (some ((fun (b:List Int)=>mU b) x_.1)) (HW ((fun (b:List Int)=>()) x_.1)) (HX ((fun (b:List Int)=>()) x_.1))) (.leaf (some ((fun (b:List Int)=>mU b) x_.1)) (HZ ((fun (b:List Int)=>cr 9000 b 0 []) x_.1)) (H0 ((fun (b:List Int)=>cr 9000 b 0 []) x_.1)))
theorem aes (b:List Int) (h_:mU b):(decide (8192<(b.length:Int))=true→(Cg b).Is (.inl (())))∧(decide (8192<(b.length:Int))=false→(Cg b).Is (.inr (cr 9000 b 0 []))):=by
 simp only[Cg,ai,aN,aj,decide_eq_true_eq,decide_eq_false_iff_not]
 refine ⟨fun h=>⟨fun _=>trivial,fun h2=>absurd h h2⟩,fun h=>⟨fun h2=>absurd h2 h,fun _=>⟨⟨by omega,by omega,by omega,by simp⟩,trivial⟩⟩⟩
theorem aet:aer.Ok Tryz.prog 63:=
 lR (tys:= []) (A:=(ae (ah (dB false false u8)) ag)) (H:=ag) (LT:=fun x_ y_=>(fun (b:List Int)=> [(0,aX ya ((ag).wr (())) HS (HU))]) x_.1) (ks:= [.ct 2 dw,.ct 3 dw,.fr [.sym],.syms,.auto,.ax]) (V:=HW) (D:=HX) (V':=HZ) (D':=H0) (T:=fun x_ y_=>Cg x_.1) (pre:=fun x_ y_=>(fun (b:List Int)=>mU b) x_.1) (c:=fun x_ y_=>(fun (b:List Int)=>decide (8192<(b.length:Int))) x_.1) (sp:=fun x_ y_=>(fun (b:List Int)=>()) x_.1) (sp':=fun x_ y_=>(fun (b:List Int)=>cr 9000 b 0 []) x_.1) mixed ((ao Lm (ao pn aD))) Tryz.func63 (by kernel_rfl) Tryz.call63 (fun x_ y_=>Xz x_.1) (fun x_ y_=>Qw x_.1) (fun x_ y_ h=>aes x_.1 h)
abbrev Qx:Type:=List (Int×Int×Int)
noncomputable abbrev Qy (x:Qx):LV:=LV.one (VV.sc (SV.sl 0 0))
noncomputable abbrev Qz (x:Qx):List (Nat×Ev.Item):= [(0,Item.own 0 ((Ty.int IntKind.i64).pair ((Ty.int IntKind.i64).pair (Ty.int
 IntKind.u8))) x)]
noncomputable def H2 (b:List Int):Tr (Qx):=(.need (rD b 0 []) (.ret (cr 9000 b 0 [])))
theorem QA (b:List Int):aY Tryz.prog [(103,Qt)] [(0,aX rB ((ag).wr (())) Ao (Aq))] Tryz.f65 (((ae (ah (dB false false u8)) ag)).wr (b,())) ((ag).wr (())) [.ct 2 dw,.ct 3 dw,.fr [.sym],.syms,.auto,.ax]=(H2 b).end Qy Qz ((ag).wr (())):=by kernel_rfl
theorem XA (b:List Int):aP Tryz.prog ((ag).wr (())) [(0,aX rB ((ag).wr (())) Ao (Aq))] (aH Tryz.f65):=(aP.cy (jr (by kernel_rfl) (bz (hp:=(ag).wr (())) (Qv b)) jH))
abbrev pS (b:List Int):Prop:=b.length≤8192
noncomputable def aeu:au:=au.bV [] ((ae (ah (dB false false u8)) ag)) (ag) fun x_ y_=> .leaf (some ((fun (b:List Int)=>pS b) x_.1)) (Qy ((fun (b:List Int)=>cr 9000 b 0 []) x_.1)) (Qz ((fun (b:List Int)=>cr 9000 b 0 []) x_.1))
theorem aev (b:List Int) (h_:pS b):(H2 b).Is (cr 9000 b 0 []):=by
 simp only[H2,ai,aj]
 exact ⟨⟨by omega,by omega,h_,by simp⟩,trivial⟩
theorem aew:aeu.Ok Tryz.prog 65:=
 bM (tys:= []) (A:=(ae (ah (dB false false u8)) ag)) (H:=ag) (LT:=fun x_ y_=>(fun (b:List Int)=> [(0,aX rB ((ag).wr (())) Ao (Aq))]) x_.1) (ks:= [.ct 2 dw,.ct 3 dw,.fr [.sym],.syms,.auto,.ax]) (V:=Qy) (D:=Qz) (T:=fun x_ y_=>H2 x_.1) (pre:=fun x_ y_=>(fun (b:List Int)=>pS b) x_.1) (sp:=fun x_ y_=>(fun (b:List Int)=>cr 9000 b 0 []) x_.1) mixed ((ao Lo aD)) Tryz.func65 (by kernel_rfl) Tryz.call65 (fun x_ y_=>XA x_.1) (fun x_ y_=>QA x_.1) (fun x_ y_ h=>aev x_.1 h)
end Go.Proofs.YtjalaohajcpllaaGreat
end
section
set_option linter.unusedVariables false
set_option linter.unusedSimpArgs false
namespace Go.Proofs.YtjalaohajcpllaaGreat
open Go Go.Ev
set_option maxRecDepth 1000000
theorem mV {b:List Int} (hb:aC b) (hl:b.length≤8192): ∀ (k:Nat) (a:Int) (out:List bQ),0≤a→a≤b.length→((b.length:Int)-a).toNat<k→aW 0 out=true→cC out=a→lr out→(out.length:Int)≤a→
  aW 0 (cr k b a out)=true∧cC (cr k b a out)=b.length∧lr (cr k b a out)∧(cr k b a out).length≤b.length
 |0,a,out,h1,h2,h3,_,_,_,_=>by omega
 |k+1,a,out,h1,h2,h3,h4,h5,h6,h7=>by
  rw[cr]
  split
  ·rename_i hc
   split
   ·rename_i hn
    have hr:=(kF b a).resolve_left (fun h=>by rw[h] at hn;simp at hn)
    have ami:bq ((bO b a).1,(bO b a).2,0)=(bO b a).1:=by unfold bq;rw[if_neg (by simp only;omega)]
    have an3:g6 ((bO b a).1,(bO b a).2,0) a=true:=by
     unfold g6;rw[if_neg (by simp only;omega)];simp;omega
    refine mV hb hl k _ _ (by omega) (by omega) (by omega) ?_ ?_ ?_ (by simp;omega)
    ·rw[iw,h4,h5,Int.zero_add,aW,aW,an3,ami];simp;omega
    ·rw[iv,h5];simp[cC,ami]
    ·intro t ht
     rw[List.mem_append] at ht
     rcases ht with ht|ht
     ·exact h6 t ht
     ·have:t=((bO b a).1,(bO b a).2,0):=by simpa using ht
      rw[this];simp
   ·refine mV hb hl k _ _ (by omega) (by omega) (by omega) ?_ ?_ ?_ (by simp;omega)
    ·rw[iw,h4,h5,Int.zero_add,aW,aW];simp[g6,bq];omega
    ·rw[iv,h5];simp[cC,bq]
    ·intro t ht
     rw[List.mem_append] at ht
     rcases ht with ht|ht
     ·exact h6 t ht
     ·have:t=(0,0,b.getD a.toNat 0):=by simpa using ht
      rw[this];exact hb.getD _
  ·rename_i hc
   exact ⟨h4,by omega,h6,by omega⟩
def dF (b:List Int):Int×List Int:=
 if 8192<(b.length:Int) then (10,[]) else if 4096<((cS (cr 9000 b 0 [])).length:Int) then (10,[]) else (0,cS (cr 9000 b 0 []))
abbrev H3:Type:=Int
noncomputable abbrev H4 (x:H3):LV:=LV.cV [VV.sc (SV.gz (Value.slice none 0 0)),VV.sc (SV.int IntKind.i64 (SI.sym x))]
noncomputable abbrev H5 (x:H3):List (Nat×Ev.Item):= []
abbrev H6:Type:=(List Int)×Int
noncomputable abbrev H7 (x:H6):LV:=LV.cV [VV.sc (SV.rd true false (Ty.int IntKind.u8) x.1),VV.sc (SV.int IntKind.i64 (SI.sym x.2))]
noncomputable abbrev H8 (x:H6):List (Nat×Ev.Item):= []
noncomputable def sO (b:List Int):Tr (H3⊕H6):=(.ite (decide (8192<(↑b.length:Int))) (.ret (.inl (10))) (.ite (decide (8192<
 (↑b.length:Int))) (.need (mU b) (.need (jw []) (.ite (decide ((4096:Int)<4)) (.ret (.inl (10))) (.ret (.inr (cS [],0)))))) (.need
 (mU b) (.need (jw (cr 9000 b 0 [])) (.ite (decide (4096<(↑(cS (cr 9000 b 0 [])).length:Int))) (.ret (.inl (10))) (.ret (.inr
 (cS (cr 9000 b 0 []),0))))))))
theorem QB (b:List Int):aY Tryz.prog [(63,aer),(47,OY)] [] Tryz.f33 (((ae (ah (dB false false u8)) ag)).wr (b,())) ((ag).wr (())) [.fr [.sym],.syms,.auto,.ax]=(sO b).end (Sum.elim H4 H7) (Sum.elim H5 H8) ((ag).wr (())):=by kernel_rfl
theorem XB (b:List Int):aP Tryz.prog ((ag).wr (())) [] (aH Tryz.f33):=(aP.nil _)
abbrev gG (b:List Int):Prop:=aC b∧b.length<1099511627776
noncomputable def QC:au:=au.bV [some u8] ((ae (ah (dB false false u8)) ag)) (ag) fun x_ y_=> .ite ((fun (b:List Int)=>decide ((dF b).1≠0)) x_.1) (.leaf (some ((fun (b:List Int)=>gG b) x_.1)) (H4 ((fun (b:List Int)=>(dF b).1) x_.1)) (H5 ((fun (b:List Int)=>(dF b).1) x_.1))) (.leaf (some ((fun (b:List Int)=>gG b) x_.1)) (H7 ((fun (b:List Int)=>((dF b).2,0)) x_.1)) (H8 ((fun (b:List Int)=>((dF b).2,0)) x_.1)))
theorem aex (b:List Int) (h_:gG b):(decide ((dF b).1≠0)=true→(sO b).Is (.inl ((dF b).1)))∧(decide ((dF b).1≠0)=false→(sO b).Is (.inr (((dF b).2,0)))):=by
 obtain ⟨h1,h2⟩:=h_
 by_cases c:8192<(b.length:Int)
 ·have e:dF b=(10,[]):=by unfold dF;rw[if_pos c]
  have e1:decide (8192<(b.length:Int))=true:=by simpa using c
  simp only[e,sO,e1,aS,aj]
  simp
 ·obtain ⟨k1,k2,k3,k4⟩:=mV h1 (by omega) 9000 0 [] (by omega) (by omega) (by omega) rfl rfl (fun t h=>by simp at h) (by simp)
  have e1:decide (8192<(b.length:Int))=false:=by simpa using c
  have p1:jw (cr 9000 b 0 []):=⟨by omega,k3⟩
  by_cases c2:4096<((cS (cr 9000 b 0 [])).length:Int)
  ·have e:dF b=(10,[]):=by unfold dF;rw[if_neg c,if_pos c2]
   have e2:decide (4096<((cS (cr 9000 b 0 [])).length:Int))=true:=by simpa using c2
   simp only[e,sO,e1,e2,aS,a7,ai,aj]
   simp
   exact p1
  ·have e:dF b=(0,cS (cr 9000 b 0 [])):=by unfold dF;rw[if_neg c,if_neg c2]
   have e2:decide (4096<((cS (cr 9000 b 0 [])).length:Int))=false:=by simpa using c2
   simp only[e,sO,e1,e2,aS,a7,ai,aj]
   simp
   exact p1
theorem Lq:QC.Ok Tryz.prog 33:=
 lR (tys:= [some u8]) (A:=(ae (ah (dB false false u8)) ag)) (H:=ag) (LT:=fun x_ y_=>(fun (b:List Int)=> []) x_.1) (ks:= [.fr [.sym],.syms,.auto,.ax]) (V:=H4) (D:=H5) (V':=H7) (D':=H8) (T:=fun x_ y_=>sO x_.1) (pre:=fun x_ y_=>(fun (b:List Int)=>gG b) x_.1) (c:=fun x_ y_=>(fun (b:List Int)=>decide ((dF b).1≠0)) x_.1) (sp:=fun x_ y_=>(fun (b:List Int)=>(dF b).1) x_.1) (sp':=fun x_ y_=>(fun (b:List Int)=>((dF b).2,0)) x_.1) mixed ((ao aet (ao KL aD))) Tryz.func33 (by kernel_rfl) Tryz.call33 (fun x_ y_=>XB x_.1) (fun x_ y_=>QB x_.1) (fun x_ y_ h=>aex x_.1 h)
abbrev QD:Type:=Int
noncomputable abbrev QE (x:QD):LV:=LV.cV [VV.sc (SV.gz (Value.slice none 0 0)),VV.sc (SV.int IntKind.i64 (SI.sym x))]
noncomputable abbrev QF (x:QD):List (Nat×Ev.Item):= []
abbrev QG:Type:=Int×(List Int)
noncomputable abbrev QH (x:QG):LV:=LV.cV [VV.sc (SV.sl 0 0),VV.sc (SV.int IntKind.i64 (SI.sym x.1))]
noncomputable abbrev QI (x:QG):List (Nat×Ev.Item):= [(0,Item.own 0 (Ty.int IntKind.u8) x.2)]
noncomputable def Ch (b:List Int):Tr (QD⊕QG):=(.ite (decide (8192<(↑b.length:Int))) (.ret (.inl (10))) (.need (pS b)
 (.need (kv (cr 9000 b 0 [])) (.ite (decide (4096<(↑(cS (cr 9000 b 0 [])).length:Int))) (.ret (.inl (10))) (.ret (.inr (0,cS
 (cr 9000 b 0 []))))))))
theorem XC (b:List Int):aY Tryz.prog [(65,aeu),(64,G2)] [] Tryz.f35 (((ae (ah (dB false false u8)) ag)).wr (b,())) ((ag).wr (())) [.fr [.sym],.syms,.auto,.ax]=(Ch b).end (Sum.elim QE QH) (Sum.elim QF QI) ((ag).wr (())):=by kernel_rfl
theorem aey (b:List Int):aP Tryz.prog ((ag).wr (())) [] (aH Tryz.f35):=(aP.nil _)
abbrev nR (b:List Int):Prop:=aC b∧b.length<1099511627776
noncomputable def amj:au:=au.bV [some u8] ((ae (ah (dB false false u8)) ag)) (ag) fun x_ y_=> .ite ((fun (b:List Int)=>decide ((dF b).1≠0)) x_.1) (.leaf (some ((fun (b:List Int)=>nR b) x_.1)) (QE ((fun (b:List Int)=>(dF b).1) x_.1)) (QF ((fun (b:List Int)=>(dF b).1) x_.1))) (.leaf (some ((fun (b:List Int)=>nR b) x_.1)) (QH ((fun (b:List Int)=>(0,(dF b).2)) x_.1)) (QI ((fun (b:List Int)=>(0,(dF b).2)) x_.1)))
theorem ajn (b:List Int) (h_:nR b):(decide ((dF b).1≠0)=true→(Ch b).Is (.inl ((dF b).1)))∧(decide ((dF b).1≠0)=false→(Ch b).Is (.inr ((0,(dF b).2)))):=by
 obtain ⟨h1,h2⟩:=h_
 by_cases c:8192<(b.length:Int)
 ·have e:dF b=(10,[]):=by unfold dF;rw[if_pos c]
  have e1:decide (8192<(b.length:Int))=true:=by simpa using c
  simp only[e,Ch,e1,aS,aj]
  simp
 ·obtain ⟨k1,k2,k3,k4⟩:=mV h1 (by omega) 9000 0 [] (by omega) (by omega) (by omega) rfl rfl (fun t h=>by simp at h) (by simp)
  have e1:decide (8192<(b.length:Int))=false:=by simpa using c
  have p1:kv (cr 9000 b 0 []):=⟨by omega,k3⟩
  have p0:pS b:=by show _≤_;omega
  by_cases c2:4096<((cS (cr 9000 b 0 [])).length:Int)
  ·have e:dF b=(10,[]):=by unfold dF;rw[if_neg c,if_pos c2]
   have e2:decide (4096<((cS (cr 9000 b 0 [])).length:Int))=true:=by simpa using c2
   simp only[e,Ch,e1,e2,aS,a7,ai,aj]
   simp
   exact ⟨p0,p1⟩
  ·have e:dF b=(0,cS (cr 9000 b 0 [])):=by unfold dF;rw[if_neg c,if_neg c2]
   have e2:decide (4096<((cS (cr 9000 b 0 [])).length:Int))=false:=by simpa using c2
   simp only[e,Ch,e1,e2,aS,a7,ai,aj]
   simp
   exact ⟨p0,p1⟩
theorem ajo:amj.Ok Tryz.prog 35:=
 lR (tys:= [some u8]) (A:=(ae (ah (dB false false u8)) ag)) (H:=ag) (LT:=fun x_ y_=>(fun (b:List Int)=> []) x_.1) (ks:= [.fr [.sym],.syms,.auto,.ax]) (V:=QE) (D:=QF) (V':=QH) (D':=QI) (T:=fun x_ y_=>Ch x_.1) (pre:=fun x_ y_=>(fun (b:List Int)=>nR b) x_.1) (c:=fun x_ y_=>(fun (b:List Int)=>decide ((dF b).1≠0)) x_.1) (sp:=fun x_ y_=>(fun (b:List Int)=>(dF b).1) x_.1) (sp':=fun x_ y_=>(fun (b:List Int)=>(0,(dF b).2)) x_.1) mixed ((ao aew (ao Bw aD))) Tryz.func35 (by kernel_rfl) Tryz.call35 (fun x_ y_=>aey x_.1) (fun x_ y_=>XC x_.1) (fun x_ y_ h=>ajn x_.1 h)
end Go.Proofs.YtjalaohajcpllaaGreat
end
section
set_option linter.unusedVariables false
set_option linter.unusedSimpArgs false
namespace Go.Proofs.YtjalaohajcpllaaGreat
open Go Go.Ev
set_option maxRecDepth 1000000
def alike (b:List Int) (a d n:Int):Prop:= ∀ j,0≤j→j<n→b.getD (a+j).toNat 0=b.getD (a+j-d).toNat 0
theorem EF: ∀ (k:Nat) (b:List Int) (a d n:Int),alike b a d n→alike b a d (eh k b a d n)
 |0,_,_,_,_,h=>h
 |k+1,b,a,d,n,h=>by
  rw[eh]
  split
  ·rename_i e
   refine EF k b a d (n+1) fun j h1 h2=>?_
   by_cases hj:j=n
   ·rw[hj];exact e
   ·exact h j h1 (by omega)
  ·exact h
theorem sP: ∀ (k:Nat) (b:List Int) (a:Int) (mo:Nat) (d n di:Int),alike b a di n→alike b a (dK k b a mo d n di).2 (dK k b a mo d n di).1
 |0,_,_,_,_,_,_,h=>h
 |k+1,b,a,mo,d,n,di,h=>by
  rw[dK]
  split
  ·exact sP k b a mo (d+1) _ d (EF mo b a d 0 fun j h1 h2=>by omega)
  ·exact sP k b a mo (d+1) n di h
theorem QJ (b:List Int) (a:Int):alike b a (bO b a).2 (bO b a).1:=by
 have h0:alike b a 0 0:=fun j h1 h2=>by omega
 have key: ∀ s:Int×Int,alike b a s.2 s.1→alike b a (if s.1<3 then ((0,0):Int×Int) else s).2 (if s.1<3 then ((0,0):Int×Int) else s).1:=fun s h=>by
  split
  ·exact h0
  ·exact h
 unfold bO
 by_cases c:a≤0∨b.length≤a
 ·rw[if_pos c];exact h0
 ·rw[if_neg c];exact key _ (sP _ _ _ _ _ _ _ h0)
theorem lW: ∀ (l m:List bQ) (o:List Int),cY o (l++m)=cY (cY o l) m
 | [],_,_=>rfl
 |t::l,m,o=>by rw[List.cons_append,cY,cY,lW l m]
theorem EG {b:List Int} {m:Nat} (h:m<b.length):b.take m++ [b.getD m 0]=b.take (m+1):=by
 rw[List.take_add_one,List.getD_eq_getElem?_getD,List.getElem?_eq_getElem h];simp
theorem EH (b:List Int) (d:Int): ∀ (k m:Nat),1≤d→d≤m→m+k≤b.length→(∀ j,j<k→b.getD (m+j) 0=b.getD ((m+j:Nat)-d).toNat 0)→gY k d (b.take m)=b.take (m+k)
 |0,m,_,_,_,_=>rfl
 |k+1,m,h1,h2,h3,h4=>by
  have hl:(b.take m).length=m:=by rw[List.length_take];omega
  have e:(b.take m).getD (((b.take m).length:Int)-d).toNat 0=b.getD m 0:=by
   have h40:=h4 0 (by omega)
   rw[Nat.add_zero] at h40
   rw[hl,h40,List.getD_eq_getElem?_getD,List.getD_eq_getElem?_getD,List.getElem?_take,if_pos (by omega)]
  rw[gY,e,EG (by omega),EH b d k (m+1) h1 (by omega) (by omega) (fun j hj=>by
   have:=h4 (j+1) (by omega)
   rw[show m+1+j=m+(j+1) from by omega];exact this),show m+1+k=m+(k+1) from by omega]
theorem pT {b:List Int}: ∀ (k:Nat) (a:Int) (out:List bQ),0≤a→a≤b.length→((b.length:Int)-a).toNat<k→cY [] out=b.take a.toNat→cY [] (cr k b a out)=b
 |0,a,out,h1,h2,h3,_=>by omega
 |k+1,a,out,h1,h2,h3,h4=>by
  rw[cr]
  split
  ·rename_i hc
   split
   ·rename_i hn
    have hr:=(kF b a).resolve_left (fun h=>by rw[h] at hn;simp at hn)
    have ha:=QJ b a
    generalize bO b a=s at*
    refine pT k _ _ (by omega) (by omega) (by omega) ?_
    rw[lW,h4,cY,cY,ze,if_neg (by simp only;omega)]
    simp only
    rw[EH b s.2 s.1.toNat a.toNat (by omega) (by omega) (by omega) (fun j hj=>by
     have:=ha j (by omega) (by omega)
     rw[show (a+(j:Int)).toNat=a.toNat+j from by omega] at this
     rw[this];congr 1;omega)]
    congr 1;omega
   ·refine pT k _ _ (by omega) (by omega) (by omega) ?_
    rw[lW,h4,cY,cY,ze,if_pos rfl]
    simp only
    rw[EG (by omega)]
    congr 1;omega
  ·rename_i hc
   rw[h4]
   exact List.take_of_length_le (by omega)
theorem EI {b:List Int} (hb:aC b) (h:(dF b).1=0):(aT (dF b).2 b.length).1=0∧dO (aT (dF b).2 b.length).2=b∧4≤(dF b).2.length∧(dF b).2.length≤4096∧b.length≤8192∧aC (dF b).2:=by
 unfold dF at*
 split at h
 ·cases h
 ·rename_i c
  rw[if_neg c]
  split at h
  ·cases h
  ·rename_i c2
   rw[if_neg c2]
   obtain ⟨k1,k2,k3,k4⟩:=mV hb (by omega) 9000 0 [] (by omega) (by omega) (by omega) rfl rfl (fun t h=>by simp at h) (by simp)
   have kp:=pT (b:=b) 9000 0 [] (by omega) (by omega) (by omega) rfl
   simp only
   generalize cr 9000 b 0 []=l at*
   have hu:=Ll k1 k3
   rw[k2] at hu
   rw[hu]
   have ok:=uT l GX KK (by simp;omega)
   have ep:cS l=(c6 l ([1024,1024],0) (bx 8) (bx 8) (bx 6) 4294967295 [0,0,0,0]).2:=by unfold cS;rw[if_pos k1]
   have FA:=wc l GX aeb (by simp;omega) (cS l)
   rw[← ep] at ok FA
   have hw:=ok.1.1
   have ai6:=FA ⟨Nat.le_refl _,by rw[Nat.sub_self];simp,by rw[Nat.sub_self];simp;omega⟩
   refine ⟨rfl,?_,ai6.1,by omega,by omega,ok.1.2.2.1⟩
   unfold dO
   rw[if_pos k1];exact kp
def nS (k:Nat) (w:Int) (o:List Int):Prop:=4294967295*256 ^ o.length≤w*67 ^ k*4294967296
theorem rE {k:Nat} {w w1:Int} {o o1:List Int} (h:nS k w o) (hw:w≤w1*67) (hl:o1.length=o.length):nS (k+1) (ca w1 o1).1 (ca w1 o1).2:=by
 have hp:(0:Int)<67 ^ k:=Int.pow_pos (by decide)
 have h1:4294967295*256 ^ o1.length≤w1*67 ^ (k+1)*4294967296:=by
  unfold nS at h
  rw[hl]
  refine Int.le_trans h (Int.mul_le_mul_of_nonneg_right ?_ (by decide))
  rw[Int.pow_succ,Int.mul_comm (67 ^ k),← Int.mul_assoc]
  exact Int.mul_le_mul_of_nonneg_right hw (Int.le_of_lt hp)
 unfold nS ca
 split
 ·simp only[List.length_append,List.length_cons,List.length_nil]
  rw[show o1.length+(0+1)=o1.length+1 from rfl,Int.pow_succ,← Int.mul_assoc,Int.mul_right_comm w1,Int.mul_right_comm _ 256]
  exact Int.mul_le_mul_of_nonneg_right h1 (by decide)
 ·exact h1
theorem EJ {k m:Nat} {w:Int} {o:List Int} (h:nS k w o) (hw:0≤w) (hk:k≤m):nS m w o:=by
 refine Int.le_trans h (Int.mul_le_mul_of_nonneg_right (Int.mul_le_mul_of_nonneg_left ?_ hw) (by decide))
 have:=Nat.pow_le_pow_right (n:=67) (by omega) hk
 exact_mod_cast this
theorem EK {k:Nat} {p b w:Int} {o:List Int} (h:pe w o) (hw:nS k w o):nS (k+1) (ba p b w o).1 (ba p b w o).2:=by
 obtain ⟨h1,h2,h3,h4⟩:=h
 have hh:=eY p
 have hz:w≤(w/2048*aM p)*67∧w≤(w-w/2048*aM p)*67:=by
  generalize aM p=q at*
  have e2:8192≤w/2048:=by omega
  have e3:w/2048*2048≤w∧w<w/2048*2048+2048:=by omega
  generalize w/2048=u at*
  obtain ⟨q1,q2⟩:=hh
  have a1:u*31≤u*q:=Int.mul_le_mul_of_nonneg_left q1 (by omega)
  have a2:u*q≤u*2017:=Int.mul_le_mul_of_nonneg_left q2 (by omega)
  generalize u*q=z at*
  omega
 unfold ba
 split
 ·exact rE hw hz.1 rfl
 ·exact rE hw hz.2 (bX _ _ _)
theorem QK {k:Nat} {b w:Int} {o:List Int} (h:pe w o) (hw:nS k w o):nS (k+1) (bY b w o).1 (bY b w o).2:=by
 obtain ⟨h1,h2,h3,h4⟩:=h
 unfold bY
 split
 ·exact rE hw (by omega) rfl
 ·exact rE hw (by omega) (bX _ _ _)
theorem nT: ∀ (k n:Nat) (v node w:Int) (o p:List Int),pe w o→o.length+k<1099511627775→nS n w o→nS (n+k) (aF k v node w o p).1 (aF k v node w o p).2.1
 |0,_,_,_,_,_,_,_,_,h=>h
 |k+1,n,v,node,w,o,p,h,hl,hw=>by
  have c1:=jt (p:=dz p node) (b:=v/2 ^ k%2) h (by omega)
  have cl:=fx (dz p node) (v/2 ^ k%2) w o
  have cw:=EK (p:=dz p node) (b:=v/2 ^ k%2) h hw
  have:=nT k (n+1) v (2*node+v/2 ^ k%2) _ _ (bZ p node (v/2 ^ k%2)) c1 (by omega) cw
  rw[aF,show n+(k+1)=n+1+k from by omega]
  exact this
theorem yW: ∀ (k n:Nat) (v w:Int) (o:List Int),pe w o→o.length+k<1099511627775→nS n w o→nS (n+k) (bw k v w o).1 (bw k v w o).2
 |0,_,_,_,_,_,_,h=>h
 |k+1,n,v,w,o,h,hl,hw=>by
  have c1:=qJ (b:=v/2 ^ k%2) h (by omega)
  have cl:=ka (v/2 ^ k%2) w o
  have:=yW k (n+1) v _ _ c1 (by omega) (QK (b:=v/2 ^ k%2) h hw)
  rw[bw,show n+(k+1)=n+1+k from by omega]
  exact this
theorem aez (t:bQ) {n:Nat} {s:List Int×Int} {p1 p2 p3:List Int} {w:Int} {o:List Int} (hs:TI s p1 p2 p3) (h:pe w o) (hl:o.length+30<1099511627775) (hw:nS n w o):
  nS (n+(if t.1=0 then 9 else 21)) (g7 t s p1 p2 p3 w o).2.2.2.2.1 (g7 t s p1 p2 p3 w o).2.2.2.2.2:=by
 have c1:=jt (p:=s.1.getD s.2.toNat 0) (b:=if t.1=0 then 0 else 1) h (by omega)
 have cl:=fx (s.1.getD s.2.toNat 0) (if t.1=0 then 0 else 1) w o
 have cw:=EK (p:=s.1.getD s.2.toNat 0) (b:=if t.1=0 then 0 else 1) h hw
 unfold g7
 simp only
 generalize ba (s.1.getD s.2.toNat 0) (if t.1=0 then 0 else 1) w o=c at*
 split
 ·rw[hs.l1]
  exact nT 8 (n+1) t.2.2 1 c.1 c.2 p1 c1 (by omega) cw
 ·rw[hs.l2,hs.l3]
  have t1:=nT 8 (n+1) (t.1-2) 1 c.1 c.2 p2 c1 (by omega) cw
  have tl:=dS 8 (t.1-2) 1 c.1 c.2 p2 c1 (by omega)
  generalize aF 8 (t.1-2) 1 c.1 c.2 p2=x at*
  have u1:=nT 6 (n+1+8) ((t.2.1-1)/64) 1 x.1 x.2.1 p3 tl.1 (by omega) t1
  have ul:=dS 6 ((t.2.1-1)/64) 1 x.1 x.2.1 p3 tl.1 (by omega)
  generalize aF 6 ((t.2.1-1)/64) 1 x.1 x.2.1 p3=y at*
  exact yW 6 (n+1+8+6) (t.2.1-1) y.1 y.2.1 ul.1 (by omega) u1
theorem EL: ∀ (l:List bQ) {n:Nat} {made:Int} {s:List Int×Int} {p1 p2 p3:List Int} {w:Int} {o:List Int},TI s p1 p2 p3→pe w o→o.length+21*l.length<1099500000000→nS n w o→(∀ t∈l,t.1=0∨3≤t.1)→
  nS (n+9*(cC l).toNat) (c6 l s p1 p2 p3 w o).1 (c6 l s p1 p2 p3 w o).2
 | [],n,made,s,p1,p2,p3,w,o,hs,h,hl,hw,ht=>hw
 |t::l,n,made,s,p1,p2,p3,w,o,hs,h,hl,hw,ht=>by
  rw[List.length_cons] at hl
  obtain ⟨g1,g2,g3⟩:=xN (t:=t) hs h (by omega)
  have f1:=aez t hs h (by omega) hw
  have Qh: ∀ l:List bQ,(∀ t∈l,t.1=0∨3≤t.1)→0≤cC l:=fun l=>by
   induction l with
   |nil=>intro _;simp[cC]
   |cons t l ih=>
    intro h
    have:=ih fun t ht=>h t (List.mem_cons_of_mem _ ht)
    rw[cC]
    have:0≤bq t:=by
     unfold bq
     rcases h t List.mem_cons_self with h'|h'
     ·rw[if_pos h'];omega
     ·rw[if_neg (by omega)];omega
    omega
  have Zp:=Qh l fun t h=>ht t (List.mem_cons_of_mem _ h)
  have hk:(if t.1=0 then 9 else 21:Nat)≤9*(bq t).toNat∧0≤bq t:=by
   unfold bq
   rcases ht t List.mem_cons_self with h'|h'
   ·rw[if_pos h',if_pos h'];omega
   ·rw[if_neg (by omega),if_neg (by omega)];omega
  have f2:=EJ (m:=n+9*(bq t).toNat) f1 (by have:=g2.1;omega) (by omega)
  have:=EL l (made:=made) g1 g2 (by omega) f2 fun t h=>ht t (List.mem_cons_of_mem _ h)
  rw[c6,cC,show n+9*(bq t+cC l).toNat=n+9*(bq t).toNat+9*(cC l).toNat from by omega]
  exact this
theorem sQ {b:List Int}: ∀ (k:Nat) (a:Int) (out:List bQ),(∀ t∈out,t.1=0∨3≤t.1)→ ∀ t∈cr k b a out,t.1=0∨3≤t.1
 |0,a,out,h=>h
 |k+1,a,out,h=>by
  rw[cr]
  split
  ·split
   ·rename_i hn
    have hr:=(kF b a).resolve_left (fun h=>by rw[h] at hn;simp at hn)
    refine sQ k _ _ fun t ht=>?_
    rw[List.mem_append] at ht
    rcases ht with ht|ht
    ·exact h t ht
    ·have:t=((bO b a).1,(bO b a).2,0):=by simpa using ht
     rw[this];exact .inr hr.1
   ·refine sQ k _ _ fun t ht=>?_
    rw[List.mem_append] at ht
    rcases ht with ht|ht
    ·exact h t ht
    ·have:t=(0,0,b.getD a.toNat 0):=by simpa using ht
     rw[this];exact .inl rfl
  ·exact h
def XD:Nat:=4500
def XE:Nat:=4097
theorem aof:(67:Int) ^ XD*4294967296<256 ^ XE:=by
 have h:(67:Nat) ^ XD*4294967296<256 ^ XE:=by decide+kernel
 have:=Int.ofNat_lt.2 h
 rw[Int.natCast_mul,Int.natCast_pow,Int.natCast_pow] at this
 exact this
theorem Lr {b:List Int} (hb:aC b) (h:b.length≤500):(dF b).1=0:=by
 unfold dF
 rw[if_neg (by omega)]
 obtain ⟨k1,k2,k3,k4⟩:=mV hb (by omega) 9000 0 [] (by omega) (by omega) (by omega) rfl rfl (fun t h=>by simp at h) (by simp)
 have kl:=sQ (b:=b) 9000 0 [] (fun t h=>by simp at h)
 generalize cr 9000 b 0 []=l at*
 have ok:=uT l GX KK (by simp;omega)
 have ep:cS l=(c6 l ([1024,1024],0) (bx 8) (bx 8) (bx 6) 4294967295 [0,0,0,0]).2:=by unfold cS;rw[if_pos k1]
 have hw:=EL l (n:=0) (made:=0) GX KK (by simp;omega) (by unfold nS;decide) kl
 rw[← ep] at ok hw
 have hw2:=ok.1.2.1
 have hw1:=ok.1.1
 have hm:=EJ (m:=XD) hw (by omega) (by show _≤4500;omega)
 rw[if_neg]
 intro hc
 have h1:(4294967295:Int)*256 ^ (cS l).length≤4294967295*67 ^ XD*4294967296:=
  Int.le_trans hm (Int.mul_le_mul_of_nonneg_right (Int.mul_le_mul_of_nonneg_right (by omega) (Int.le_of_lt (Int.pow_pos (by decide)))) (by decide))
 have h2:(256:Int) ^ XE≤256 ^ (cS l).length:=by
  have h:=Int.ofNat_le.2 (Nat.pow_le_pow_right (n:=256) (by omega) (show XE≤(cS l).length by show 4097≤_;omega))
  rw[Int.natCast_pow,Int.natCast_pow] at h
  exact h
 have h3:(4294967295:Int)*256 ^ XE≤4294967295*67 ^ XD*4294967296:=Int.le_trans (Int.mul_le_mul_of_nonneg_left h2 (by decide)) h1
 have h4:=aof
 generalize (256:Int) ^ XE=A at*
 generalize (67:Int) ^ XD=B at*
 omega
end Go.Proofs.YtjalaohajcpllaaGreat
end
section
set_option linter.unusedVariables false
set_option linter.unusedSimpArgs false
namespace Go.Proofs.YtjalaohajcpllaaGreat
open Go Go.Ev
set_option maxRecDepth 1000000
noncomputable abbrev amk:au:=acX
theorem ajp:amk.Ok Tryz.prog 36:=anQ
abbrev aeA:Type:=List Int
noncomputable abbrev aeB (x:aeA):LV:=LV.one (VV.sc (SV.sl 0 0))
noncomputable abbrev aeC (x:aeA):List (Nat×Ev.Item):= [(0,Item.own 0 (Ty.int IntKind.u8) x)]
noncomputable def Uv (n:Int):Tr (aeA):=(.ret ([IntKind.u8.wrap n,IntKind.u8.wrap (shr IntKind.i64 n 8)]))
theorem XF (n:Int):aY Tryz.prog [] [] Tryz.f34 ((J2).wr (n,())) ((ag).wr (())) [.fr [.sym],.syms,.auto,.ax]=(Uv n).end aeB aeC ((ag).wr (())):=by kernel_rfl
theorem aeD (n:Int):aP Tryz.prog ((ag).wr (())) [] (aH Tryz.f34):=(aP.nil _)
abbrev j4 (n:Int):Prop:=0≤n∧n<65536
noncomputable def aml:au:=au.bV [] (J2) (ag) fun x_ y_=> .leaf (some ((fun (n:Int)=>j4 n) x_.1)) (aeB ((fun (n:Int)=> [n%256,n/256]) x_.1)) (aeC ((fun (n:Int)=> [n%256,n/256]) x_.1))
theorem ajq (n:Int) (h_:j4 n):(Uv n).Is ([n%256,n/256]):=by
 obtain ⟨h1,h2⟩:=h_
 have e:shr .i64 n 8=n/256:=by
  have:=eX .i64 n 8 (by decide)
  simpa using this
 simp only[Uv,aj,wrap_u8,e]
 rw[Int.emod_eq_of_lt (a:=n/256) (by omega) (by omega)]
theorem ajr:aml.Ok Tryz.prog 34:=
 bM (tys:= []) (A:=J2) (H:=ag) (LT:=fun x_ y_=>(fun (n:Int)=> []) x_.1) (ks:= [.fr [.sym],.syms,.auto,.ax]) (V:=aeB) (D:=aeC) (T:=fun x_ y_=>Uv x_.1) (pre:=fun x_ y_=>(fun (n:Int)=>j4 n) x_.1) (sp:=fun x_ y_=>(fun (n:Int)=> [n%256,n/256]) x_.1) mixed aD Tryz.func34 (by kernel_rfl) Tryz.call34 (fun x_ y_=>aeD x_.1) (fun x_ y_=>XF x_.1) (fun x_ y_ h=>ajq x_.1 h)
def ar (b:List Int):Int×List Int:=
 if b.length=0 then (1,[]) else if (dF b).1≠0 then ((dF b).1,[])
 else (0,[((dF b).2.length:Int)%256,((dF b).2.length:Int)/256,(b.length:Int)%256,(b.length:Int)/256]++(dF b).2)
theorem QL {b:List Int} (h:(dF b).1=0):b.length≤8192∧(dF b).2.length≤4096:=by
 unfold dF at*
 split at h
 ·cases h
 ·rename_i c
  rw[if_neg c]
  split at h
  ·cases h
  ·rename_i c2;rw[if_neg c2];exact ⟨by omega,by simp only;omega⟩
noncomputable def gH (b:List Int):Int:=(↑b.length:Int)
noncomputable def wi (b:List Int):Int:=IntKind.u64.wrap (↑(dF b).snd.length:Int)
abbrev Ci:Type:=Int
noncomputable abbrev Cj (x:Ci):LV:=LV.cV [VV.sc (SV.gz (Value.slice none 0 0)),VV.sc (SV.int IntKind.i64 (SI.sym x))]
noncomputable abbrev Ck (x:Ci):List (Nat×Ev.Item):= []
abbrev Cl:Type:=Int×(List Int)
noncomputable abbrev Cm (x:Cl):LV:=LV.cV [VV.sc (SV.sl 0 0),VV.sc (SV.int IntKind.i64 (SI.sym x.1))]
noncomputable abbrev Cn (x:Cl):List (Nat×Ev.Item):= [(0,Item.own 0 (Ty.int IntKind.u8) x.2)]
noncomputable def nV (b:List Int):Tr (Ci⊕Cl):=(.ite (gH b==0) (.ret (.inl (1))) (.ite (decide ¬(dF b).fst=0) (.need
 (nR b) (.ite ((dF b).fst !=0) (.ret (.inl ((dF b).fst))) (.need ((0:Int)≤0∧(0:Int)<18446744073709551616∧(0:Int)≤2∧(2:Int)≤
 70368744177664) (.need (0≤IntKind.u64.wrap (gH b)∧IntKind.u64.wrap (gH b)<18446744073709551616∧(0:Int)≤2∧(2:Int)≤
 70368744177664) (.need (4≤70368744177664∧4≤70368744177664) (.need (4≤70368744177664∧4≤70368744177664) (.ret (.inr (0,fA 2 0++fA 2
 (IntKind.u64.wrap (gH b))++ []))))))))) (.need (nR b) (.ite ((0:Int)!=0) (.ret (.inl (0))) (.need (0≤wi b∧wi b<
 18446744073709551616∧(0:Int)≤2∧(2:Int)≤70368744177664) (.need (0≤IntKind.u64.wrap (gH b)∧IntKind.u64.wrap (gH b)<
 18446744073709551616∧(0:Int)≤2∧(2:Int)≤70368744177664) (.need (4≤70368744177664∧4≤70368744177664) (.need ((4+(dF b).snd.length)*
 1≤70368744177664∧4+(dF b).snd.length≤70368744177664) (.ret (.inr (0,fA 2 (wi b)++fA 2 (IntKind.u64.wrap (gH b))++(dF
 b).snd)))))))))))
theorem Ls (b:List Int):aY Tryz.prog [(35,amj),(36,amk)] [] Tryz.f17 (((ae (ah (dB false false u8)) ag)).wr (b,())) ((ag).wr (())) [.fr [.sym],.syms,.auto,.ax]=(nV b).end (Sum.elim Cj Cm) (Sum.elim Ck Cn) ((ag).wr (())):=by kernel_rfl
theorem QM (b:List Int):aP Tryz.prog ((ag).wr (())) [] (aH Tryz.f17):=(aP.nil _)
abbrev gr (b:List Int):Prop:=aC b∧b.length<1099511627776
noncomputable def Uw:au:=au.bV [some u8] ((ae (ah (dB false false u8)) ag)) (ag) fun x_ y_=> .ite ((fun (b:List Int)=>decide ((ar b).1≠0)) x_.1) (.leaf (some ((fun (b:List Int)=>gr b) x_.1)) (Cj ((fun (b:List Int)=>(ar b).1) x_.1)) (Ck ((fun (b:List Int)=>(ar b).1) x_.1))) (.leaf (some ((fun (b:List Int)=>gr b) x_.1)) (Cm ((fun (b:List Int)=>(0,(ar b).2)) x_.1)) (Cn ((fun (b:List Int)=>(0,(ar b).2)) x_.1)))
theorem XG (b:List Int) (h_:gr b):(decide ((ar b).1≠0)=true→(nV b).Is (.inl ((ar b).1)))∧(decide ((ar b).1≠0)=false→(nV b).Is (.inr ((0,(ar b).2)))):=by
 obtain ⟨h1,h2⟩:=h_
 have p0:nR b:=⟨h1,h2⟩
 have ea:gH b=(b.length:Int):=rfl
 have nF:wi b=IntKind.u64.wrap ((dF b).2.length:Int):=rfl
 by_cases c:b.length=0
 ·have e:ar b=(1,[]):=by unfold ar;rw[if_pos c]
  have e1:(gH b==0)=true:=by rw[ea,c];rfl
  simp only[e,nV,e1,aS,aj]
  simp
 ·have e1:(gH b==0)=false:=by rw[ea,beq_eq_false_iff_ne];omega
  by_cases c2:(dF b).1=0
  ·obtain ⟨k1,k2⟩:=QL c2
   have e:ar b=(0,[((dF b).2.length:Int)%256,((dF b).2.length:Int)/256,(b.length:Int)%256,(b.length:Int)/256]++(dF b).2):=by
    unfold ar;rw[if_neg c,if_neg (by simpa using c2)]
   have e2:decide ¬(dF b).1=0=false:=by simpa using c2
   have w1:IntKind.u64.wrap (b.length:Int)=b.length:=wrap_u64 (by omega) (by omega)
   have w2:IntKind.u64.wrap ((dF b).2.length:Int)=(dF b).2.length:=wrap_u64 (by omega) (by omega)
   have el: ∀ x:Int,0≤x→x<65536→fA 2 x= [x%256,x/256]:=fun x hx hy=>by
    rw[fA,fA,fA,Int.emod_eq_of_lt (a:=x/256) (by omega) (by omega)]
   have e3:((0:Int)!=0)=false:=rfl
   simp only[e,nV,e1,e2,e3,a7,aS,ai,aj]
   simp only[ea,nF,w1,w2,el _ (Int.natCast_nonneg _) (show ((dF b).2.length:Int)<65536 by omega),el _ (Int.natCast_nonneg _) (show (b.length:Int)<65536 by omega)]
   simp
   exact ⟨p0,by omega,by omega,by omega⟩
  ·have e:ar b=((dF b).1,[]):=by unfold ar;rw[if_neg c,if_pos c2]
   have e2:decide ¬(dF b).1=0=true:=by simpa using c2
   have e3:((dF b).1!=0)=true:=by simpa using c2
   simp only[e,nV,e1,e2,e3,a7,aS,ai,aj]
   simp[c2]
   exact p0
theorem XH:Uw.Ok Tryz.prog 17:=
 lR (tys:= [some u8]) (A:=(ae (ah (dB false false u8)) ag)) (H:=ag) (LT:=fun x_ y_=>(fun (b:List Int)=> []) x_.1) (ks:= [.fr [.sym],.syms,.auto,.ax]) (V:=Cj) (D:=Ck) (V':=Cm) (D':=Cn) (T:=fun x_ y_=>nV x_.1) (pre:=fun x_ y_=>(fun (b:List Int)=>gr b) x_.1) (c:=fun x_ y_=>(fun (b:List Int)=>decide ((ar b).1≠0)) x_.1) (sp:=fun x_ y_=>(fun (b:List Int)=>(ar b).1) x_.1) (sp':=fun x_ y_=>(fun (b:List Int)=>(0,(ar b).2)) x_.1) mixed ((ao ajo (ao ajp aD))) Tryz.func17 (by kernel_rfl) Tryz.call17 (fun x_ y_=>QM x_.1) (fun x_ y_=>Ls x_.1) (fun x_ y_ h=>XG x_.1 h)
noncomputable def gb (b:List Int):Int:=(↑b.length:Int)
noncomputable def pU (b:List Int):Int:=(↑(dF b).snd.length:Int)
noncomputable def wj (b:List Int):List Int:= [[pU b%256,pU b/256],[gb b%256,gb b/256],(dF
 b).snd].flatten
abbrev Co:Type:=Int
noncomputable abbrev Cp (x:Co):LV:=LV.cV [VV.sc (SV.gz (Value.slice none 0 0)),VV.sc (SV.int IntKind.i64 (SI.sym x))]
noncomputable abbrev Cq (x:Co):List (Nat×Ev.Item):= []
abbrev Cr:Type:=Int×(List Int)
noncomputable abbrev Cs (x:Cr):LV:=LV.cV [VV.sc (SV.sl 0 0),VV.sc (SV.int IntKind.i64 (SI.sym x.1))]
noncomputable abbrev Ct (x:Cr):List (Nat×Ev.Item):= [(0,Item.own 0 (Ty.int IntKind.u8) x.2)]
noncomputable def nW (b:List Int):Tr (Co⊕Cr):=(.ite (gb b==0) (.ret (.inl (1))) (.ite (decide ¬(dF b).fst=0) (.need
 (gG b) (.ite ((dF b).fst !=0) (.ret (.inl ((dF b).fst))) (.need (j4 0) (.need (j4 (gb b)) (.need (4≤70368744177664∧3≤
 140737488355328) (.ret (.inr (0,[[0,0],[gb b%256,gb b/256],[]].flatten)))))))) (.need (gG b) (.ite ((0:Int)!=0) (.ret
 (.inl (0))) (.need (j4 (pU b)) (.need (j4 (gb b)) (.need ((wj b).length≤70368744177664∧3≤140737488355328) (.ret (.inr
 (0,wj b))))))))))
theorem Lt (b:List Int):aY Tryz.prog [(33,QC),(34,aml),(30,Hq)] [] Tryz.f16 (((ae (ah (dB false false u8)) ag)).wr (b,())) ((ag).wr (())) [.fr [.sym],.syms,.auto,.ax]=(nW b).end (Sum.elim Cp Cs) (Sum.elim Cq Ct) ((ag).wr (())):=by kernel_rfl
theorem QN (b:List Int):aP Tryz.prog ((ag).wr (())) [] (aH Tryz.f16):=(aP.nil _)
abbrev fH (b:List Int):Prop:=aC b∧b.length<1099511627776
noncomputable def Ar:au:=au.bV [some u8] ((ae (ah (dB false false u8)) ag)) (ag) fun x_ y_=> .ite ((fun (b:List Int)=>decide ((ar b).1≠0)) x_.1) (.leaf (some ((fun (b:List Int)=>fH b) x_.1)) (Cp ((fun (b:List Int)=>(ar b).1) x_.1)) (Cq ((fun (b:List Int)=>(ar b).1) x_.1))) (.leaf (some ((fun (b:List Int)=>fH b) x_.1)) (Cs ((fun (b:List Int)=>(0,(ar b).2)) x_.1)) (Ct ((fun (b:List Int)=>(0,(ar b).2)) x_.1)))
theorem XI (b:List Int) (h_:fH b):(decide ((ar b).1≠0)=true→(nW b).Is (.inl ((ar b).1)))∧(decide ((ar b).1≠0)=false→(nW b).Is (.inr ((0,(ar b).2)))):=by
 obtain ⟨h1,h2⟩:=h_
 have p0:gG b:=⟨h1,h2⟩
 have ea:gb b=(b.length:Int):=rfl
 have nF:pU b=((dF b).2.length:Int):=rfl
 by_cases c:b.length=0
 ·have e:ar b=(1,[]):=by unfold ar;rw[if_pos c]
  have e1:(gb b==0)=true:=by rw[ea,c];rfl
  simp only[e,nW,e1,aS,aj]
  simp
 ·have e1:(gb b==0)=false:=by rw[ea,beq_eq_false_iff_ne];omega
  by_cases c2:(dF b).1=0
  ·obtain ⟨k1,k2⟩:=QL c2
   have e:ar b=(0,[((dF b).2.length:Int)%256,((dF b).2.length:Int)/256,(b.length:Int)%256,(b.length:Int)/256]++(dF b).2):=by
    unfold ar;rw[if_neg c,if_neg (by simpa using c2)]
   have e2:decide ¬(dF b).1=0=false:=by simpa using c2
   have e3:((0:Int)!=0)=false:=rfl
   have Zh:wj b= [((dF b).2.length:Int)%256,((dF b).2.length:Int)/256,(b.length:Int)%256,(b.length:Int)/256]++(dF b).2:=by
    unfold wj;rw[ea,nF];simp
   have q1:j4 (pU b):=by rw[nF];exact ⟨by omega,by omega⟩
   have q2:j4 (gb b):=by rw[ea];exact ⟨by omega,by omega⟩
   simp only[e,nW,e1,e2,e3,a7,aS,ai,aj]
   simp only[Zh]
   simp
   exact ⟨p0,q1,q2,by omega⟩
  ·have e:ar b=((dF b).1,[]):=by unfold ar;rw[if_neg c,if_pos c2]
   have e2:decide ¬(dF b).1=0=true:=by simpa using c2
   have e3:((dF b).1!=0)=true:=by simpa using c2
   simp only[e,nW,e1,e2,e3,a7,aS,ai,aj]
   simp[c2]
   exact p0
theorem yc:Ar.Ok Tryz.prog 16:=
 lR (tys:= [some u8]) (A:=(ae (ah (dB false false u8)) ag)) (H:=ag) (LT:=fun x_ y_=>(fun (b:List Int)=> []) x_.1) (ks:= [.fr [.sym],.syms,.auto,.ax]) (V:=Cp) (D:=Cq) (V':=Cs) (D':=Ct) (T:=fun x_ y_=>nW x_.1) (pre:=fun x_ y_=>(fun (b:List Int)=>fH b) x_.1) (c:=fun x_ y_=>(fun (b:List Int)=>decide ((ar b).1≠0)) x_.1) (sp:=fun x_ y_=>(fun (b:List Int)=>(ar b).1) x_.1) (sp':=fun x_ y_=>(fun (b:List Int)=>(0,(ar b).2)) x_.1) mixed ((ao Lq (ao ajr (ao pJ aD)))) Tryz.func16 (by kernel_rfl) Tryz.call16 (fun x_ y_=>QN x_.1) (fun x_ y_=>Lt x_.1) (fun x_ y_ h=>XI x_.1 h)
end Go.Proofs.YtjalaohajcpllaaGreat
end
section
set_option linter.unusedVariables false
set_option linter.unusedSimpArgs false
namespace Go.Proofs.YtjalaohajcpllaaGreat
open Go Go.Ev
set_option maxRecDepth 100000
def two (l:List Int) (i:Nat):Int:=bD .i64 (IntKind.i64.wrap (l.getD i 0)) (shl .i64 (IntKind.i64.wrap (l.getD (i+1) 0)) 8)
def iA (l:List Int):Bool:=decide (1≤two l 0∧two l 0≤4096∧1≤two l 2∧two l 2≤8192)
noncomputable def Ux:au:=au.bV [some u8] bA ag fun x _=> .leaf (some (4≤x.1.length)) (.cV [.sc (.int .i64 (.sym (two x.1 0))),.sc (.int .i64 (.sym (two x.1 2))),.sc (.bool (.sym (iA x.1)))]) []
theorem Lu (l:List Int):aY Tryz.prog [] [] Tryz.f37 (bA.wr (l,())) [] [.fr [.sym],.auto]=
 End.need ((0:Int)≤(0:Int)∧(0:Int)<(↑l.length:Int)) (End.need ((0:Int)≤(1:Int)∧(1:Int)<(↑l.length:Int)) (End.need ((0:Int)
 ≤(2:Int)∧(2:Int)<(↑l.length:Int)) (End.need ((0:Int)≤(3:Int)∧(3:Int)<(↑l.length:Int)) (End.ite (decide ((1:Int)≤bD
 IntKind.i64 (IntKind.i64.wrap (l.getD (0:Nat) (0:Int))) (shl IntKind.i64 (IntKind.i64.wrap (l.getD (1:Nat) (0:Int))) (8:Int)))==true)
 (End.ite (decide (bD IntKind.i64 (IntKind.i64.wrap (l.getD (0:Nat) (0:Int))) (shl IntKind.i64 (IntKind.i64.wrap (l.getD (1:Nat) (0:Int))) (8
 :Int))≤(4096:Int))==true) (End.ite (decide ((1:Int)≤bD IntKind.i64 (IntKind.i64.wrap (l.getD (2:Nat) (0:Int))) (shl IntKind.i64
 (IntKind.i64.wrap (l.getD (3:Nat) (0:Int))) (8:Int)))==true) (End.leaf (LV.cV [VV.sc (SV.int IntKind.i64 (SI.sym (bD IntKind.i64
 (IntKind.i64.wrap (l.getD (0:Nat) (0:Int))) (shl IntKind.i64 (IntKind.i64.wrap (l.getD (1:Nat) (0:Int))) (8:Int))))),VV.sc (SV.int
 IntKind.i64 (SI.sym (bD IntKind.i64 (IntKind.i64.wrap (l.getD (2:Nat) (0:Int))) (shl IntKind.i64 (IntKind.i64.wrap (l.getD (3:Nat) (0:Int)))
 (8:Int))))),VV.sc (SV.bool (SB.sym (decide (bD IntKind.i64 (IntKind.i64.wrap (l.getD (2:Nat) (0:Int))) (shl IntKind.i64 (IntKind.i64.wrap
 (l.getD (3:Nat) (0:Int))) (8:Int))≤(8192:Int)))))]) []) (End.leaf (LV.cV [VV.sc (SV.int IntKind.i64 (SI.sym (bD IntKind.i64
 (IntKind.i64.wrap (l.getD (0:Nat) (0:Int))) (shl IntKind.i64 (IntKind.i64.wrap (l.getD (1:Nat) (0:Int))) (8:Int))))),VV.sc (SV.int
 IntKind.i64 (SI.sym (bD IntKind.i64 (IntKind.i64.wrap (l.getD (2:Nat) (0:Int))) (shl IntKind.i64 (IntKind.i64.wrap (l.getD (3:Nat) (0:Int)))
 (8:Int))))),VV.sc (SV.bool (SB.sym false))]) [])) (End.leaf (LV.cV [VV.sc (SV.int IntKind.i64 (SI.sym (bD IntKind.i64 (IntKind.i64.wrap (l.getD
 (0:Nat) (0:Int))) (shl IntKind.i64 (IntKind.i64.wrap (l.getD (1:Nat) (0:Int))) (8:Int))))),VV.sc (SV.int IntKind.i64 (SI.sym (bD
 IntKind.i64 (IntKind.i64.wrap (l.getD (2:Nat) (0:Int))) (shl IntKind.i64 (IntKind.i64.wrap (l.getD (3:Nat) (0:Int))) (8:Int))))),VV.sc
 (SV.bool (SB.sym false))]) [])) (End.leaf (LV.cV [VV.sc (SV.int IntKind.i64 (SI.sym (bD IntKind.i64 (IntKind.i64.wrap (l.getD (0:Nat) (0:Int)))
 (shl IntKind.i64 (IntKind.i64.wrap (l.getD (1:Nat) (0:Int))) (8:Int))))),VV.sc (SV.int IntKind.i64 (SI.sym (bD IntKind.i64 (IntKind.i64.wrap
 (l.getD (2:Nat) (0:Int))) (shl IntKind.i64 (IntKind.i64.wrap (l.getD (3:Nat) (0:Int))) (8:Int))))),VV.sc (SV.bool (SB.sym false))]) []))))):=by kernel_rfl
theorem XJ:Ux.Ok Tryz.prog 37:=by
 refine (au.bE Tryz.call37 fun x y Q h=>?_).sym
 obtain ⟨l,_⟩:=x
 obtain ⟨hl,hq⟩:=h
 have hl:4≤l.length:=hl
 refine (aG mixed aD Tryz.func37 rfl (LT:= []) (ks:= [.fr [.sym],.auto]) (aP.nil _)).use (D:= []) ?_ hq
 show (aY _ _ _ _ (bA.wr (l,())) [] _).sat _
 rw[Lu]
 have key: ∀ {b:Bool},b=iA l→LV.cV [.sc (.int .i64 (.sym (two l 0))),.sc (.int .i64 (.sym (two l 2))),.sc (.bool (.sym b))]=LV.cV [.sc (.int .i64 (.sym (two l 0))),.sc (.int .i64 (.sym (two l 2))),.sc (.bool (.sym (iA l)))]:=fun h=>by rw[h]
 have e0:two l 0=bD .i64 (IntKind.i64.wrap (l.getD 0 0)) (shl .i64 (IntKind.i64.wrap (l.getD 1 0)) 8):=rfl
 have e2:two l 2=bD .i64 (IntKind.i64.wrap (l.getD 2 0)) (shl .i64 (IntKind.i64.wrap (l.getD 3 0)) 8):=rfl
 rw[← e0,← e2]
 refine ⟨by omega,by omega,by omega,by omega,fun h1=>⟨fun h2=>⟨fun h3=>⟨key ?_,rfl⟩,fun h3=>⟨key ?_,rfl⟩⟩,fun h2=>⟨key ?_,rfl⟩⟩,fun h1=>⟨key ?_,rfl⟩⟩<;>simp_all[iA]<;>omega
def Uy (n:Nat):List Int:=List.replicate n 0
end Go.Proofs.YtjalaohajcpllaaGreat
end
