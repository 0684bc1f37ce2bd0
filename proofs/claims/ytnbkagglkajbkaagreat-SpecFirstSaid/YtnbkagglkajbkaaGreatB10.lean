/- What the laws lean on, part 10: a reader of code, plain facts, and what each function gives; no conditions. -/
import Derived.Test.YtnbkagglkajbkaaGreatB9
set_option linter.unusedVariables false
set_option linter.unusedSimpArgs false
noncomputable section
namespace Go.Proofs.YtnbkagglkajbkaaGreat
open Go Go.Ev Go.Proofs.Tryz
open Go.IntKind (i64 signed u16 u64 wrap)
set_option maxRecDepth 1000000
abbrev bsA:aW (List LV) (List Int×Int×Unit):=ae (ah (e9 false false u8)) (ae (ah (ay .i64)) ag)
def jP:Nat→List Int→Int→Int→Int→Int
 |0,_,_,_,n=>n
 |k+1,b,a,d,n=>if b.getD (a+n).toNat 0=b.getD (a+n-d).toNat 0 then jP k b a d (n+1)else n
theorem nb:∀ (k:Nat) (b:List Int) (a d n:Int),n≤jP k b a d n∧jP k b a d n≤n+k
 |0,_,_,_,n=>⟨Int.le_refl _,by simp[jP]⟩
 |k+1,b,a,d,n=>by
  rw[jP]
  split
  ·have:=nb k b a d (n+1);omega
  ·omega
theorem Dt:∀ (j k:Nat) (b:List Int) (a d n:Int),jP (j+k) b a d n=if jP j b a d n<n+j then jP j b a d n else jP k b a d (n+j)
 |0,k,b,a,d,n=>by simp[jP]
 |j+1,k,b,a,d,n=>by
  rw[show j+1+k=(j+k)+1 from by omega,jP,jP]
  split
  ·rw[Dt j k b a d (n+1),show n+1+(j:Int)=n+((j+1:Nat):Int)from by omega]
  ·rw[if_pos (by omega)]
abbrev abj:Type:=(List Int)×Int×Int×Int×Int×Int×Int×Int
abbrev ahj:aW St abj:=(bD (ae (ah (e9 false false (Ty.int IntKind.u8))) (ae (ah (ay i64)) (jk 2 (ae (ah
 (ay i64)) (ae (ah (ay i64)) (ae (ah (ay i64)) (ae (ah (ay i64)) (jk 26 (ae (ah (ay
 i64)) (ae (ah (ay i64)) (jk 47 ag))))))))))) ag).nH (fun y=>(y.1.1,y.1.2.1,y.1.2.2.1,y.1.2.2.2.1,y.1.2.2.2.2.1,
 y.1.2.2.2.2.2.1,y.1.2.2.2.2.2.2.1,y.1.2.2.2.2.2.2.2.1)) (fun x=>((x.1,(x.2.1,(x.2.2.1,(x.2.2.2.1,(x.2.2.2.2.1,(x.2.2.2.2.2.1,
 (x.2.2.2.2.2.2.1,(x.2.2.2.2.2.2.2,())))))))),())) (fun _=>rfl)
abbrev aqF:List Wk:= [.fr (dK 83 [(0,.an),(1,.an),(4,.an),(5,.an),(6,.an),(7,.an),(34,.an),(35,.an)]),.syms,
 .auto,.aN]
abbrev aqG:Exit→List Wk:=Di aqF 2 [.fr (dK 83 [(0,.an),(1,.an),(4,.an),(6,.an),(7,.an)]),.syms,.auto,.aN] [.fr (dK
 83 [(4,.an),(5,.an)]),.syms,.auto,.aN]
abbrev abk:Type:=(List Int)×Int×Int×Int×Int×Int×Int×Int
abbrev ak4(x:abk):Exit×St:=(Exit.exit 1,⟨(LV.one (VV.sc (SV.rd false false (Ty.int IntKind.u8) x.1))::(LV.one (VV.sc
 (SV.int i64 (SI.sym x.2.1)))::(jK 2 (LV.one (VV.sc (SV.int i64 (SI.sym x.2.2.1)))::(LV.one (VV.sc (SV.int i64 (SI.sym
 x.2.2.2.1)))::(LV.one (VV.sc (SV.int i64 (SI.sym x.2.2.2.2.1)))::(LV.one (VV.sc (SV.int i64 (SI.sym x.2.2.2.2.2.1)))::(jK 26
 (LV.one (VV.sc (SV.int i64 (SI.sym x.2.2.2.2.2.2.1)))::(LV.one (VV.sc (SV.int i64 (SI.sym x.2.2.2.2.2.2.2)))::(jK 47
 []))))))))))),[]⟩)
abbrev abl:Type:=(List Int)×Int×Int×Int×Int
abbrev ak5(x:abl):Exit×St:=(Exit.exit 2,⟨(LV.one (VV.sc (SV.rd false false (Ty.int IntKind.u8) x.1))::(LV.one (VV.sc
 (SV.int i64 (SI.sym x.2.1)))::(jK 2 (LV.one (VV.sc (SV.int i64 (SI.sym x.2.2.1)))::(jK 1 (LV.one (VV.sc (SV.int i64
 (SI.sym x.2.2.2.1)))::(LV.one (VV.sc (SV.int i64 (SI.sym x.2.2.2.2)))::(jK 75 [])))))))),[]⟩)
def abm(b':List Int)(a:Int)(n:Int)(di:Int)(mo:Int)(d:Int)(li:Int)(i:Int):Tr (abj⊕(abk⊕abl)):=(.ite
 (decide (i<li)) (.need (0≤i64.wrap (a+i)∧i64.wrap (a+i)<(↑b'.length:Int)) (.need (0≤i64.wrap (i64.wrap
 (a+i)-d)∧i64.wrap (i64.wrap (a+i)-d)<(↑b'.length:Int)) (.ite (b'.getD (i64.wrap (a+i)).toNat 0!=b'.getD
 (i64.wrap (i64.wrap (a+i)-d)).toNat 0) (.ret (.inr (.inl (b',a,n,di,mo,d,li,i)))) (.ret (.inl (b',a,n,di,mo,d,li,
 i64.wrap (i+1))))))) (.ret (.inr (.inr (b',a,n,mo,d)))))
theorem abn(b:List Int)(at_:Int)(b':List Int)(a:Int)(n:Int)(di:Int)(mo:Int)(d:Int)(li:Int)(i:Int):ee Tryz.prog [] [] f129 2 ((ag).wr (())) aqG (ahj.wr (b',a,n,di,mo,d,li,i))=(abm b' a n di mo d li i).res ahj.wr (Sum.elim ak4 ak5):=by kernel_rfl
abbrev Gh(b':List Int)(a:Int)(n:Int)(di:Int)(mo:Int)(d:Int)(li:Int)(i:Int):Prop:=0≤i∧i≤li∧a+li≤b'.length∧1≤d∧d≤a∧b'.length<1099511627776
abbrev anc(b':List Int)(a:Int)(n:Int)(di:Int)(mo:Int)(d:Int)(li:Int)(i:Int):Bool:=decide (jP (li-i).toNat b' a d i<li)
abbrev ane(b':List Int)(a:Int)(n:Int)(di:Int)(mo:Int)(d:Int)(li:Int)(i:Int):abk:=(b',a,n,di,mo,d,li,jP (li-i).toNat b' a d i)
abbrev anf(b':List Int)(a:Int)(n:Int)(di:Int)(mo:Int)(d:Int)(li:Int)(i:Int):abl:=(b',a,n,mo,d)
abbrev aqH:abj→aZ:=sj (fun x_=>Gh x_.1 x_.2.1 x_.2.2.1 x_.2.2.2.1 x_.2.2.2.2.1 x_.2.2.2.2.2.1 x_.2.2.2.2.2.2.1 x_.2.2.2.2.2.2.2) (fun x_=>anc x_.1 x_.2.1 x_.2.2.1 x_.2.2.2.1 x_.2.2.2.2.1 x_.2.2.2.2.2.1 x_.2.2.2.2.2.2.1 x_.2.2.2.2.2.2.2) (fun x_=>ane x_.1 x_.2.1 x_.2.2.1 x_.2.2.2.1 x_.2.2.2.2.1 x_.2.2.2.2.2.1 x_.2.2.2.2.2.2.1 x_.2.2.2.2.2.2.2) (fun x_=>anf x_.1 x_.2.1 x_.2.2.1 x_.2.2.2.1 x_.2.2.2.2.1 x_.2.2.2.2.2.1 x_.2.2.2.2.2.2.1 x_.2.2.2.2.2.2.2) ak4 ak5
theorem ang(b':List Int)(a:Int)(n:Int)(di:Int)(mo:Int)(d:Int)(li:Int)(i:Int)(h_:Gh b' a n di mo d li i):dO (fun x_:abj=>abm x_.1 x_.2.1 x_.2.2.1 x_.2.2.2.1 x_.2.2.2.2.1 x_.2.2.2.2.2.1 x_.2.2.2.2.2.2.1 x_.2.2.2.2.2.2.2) (b',a,n,di,mo,d,li,i) (bif anc b' a n di mo d li i then .inl (ane b' a n di mo d li i)else .inr (anf b' a n di mo d li i)):=by
 delta anc ane anf;obtain⟨h1,h2,h3,h4,h5,h6⟩:=h_;obtain⟨k,hk⟩:∃k:Nat,(li-i).toNat=k:=⟨_,rfl⟩;rw[hk]
 induction k generalizing i with
 |zero=>
  refine .stop ?_;have e:decide (jP 0 b' a d i<li)=false:=decide_eq_false (by show ¬i<li;omega);rw[e];simp only[abm,bl,ao,aq];exact⟨fun h=>by omega,fun _=>rfl⟩
 |succ k ih=>
  have w1:i64.wrap (a+i)=a+i:=ax (by omega) (by omega);have w2:i64.wrap (a+i-d)=a+i-d:=ax (by omega) (by omega);have w3:i64.wrap (i+1)=i+1:=ax (by omega) (by omega);rw[jP]
  by_cases he:b'.getD (a+i).toNat 0=b'.getD (a+i-d).toNat 0
  ·rw[if_pos he];refine .go ?_ (ih (i+1) (by omega) (by omega) (by omega));simp only[abm,bl,ao,aq,mg,w1,w2,w3];exact⟨fun _=>⟨⟨by omega,by omega⟩,⟨by omega,by omega⟩,fun _=>trivial,fun h=>absurd he h⟩,fun h=>by omega⟩
  ·rw[if_neg he];refine .stop ?_;have e:decide (i<li)=true:=(by simp;omega);rw[e];simp only[abm,bl,ao,aq,mg,w1,w2,w3];exact⟨fun _=>⟨⟨by omega,by omega⟩,⟨by omega,by omega⟩,fun h=>absurd h he,fun _=>rfl⟩,fun h=>by omega⟩
theorem ahk(b:List Int)(at_:Int):∀x:abj,Ex Tryz.prog ((ag).wr (())) (.loop (aV f129 2)) (ahj.wr x) (aqH x):=
 du mixed aE (ws:=aqG) (aO.nil _) (fun x_=>abn b at_ x_.1 x_.2.1 x_.2.2.1 x_.2.2.2.1 x_.2.2.2.2.1 x_.2.2.2.2.2.1 x_.2.2.2.2.2.2.1 x_.2.2.2.2.2.2.2) (fun z=>by cases z<;>(intro e;cases e)) wy (fun x_ h=>ang x_.1 x_.2.1 x_.2.2.1 x_.2.2.2.1 x_.2.2.2.2.1 x_.2.2.2.2.2.1 x_.2.2.2.2.2.2.1 x_.2.2.2.2.2.2.2 h)
abbrev abo:Type:=(List Int)×Int×Int×Int×Int
abbrev ahl:aW St abo:=(bD (ae (ah (e9 false false (Ty.int IntKind.u8))) (ae (ah (ay i64)) (jk 2 (ae (ah
 (ay i64)) (jk 1 (ae (ah (ay i64)) (ae (ah (ay i64)) (jk 75 ag)))))))) ag).nH (fun y=>(y.1.1,y.1.2.1,
 y.1.2.2.1,y.1.2.2.2.1,y.1.2.2.2.2.1)) (fun x=>((x.1,(x.2.1,(x.2.2.1,(x.2.2.2.1,(x.2.2.2.2,()))))),())) (fun _=>rfl)
abbrev aqI:List Wk:= [.fr (dK 83 [(0,.an),(1,.an),(4,.an),(6,.an),(7,.an)]),.syms,.auto,.aN]
abbrev aqJ:Exit→List Wk:=Di aqI 4 [.fr (dK 83 [(0,.an),(1,.an),(4,.an),(6,.an),(7,.an)]),.syms,.auto,.aN] [.fr (dK
 83 [(4,.an),(5,.an)]),.syms,.auto,.aN]
abbrev anh:Type:=(List Int)×Int×Int×Int×Int
abbrev aqK(x:anh):Exit×St:=(Exit.exit 4,⟨(LV.one (VV.sc (SV.rd false false (Ty.int IntKind.u8) x.1))::(LV.one (VV.sc
 (SV.int i64 (SI.sym x.2.1)))::(jK 2 (LV.one (VV.sc (SV.int i64 (SI.sym x.2.2.1)))::(jK 1 (LV.one (VV.sc (SV.int i64
 (SI.sym x.2.2.2.1)))::(LV.one (VV.sc (SV.int i64 (SI.sym x.2.2.2.2)))::(jK 75 [])))))))),[]⟩)
def abp(b':List Int)(a:Int)(n:Int)(mo:Int)(d:Int):Tr (abo⊕(anh)):=(.ite (decide (n<mo)==true) (.need (0≤
 i64.wrap (a+n)∧i64.wrap (a+n)<(↑b'.length:Int)) (.need (0≤i64.wrap (i64.wrap (a+n)-d)∧
 i64.wrap (i64.wrap (a+n)-d)<(↑b'.length:Int)) (.ite (b'.getD (i64.wrap (a+n)).toNat 0==b'.getD (i64.wrap
 (i64.wrap (a+n)-d)).toNat 0) (.ret (.inl (b',a,i64.wrap (n+1),mo,d))) (.ret (.inr (b',a,n,mo,d)))))) (.ret (.inr (b',a,
 n,mo,d))))
theorem abq(b:List Int)(at_:Int)(b':List Int)(a:Int)(n:Int)(mo:Int)(d:Int):ee Tryz.prog [] [] f129 4 ((ag).wr (())) aqJ (ahl.wr (b',a,n,mo,d))=(abp b' a n mo d).res ahl.wr aqK:=by kernel_rfl
abbrev Gi(b':List Int)(a:Int)(n:Int)(mo:Int)(d:Int):Prop:=0≤n∧n≤mo∧a+mo≤b'.length∧1≤d∧d≤a∧b'.length<1099511627776
abbrev ani(b':List Int)(a:Int)(n:Int)(mo:Int)(d:Int):anh:=(b',a,jP (mo-n).toNat b' a d n,mo,d)
abbrev aqL:abo→aZ:=hY (fun x_=>Gi x_.1 x_.2.1 x_.2.2.1 x_.2.2.2.1 x_.2.2.2.2) (fun x_=>ani x_.1 x_.2.1 x_.2.2.1 x_.2.2.2.1 x_.2.2.2.2) aqK
theorem anj(b':List Int)(a:Int)(n:Int)(mo:Int)(d:Int)(h_:Gi b' a n mo d):dO (fun x_:abo=>abp x_.1 x_.2.1 x_.2.2.1 x_.2.2.2.1 x_.2.2.2.2) (b',a,n,mo,d) (ani b' a n mo d):=by
 delta ani;obtain⟨h1,h2,h3,h4,h5,h6⟩:=h_;obtain⟨k,hk⟩:∃k:Nat,(mo-n).toNat=k:=⟨_,rfl⟩;rw[hk]
 induction k generalizing n with
 |zero=>
  refine .stop ?_;have e:(decide (n<mo)==true)=false:=by simp;omega
  simp only[abp,e,cf,aq];rfl
 |succ k ih=>
  have w1:i64.wrap (a+n)=a+n:=ax (by omega) (by omega);have w2:i64.wrap (a+n-d)=a+n-d:=ax (by omega) (by omega);have w3:i64.wrap (n+1)=n+1:=ax (by omega) (by omega);have e:(decide (n<mo)==true)=true:=by simp;omega
  rw[jP]
  by_cases he:b'.getD (a+n).toNat 0=b'.getD (a+n-d).toNat 0
  ·rw[if_pos he];refine .go ?_ (ih (n+1) (by omega) (by omega) (by omega));simp only[abp,e,bx,ao,aq,fT,w1,w2,w3];exact⟨⟨by omega,by omega⟩,⟨by omega,by omega⟩,fun _=>trivial,fun h=>absurd he h⟩
  ·rw[if_neg he];refine .stop ?_;simp only[abp,e,bx,ao,aq,fT,w1,w2,w3];exact⟨⟨by omega,by omega⟩,⟨by omega,by omega⟩,fun h=>absurd h he,fun _=>trivial⟩
theorem ahm(b:List Int)(at_:Int):∀x:abo,Ex Tryz.prog ((ag).wr (())) (.loop (aV f129 4)) (ahl.wr x) (aqL x):=
 du mixed aE (ws:=aqJ) (aO.nil _) (fun x_=>abq b at_ x_.1 x_.2.1 x_.2.2.1 x_.2.2.2.1 x_.2.2.2.2) (fun z e=>by cases e) iH (fun x_ h=>anj x_.1 x_.2.1 x_.2.2.1 x_.2.2.2.1 x_.2.2.2.2 h)
def iu:Nat→List Int→Int→Nat→Int→Int→Int→Int×Int
 |0,_,_,_,_,n,di=>(n,di)
 |k+1,b,a,mo,d,n,di=>if n<jP mo b a d 0 then iu k b a mo (d+1) (jP mo b a d 0) d else iu k b a mo (d+1) n di
theorem Du:∀ (k:Nat) (b:List Int) (a:Int) (mo:Nat) (d n di:Int),(mo:Int)≤n→iu k b a mo d n di=(n,di)
 |0,_,_,_,_,_,_,_=>rfl
 |k+1,b,a,mo,d,n,di,h=>by
  have:=nb mo b a d 0;rw[iu,if_neg (by omega)];exact Du k b a mo (d+1) n di h
abbrev abr:Type:=(List Int)×Int×Int×Int×Int×Int
abbrev abt:aW St abr:=(bD (ae (ah (e9 false false (Ty.int IntKind.u8))) (ae (ah (ay i64)) (jk 2 (ae (ah
 (ay i64)) (ae (ah (ay i64)) (ae (ah (ay i64)) (ae (ah (ay i64)) (jk 75 ag)))))))) ag).nH
 (fun y=>(y.1.1,y.1.2.1,y.1.2.2.1,y.1.2.2.2.1,y.1.2.2.2.2.1,y.1.2.2.2.2.2.1)) (fun x=>((x.1,(x.2.1,(x.2.2.1,(x.2.2.2.1,(x.2.2.2.2.1,
 (x.2.2.2.2.2,())))))),())) (fun _=>rfl)
abbrev ank:List Wk:= [.fr (dK 83 [(0,.an),(1,.an),(4,.an),(5,.an),(6,.an),(7,.an)]),.syms,.auto,.aN]
abbrev aqM:Exit→List Wk:=Di ank 0 [.fr (dK 83 [(4,.an),(5,.an)]),.syms,.auto,.aN] [.fr (dK 83 [(4,.an),(5,.an)]),.syms,
 .auto,.aN]
abbrev anl:Type:=Int×Int
abbrev aqN(x:anl):Exit×St:=(Exit.exit 0,⟨(jK 4 (LV.one (VV.sc (SV.int i64 (SI.sym x.1)))::(LV.one (VV.sc (SV.int
 i64 (SI.sym x.2)))::(jK 77 [])))),[]⟩)
def VR(b':List Int)(a:Int)(n:Int)(di:Int)(mo:Int)(d:Int):Tr (abr⊕(anl)):=(.ite (decide (d≤if 4096<a then
 4096 else a)==true) (.ite (decide (n<mo)) (.need (Gh b' a n di mo d (i64.wrap (n+1)) 0) (.ite (decide (jP (Int.toNat
 (i64.wrap (n+1)-0)) b' a d 0<i64.wrap (n+1))) (.ret (.inl (b',a,n,di,mo,i64.wrap (d+1)))) (.need (Gi b' a
 (i64.wrap (n+1)) mo d) (.ret (.inl (b',a,jP (Int.toNat (mo-i64.wrap (n+1))) b' a d (i64.wrap (n+1)),d,mo,
 i64.wrap (d+1))))))) (.ret (.inr (n,di)))) (.ret (.inr (n,di))))
theorem abu(b:List Int)(at_:Int)(b':List Int)(a:Int)(n:Int)(di:Int)(mo:Int)(d:Int):ee Tryz.prog [] [(2,cV ahj ((ag).wr (())) aqF (aqH)),(4,cV ahl ((ag).wr (())) aqI (aqL))] f129 0 ((ag).wr (())) aqM (abt.wr (b',a,n,di,mo,d))=(VR b' a n di mo d).res abt.wr aqN:=by kernel_rfl
abbrev Gj(b':List Int)(a:Int)(n:Int)(di:Int)(mo:Int)(d:Int):Prop:=0≤n∧0≤mo∧a+mo≤b'.length∧1≤d∧0≤a∧b'.length<1099511627776∧d≤a+1
abbrev anm(b':List Int)(a:Int)(n:Int)(di:Int)(mo:Int)(d:Int):anl:=iu ((if 4096<a then 4096 else a)+1-d).toNat b' a mo.toNat d n di
abbrev ann:abr→aZ:=hY (fun x_=>Gj x_.1 x_.2.1 x_.2.2.1 x_.2.2.2.1 x_.2.2.2.2.1 x_.2.2.2.2.2) (fun x_=>anm x_.1 x_.2.1 x_.2.2.1 x_.2.2.2.1 x_.2.2.2.2.1 x_.2.2.2.2.2) aqN
theorem ano(b':List Int)(a:Int)(n:Int)(di:Int)(mo:Int)(d:Int)(h_:Gj b' a n di mo d):dO (fun x_:abr=>VR x_.1 x_.2.1 x_.2.2.1 x_.2.2.2.1 x_.2.2.2.2.1 x_.2.2.2.2.2) (b',a,n,di,mo,d) (anm b' a n di mo d):=by
 delta anm;obtain⟨h1,h2,h3,h4,h5,h6,h7⟩:=h_;obtain⟨k,hk⟩:∃k:Nat,((if 4096<a then 4096 else a)+1-d).toNat=k:=⟨_,rfl⟩;rw[hk]
 induction k generalizing n di d with
 |zero=>
  refine .stop ?_;have e:(decide (d≤if 4096<a then 4096 else a)==true)=false:=by simp;omega
  simp only[VR,e,cf,aq];rfl
 |succ k ih=>
  have hd:d≤if 4096<a then 4096 else a:=by omega
  have e:(decide (d≤if 4096<a then 4096 else a)==true)=true:=by simpa using hd
  have hda:d≤a:=by split at hd<;>omega
  by_cases hn:n<mo
  ·have e2:decide (n<mo)=true:=(by simpa using hn);have w1:i64.wrap (n+1)=n+1:=ax (by omega) (by omega);have w2:i64.wrap (d+1)=d+1:=ax (by omega) (by omega);obtain⟨r1,r2⟩:=nb (n+1).toNat b' a d 0;have hs:=Dt (n+1).toNat (mo-(n+1)).toNat b' a d 0;rw[show(n+1).toNat+(mo-(n+1)).toNat=mo.toNat from by omega,show(0:Int)+((n+1).toNat:Int)=n+1 from by omega]at hs;have hu:Int.toNat (n+1-0)=(n+1).toNat:=(by rw[Int.sub_zero]);have p2:Gh b' a n di mo d (n+1) 0:=⟨by omega,by omega,by omega,h4,hda,h6⟩;have p4:Gi b' a (n+1) mo d:=⟨by omega,by omega,h3,h4,hda,h6⟩;rw[iu]
   by_cases hc:jP (n+1).toNat b' a d 0<n+1
   ·rw[if_pos hc]at hs;rw[hs,if_neg (by omega)];refine .go ?_ (ih n di (d+1) h1 (by omega) (by omega) (by omega));simp only[VR,e,e2,bx,ao,bl,aq,w1,w2,hu];exact⟨p2,fun _=>trivial,fun h=>absurd hc h⟩
   ·rw[if_neg hc]at hs;obtain⟨r3,r4⟩:=nb (mo-(n+1)).toNat b' a d (n+1);rw[hs,if_pos (by omega)];refine .go ?_ (ih _ d (d+1) (by omega) (by omega) (by omega) (by omega));simp only[VR,e,e2,bx,ao,bl,aq,w1,w2,hu];exact⟨p2,fun h=>absurd h hc,fun _=>⟨p4,trivial⟩⟩
  ·have e2:decide (n<mo)=false:=(by simpa using hn);rw[Du _ _ _ _ _ _ _ (by omega)];refine .stop ?_;simp only[VR,e,e2,bx,cf,aq]
theorem ahn(b:List Int)(at_:Int):∀x:abr,Ex Tryz.prog ((ag).wr (())) (.loop (aV f129 0)) (abt.wr x) (ann x):=
 du mixed aE (ws:=aqM) (aO.inner (by kernel_rfl) (nJ (by kernel_rfl) (cJ (hp:=(ag).wr (())) (ahk b at_)) (nJ (by kernel_rfl) (cJ (hp:=(ag).wr (())) (ahm b at_)) oI))) (fun x_=>abu b at_ x_.1 x_.2.1 x_.2.2.1 x_.2.2.2.1 x_.2.2.2.2.1 x_.2.2.2.2.2) (fun z e=>by cases e) iH (fun x_ h=>ano x_.1 x_.2.1 x_.2.2.1 x_.2.2.2.1 x_.2.2.2.2.1 x_.2.2.2.2.2 h)
def cz(b:List Int)(a:Int):Int×Int:=
 if a≤0∨b.length≤a then(0,0)
 else
  let s:=iu (if 4096<a then 4096 else a).toNat b a (if(b.length:Int)-a<257 then(b.length:Int)-a else 257).toNat 1 0 0
  if s.1<3 then(0,0)else s
def ra(b:List Int)(at_:Int):Int:=(↑b.length:Int)
def lO(b:List Int)(at_:Int):Int:=if i64.wrap (ra b at_-at_)<257 then i64.wrap (ra b at_-
 at_)else 257
def lP(b:List Int)(at_:Int):Int×Int:=iu (Int.toNat ((if 4096<at_ then 4096 else at_)+(1:Int)-1)) b at_
 (lO b at_).toNat 1 0 0
abbrev Gk:Type:=Int×Int
abbrev abv(x:Gk):LV:=LV.cT [VV.sc (SV.int i64 (SI.sym x.1)),VV.sc (SV.int i64 (SI.sym x.2))]
abbrev abw(x:Gk):List (Nat×Ev.Item):= []
def A8(b:List Int)(at_:Int):Tr (Gk):=(.ite (decide (at_<0)==false) (.ite (decide (ra b at_≤at_)) (.ret (0,
 0)) (.need (Gj b at_ 0 0 (lO b at_) 1) (.ite (decide ((lP b at_).fst<3)) (.ret (0,0)) (.ret ((lP b at_).fst,(lP b
 at_).snd))))) (.ret (0,0)))
theorem OD(b:List Int)(at_:Int):aT Tryz.prog [] [(0,cV abt ((ag).wr (())) ank (ann))] f129 ((bsA).wr (b,at_,())) ((ag).wr (())) [.fr [.sym],.syms,.auto,.aN]=(A8 b at_).end abv abw ((ag).wr (())):=by kernel_rfl
theorem VS(b:List Int)(at_:Int):aO Tryz.prog ((ag).wr (())) [(0,cV abt ((ag).wr (())) ank (ann))] (aG f129):=(aO.cU (nJ (by kernel_rfl) (cJ (hp:=(ag).wr (())) (ahn b at_)) oI))
abbrev uL(b:List Int)(at_:Int):Prop:=b.length<1099511627776∧at_<1099511627776
abbrev OE(b:List Int)(at_:Int):Gk:=cz b at_
def OF:ar:=dm [] (bsA) (ag) (fun x_ y_=>uL x_.1 x_.2.1) (fun x_ y_=>OE x_.1 x_.2.1) abv abw
theorem abx(b:List Int)(at_:Int)(h_:uL b at_):(A8 b at_).Is (OE b at_):=by
 delta OE;obtain⟨h1,h2⟩:=h_
 by_cases c1:at_<0
 ·have e:cz b at_=(0,0):=by unfold cz;rw[if_pos (by omega)]
  have e1:(decide (at_<0)==false)=false:=by simpa using c1
  rw[e];simp only[A8,e1,cf,aq]
 ·have e1:(decide (at_<0)==false)=true:=by simpa using c1
  have ea0:ra b at_=(b.length:Int):=rfl
  by_cases c2:(b.length:Int)≤at_
  ·have e:cz b at_=(0,0):=(by unfold cz;rw[if_pos (by omega)]);have e2:decide (ra b at_≤at_)=true:=(by rw[ea0];simpa using c2);rw[e];simp only[A8,e1,e2,bx,aq]
  ·have e2:decide (ra b at_≤at_)=false:=(by rw[ea0];simpa using c2);have w1:i64.wrap ((b.length:Int)-at_)=(b.length:Int)-at_:=ax (by omega) (by omega);have Ma:lO b at_=if(b.length:Int)-at_<257 then(b.length:Int)-at_ else 257:=by unfold lO;rw[ea0,w1]
   have hm:0≤lO b at_∧at_+lO b at_≤b.length:=(by rw[Ma];split<;>omega);have hp:Gj b at_ 0 0 (lO b at_) 1:=⟨by omega,hm.1,hm.2,by omega,by omega,h1,by omega⟩
   have ea3:lP b at_=iu (if 4096<at_ then 4096 else at_).toNat b at_ (lO b at_).toNat 1 0 0:=by
    unfold lP;rw[Int.add_sub_cancel]
   have e:cz b at_=if(lP b at_).1<3 then(0,0)else lP b at_:=by
    unfold cz
    by_cases c3:at_=0
    ·rw[if_pos (by omega)];have:lP b at_=(0,0):=(by rw[ea3,c3];rfl);rw[this];rfl
    ·rw[if_neg (by omega),ea3,Ma]
   rw[e];simp only[A8,e1,e2,bx,cf,ao,bl,aq];refine⟨hp,fun h=>?_,fun h=>?_⟩
   ·rw[if_pos h]
   ·rw[if_neg h]
theorem JW:OF.Ok Tryz.prog 129:=
 bY mixed aE func129 (by kernel_rfl) call129 (fun x_ y_=>VS x_.1 x_.2.1) (fun x_ y_=>OD x_.1 x_.2.1) (fun x_ y_ h=>abx x_.1 x_.2.1 h)
theorem sx:∀ (k:Nat) (b:List Int) (a:Int) (mo:Nat) (d n di:Int),0≤n→n≤mo→(n=0∨(1≤di∧di<d))→1≤d→
  0≤(iu k b a mo d n di).1∧(iu k b a mo d n di).1≤mo∧((iu k b a mo d n di).1=0∨(1≤(iu k b a mo d n di).2∧(iu k b a mo d n di).2<d+k))
 |0,_,_,_,_,_,_,h1,h2,h3,h4=>⟨h1,h2,by simpa [iu]using h3⟩
 |k+1,b,a,mo,d,n,di,h1,h2,h3,h4=>by
  obtain⟨r1,r2⟩:=nb mo b a d 0;rw[iu]
  split
  ·obtain⟨s1,s2,s3⟩:=sx k b a mo (d+1) (jP mo b a d 0) d (by omega) (by omega) (by omega) (by omega);exact⟨s1,s2,by omega⟩
  ·obtain⟨s1,s2,s3⟩:=sx k b a mo (d+1) n di h1 h2 (by omega) (by omega);exact⟨s1,s2,by omega⟩
theorem nV(b:List Int)(a:Int):cz b a=(0,0)∨(3≤(cz b a).1∧(cz b a).1≤257∧a+(cz b a).1≤b.length∧1≤(cz b a).2∧(cz b a).2≤a∧(cz b a).2≤4096):=by
 unfold cz
 split
 ·exact .inl rfl
 ·rename_i c;obtain⟨s1,s2,s3⟩:=sx (if 4096<a then 4096 else a).toNat b a (if(b.length:Int)-a<257 then(b.length:Int)-a else 257).toNat 1 0 0 (by omega) (by omega) (.inl rfl) (by omega);have H0:(((if(b.length:Int)-a<257 then(b.length:Int)-a else 257).toNat:Nat):Int)≤257∧a+(((if(b.length:Int)-a<257 then(b.length:Int)-a else 257).toNat:Nat):Int)≤b.length:=by split<;>omega
  have hk:((if 4096<a then 4096 else a).toNat:Int)≤a∧((if 4096<a then 4096 else a).toNat:Int)≤4096:=by split<;>omega
  simp only;generalize iu (if 4096<a then 4096 else a).toNat b a (if(b.length:Int)-a<257 then(b.length:Int)-a else 257).toNat 1 0 0=s at*;generalize (if(b.length:Int)-a<257 then(b.length:Int)-a else 257).toNat=mo at*;generalize (if 4096<a then 4096 else a).toNat=kk at*
  by_cases c2:s.1<3
  ·rw[if_pos c2];exact .inl rfl
  ·rw[if_neg c2];exact .inr ⟨by omega,by omega,by omega,by omega,by omega,by omega⟩
def eO:Nat→List Int→Int→List dc→List dc
 |0,_,_,out=>out
 |k+1,b,a,out=>
  if a<b.length then
   if 0<(cz b a).1 then eO k b (a+(cz b a).1) (out++ [((cz b a).1,(cz b a).2,0)])
   else eO k b (a+1) (out++ [(0,0,b.getD a.toNat 0)])
  else out
abbrev A9:Type:=(List Int)×Int×(List (Int×Int×Int))
abbrev Ba:aW St A9:=(bD (ae (ah (e9 false false (Ty.int IntKind.u8))) (jk 2 (ak (ah (tJ (0) (0))) (ae (ah
 (ay i64)) (jk 35 ag))))) (ae (eG (0) ((Ty.int i64).pair ((Ty.int i64).pair (Ty.int IntKind.u8)))) ag)).nH (fun y=>
 (y.1.1,y.1.2.1,y.2.1)) (fun x=>((x.1,(x.2.1,())),(x.2.2,()))) (fun _=>rfl)
abbrev OG:List Wk:= [.eW 3 nO,.fr (dK 40 [(0,.an),(3,.an),(4,.an)]),.syms,.auto,.aN]
abbrev aby:Exit→List Wk:=Di OG 0 [.eW 3 nO,.fr (dK 40 [(3,.an)]),.syms,.auto,.aN] [.eW 3 nO,.fr (dK 40 [(2,.an)]),
 .syms,.auto,.aN]
abbrev OH:Type:=List (Int×Int×Int)
abbrev abz(x:OH):Exit×St:=(Exit.exit 0,⟨(jK 3 (LV.one (VV.sc (SV.sl 0 0))::(jK 36 []))),[some (Item.own 0 ((Ty.int
 i64).pair ((Ty.int i64).pair (Ty.int IntKind.u8))) x)]⟩)
def Bb(b':List Int)(a:Int)(out:List (Int×Int×Int)):Tr (A9⊕(OH)):=(.ite (decide (a<(↑b'.length:Int)))
 (.need (0≤a∧a<(↑b'.length:Int)) (.need (uL b' a) (.ite (decide (0<(cz b' a).fst)) (.need ((out.length+1)*24≤70368744177664∧
 out.length+1≤70368744177664) (.need (jL ((cz b' a).fst,(cz b' a).snd,0)) (.ret (.inl (b',i64.wrap (a+bG ((cz b'
 a).fst,(cz b' a).snd,0)),out++ [((cz b' a).fst,(cz b' a).snd,0)]))))) (.need ((out.length+1)*24≤70368744177664∧out.length+1≤
 70368744177664) (.need (jL (0,0,b'.getD a.toNat 0)) (.ret (.inl (b',i64.wrap (a+1),out++ [(0,0,b'.getD a.toNat 0)])))))))) (.ret
 (.inr (out))))
theorem OI(b:List Int)(b':List Int)(a:Int)(out:List (Int×Int×Int)):ee Tryz.prog [(129,OF),(130,wF)] [] f75 0 ((ag).wr (())) aby (Ba.wr (b',a,out))=(Bb b' a out).res Ba.wr abz:=by kernel_rfl
abbrev Bc(b':List Int)(a:Int)(out:List (Int×Int×Int)):Prop:=0≤a∧a≤b'.length∧b'.length≤8192∧out.length≤a
abbrev OJ(b':List Int)(a:Int)(out:List (Int×Int×Int)):OH:=eO 9000 b' a out
abbrev OK:A9→aZ:=hY (fun x_=>Bc x_.1 x_.2.1 x_.2.2) (fun x_=>OJ x_.1 x_.2.1 x_.2.2) abz
theorem abA(b':List Int)(a:Int)(out:List (Int×Int×Int))(h_:Bc b' a out):dO (fun x_:A9=>Bb x_.1 x_.2.1 x_.2.2) (b',a,out) (OJ b' a out):=by
 delta OJ;obtain⟨h1,h2,h3,h4⟩:=h_;obtain⟨f,hf1,hf2⟩:∃f:Nat,f=9000∧((b'.length:Int)-a).toNat<f:=⟨9000,rfl,by omega⟩;rw[← hf1];clear hf1
 induction f generalizing a out with
 |zero=>omega
 |succ f ih=>
  rw[eO]
  by_cases hc:a<b'.length
  ·rw[if_pos hc];have hr:=nV b' a;have hp:uL b' a:=⟨by omega,by omega⟩
   by_cases hb:0<(cz b' a).1
   ·have hr2:=hr.resolve_left (fun h=>by rw[h]at hb;simp at hb);have hl:bG ((cz b' a).1,(cz b' a).2,0)=(cz b' a).1:=(by unfold bG;rw[if_neg (by simp only;omega)]);have w1:i64.wrap (a+(cz b' a).1)=a+(cz b' a).1:=ax (by omega) (by omega);rw[if_pos hb];refine .go ?_ (ih _ _ (by omega) (by omega) (by simp;omega) (by omega));simp only[Bb,bl,ao,aq,hl,w1];exact⟨fun _=>⟨⟨h1,hc⟩,hp,fun _=>⟨⟨by omega,by omega⟩,trivial,trivial⟩,fun h=>absurd hb h⟩,fun h=>absurd hc h⟩
   ·have w1:i64.wrap (a+1)=a+1:=ax (by omega) (by omega);rw[if_neg hb];refine .go ?_ (ih _ _ (by omega) (by omega) (by simp;omega) (by omega));simp only[Bb,bl,ao,aq,w1];exact⟨fun _=>⟨⟨h1,hc⟩,hp,fun h=>absurd h hb,fun _=>⟨⟨by omega,by omega⟩,trivial,trivial⟩⟩,fun h=>absurd hc h⟩
  ·rw[if_neg hc];refine .stop ?_;simp only[Bb,bl,ao,aq];exact⟨fun h=>absurd h hc,fun _=>trivial⟩
theorem VT(b:List Int):∀x:A9,Ex Tryz.prog ((ag).wr (())) (.loop (aV f75 0)) (Ba.wr x) (OK x):=
 du mixed ((aj JW (aj pA aE))) (ws:=aby) (aO.nil _) (fun x_=>OI b x_.1 x_.2.1 x_.2.2) (fun z e=>by cases e) iH (fun x_ h=>abA x_.1 x_.2.1 x_.2.2 h)
abbrev yJ:Type:=Unit
abbrev Sw(x:yJ):LV:=LV.one (VV.sc (SV.g9 (Value.slice none 0 0)))
abbrev Sx(x:yJ):List (Nat×Ev.Item):= []
abbrev yK:Type:=List (Int×Int×Int)
abbrev Sz(x:yK):LV:=LV.one (VV.sc (SV.sl 0 0))
abbrev SA(x:yK):List (Nat×Ev.Item):= [(0,Item.own 0 ((Ty.int i64).pair ((Ty.int i64).pair (Ty.int
 IntKind.u8))) x)]
def Gl(b:List Int):Tr (yJ⊕yK):=(.ite (decide (8192<(↑b.length:Int))) (.ret (.inl ())) (.need (Bc b 0 [])
 (.ret (.inr (eO 9000 b 0 [])))))
theorem OL(b:List Int):aT Tryz.prog [(129,OF),(130,wF)] [(0,cV Ba ((ag).wr (())) OG (OK))] f75 (((ae (ah (e9 false false u8)) ag)).wr (b,())) ((ag).wr (())) [.eW 2 nO,.eW 3 nO,.fr [.sym],.syms,.auto,.aN]=(Gl b).end (Sum.elim Sw Sz) (Sum.elim Sx SA) ((ag).wr (())):=by kernel_rfl
theorem VU(b:List Int):aO Tryz.prog ((ag).wr (())) [(0,cV Ba ((ag).wr (())) OG (OK))] (aG f75):=(aO.cU (nJ (by kernel_rfl) (cJ (hp:=(ag).wr (())) (VT b)) oI))
abbrev uM(b:List Int):Prop:=True
abbrev Gm(b:List Int):Bool:=decide (8192<(b.length:Int))
abbrev OM(b:List Int):yJ:=()
abbrev ON(b:List Int):yK:=eO 9000 b 0 []
def abB:ar:=Ab [] ((ae (ah (e9 false false u8)) ag)) (ag) (fun x_ y_=>uM x_.1) (fun x_ y_=>Gm x_.1) (fun x_ y_=>OM x_.1) (fun x_ y_=>ON x_.1) Sw Sx Sz SA
theorem abC(b:List Int)(h_:uM b):(Gm b=true→(Gl b).Is (.inl (OM b)))∧(Gm b=false→(Gl b).Is (.inr (ON b))):=by
 delta Gm OM ON;simp only[Gl,ao,bl,aq,decide_eq_true_eq,decide_eq_false_iff_not];refine⟨fun h=>⟨fun _=>trivial,fun h2=>absurd h h2⟩,fun h=>⟨fun h2=>absurd h2 h,fun _=>⟨⟨by omega,by omega,by omega,by simp⟩,trivial⟩⟩⟩
theorem abD:abB.Ok Tryz.prog 75:=
 wx mixed ((aj JW (aj pA aE))) func75 (by kernel_rfl) call75 (fun x_ y_=>VU x_.1) (fun x_ y_=>OL x_.1) (fun x_ y_ h=>abC x_.1 h)
theorem pM{b:List Int}(hb:al b)(hl:b.length≤8192):∀ (k:Nat) (a:Int) (out:List dc),0≤a→a≤b.length→((b.length:Int)-a).toNat<k→bE 0 out=true→cj out=a→uh out→(out.length:Int)≤a→
  bE 0 (eO k b a out)=true∧cj (eO k b a out)=b.length∧uh (eO k b a out)∧(eO k b a out).length≤b.length
 |0,a,out,h1,h2,h3,_,_,_,_=>by omega
 |k+1,a,out,h1,h2,h3,h4,h5,h6,h7=>by
  rw[eO]
  split
  ·rename_i hc
   split
   ·rename_i hn;have hr:=(nV b a).resolve_left (fun h=>by rw[h]at hn;simp at hn);have ak6:bG ((cz b a).1,(cz b a).2,0)=(cz b a).1:=by unfold bG;rw[if_neg (by simp only;omega)]
    have OB:kt ((cz b a).1,(cz b a).2,0) a=true:=by
     unfold kt;rw[if_neg (by simp only;omega)];simp;omega
    refine pM hb hl k _ _ (by omega) (by omega) (by omega) ?_ ?_ ?_ (by simp;omega)
    ·rw[gB,h4,h5,Int.zero_add,bE,bE,OB,ak6];simp;omega
    ·rw[gA,h5];simp[cj,ak6]
    ·intro t ht;rw[List.mem_append]at ht;rcases ht with ht|ht
     ·exact h6 t ht
     ·have:t=((cz b a).1,(cz b a).2,0):=(by simpa using ht);rw[this];simp
   ·refine pM hb hl k _ _ (by omega) (by omega) (by omega) ?_ ?_ ?_ (by simp;omega)
    ·rw[gB,h4,h5,Int.zero_add,bE,bE];simp[kt,bG];omega
    ·rw[gA,h5];simp[cj,bG]
    ·intro t ht;rw[List.mem_append]at ht;rcases ht with ht|ht
     ·exact h6 t ht
     ·have:t=(0,0,b.getD a.toNat 0):=(by simpa using ht);rw[this];exact hb.getD _
  ·rename_i hc;exact⟨h4,by omega,h6,by omega⟩
def gH(b:List Int):Int×List Int:=
 if 8192<(b.length:Int)then(10,[])else if 4096<((ef (eO 9000 b 0 [])).length:Int)then(10,[])else(0,ef (eO 9000 b 0 []))
abbrev yL:Type:=Int
abbrev SC(x:yL):LV:=LV.cT [VV.sc (SV.g9 (Value.slice none 0 0)),VV.sc (SV.int i64 (SI.sym x))]
abbrev SD(x:yL):List (Nat×Ev.Item):= []
abbrev yM:Type:=(List Int)×Int
abbrev SE(x:yM):LV:=LV.cT [VV.sc (SV.rd true false (Ty.int IntKind.u8) x.1),VV.sc (SV.int i64 (SI.sym x.2))]
abbrev SF(x:yM):List (Nat×Ev.Item):= []
def wU(b:List Int):Tr (yL⊕yM):=(.ite (decide (8192<(↑b.length:Int))) (.ret (.inl (10))) (.ite (decide (8192<
 (↑b.length:Int))) (.need (uM b) (.need (kU []) (.ite (decide ((4096:Int)<4)) (.ret (.inl (10))) (.ret (.inr (ef [],0)))))) (.need
 (uM b) (.need (kU (eO 9000 b 0 [])) (.ite (decide (4096<(↑(ef (eO 9000 b 0 [])).length:Int))) (.ret (.inl (10))) (.ret (.inr
 (ef (eO 9000 b 0 []),0))))))))
theorem OO(b:List Int):aT Tryz.prog [(75,abB),(74,NL)] [] f35 (((ae (ah (e9 false false u8)) ag)).wr (b,())) ((ag).wr (())) [.fr [.sym],.syms,.auto,.aN]=(wU b).end (Sum.elim SC SE) (Sum.elim SD SF) ((ag).wr (())):=by kernel_rfl
theorem VW(b:List Int):aO Tryz.prog ((ag).wr (())) [] (aG f35):=(aO.nil _)
abbrev pN(b:List Int):Prop:=al b∧b.length<1099511627776
abbrev Gn(b:List Int):Bool:=decide ((gH b).1≠0)
abbrev OP(b:List Int):yL:=(gH b).1
abbrev OQ(b:List Int):yM:=((gH b).2,0)
def abE:ar:=Ab [some u8] ((ae (ah (e9 false false u8)) ag)) (ag) (fun x_ y_=>pN x_.1) (fun x_ y_=>Gn x_.1) (fun x_ y_=>OP x_.1) (fun x_ y_=>OQ x_.1) SC SD SE SF
theorem abF(b:List Int)(h_:pN b):(Gn b=true→(wU b).Is (.inl (OP b)))∧(Gn b=false→(wU b).Is (.inr (OQ b))):=by
 delta Gn OP OQ;obtain⟨h1,h2⟩:=h_
 by_cases c:8192<(b.length:Int)
 ·have e:gH b=(10,[]):=by unfold gH;rw[if_pos c]
  have e1:decide (8192<(b.length:Int))=true:=by simpa using c
  simp only[e,wU,e1,bx,aq];simp
 ·obtain⟨k1,k2,k3,k4⟩:=pM h1 (by omega) 9000 0 [] (by omega) (by omega) (by omega) rfl rfl (fun t h=>by simp at h) (by simp);have e1:decide (8192<(b.length:Int))=false:=by simpa using c
  have p1:kU (eO 9000 b 0 []):=⟨by omega,k3⟩
  by_cases c2:4096<((ef (eO 9000 b 0 [])).length:Int)
  ·have e:gH b=(10,[]):=(by unfold gH;rw[if_neg c,if_pos c2]);have e2:decide (4096<((ef (eO 9000 b 0 [])).length:Int))=true:=(by simpa using c2);simp only[e,wU,e1,e2,bx,cf,ao,aq];simp;exact p1
  ·have e:gH b=(0,ef (eO 9000 b 0 [])):=(by unfold gH;rw[if_neg c,if_neg c2]);have e2:decide (4096<((ef (eO 9000 b 0 [])).length:Int))=false:=(by simpa using c2);simp only[e,wU,e1,e2,bx,cf,ao,aq];simp;exact p1
theorem abG:abE.Ok Tryz.prog 35:=
 wx mixed ((aj abD (aj Jl aE))) func35 (by kernel_rfl) call35 (fun x_ y_=>VW x_.1) (fun x_ y_=>OO x_.1) (fun x_ y_ h=>abF x_.1 h)
def alike(b:List Int)(a d n:Int):Prop:=∀j,0≤j→j<n→b.getD (a+j).toNat 0=b.getD (a+j-d).toNat 0
theorem Dv:∀ (k:Nat) (b:List Int) (a d n:Int),alike b a d n→alike b a d (jP k b a d n)
 |0,_,_,_,_,h=>h
 |k+1,b,a,d,n,h=>by
  rw[jP]
  split
  ·rename_i e;refine Dv k b a d (n+1) fun j h1 h2=>?_
   by_cases hj:j=n
   ·rw[hj];exact e
   ·exact h j h1 (by omega)
  ·exact h
theorem sy:∀ (k:Nat) (b:List Int) (a:Int) (mo:Nat) (d n di:Int),alike b a di n→alike b a (iu k b a mo d n di).2 (iu k b a mo d n di).1
 |0,_,_,_,_,_,_,h=>h
 |k+1,b,a,mo,d,n,di,h=>by
  rw[iu]
  split
  ·exact sy k b a mo (d+1) _ d (Dv mo b a d 0 fun j h1 h2=>by omega)
  ·exact sy k b a mo (d+1) n di h
theorem OR(b:List Int)(a:Int):alike b a (cz b a).2 (cz b a).1:=by
 have h0:alike b a 0 0:=fun j h1 h2=>by omega
 have key:∀s:Int×Int,alike b a s.2 s.1→alike b a (if s.1<3 then((0,0):Int×Int)else s).2 (if s.1<3 then((0,0):Int×Int)else s).1:=fun s h=>by
  split
  ·exact h0
  ·exact h
 unfold cz
 by_cases c:a≤0∨b.length≤a
 ·rw[if_pos c];exact h0
 ·rw[if_neg c];exact key _ (sy _ _ _ _ _ _ _ h0)
theorem mr:∀ (l m:List dc) (o:List Int),eN o (l++m)=eN (eN o l) m
 | [],_,_=>rfl
 |t::l,m,o=>by rw[List.cons_append,eN,eN,mr l m]
theorem Dw{b:List Int}{m:Nat}(h:m<b.length):b.take m++ [b.getD m 0]=b.take (m+1):=by
 rw[List.take_add_one,List.getD_eq_getElem?_getD,List.getElem?_eq_getElem h];simp
theorem Dx(b:List Int)(d:Int):∀ (k m:Nat),1≤d→d≤m→m+k≤b.length→(∀j,j<k→b.getD (m+j) 0=b.getD ((m+j:Nat)-d).toNat 0)→rK k d (b.take m)=b.take (m+k)
 |0,m,_,_,_,_=>rfl
 |k+1,m,h1,h2,h3,h4=>by
  have hl:(b.take m).length=m:=by rw[List.length_take];omega
  have e:(b.take m).getD (((b.take m).length:Int)-d).toNat 0=b.getD m 0:=by
   have h40:=h4 0 (by omega);rw[Nat.add_zero]at h40;rw[hl,h40,List.getD_eq_getElem?_getD,List.getD_eq_getElem?_getD,List.getElem?_take,if_pos (by omega)]
  rw[rK,e,Dw (by omega),Dx b d k (m+1) h1 (by omega) (by omega) (fun j hj=>by
   have:=h4 (j+1) (by omega);rw[show m+1+j=m+(j+1)from by omega];exact this),show m+1+k=m+(k+1)from by omega]
theorem pO{b:List Int}:∀ (k:Nat) (a:Int) (out:List dc),0≤a→a≤b.length→((b.length:Int)-a).toNat<k→eN [] out=b.take a.toNat→eN [] (eO k b a out)=b
 |0,a,out,h1,h2,h3,_=>by omega
 |k+1,a,out,h1,h2,h3,h4=>by
  rw[eO]
  split
  ·rename_i hc
   split
   ·rename_i hn;have hr:=(nV b a).resolve_left (fun h=>by rw[h]at hn;simp at hn);have ha:=OR b a;generalize cz b a=s at*;refine pO k _ _ (by omega) (by omega) (by omega) ?_;rw[mr,h4,eN,eN,Fl,if_neg (by simp only;omega)];simp only
    rw[Dx b s.2 s.1.toNat a.toNat (by omega) (by omega) (by omega) (fun j hj=>by
     have:=ha j (by omega) (by omega);rw[show(a+(j:Int)).toNat=a.toNat+j from by omega]at this;rw[this];congr 1;omega)]
    congr 1;omega
   ·refine pO k _ _ (by omega) (by omega) (by omega) ?_;rw[mr,h4,eN,eN,Fl,if_pos rfl];simp only;rw[Dw (by omega)]
    congr 1;omega
  ·rename_i hc;rw[h4];exact List.take_of_length_le (by omega)
theorem wV{b:List Int}(hb:al b)(h:(gH b).1=0):(cn (gH b).2 b.length).1=0∧nP (cn (gH b).2 b.length).2=b∧4≤(gH b).2.length∧(gH b).2.length≤4096∧b.length≤8192∧al (gH b).2:=by
 unfold gH at*
 split at h
 ·cases h
 ·rename_i c;rw[if_neg c]
  split at h
  ·cases h
  ·rename_i c2;rw[if_neg c2];obtain⟨k1,k2,k3,k4⟩:=pM hb (by omega) 9000 0 [] (by omega) (by omega) (by omega) rfl rfl (fun t h=>by simp at h) (by simp);have kp:=pO (b:=b) 9000 0 [] (by omega) (by omega) (by omega) rfl;simp only;generalize eO 9000 b 0 []=l at*;have hu:=JV k1 k3;rw[k2]at hu;rw[hu];have ok:=uk l FD NJ (by simp;omega);have ep:ef l=(fH l ([1024,1024],0) (ca 8) (ca 8) (ca 6) 4294967295 [0,0,0,0]).2:=(by unfold ef;rw[if_pos k1]);have x6:=uK l FD abi (by simp;omega) (ef l);rw[← ep]at ok x6;have hw:=ok.1.1;have ahi:=x6 ⟨Nat.le_refl _,by rw[Nat.sub_self];simp,by rw[Nat.sub_self];simp;omega⟩;refine⟨rfl,?_,ahi.1,by omega,by omega,ok.1.2.2.1⟩;unfold nP;rw[if_pos k1];exact kp
def nW(k:Nat)(w:Int)(o:List Int):Prop:=4294967295*256 ^ o.length≤w*67 ^ k*4294967296
theorem rb{k:Nat}{w w1:Int}{o o1:List Int}(h:nW k w o)(hw:w≤w1*67)(hl:o1.length=o.length):nW (k+1) (c5 w1 o1).1 (c5 w1 o1).2:=by
 have hp:(0:Int)<67 ^ k:=Int.pow_pos (by decide)
 have h1:4294967295*256 ^ o1.length≤w1*67 ^ (k+1)*4294967296:=by
  unfold nW at h;rw[hl];refine Int.le_trans h (Int.mul_le_mul_of_nonneg_right ?_ (by decide));rw[Int.pow_succ,Int.mul_comm (67 ^ k),← Int.mul_assoc];exact Int.mul_le_mul_of_nonneg_right hw (Int.le_of_lt hp)
 unfold nW c5
 split
 ·simp only[List.length_append,List.length_cons,List.length_nil];rw[show o1.length+(0+1)=o1.length+1 from rfl,Int.pow_succ,← Int.mul_assoc,Int.mul_right_comm w1,Int.mul_right_comm _ 256];exact Int.mul_le_mul_of_nonneg_right h1 (by decide)
 ·exact h1
theorem Dy{k m:Nat}{w:Int}{o:List Int}(h:nW k w o)(hw:0≤w)(hk:k≤m):nW m w o:=by
 refine Int.le_trans h (Int.mul_le_mul_of_nonneg_right (Int.mul_le_mul_of_nonneg_left ?_ hw) (by decide));have:=Nat.pow_le_pow_right (n:=67) (by omega) hk
 exact_mod_cast this
theorem Dz{k:Nat}{p b w:Int}{o:List Int}(h:tU w o)(hw:nW k w o):nW (k+1) (bV p b w o).1 (bV p b w o).2:=by
 obtain⟨h1,h2,h3,h4⟩:=h;have hh:=hS p
 have hz:w≤(w/2048*bd p)*67∧w≤(w-w/2048*bd p)*67:=by
  generalize bd p=q at*;have e2:8192≤w/2048:=by omega
  have e3:w/2048*2048≤w∧w<w/2048*2048+2048:=by omega
  generalize w/2048=u at*;obtain⟨q1,q2⟩:=hh;have a1:u*31≤u*q:=Int.mul_le_mul_of_nonneg_left q1 (by omega);have a2:u*q≤u*2017:=Int.mul_le_mul_of_nonneg_left q2 (by omega);generalize u*q=z at*;omega
 unfold bV
 split
 ·exact rb hw hz.1 rfl
 ·exact rb hw hz.2 (b9 _ _ _)
theorem OS{k:Nat}{b w:Int}{o:List Int}(h:tU w o)(hw:nW k w o):nW (k+1) (cP b w o).1 (cP b w o).2:=by
 obtain⟨h1,h2,h3,h4⟩:=h;unfold cP
 split
 ·exact rb hw (by omega) rfl
 ·exact rb hw (by omega) (b9 _ _ _)
theorem nX:∀ (k n:Nat) (v node w:Int) (o p:List Int),tU w o→o.length+k<1099511627775→nW n w o→nW (n+k) (bC k v node w o p).1 (bC k v node w o p).2.1
 |0,_,_,_,_,_,_,_,_,h=>h
 |k+1,n,v,node,w,o,p,h,hl,hw=>by
  have c1:=mV (p:=kf p node) (b:=v/2 ^ k%2) h (by omega);have cl:=gV (kf p node) (v/2 ^ k%2) w o;have cw:=Dz (p:=kf p node) (b:=v/2 ^ k%2) h hw;have:=nX k (n+1) v (2*node+v/2 ^ k%2) _ _ (dA p node (v/2 ^ k%2)) c1 (by omega) cw;rw[bC,show n+(k+1)=n+1+k from by omega];exact this
theorem xT:∀ (k n:Nat) (v w:Int) (o:List Int),tU w o→o.length+k<1099511627775→nW n w o→nW (n+k) (cD k v w o).1 (cD k v w o).2
 |0,_,_,_,_,_,_,h=>h
 |k+1,n,v,w,o,h,hl,hw=>by
  have c1:=wB (b:=v/2 ^ k%2) h (by omega);have cl:=mW (v/2 ^ k%2) w o;have:=xT k (n+1) v _ _ c1 (by omega) (OS (b:=v/2 ^ k%2) h hw);rw[cD,show n+(k+1)=n+1+k from by omega];exact this
theorem abH(t:dc){n:Nat}{s:List Int×Int}{p1 p2 p3:List Int}{w:Int}{o:List Int}(hs:XY s p1 p2 p3)(h:tU w o)(hl:o.length+30<1099511627775)(hw:nW n w o):
  nW (n+(if t.1=0 then 9 else 21)) (lC t s p1 p2 p3 w o).2.2.2.2.1 (lC t s p1 p2 p3 w o).2.2.2.2.2:=by
 have c1:=mV (p:=s.1.getD s.2.toNat 0) (b:=if t.1=0 then 0 else 1) h (by omega);have cl:=gV (s.1.getD s.2.toNat 0) (if t.1=0 then 0 else 1) w o;have cw:=Dz (p:=s.1.getD s.2.toNat 0) (b:=if t.1=0 then 0 else 1) h hw;unfold lC;simp only;generalize bV (s.1.getD s.2.toNat 0) (if t.1=0 then 0 else 1) w o=c at*
 split
 ·rw[hs.l1];exact nX 8 (n+1) t.2.2 1 c.1 c.2 p1 c1 (by omega) cw
 ·rw[hs.l2,hs.l3];have t1:=nX 8 (n+1) (t.1-2) 1 c.1 c.2 p2 c1 (by omega) cw;have tl:=fG 8 (t.1-2) 1 c.1 c.2 p2 c1 (by omega);generalize bC 8 (t.1-2) 1 c.1 c.2 p2=x at*;have u1:=nX 6 (n+1+8) ((t.2.1-1)/64) 1 x.1 x.2.1 p3 tl.1 (by omega) t1;have ul:=fG 6 ((t.2.1-1)/64) 1 x.1 x.2.1 p3 tl.1 (by omega);generalize bC 6 ((t.2.1-1)/64) 1 x.1 x.2.1 p3=y at*;exact xT 6 (n+1+8+6) (t.2.1-1) y.1 y.2.1 ul.1 (by omega) u1
theorem DA:∀ (l:List dc) {n:Nat} {made:Int} {s:List Int×Int} {p1 p2 p3:List Int} {w:Int} {o:List Int},XY s p1 p2 p3→tU w o→o.length+21*l.length<1099500000000→nW n w o→(∀t∈l,t.1=0∨3≤t.1)→
  nW (n+9*(cj l).toNat) (fH l s p1 p2 p3 w o).1 (fH l s p1 p2 p3 w o).2
 | [],n,made,s,p1,p2,p3,w,o,hs,h,hl,hw,ht=>hw
 |t::l,n,made,s,p1,p2,p3,w,o,hs,h,hl,hw,ht=>by
  rw[List.length_cons]at hl;obtain⟨g1,g2,g3⟩:=AE (t:=t) hs h (by omega);have f1:=abH t hs h (by omega) hw
  have OC:∀l:List dc,(∀t∈l,t.1=0∨3≤t.1)→0≤cj l:=fun l=>by
   induction l with
   |nil=>intro _;simp[cj]
   |cons t l ih=>
    intro h;have:=ih fun t ht=>h t (List.mem_cons_of_mem _ ht);rw[cj]
    have:0≤bG t:=by
     unfold bG;rcases h t List.mem_cons_self with h'|h'
     ·rw[if_pos h'];omega
     ·rw[if_neg (by omega)];omega
    omega
  have Q5:=OC l fun t h=>ht t (List.mem_cons_of_mem _ h)
  have hk:(if t.1=0 then 9 else 21:Nat)≤9*(bG t).toNat∧0≤bG t:=by
   unfold bG;rcases ht t List.mem_cons_self with h'|h'
   ·rw[if_pos h',if_pos h'];omega
   ·rw[if_neg (by omega),if_neg (by omega)];omega
  have f2:=Dy (m:=n+9*(bG t).toNat) f1 (by have:=g2.1;omega) (by omega);have:=DA l (made:=made) g1 g2 (by omega) f2 fun t h=>ht t (List.mem_cons_of_mem _ h);rw[fH,cj,show n+9*(bG t+cj l).toNat=n+9*(bG t).toNat+9*(cj l).toNat from by omega];exact this
theorem sA{b:List Int}:∀ (k:Nat) (a:Int) (out:List dc),(∀t∈out,t.1=0∨3≤t.1)→∀t∈eO k b a out,t.1=0∨3≤t.1
 |0,a,out,h=>h
 |k+1,a,out,h=>by
  rw[eO]
  split
  ·split
   ·rename_i hn;have hr:=(nV b a).resolve_left (fun h=>by rw[h]at hn;simp at hn);refine sA k _ _ fun t ht=>?_;rw[List.mem_append]at ht;rcases ht with ht|ht
    ·exact h t ht
    ·have:t=((cz b a).1,(cz b a).2,0):=(by simpa using ht);rw[this];exact .inr hr.1
   ·refine sA k _ _ fun t ht=>?_;rw[List.mem_append]at ht;rcases ht with ht|ht
    ·exact h t ht
    ·have:t=(0,0,b.getD a.toNat 0):=(by simpa using ht);rw[this];exact .inl rfl
  ·exact h
def VX:Nat:=4500
def VY:Nat:=4097
theorem anp:(67:Int) ^ VX*4294967296<256 ^ VY:=by
 have h:(67:Nat) ^ VX*4294967296<256 ^ VY:=by decide+kernel
 have:=Int.ofNat_lt.2 h;rw[Int.natCast_mul,Int.natCast_pow,Int.natCast_pow]at this;exact this
theorem abI{b:List Int}(hb:al b)(h:b.length≤500):(gH b).1=0:=by
 unfold gH;rw[if_neg (by omega)];obtain⟨k1,k2,k3,k4⟩:=pM hb (by omega) 9000 0 [] (by omega) (by omega) (by omega) rfl rfl (fun t h=>by simp at h) (by simp);have kl:=sA (b:=b) 9000 0 [] (fun t h=>by simp at h);generalize eO 9000 b 0 []=l at*;have ok:=uk l FD NJ (by simp;omega);have ep:ef l=(fH l ([1024,1024],0) (ca 8) (ca 8) (ca 6) 4294967295 [0,0,0,0]).2:=by unfold ef;rw[if_pos k1]
 have hw:=DA l (n:=0) (made:=0) FD NJ (by simp;omega) (by unfold nW;decide) kl;rw[← ep]at ok hw;have hw2:=ok.1.2.1;have hw1:=ok.1.1;have hm:=Dy (m:=VX) hw (by omega) (by show _≤4500;omega);rw[if_neg];intro hc
 have h1:(4294967295:Int)*256 ^ (ef l).length≤4294967295*67 ^ VX*4294967296:=
  Int.le_trans hm (Int.mul_le_mul_of_nonneg_right (Int.mul_le_mul_of_nonneg_right (by omega) (Int.le_of_lt (Int.pow_pos (by decide)))) (by decide))
 have h2:(256:Int) ^ VY≤256 ^ (ef l).length:=by
  have h:=Int.ofNat_le.2 (Nat.pow_le_pow_right (n:=256) (by omega) (show VY≤(ef l).length by show 4097≤_;omega));rw[Int.natCast_pow,Int.natCast_pow]at h;exact h
 have h3:(4294967295:Int)*256 ^ VY≤4294967295*67 ^ VX*4294967296:=Int.le_trans (Int.mul_le_mul_of_nonneg_left h2 (by decide)) h1;have h4:=anp;generalize (256:Int) ^ VY=A at*;generalize (67:Int) ^ VX=B at*;omega
abbrev SG:Type:=List Int
abbrev ak7(x:SG):LV:=LV.one (VV.sc (SV.sl 0 0))
abbrev ak8(x:SG):List (Nat×Ev.Item):= [(0,Item.own 0 (Ty.int IntKind.u8) x)]
def abJ(n:Int):Tr (SG):=(.ret ([IntKind.u8.wrap n,IntKind.u8.wrap (shr i64 n 8)]))
theorem VZ(n:Int):aT Tryz.prog [] [] f76 ((inA).wr (n,())) ((ag).wr (())) [.fr [.sym],.syms,.auto,.aN]=(abJ n).end ak7 ak8 ((ag).wr (())):=by kernel_rfl
theorem abK(n:Int):aO Tryz.prog ((ag).wr (())) [] (aG f76):=(aO.nil _)
abbrev lQ(n:Int):Prop:=0≤n∧n<65536
abbrev abL(n:Int):SG:= [n%256,n/256]
def ak9:ar:=dm [] (inA) (ag) (fun x_ y_=>lQ x_.1) (fun x_ y_=>abL x_.1) ak7 ak8
theorem aho(n:Int)(h_:lQ n):(abJ n).Is (abL n):=by
 delta abL;obtain⟨h1,h2⟩:=h_
 have e:shr .i64 n 8=n/256:=by
  have:=ft .i64 n 8 (by decide);simpa using this
 simp only[abJ,aq,wrap_u8,e];rw[Int.emod_eq_of_lt (a:=n/256) (by omega) (by omega)]
theorem ahp:ak9.Ok Tryz.prog 76:=
 bY mixed aE func76 (by kernel_rfl) call76 (fun x_ y_=>abK x_.1) (fun x_ y_=>VZ x_.1) (fun x_ y_ h=>aho x_.1 h)
def aK(b:List Int):Int×List Int:=
 if b.length=0 then(1,[])else if(gH b).1≠0 then((gH b).1,[])
 else(0,[((gH b).2.length:Int)%256,((gH b).2.length:Int)/256,(b.length:Int)%256,(b.length:Int)/256]++(gH b).2)
theorem abM{b:List Int}(h:(gH b).1=0):b.length≤8192∧(gH b).2.length≤4096:=by
 unfold gH at*
 split at h
 ·cases h
 ·rename_i c;rw[if_neg c]
  split at h
  ·cases h
  ·rename_i c2;rw[if_neg c2];exact⟨by omega,by simp only;omega⟩
def gm(b:List Int):Int:=(↑b.length:Int)
def pP(b:List Int):Int:=(↑(gH b).snd.length:Int)
def uN(b:List Int):List Int:= [[pP b%256,pP b/256],[gm b%256,gm b/256],(gH
 b).snd].flatten
abbrev uO:Type:=Int
abbrev JX(x:uO):LV:=LV.cT [VV.sc (SV.g9 (Value.slice none 0 0)),VV.sc (SV.int i64 (SI.sym x))]
abbrev JY(x:uO):List (Nat×Ev.Item):= []
abbrev uP:Type:=Int×(List Int)
abbrev JZ(x:uP):LV:=LV.cT [VV.sc (SV.sl 0 0),VV.sc (SV.int i64 (SI.sym x.1))]
abbrev J0(x:uP):List (Nat×Ev.Item):= [(0,Item.own 0 (Ty.int IntKind.u8) x.2)]
def rf(b:List Int):Tr (uO⊕uP):=(.ite (gm b==0) (.ret (.inl (1))) (.ite (decide ¬(gH b).fst=0) (.need
 (pN b) (.ite ((gH b).fst !=0) (.ret (.inl ((gH b).fst))) (.need (lQ 0) (.need (lQ (gm b)) (.need (4≤70368744177664∧3≤
 140737488355328) (.ret (.inr (0,[[0,0],[gm b%256,gm b/256],[]].flatten)))))))) (.need (pN b) (.ite ((0:Int)!=0) (.ret
 (.inl (0))) (.need (lQ (pP b)) (.need (lQ (gm b)) (.need ((uN b).length≤70368744177664∧3≤140737488355328) (.ret (.inr
 (0,uN b))))))))))
theorem J2(b:List Int):aT Tryz.prog [(35,abE),(76,ak9),(42,F4)] [] f37 (((ae (ah (e9 false false u8)) ag)).wr (b,())) ((ag).wr (())) [.fr [.sym],.syms,.auto,.aN]=(rf b).end (Sum.elim JX JZ) (Sum.elim JY J0) ((ag).wr (())):=by kernel_rfl
theorem OT(b:List Int):aO Tryz.prog ((ag).wr (())) [] (aG f37):=(aO.nil _)
abbrev nc(b:List Int):Prop:=al b∧b.length<1099511627776
abbrev yN(b:List Int):Bool:=decide ((aK b).1≠0)
abbrev Gp(b:List Int):uO:=(aK b).1
abbrev Gq(b:List Int):uP:=(0,(aK b).2)
def Gr:ar:=Ab [some u8] ((ae (ah (e9 false false u8)) ag)) (ag) (fun x_ y_=>nc x_.1) (fun x_ y_=>yN x_.1) (fun x_ y_=>Gp x_.1) (fun x_ y_=>Gq x_.1) JX JY JZ J0
theorem V0(b:List Int)(h_:nc b):(yN b=true→(rf b).Is (.inl (Gp b)))∧(yN b=false→(rf b).Is (.inr (Gq b))):=by
 delta yN Gp Gq;obtain⟨h1,h2⟩:=h_;have p0:pN b:=⟨h1,h2⟩;have ea:gm b=(b.length:Int):=rfl;have Ma:pP b=((gH b).2.length:Int):=rfl
 by_cases c:b.length=0
 ·have e:aK b=(1,[]):=by unfold aK;rw[if_pos c]
  have e1:(gm b==0)=true:=by rw[ea,c];rfl
  simp only[e,rf,e1,bx,aq];simp
 ·have e1:(gm b==0)=false:=by rw[ea,beq_eq_false_iff_ne];omega
  by_cases c2:(gH b).1=0
  ·obtain⟨k1,k2⟩:=abM c2
   have e:aK b=(0,[((gH b).2.length:Int)%256,((gH b).2.length:Int)/256,(b.length:Int)%256,(b.length:Int)/256]++(gH b).2):=by
    unfold aK;rw[if_neg c,if_neg (by simpa using c2)]
   have e2:decide ¬(gH b).1=0=false:=(by simpa using c2);have e3:((0:Int)!=0)=false:=rfl
   have ea2:uN b= [((gH b).2.length:Int)%256,((gH b).2.length:Int)/256,(b.length:Int)%256,(b.length:Int)/256]++(gH b).2:=by
    unfold uN;rw[ea,Ma];simp
   have q1:lQ (pP b):=(by rw[Ma];exact⟨by omega,by omega⟩);have q2:lQ (gm b):=(by rw[ea];exact⟨by omega,by omega⟩);simp only[e,rf,e1,e2,e3,cf,bx,ao,aq];simp only[ea2];simp;exact⟨p0,q1,q2,by omega⟩
  ·have e:aK b=((gH b).1,[]):=(by unfold aK;rw[if_neg c,if_pos c2]);have e2:decide ¬(gH b).1=0=true:=(by simpa using c2);have e3:((gH b).1!=0)=true:=(by simpa using c2);simp only[e,rf,e1,e2,e3,cf,bx,ao,aq];simp[c2];exact p0
theorem DB:Gr.Ok Tryz.prog 37:=
 wx mixed ((aj abG (aj ahp (aj pG aE)))) func37 (by kernel_rfl) call37 (fun x_ y_=>OT x_.1) (fun x_ y_=>J2 x_.1) (fun x_ y_ h=>V0 x_.1 h)
def two(l:List Int)(i:Nat):Int:=bp .i64 (i64.wrap (l.getD i 0)) (shl .i64 (i64.wrap (l.getD (i+1) 0)) 8)
def eQ(l:List Int):Bool:=decide (1≤two l 0∧two l 0≤4096∧1≤two l 2∧two l 2≤8192)
def SH:ar:=ar.dx [some u8] bA ag fun x _=>.leaf (some (4≤x.1.length)) (.cT [.sc (.int .i64 (.sym (two x.1 0))),.sc (.int .i64 (.sym (two x.1 2))),.sc (.bool (.sym (eQ x.1)))]) []
theorem J3(l:List Int):aT Tryz.prog [] [] f156 (bA.wr (l,())) [] [.fr [.sym],.auto]=
 End.need ((0:Int)≤(0:Int)∧(0:Int)<(↑l.length:Int)) (End.need ((0:Int)≤(1:Int)∧(1:Int)<(↑l.length:Int)) (End.need ((0:Int)
 ≤(2:Int)∧(2:Int)<(↑l.length:Int)) (End.need ((0:Int)≤(3:Int)∧(3:Int)<(↑l.length:Int)) (End.ite (decide ((1:Int)≤bp
 i64 (i64.wrap (l.getD (0:Nat) (0:Int))) (shl i64 (i64.wrap (l.getD (1:Nat) (0:Int))) (8:Int)))==true)
 (End.ite (decide (bp i64 (i64.wrap (l.getD (0:Nat) (0:Int))) (shl i64 (i64.wrap (l.getD (1:Nat) (0:Int))) (8
 :Int))≤(4096:Int))==true) (End.ite (decide ((1:Int)≤bp i64 (i64.wrap (l.getD (2:Nat) (0:Int))) (shl i64
 (i64.wrap (l.getD (3:Nat) (0:Int))) (8:Int)))==true) (End.leaf (LV.cT [VV.sc (SV.int i64 (SI.sym (bp i64
 (i64.wrap (l.getD (0:Nat) (0:Int))) (shl i64 (i64.wrap (l.getD (1:Nat) (0:Int))) (8:Int))))),VV.sc (SV.int
 i64 (SI.sym (bp i64 (i64.wrap (l.getD (2:Nat) (0:Int))) (shl i64 (i64.wrap (l.getD (3:Nat) (0:Int)))
 (8:Int))))),VV.sc (SV.bool (SB.sym (decide (bp i64 (i64.wrap (l.getD (2:Nat) (0:Int))) (shl i64 (i64.wrap
 (l.getD (3:Nat) (0:Int))) (8:Int))≤(8192:Int)))))]) []) (End.leaf (LV.cT [VV.sc (SV.int i64 (SI.sym (bp i64
 (i64.wrap (l.getD (0:Nat) (0:Int))) (shl i64 (i64.wrap (l.getD (1:Nat) (0:Int))) (8:Int))))),VV.sc (SV.int
 i64 (SI.sym (bp i64 (i64.wrap (l.getD (2:Nat) (0:Int))) (shl i64 (i64.wrap (l.getD (3:Nat) (0:Int)))
 (8:Int))))),VV.sc (SV.bool (SB.sym false))]) [])) (End.leaf (LV.cT [VV.sc (SV.int i64 (SI.sym (bp i64 (i64.wrap (l.getD
 (0:Nat) (0:Int))) (shl i64 (i64.wrap (l.getD (1:Nat) (0:Int))) (8:Int))))),VV.sc (SV.int i64 (SI.sym (bp
 i64 (i64.wrap (l.getD (2:Nat) (0:Int))) (shl i64 (i64.wrap (l.getD (3:Nat) (0:Int))) (8:Int))))),VV.sc
 (SV.bool (SB.sym false))]) [])) (End.leaf (LV.cT [VV.sc (SV.int i64 (SI.sym (bp i64 (i64.wrap (l.getD (0:Nat) (0:Int)))
 (shl i64 (i64.wrap (l.getD (1:Nat) (0:Int))) (8:Int))))),VV.sc (SV.int i64 (SI.sym (bp i64 (i64.wrap
 (l.getD (2:Nat) (0:Int))) (shl i64 (i64.wrap (l.getD (3:Nat) (0:Int))) (8:Int))))),VV.sc (SV.bool (SB.sym false))]) []))))):=by kernel_rfl
theorem V1:SH.Ok Tryz.prog 156:=by
 refine(ar.br call156 fun x y Q h=>?_).sym;obtain⟨l,_⟩:=x;obtain⟨hl,hq⟩:=h;have hl:4≤l.length:=hl;refine(aA mixed aE func156 rfl (LT:= []) (ks:= [.fr [.sym],.auto]) (aO.nil _)).use (D:= []) ?_ hq;show(aT _ _ _ _ (bA.wr (l,())) [] _).sat _;rw[J3];have key:∀ {b:Bool},b=eQ l→LV.cT [.sc (.int .i64 (.sym (two l 0))),.sc (.int .i64 (.sym (two l 2))),.sc (.bool (.sym b))]=LV.cT [.sc (.int .i64 (.sym (two l 0))),.sc (.int .i64 (.sym (two l 2))),.sc (.bool (.sym (eQ l)))]:=fun h=>by rw[h]
 have e0:two l 0=bp .i64 (i64.wrap (l.getD 0 0)) (shl .i64 (i64.wrap (l.getD 1 0)) 8):=rfl;have e2:two l 2=bp .i64 (i64.wrap (l.getD 2 0)) (shl .i64 (i64.wrap (l.getD 3 0)) 8):=rfl;rw[← e0,← e2];refine⟨by omega,by omega,by omega,by omega,fun h1=>⟨fun h2=>⟨fun h3=>⟨key ?_,rfl⟩,fun h3=>⟨key ?_,rfl⟩⟩,fun h2=>⟨key ?_,rfl⟩⟩,fun h1=>⟨key ?_,rfl⟩⟩<;>simp_all[eQ]<;>omega
def SJ(n:Nat):List Int:=List.replicate n 0
def dW:List Int→Int
 | []=>0
 |x::l=>u64.wrap (u64.wrap (dW l*256)+u64.wrap x)
theorem ahq(bs:ByteArray):∀ (k i:Nat) (r:List UInt8),bs.size-i=k→ByteArray.toList.loop bs i r=r.reverse++bs.data.toList.drop i:=by
 intro k
 induction k with
 |zero=>
  intro i r h;unfold ByteArray.toList.loop;rw[if_neg (by omega),List.drop_eq_nil_of_le (by simp;exact Nat.sub_eq_zero_iff_le.1 h)];simp
 |succ k ih=>
  intro i r h;unfold ByteArray.toList.loop;have hi:i<bs.size:=by omega
  have ye:i<bs.data.toList.length:=by simpa using hi
  rw[if_pos hi,ih (i+1) _ (by omega),List.drop_eq_getElem_cons ye]
  have:bs.get! i=bs.data.toList[i]:=by
   cases bs with|mk d=>simp[ByteArray.get!,ByteArray.size]at*;exact getElem!_pos d i hi
  rw[this];simp
theorem V2(bs:ByteArray):bs.toList=bs.data.toList:=by
 unfold ByteArray.toList;rw[ahq bs _ 0 [] rfl];simp
theorem xU(l:List Int):(strOf l).toList.length=l.length:=by
 rw[V2];simp[strOf]
theorem DC{l m:List Int}(h:fD l m=true):l.length=m.length:=by
 unfold fD at h;have:=congrArg List.length (beq_iff_eq.1 h);rwa [xU,xU]at this
theorem ia:∀ {l:List Int},al l→l.length≤8→0≤dW l∧dW l<256 ^ l.length∧∀c,By c→l.length<8→dW (c::l)=dW l*256+c
 | [],_,_=>⟨by simp[dW],by simp[dW],fun c hc _=>by
  obtain⟨h0,h1⟩:=hc;simp only[dW];rw[wrap_u64 (n:=0*256) (by omega) (by omega),wrap_u64 (n:=c) (by omega) (by omega),wrap_u64 (by omega) (by omega)]⟩
 |x::l,hb,hl=>by
  simp only[List.length_cons]at hl;have hx:By x:=hb x (by simp);have j5:al l:=fun z hz=>hb z (by simp[hz]);obtain⟨h1,h2,h3⟩:=ia j5 (by omega);have e:=h3 x hx (by omega);obtain⟨ti,CZ⟩:=hx;have hp:(256:Int) ^ (l.length+1)=256 ^ l.length*256:=Int.pow_succ _ _;have eV:dW (x::l)<256 ^ (l.length+1):=by rw[e,hp];omega
  refine⟨by rw[e];omega,eV,fun c hc h8=>?_⟩;simp only[List.length_cons]at h8;obtain⟨XU,hc1⟩:=hc
  have hle:(256:Int) ^ (l.length+1)≤256 ^ 7:=by
   have:(256:Nat) ^ (l.length+1)≤256 ^ 7:=Nat.pow_le_pow_right (by omega) (by omega)
   exact_mod_cast this
  have h7:(256:Int) ^ 7=72057594037927936:=by decide
  have h0:0≤dW (x::l):=by rw[e];omega
  have hd:dW (c::x::l)=u64.wrap (u64.wrap (dW (x::l)*256)+u64.wrap c):=rfl;rw[hd,wrap_u64 (n:=dW (x::l)*256) (by omega) (by omega),wrap_u64 (n:=c) (by omega) (by omega),wrap_u64 (by omega) (by omega)]
theorem DD:∀ {l:List Int} {c:Int},al l→By c→l.length<8→dW (l++ [c])=dW l+c*256 ^ l.length
 | [],c,hb,hc,_=>by
  have:=(ia (l:= []) (fun _ h=>by simp at h) (by simp)).2.2 c hc (by simp);simp only[List.nil_append,List.length_nil,Int.pow_zero];rw[this];simp[dW]
 |x::l,c,hb,hc,h8=>by
  simp only[List.length_cons]at h8;have hx:By x:=hb x (by simp);have j5:al l:=fun z hz=>hb z (by simp[hz])
  have v9:al (l++ [c]):=fun z hz=>by
   rcases List.mem_append.1 hz with h|h
   ·exact j5 z h
   ·simp at h;subst h;exact hc
  have e1:=(ia v9 (by simp;omega)).2.2 x hx (by simp;omega);have e2:=(ia j5 (by omega)).2.2 x hx (by omega);rw[List.cons_append,e1,DD j5 hc (by omega),e2,List.length_cons,Int.pow_succ,Int.add_mul,Int.mul_assoc];omega
theorem ahr{l:List Int}(h:al l)(i:Nat):By (l.getD i 0):=by
 rw[List.getD_eq_getElem?_getD]
 cases he:l[i]? with
 |none=>exact⟨by simp,by simp⟩
 |some z=>exact h z (List.mem_of_getElem? he)
theorem anq{m:Nat}{x y:Int}(ti:0≤x)(hx:x%(2 ^ m:Nat)=0)(zy:0≤y)(hy:y<(2 ^ m:Nat))(h64:x+y<9223372036854775808):bp .i64 x y=x+y:=by
 unfold bp;have e:(2 ^ 64:Nat)=18446744073709551616:=by decide
 have h:=MU (n:=64) ti (by omega) hx zy hy (by omega);show i64.wrap ((BitVec.ofInt 64 x|||BitVec.ofInt 64 y).toNat:Int)=_;rw[h];exact ax (by omega) (by omega)
theorem head_range{l:List Int}(h:(aU l).2=true):1≤(aU l).1.2∧(aU l).1.2≤16:=by
 unfold aU at h ⊢
 split at h
 ·rename_i hc;rw[if_pos hc];have hlen:=DC hc.2;rw[hc.1]at hlen;simp only;unfold bN at hlen
  split at hlen
  ·rename_i hr;exact⟨hr.2.2.1,hr.2.2.2⟩
  ·simp at hlen
 ·cases h
theorem anr{l:List Int}{i:Nat}(h0:By (l.getD i 0))(h1:By (l.getD (i+1) 0)):two l i=l.getD i 0+256*l.getD (i+1) 0:=by
 unfold two;unfold By at h0 h1;generalize l.getD i 0=a at*;generalize l.getD (i+1) 0=b at*;rw[ax (by omega) (by omega),ax (by omega) (by omega)]
 have e1:shl .i64 b 8=b*256:=by
  have:=g6 .i64 b 8 (by simp[IntKind.bits]);rw[show((8:Nat):Int)=8 from rfl]at this;rw[this,ax (by omega) (by omega)];rfl
 rw[e1,iG,anq (m:=8) (by omega) (by omega) (by omega) (by omega) (by omega)];omega
def eR(b:List Int)(plain:Int):Int×List Int:=if(cn b plain).1≠0 then((cn b plain).1,[])else(0,nP (cn b plain).2)
theorem Gs{b:List Int}{plain:Int}:(cn b plain).2.length<1099511627776:=by
 unfold cn
 by_cases hp:plain<0∨8192<plain
 ·rw[if_pos hp];simp
 ·rw[if_neg hp];have k:=(gS 200000 plain 0 b (0,4294967295,4) r0H (ca 8) (ca 8) (ca 6) [] am7 (fun x h=>by simp at h) (by omega) (by simp)).2;have k:((iq b plain).1.length:Int)≤max plain 0:=k
  split
  ·simp only;omega
  ·simp
def J4(b:List Int):Int×List Int×Int:=
 if b.length<4 then(16,[],0)
 else if eQ b=false then(6,[],0)
 else if(b.length:Int)<4+two b 0 then(16,[],0)
 else if(eR ((b.drop 4).take (two b 0).toNat) (two b 2)).1≠0 then((eR ((b.drop 4).take (two b 0).toNat) (two b 2)).1,[],0)
 else(0,(eR ((b.drop 4).take (two b 0).toNat) (two b 2)).2,4+two b 0)
theorem ahs{b:List Int}(h:al b)(n m:Nat):al ((b.drop n).take m):=fun z hz=>h z (List.mem_of_mem_drop (List.mem_of_mem_take hz))
theorem abN{b:List Int}(h:eQ b=true):1≤two b 0∧two b 0≤4096:=by
 have:=of_decide_eq_true h;omega
abbrev uiC:aW (List LV) (Int×Int×Unit):=ae (ah (ay .u64)) (ae (ah (ay .i64)) ag)
abbrev u3C:aW (List LV) (Int×Int×Int×Unit):=ae (ah (ay .u64)) (ae (ah (ay .u64)) (ae (ah (ay .u64)) ag))
abbrev V3:aW (List LV) (Int×Int×Int×Int×Unit):=ae (ah (ay .u64)) (ae (ah (ay .i64)) (ae (ah (ay .i64)) (ae (ah (ay .i64)) ag)))
def SK(x k:Int):Int:=bp .u64 (shl .u64 x (bg .u64 (u64.wrap k) 63)) (shr .u64 x (u64.wrap (64-bg .u64 (u64.wrap k) 63)))
theorem ala(k:Int):bg .u64 (u64.wrap k) 63=k%64:=by
 rw[tK (m:=6) (by decide) _ _ (by decide),kG];exact Int.emod_emod_of_dvd _ (by decide)
def wW(x n:Int):Int:=bp .u64 (shl .u64 x (64-n)) (shr .u64 x n)
theorem abO{x n:Int}(h0:0<n)(h1:n<64):SK x (i64.wrap (0-n))=wW x n:=by
 unfold SK wW
 have e:bg .u64 (u64.wrap (i64.wrap (0-n))) 63=64-n:=by
  rw[ala,wrap_i64 (by omega) (by omega)];omega
 rw[e,wrap_u64 (by omega) (by omega),show(64:Int)-(64-n)=n from by omega]
def alb:ar:=ar.dx [] (uiC) (ag) fun x_ y_=>(fun(x k:Int)=>.leaf none (nU (SK x k)) []) x_.1 x_.2.1
theorem V4(x k:Int):aT Tryz.prog [] [] f320 ((uiC).wr (x,k,())) ((ag).wr ()) [.fr [.sym],.auto]=
 End.need ((0:Int)≤bg u64 (u64.wrap k) (63:Int)) (End.need ((0:Int)≤u64.wrap ((64:Int)-bg u64
 (u64.wrap k) (63:Int))) (End.leaf (LV.one (VV.sc (SV.int u64 (SI.sym (bp u64 (shl u64 x (bg u64
 (u64.wrap k) (63:Int))) (shr u64 x (u64.wrap ((64:Int)-bg u64 (u64.wrap k) (63:Int))))))))) [])):=by kernel_rfl
theorem aht:alb.Ok Tryz.prog 320:=by
 refine(ar.br call320 fun x_ y_ Q H_=>?_).sym;obtain⟨x,k,_⟩:=x_;have hq:=H_.2;refine(aA mixed aE func320 rfl (LT:= []) (ks:= [.fr [.sym],.auto]) (aO.nil _)).use (D:= []) ?_ hq;show(aT _ _ _ _ ((uiC).wr (x,k,())) ((ag).wr ()) _).sat _;rw[V4];have e:=ala k;refine⟨by omega,by rw[e,wrap_u64 (by omega) (by omega)];omega,rfl,rfl⟩
def abP:ar:=ar.dx [] (uiC) (ag) fun x_ y_=>(fun(x k:Int)=>.leaf (some (0<k∧k<64)) (nU (wW x k)) []) x_.1 x_.2.1
theorem V5(x k:Int):aT Tryz.prog [(320,alb)] [] f294 ((uiC).wr (x,k,())) ((ag).wr ()) [.fr [.sym],.auto]=
 End.leaf (LV.one (VV.sc (SV.int u64 (SI.sym (SK x (i64.wrap ((0:Int)-k.tmod (64:Int)))))))) []:=by kernel_rfl
theorem SL:abP.Ok Tryz.prog 294:=by
 refine(ar.br call294 fun x_ y_ Q H_=>?_).sym;obtain⟨x,k,_⟩:=x_;obtain⟨hn,hq⟩:=H_;have hn:0<k∧k<64:=hn;refine(aA mixed ((aj aht aE)) func294 rfl (LT:= []) (ks:= [.fr [.sym],.auto]) (aO.nil _)).use (D:= []) ?_ hq;show(aT _ _ _ _ ((uiC).wr (x,k,())) ((ag).wr ()) _).sat _;rw[V5];have e:k.tmod 64=k:=by rw[Int.tmod_eq_emod_of_nonneg (by omega)];omega
 rw[e,abO hn.1 hn.2];exact⟨rfl,rfl⟩
def chF(x y z:Int):Int:=fg .u64 (bg .u64 x y) (bg .u64 (fg .u64 18446744073709551615 x) z)
def ans(x y z:Int):Int:=fg .u64 (fg .u64 (bg .u64 x y) (bg .u64 x z)) (bg .u64 y z)
def chE:ar:=ar.dx [] (u3C) (ag) fun x_ y_=>(fun(x y z:Int)=>.leaf none (nU (chF x y z)) []) x_.1 x_.2.1 x_.2.2.1
theorem ahu(x y z:Int):aT Tryz.prog [] [] f236 ((u3C).wr (x,y,z,())) ((ag).wr ()) [.fr [.sym],.auto]=
 End.leaf (LV.one (VV.sc (SV.int u64 (SI.sym (fg u64 (bg u64 x y) (bg u64 (fg u64
 (18446744073709551615:Int) x) z)))))) []:=by kernel_rfl
theorem aqO:chE.Ok Tryz.prog 236:=by
 refine(ar.br call236 fun x_ y_ Q H_=>?_).sym;obtain⟨x,y,z,_⟩:=x_;have hq:=H_.2;refine(aA mixed aE func236 rfl (LT:= []) (ks:= [.fr [.sym],.auto]) (aO.nil _)).use (D:= []) ?_ hq;show(aT _ _ _ _ ((u3C).wr (x,y,z,())) ((ag).wr ()) _).sat _;rw[ahu];exact⟨rfl,rfl⟩
def aqP:ar:=ar.dx [] (u3C) (ag) fun x_ y_=>(fun(x y z:Int)=>.leaf none (nU (ans x y z)) []) x_.1 x_.2.1 x_.2.2.1
theorem abQ(x y z:Int):aT Tryz.prog [] [] f237 ((u3C).wr (x,y,z,())) ((ag).wr ()) [.fr [.sym],.auto]=
 End.leaf (LV.one (VV.sc (SV.int u64 (SI.sym (fg u64 (fg u64 (bg u64 x y) (bg u64 x z)) (bg
 u64 y z)))))) []:=by kernel_rfl
theorem ant:aqP.Ok Tryz.prog 237:=by
 refine(ar.br call237 fun x_ y_ Q H_=>?_).sym;obtain⟨x,y,z,_⟩:=x_;have hq:=H_.2;refine(aA mixed aE func237 rfl (LT:= []) (ks:= [.fr [.sym],.auto]) (aO.nil _)).use (D:= []) ?_ hq;show(aT _ _ _ _ ((u3C).wr (x,y,z,())) ((ag).wr ()) _).sat _;rw[abQ];exact⟨rfl,rfl⟩
def Bd(x a b d:Int):Int:=fg .u64 (fg .u64 (wW x a) (wW x b)) (shr .u64 x d)
def wX(x a b d:Int):Int:=fg .u64 (fg .u64 (wW x a) (wW x b)) (wW x d)
def abR:ar:=ar.dx [] (V3) (ag) fun x_ y_=>(fun(x a b d:Int)=>.leaf (some (0<a∧a<64∧0<b∧b<64∧0≤d)) (nU (Bd x a b d)) []) x_.1 x_.2.1 x_.2.2.1 x_.2.2.2.1
theorem OU(x a b d:Int):aT Tryz.prog [(294,abP)] [] f293 ((V3).wr (x,a,b,d,())) ((ag).wr ()) [.fr [.sym],.auto]=
 End.need ((0:Int)<a∧a<(64:Int)) (End.need ((0:Int)<b∧b<(64:Int)) (End.need ((0:Int)≤d) (End.leaf (LV.one (VV.sc (SV.int
 u64 (SI.sym (fg u64 (fg u64 (wW x a) (wW x b)) (shr u64 x d)))))) []))):=by kernel_rfl
theorem abS:abR.Ok Tryz.prog 293:=by
 refine(ar.br call293 fun x_ y_ Q H_=>?_).sym;obtain⟨x,a,b,d,_⟩:=x_;obtain⟨hn,hq⟩:=H_;have hn:0<a∧a<64∧0<b∧b<64∧0≤d:=hn;refine(aA mixed ((aj SL aE)) func293 rfl (LT:= []) (ks:= [.fr [.sym],.auto]) (aO.nil _)).use (D:= []) ?_ hq;show(aT _ _ _ _ ((V3).wr (x,a,b,d,())) ((ag).wr ()) _).sat _;rw[OU];exact⟨⟨hn.1,hn.2.1⟩,⟨hn.2.2.1,hn.2.2.2.1⟩,hn.2.2.2.2,rfl,rfl⟩
def abT:ar:=ar.dx [] (V3) (ag) fun x_ y_=>(fun(x a b d:Int)=>.leaf (some (0<a∧a<64∧0<b∧b<64∧0<d∧d<64)) (nU (wX x a b d)) []) x_.1 x_.2.1 x_.2.2.1 x_.2.2.2.1
theorem OV(x a b d:Int):aT Tryz.prog [(294,abP)] [] f235 ((V3).wr (x,a,b,d,())) ((ag).wr ()) [.fr [.sym],.auto]=
 End.need ((0:Int)<a∧a<(64:Int)) (End.need ((0:Int)<b∧b<(64:Int)) (End.need ((0:Int)<d∧d<(64:Int)) (End.leaf (LV.one
 (VV.sc (SV.int u64 (SI.sym (fg u64 (fg u64 (wW x a) (wW x b)) (wW x d)))))) []))):=by kernel_rfl
theorem abU:abT.Ok Tryz.prog 235:=by
 refine(ar.br call235 fun x_ y_ Q H_=>?_).sym;obtain⟨x,a,b,d,_⟩:=x_;obtain⟨hn,hq⟩:=H_;have hn:0<a∧a<64∧0<b∧b<64∧0<d∧d<64:=hn;refine(aA mixed ((aj SL aE)) func235 rfl (LT:= []) (ks:= [.fr [.sym],.auto]) (aO.nil _)).use (D:= []) ?_ hq;show(aT _ _ _ _ ((V3).wr (x,a,b,d,())) ((ag).wr ()) _).sat _;rw[OV];exact⟨⟨hn.1,hn.2.1⟩,⟨hn.2.2.1,hn.2.2.2.1⟩,hn.2.2.2.2,rfl,rfl⟩
def lR:List Int:= [4794697086780616226,8158064640168781261,13096744586834688815,16840607885511220156,4131703408338449720,6480981068601479193,10538285296894168987,12329834152419229976,15566598209576043074,1334009975649890238,2608012711638119052,6128411473006802146,8268148722764581231,9286055187155687089,11230858885718282805,13951009754708518548,16472876342353939154,17275323862435702243,1135362057144423861,2597628984639134821,3308224258029322869,5365058923640841347,6679025012923562964,8573033837759648693,10970295158949994411,12119686244451234320,12683024718118986047,13788192230050041572,14330467153632333762,15395433587784984357,489312712824947311,1452737877330783856,2861767655752347644,3322285676063803686,5560940570517711597,5996557281743188959,7280758554555802590,8532644243296465576,9350256976987008742,10552545826968843579,11727347734174303076,12113106623233404929,14000437183269869457,14369950271660146224,15101387698204529176,15463397548674623760,17586052441742319658,1182934255886127544,1847814050463011016,2177327727835720531,2830643537854262169,3796741975233480872,4115178125766777443,5681478168544905931,6601373596472566643,7507060721942968483,8399075790359081724,8693463985226723168,9568029438360202098,10144078919501101548,10430055236837252648,11840083180663258601,13761210420658862357,14299343276471374635,14566680578165727644,15097957966210449927,16922976911328602910,17689382322260857208,500013540394364858,748580250866718886,1242879168328830382,1977374033974150939,2944078676154940804,3659926193048069267,4368137639120453308,4836135668995329356,5532061633213252278,6448918945643986474,6902733635092675308,7801388544844847127]
def Be:List Int:= [7640891576956012808,13503953896175478587,4354685564936845355,11912009170470909681,5840696475078001361,11170449401992604703,2270897969802886507,6620516959819538809]
def abV:ar:=ar.dx [] ag ag fun _ _=>.leaf none (jq .u64 8 Be) []
def SM:ar:=ar.dx [] ag ag fun _ _=>.leaf none (jq .u64 80 lR) []
theorem OW:aT Tryz.prog [] [] f104 (ag.wr ()) (ag.wr ()) [.fr [.sym],.mT 0 0 8 .u64,.auto]= .leaf (jq .u64 8 Be) []:=by kernel_rfl
theorem J5:aT Tryz.prog [] [] f233 (ag.wr ()) (ag.wr ()) [.fr [.sym],.auto]= .leaf (jq .u64 80 lR) []:=by kernel_rfl
theorem abW:abV.Ok Tryz.prog 104:=by
 refine(ar.br call104 fun x_ y_ Q h=>?_).sym;refine(aA mixed aE func104 rfl (LT:= []) (ks:= [.fr [.sym],.mT 0 0 8 .u64,.auto]) (aO.nil _)).use (D:= []) ?_ h.2;show(aT _ _ _ _ (ag.wr ()) (ag.wr ()) _).sat _;rw[OW];exact⟨rfl,rfl⟩
theorem V6:SM.Ok Tryz.prog 233:=by
 refine(ar.br call233 fun x_ y_ Q h=>?_).sym;refine(aA mixed aE func233 rfl (LT:= []) (ks:= [.fr [.sym],.auto]) (aO.nil _)).use (D:= []) ?_ h.2;show(aT _ _ _ _ (ag.wr ()) (ag.wr ()) _).sat _;rw[J5];exact⟨rfl,rfl⟩
def SN(b:List Int)(k:Nat)(m:List Int):List Int:=m.set (k/8) (bp .u64 (shl .u64 (m.getD (k/8) 0) 8) (u64.wrap (b.getD k 0)))
def pQ(b:List Int):List Int:=upto (SN b) 0 128 (List.replicate 16 0)
theorem Gt(b:List Int)(k:Nat)(m:List Int):(SN b k m).length=m.length:=by simp[SN]
abbrev aqQ:Func:=f161
abbrev woC:aW (List LV) (List Int×Int×Int×Unit):=(jk 2 (ak (ah (aP 0 0)) (jk 1 (ak (ah (aP 1 0)) (jk 6 (ae (ah (e9 false false u8)) (ae (ah (ay .i64)) (ae (ah (ay .i64)) (jk 17 ag)))))))))
abbrev aqS:Wk:=.fr (dK 31 [(2,.an),(4,.an),(11,.an),(12,.sym),(13,.sym)])
abbrev woX:aW (List LV) (Unit):=(jk 2 (ak (ah (aP 0 0)) (jk 1 (ak (ah (aP 1 0)) (jk 26 ag)))))
abbrev au3:Wk:=.fr (dK 31 [(2,.an),(4,.an)])
abbrev woH:aW Hp (List Int×List Int×Unit):=ae (oJ 213 .u64 16) (ae (oJ 213 .u64 16) ag)
def woW:Exit→List Wk
 | .normal=> [aqS,.j7 0 0 16 .u64,.j7 1 0 16 .u64,.auto]
 | .exit 0=> [au3,.auto]
 |_=> []
theorem anu(b:List Int)(n i:Int)(r m:List Int):ee Tryz.prog [] [] aqQ 0 [] woW ((bD woC woH).wr ((b,n,i,()),(r,m,())))=
 aZ.ite (decide (i<n)) (aZ.need ((0:Int)≤i∧i<(↑b.length:Int)) (aZ.need ((0:Int)≤i64.wrap (i.tdiv (8:Int))∧
 i64.wrap (i.tdiv (8:Int))<(16:Int)) (aZ.need ((0:Int)≤i64.wrap (i.tdiv (8:Int))∧i64.wrap (i.tdiv (8:Int))<
 (16:Int)) (aZ.leaf Exit.normal ((bD woC woH).wr ((b,n,i64.wrap (i+(1:Int)),PUnit.unit),r,m.set ((0:Nat)+(i64.wrap
 (i.tdiv (8:Int))).toNat) (bp u64 (shl u64 ((List.take (16:Nat) (List.drop (0:Nat) m)).getD (i64.wrap (i.tdiv (8:
 Int))).toNat (0:Int)) (8:Int)) (u64.wrap (b.getD i.toNat (0:Int)))),PUnit.unit)))))) (aZ.leaf (Exit.exit (0:Nat)) ((bD woX woH).wr
 (PUnit.unit,r,m,PUnit.unit))):=by kernel_rfl
def woF(x:(List Int×Int×Int×Unit)×List Int×List Int×Unit):aZ:=
 .need (x.1.1.length=128∧x.1.2.1=128∧x.1.2.2.1=0∧x.2.2.1=List.replicate 16 0) (.leaf (.exit 0) ((bD woX woH).wr ((),(x.2.1,pQ x.1.1,()))))
theorem ahv(x):Ex Tryz.prog [] (.loop (aV aqQ 0)) ((bD woC woH).wr x) (woF x):=by
 obtain⟨⟨b,n,i,_⟩,r,m,_⟩:=x;refine Ex.need fun⟨h1,h2,h3,h4⟩=>?_;simp only at h1 h2 h3 h4;subst h2 h3 h4
 refine gJ (ws:=woW) (hp:= []) mixed aE (aO.nil _) 128 (fun k m=>(bD woC woH).wr ((b,128,(k:Int),()),(r,m,()))) (fun m=>(bD woX woH).wr ((),(r,m,()))) (SN b) (fun _ m=>m.length=16)
  (fun k m R hk hm hn hx=>?_) (fun k m _ hm=>by rw[Gt];exact hm) 0 (List.replicate 16 0) (by omega) (by simp)
 rw[anu];refine⟨fun hb=>?_,fun hb=>?_⟩
 ·have eV:k<128:=by have:=of_decide_eq_true hb;omega
  have e:i64.wrap ((k:Int).tdiv 8)=((k/8:Nat):Int):=kP k 8 (by omega);rw[e,bU hm,dY k (by omega)];simp only[Int.toNat_natCast,Nat.zero_add];exact⟨by omega,by omega,by omega,hn eV⟩
 ·have:k=128:=by have:=of_decide_eq_false hb;omega
  exact hx this
abbrev aqT:fq:= [(0,fF (bD woC woH) 0 [aqS,.j7 0 0 16 .u64,.j7 1 0 16 .u64,.auto] woF)]
def abX:ar:=ar.dx [some u8] (bA) (ag) fun x_ y_=>(fun(b:List Int)=>.leaf (some (b.length=128)) (.cT [.agg [.arr (.int .u64) 16 (pQ b)],.sc (.bool (.sym true))]) []) x_.1
theorem OX(b:List Int):aT Tryz.prog [] aqT f161 ((bA).wr (b,())) ((ag).wr ()) [.fr [.sym],.mT 0 0 16 .u64,.auto]=
 End.ite ((↑b.length:Int)!=(128:Int)) (End.leaf (LV.cT [VV.agg [SV.arr (Ty.int u64) (16:Nat) [(0:Int),(0:Int),(0:Int),(0:
 Int),(0:Int),(0:Int),(0:Int),(0:Int),(0:Int),(0:Int),(0:Int),(0:Int),(0:Int),(0:Int),(0:Int),(0:Int)]],VV.sc
 (SV.bool (SB.sym false))]) []) (End.need (b.length=(128:Nat)∧(↑b.length:Int)=(128:Int)∧(0:Int)=(0:Int)∧ [(0:Int),(0:Int),(0
 :Int),(0:Int),(0:Int),(0:Int),(0:Int),(0:Int),(0:Int),(0:Int),(0:Int),(0:Int),(0:Int),(0:Int),(0:Int),(0:Int)]
 =List.replicate (16:Nat) (0:Int)) (End.leaf (LV.cT [VV.agg [SV.arr (Ty.int u64) (16:Nat) (pQ b)],VV.sc (SV.bool (SB.sym true))])
 [])):=by kernel_rfl
theorem abY:abX.Ok Tryz.prog 161:=by
 refine(ar.br call161 fun x_ y_ Q H_=>?_).sym;obtain⟨b,_⟩:=x_;obtain⟨hn,hq⟩:=H_;have hn:b.length=128:=hn;refine(aA mixed aE func161 rfl (LT:=aqT) (ks:= [.fr [.sym],.mT 0 0 16 .u64,.auto]) (aO.cU (nJ rfl (cN (hp:= []) ahv) oI))).use (D:= []) ?_ hq;show(aT _ _ _ _ ((bA).wr (b,())) ((ag).wr ()) _).sat _;rw[OX];refine⟨fun h=>?_,fun h=>⟨⟨hn,by omega,rfl,rfl⟩,rfl,rfl⟩⟩;simp[hn]at h
def OY(t:Nat)(w:List Int):List Int:=w.set t (u64.wrap (u64.wrap (u64.wrap (Bd (w.getD (t-2) 0) 19 61 6+w.getD (t-7) 0)+Bd (w.getD (t-15) 0) 1 8 7)+w.getD (t-16) 0))
def js(m:List Int):List Int:=upto OY 16 64 (m++List.replicate 64 0)
abbrev aqU:Func:=f234
abbrev scA:aW (List LV) (List Int×Unit):=ae (MT .u64 16) ag
abbrev scC:aW (List LV) (Int×Unit):=(jk 2 (ak (ah (aP 0 0)) (ak (ah (aP 1 0)) (ae (ah (ay .i64)) (jk 31 ag)))))
abbrev aqW:Wk:=.fr (dK 36 [(2,.an),(3,.an),(4,.sym)])
abbrev scX:aW (List LV) (Unit):=(jk 2 (ak (ah (aP 0 0)) (ak (ah (aP 1 0)) (jk 32 ag))))
abbrev au6:Wk:=.fr (dK 36 [(2,.an),(3,.an)])
abbrev scH:aW Hp (List Int×List Int×Unit):=ae (oJ 278 .u64 80) (ae (oJ 278 .u64 80) ag)
abbrev abZ:List (FuncId×ar):= [(293,abR)]
theorem J6:∀p∈abZ,p.2.Ok Tryz.prog p.1:=aj abS aE
def scW:Exit→List Wk
 | .normal=> [aqW,.auto]
 | .exit 0=> [au6,.auto]
 |_=> []
theorem anv(t:Int)(r w:List Int):ee Tryz.prog abZ [] aqU 0 [] scW ((bD scC scH).wr ((t,()),(r,w,())))=
 aZ.ite (decide (t<(80:Int))) (aZ.need ((0:Int)≤i64.wrap (t-(2:Int))∧i64.wrap (t-(2:Int))<(80:Int)) (aZ.need
 ((0:Int)<(19:Int)∧(19:Int)<(64:Int)∧(0:Int)<(61:Int)∧(61:Int)<(64:Int)∧(0:Int)≤(6:Int)) (aZ.need ((0:Int)≤
 i64.wrap (t-(7:Int))∧i64.wrap (t-(7:Int))<(80:Int)) (aZ.need ((0:Int)≤i64.wrap (t-(15:Int))∧
 i64.wrap (t-(15:Int))<(80:Int)) (aZ.need ((0:Int)<(1:Int)∧(1:Int)<(64:Int)∧(0:Int)<(8:Int)∧(8:Int)<(64:
 Int)∧(0:Int)≤(7:Int)) (aZ.need ((0:Int)≤i64.wrap (t-(16:Int))∧i64.wrap (t-(16:Int))<(80:Int)) (aZ.need ((0
 :Int)≤t∧t<(80:Int)) (aZ.leaf Exit.normal ((bD scC scH).wr ((i64.wrap (t+(1:Int)),PUnit.unit),r,w.set ((0:Nat)+t.toNat)
 (u64.wrap (u64.wrap (u64.wrap (Bd ((List.take (80:Nat) (List.drop (0:Nat) w)).getD (i64.wrap (t-(2:
 Int))).toNat (0:Int)) (19:Int) (61:Int) (6:Int)+(List.take (80:Nat) (List.drop (0:Nat) w)).getD (i64.wrap (t-(7:Int))).toNat
 (0:Int))+Bd ((List.take (80:Nat) (List.drop (0:Nat) w)).getD (i64.wrap (t-(15:Int))).toNat (0:Int)) (1:Int) (8:Int) (7:
 Int))+(List.take (80:Nat) (List.drop (0:Nat) w)).getD (i64.wrap (t-(16:Int))).toNat (0:Int))),PUnit.unit)))))))))) (aZ.leaf
 (Exit.exit (0:Nat)) ((bD scX scH).wr (PUnit.unit,r,w,PUnit.unit))):=by kernel_rfl
def scF(x:(Int×Unit)×List Int×List Int×Unit):aZ:=
 .need (x.1.1=16∧x.2.2.1.length=80) (.leaf (.exit 0) ((bD scX scH).wr ((),(x.2.1,upto OY 16 64 x.2.2.1,()))))
theorem xV(t:Nat)(w:List Int):(OY t w).length=w.length:=by simp[OY]
theorem ahw(x):Ex Tryz.prog [] (.loop (aV aqU 0)) ((bD scC scH).wr x) (scF x):=by
 obtain⟨⟨i,_⟩,r,w,_⟩:=x;refine Ex.need fun⟨h1,h2⟩=>?_;simp only at h1 h2;subst h1
 refine gJ (ws:=scW) (hp:= []) mixed J6 (aO.nil _) 80 (fun k w=>(bD scC scH).wr (((k:Int),()),(r,w,()))) (fun w=>(bD scX scH).wr ((),(r,w,()))) OY (fun k w=>16≤k∧w.length=80)
  (fun k w R hk hm hn hx=>?_) (fun k m _ hm=>⟨by omega,by rw[xV];exact hm.2⟩) 16 w (by omega) ⟨by omega,h2⟩
 obtain⟨h16,hm⟩:=hm;rw[anv];refine⟨fun hb=>?_,fun hb=>?_⟩
 ·have eV:k<80:=by have:=of_decide_eq_true hb;omega
  have e2:i64.wrap ((k:Int)-2)=((k-2:Nat):Int):=tL k 2 (by omega) (by omega);have e7:i64.wrap ((k:Int)-7)=((k-7:Nat):Int):=tL k 7 (by omega) (by omega);have e15:i64.wrap ((k:Int)-15)=((k-15:Nat):Int):=tL k 15 (by omega) (by omega);have e16:i64.wrap ((k:Int)-16)=((k-16:Nat):Int):=tL k 16 (by omega) (by omega);rw[e2,e7,e15,e16,bU hm,dY k (by omega)];simp only[Int.toNat_natCast,Nat.zero_add];exact⟨by omega,by decide,by omega,by omega,by decide,by omega,by omega,hn eV⟩
 ·have:k=80:=by have:=of_decide_eq_false hb;omega
  exact hx this
abbrev aqX:fq:= [(0,fF (bD scC scH) 0 [aqW,.auto] scF)]
def ab0:ar:=ar.dx [] (scA) (ag) fun x_ y_=>(fun(m:List Int)=>.leaf (some (m.length=16)) (jq .u64 80 (js m)) []) x_.1
theorem OZ(m:List Int):aT Tryz.prog abZ aqX f234 ((scA).wr (m,())) ((ag).wr ()) [.fr [.sym],.auto]=
 End.need ((0:Int)≤(0:Int)∧(0:Int)≤(80:Int)∧(80:Int)≤(80:Int)) (End.need ((0:Int)≤(0:Int)∧(0:Int)≤(16:Int)∧(16:
 Int)≤(16:Int)) (End.need ((16:Int)=(16:Int)∧(List.take (0:Nat) (List.replicate (80:Nat) (0:Int))++(List.take (80:Nat) (List.take
 (16:Nat) (List.drop (0:Nat) m))++List.drop ((0:Nat)+if(80:Nat)≤(List.take (16:Nat) (List.drop (0:Nat) m)).length then(80:Nat)
 else(List.take (16:Nat) (List.drop (0:Nat) m)).length) (List.replicate (80:Nat) (0:Int)))).length=(80:Nat)) (End.leaf (LV.one (VV.agg
 [SV.arr (Ty.int u64) (80:Nat) (upto OY (16:Nat) (64:Nat) (List.take (0:Nat) (List.replicate (80:Nat) (0:Int))++(List.take (80:
 Nat) (List.take (16:Nat) (List.drop (0:Nat) m))++List.drop ((0:Nat)+if(80:Nat)≤(List.take (16:Nat) (List.drop (0:Nat) m)).length
 then(80:Nat)else(List.take (16:Nat) (List.drop (0:Nat) m)).length) (List.replicate (80:Nat) (0:Int)))))])) []))):=by kernel_rfl
theorem ab1:ab0.Ok Tryz.prog 234:=by
 refine(ar.br call234 fun x_ y_ Q H_=>?_).sym;obtain⟨m,_⟩:=x_;obtain⟨hn,hq⟩:=H_;have hn:m.length=16:=hn;refine(aA mixed J6 func234 rfl (LT:=aqX) (ks:= [.fr [.sym],.auto]) (aO.cU (nJ rfl (cN (hp:= []) ahw) oI))).use (D:= []) ?_ hq;show(aT _ _ _ _ ((scA).wr (m,())) ((ag).wr ()) _).sat _;rw[OZ]
 have e:List.take 0 (List.replicate 80 (0:Int))++(List.take 80 (List.take 16 (List.drop 0 m))++List.drop (0+if 80≤(List.take 16 (List.drop 0 m)).length then 80 else(List.take 16 (List.drop 0 m)).length) (List.replicate 80 0))=m++List.replicate 64 0:=by
  rw[bU hn,hn];simp[List.take_of_length_le (show m.length≤80 by omega)]
 rw[e];refine⟨by omega,by omega,⟨rfl,by simp[hn]⟩,rfl,rfl⟩
def aqY(w:List Int)(t:Nat)(x:List Int):Int:=
 u64.wrap (u64.wrap (u64.wrap (u64.wrap (x.getD 7 0+wX (x.getD 4 0) 14 18 41)+chF (x.getD 4 0) (x.getD 5 0) (x.getD 6 0))+lR.getD t 0)+w.getD t 0)
def au8(x:List Int):Int:=u64.wrap (wX (x.getD 0 0) 28 34 39+ans (x.getD 0 0) (x.getD 1 0) (x.getD 2 0))
def aqZ(w:List Int)(t:Nat)(x:List Int):List Int:=
 [u64.wrap (aqY w t x+au8 x),x.getD 0 0,x.getD 1 0,x.getD 2 0,u64.wrap (x.getD 3 0+aqY w t x),x.getD 4 0,x.getD 5 0,x.getD 6 0]
def au9(x s:List Int):List Int:=(List.range 8).map fun i=>u64.wrap (x.getD i 0+s.getD i 0)
def CJ(w x:List Int):List Int:=upto (aqZ w) 0 80 x
def Bf(s m:List Int):List Int:=au9 (CJ (js m) s) s
theorem Gu{m:List Int}(h:m.length=16):(js m).length=80:=by
 unfold js;exact mU (f:=OY) (n:=80) (fun(_:Nat) (w:List Int)=>w.length=80) (fun t w _ h=>by rw[xV];exact h) 64 16 (m++List.replicate 64 0) (by omega) (by simp[h])
abbrev aq0:Func:=f162
abbrev spC:aW (List LV) (Int×Unit):=(jk 2 (ak (ah (aP 0 0)) (jk 1 (ak (ah (aP 1 0)) (ak (ah (aP 2 0)) (ak (ah (aP 3 0)) (ak (ah (aP 4 0)) (jk 8 (ae (ah (ay .i64)) (jk 69 ag))))))))))
abbrev aq2:Wk:=.fr (dK 86 [(2,.an),(4,.an),(5,.an),(6,.an),(7,.an),(16,.sym)])
abbrev spX:aW (List LV) (Unit):=(jk 2 (ak (ah (aP 0 0)) (jk 1 (ak (ah (aP 1 0)) (jk 2 (ak (ah (aP 2 0)) (jk 78 ag)))))))
abbrev avb:Wk:=.fr (dK 86 [(2,.an),(4,.an),(7,.an)])
abbrev anw:aW Hp (List Int×List Int×List Int×Unit):=ae (oJ 118 .u64 8) (ae (YZ 118 .u64 8) (ae (YZ 118 .u64 8) ag))
abbrev spH:aW Hp (List Int×List Int×List Int×List Int×List Int×Unit):=ae (oJ 118 .u64 8) (ae (oJ 118 .u64 8) (ae (oJ 278 .u64 80) (ae (oJ 278 .u64 80) (ae (oJ 118 .u64 8) ag))))
abbrev ab2:List (FuncId×ar):= [(233,SM),(234,ab0),(235,abT),(236,chE),(237,aqP)]
theorem J7:∀p∈ab2,p.2.Ok Tryz.prog p.1:=aj V6 (aj ab1 (aj abU (aj aqO (aj ant aE))))
def spW:Exit→List Wk
 | .normal=> [aq2,.j7 4 0 8 .u64,.auto]
 | .exit 0=> [avb,.auto,.Rs 1,.Rs 2]
 |_=> []
theorem anx(t:Int)(s r k w x:List Int):ee Tryz.prog ab2 [] aq0 0 [] spW ((bD spC spH).wr ((t,()),(s,r,k,w,x,())))=
 aZ.ite (decide (t<(80:Int))) (aZ.need ((0:Int)<(14:Int)∧(14:Int)<(64:Int)∧(0:Int)<(18:Int)∧(18:Int)<(64:Int)∧(0:
 Int)<(41:Int)∧(41:Int)<(64:Int)) (aZ.need ((0:Int)≤t∧t<(80:Int)) (aZ.need ((0:Int)≤t∧t<(80:Int)) (aZ.need ((0:Int)
 <(28:Int)∧(28:Int)<(64:Int)∧(0:Int)<(34:Int)∧(34:Int)<(64:Int)∧(0:Int)<(39:Int)∧(39:Int)<(64:Int)) (aZ.leaf
 Exit.normal ((bD spC spH).wr ((i64.wrap (t+(1:Int)),PUnit.unit),s,r,k,w,[u64.wrap (u64.wrap (u64.wrap
 (u64.wrap (u64.wrap (x.getD (7:Nat) (0:Int)+wX (x.getD (4:Nat) (0:Int)) (14:Int) (18:Int) (41:Int))+chF (x.getD
 (4:Nat) (0:Int)) (x.getD (5:Nat) (0:Int)) (x.getD (6:Nat) (0:Int)))+(List.take (80:Nat) (List.drop (0:Nat) k)).getD t.toNat (0:
 Int))+(List.take (80:Nat) (List.drop (0:Nat) w)).getD t.toNat (0:Int))+u64.wrap (wX (x.getD (0:Nat) (0:Int)) (28:Int) (34:
 Int) (39:Int)+ans (x.getD (0:Nat) (0:Int)) (x.getD (1:Nat) (0:Int)) (x.getD (2:Nat) (0:Int)))),x.getD (0:Nat) (0:Int),x.getD (1
 :Nat) (0:Int),x.getD (2:Nat) (0:Int),u64.wrap (x.getD (3:Nat) (0:Int)+u64.wrap (u64.wrap (u64.wrap
 (u64.wrap (x.getD (7:Nat) (0:Int)+wX (x.getD (4:Nat) (0:Int)) (14:Int) (18:Int) (41:Int))+chF (x.getD (4:Nat) (0:
 Int)) (x.getD (5:Nat) (0:Int)) (x.getD (6:Nat) (0:Int)))+(List.take (80:Nat) (List.drop (0:Nat) k)).getD t.toNat (0:Int))+(List.take
 (80:Nat) (List.drop (0:Nat) w)).getD t.toNat (0:Int))),x.getD (4:Nat) (0:Int),x.getD (5:Nat) (0:Int),x.getD (6:Nat) (0:Int)],
 PUnit.unit))))))) (aZ.leaf (Exit.exit (0:Nat)) ((bD spX anw).wr (PUnit.unit,s,[r.getD (nat_lit 0) (0:Int),r.getD (nat_lit 1) (0:Int),
 r.getD (nat_lit 2) (0:Int),r.getD (nat_lit 3) (0:Int),r.getD (nat_lit 4) (0:Int),r.getD (nat_lit 5) (0:Int),r.getD (nat_lit 6) (0:Int),
 r.getD (nat_lit 7) (0:Int)],[x.getD (nat_lit 0) (0:Int),x.getD (nat_lit 1) (0:Int),x.getD (nat_lit 2) (0:Int),x.getD (nat_lit 3) (0:Int),
 x.getD (nat_lit 4) (0:Int),x.getD (nat_lit 5) (0:Int),x.getD (nat_lit 6) (0:Int),x.getD (nat_lit 7) (0:Int)],PUnit.unit))):=by kernel_rfl
def spF(x:(Int×Unit)×List Int×List Int×List Int×List Int×List Int×Unit):aZ:=
 .need (x.1.1=0∧x.2.2.2.1=lR∧x.2.2.2.2.1.length=80∧x.2.2.2.2.2.1.length=8) (.leaf (.exit 0) ((bD spX anw).wr ((),(x.2.1,x.2.2.1,CJ x.2.2.2.2.1 x.2.2.2.2.2.1,()))))
theorem ahx(x):Ex Tryz.prog [] (.loop (aV aq0 0)) ((bD spC spH).wr x) (spF x):=by
 obtain⟨⟨i,_⟩,s,r,k,w,x,_⟩:=x;refine Ex.need fun⟨h1,h2,h3,h4⟩=>?_;simp only at h1 h2 h3 h4;subst h1 h2
 refine gJ (ws:=spW) (hp:= []) mixed J7 (aO.nil _) 80 (fun j x=>(bD spC spH).wr (((j:Int),()),(s,r,lR,w,x,()))) (fun x=>(bD spX anw).wr ((),(s,r,x,()))) (aqZ w) (fun _ x=>x.length=8)
  (fun j x R hk hm hn hx=>?_) (fun k m _ hm=>rfl) 0 x (by omega) h4
 rw[anx];refine⟨fun hb=>?_,fun hb=>?_⟩
 ·have eV:j<80:=by have:=of_decide_eq_true hb;omega
  rw[bU h3,bU (l:=lR) (n:=80) rfl,dY j (by omega)];simp only[Int.toNat_natCast];exact⟨by decide,by omega,by omega,by decide,hn eV⟩
 ·have:j=80:=by have:=of_decide_eq_false hb;omega
  exact hx this
abbrev aq4:fq:= [(0,fF (bD spC spH) 0 [aq2,.auto,.j7 1 0 8 .u64,.j7 4 0 8 .u64] spF)]
abbrev stA:aW (List LV) (List Int×List Int×Unit):=ae (MT .u64 8) (ae (MT .u64 16) ag)
def ale:ar:=ar.dx [] (stA) (ag) fun x_ y_=>(fun(s m:List Int)=>.leaf (some (s.length=8∧m.length=16)) (jq .u64 8 (Bf s m)) []) x_.1 x_.2.1
theorem V7(s m:List Int):aT Tryz.prog ab2 aq4 f162 ((stA).wr (s,m,())) ((ag).wr ()) [.fr [.sym],.mT 0 0 8 .u64,.auto]=
 End.need (m.length=(16:Nat)) (End.need ((0:Int)=(0:Int)∧lR=lR∧(js m).length=(80:Nat)∧s.length=(8:Nat))
 (End.leaf (LV.one (VV.agg [SV.arr (Ty.int u64) (8:Nat) [u64.wrap ((CJ (js m) s).getD (nat_lit 0) (0:Int)+s.getD (0:Nat)
 (0:Int)),u64.wrap ((CJ (js m) s).getD (nat_lit 1) (0:Int)+s.getD (1:Nat) (0:Int)),u64.wrap ((CJ (js m) s).getD
 (nat_lit 2) (0:Int)+s.getD (2:Nat) (0:Int)),u64.wrap ((CJ (js m) s).getD (nat_lit 3) (0:Int)+s.getD (3:Nat) (0:Int)),
 u64.wrap ((CJ (js m) s).getD (nat_lit 4) (0:Int)+s.getD (4:Nat) (0:Int)),u64.wrap ((CJ (js m) s).getD (nat_lit 5)
 (0:Int)+s.getD (5:Nat) (0:Int)),u64.wrap ((CJ (js m) s).getD (nat_lit 6) (0:Int)+s.getD (6:Nat) (0:Int)),
 u64.wrap ((CJ (js m) s).getD (nat_lit 7) (0:Int)+s.getD (7:Nat) (0:Int))]])) [])):=by kernel_rfl
theorem ahy:ale.Ok Tryz.prog 162:=by
 refine(ar.br call162 fun x_ y_ Q H_=>?_).sym;obtain⟨s,m,_⟩:=x_;obtain⟨hn,hq⟩:=H_;have hn:s.length=8∧m.length=16:=hn;refine(aA mixed J7 func162 rfl (LT:=aq4) (ks:= [.fr [.sym],.mT 0 0 8 .u64,.auto]) (aO.cU (nJ rfl (cN (hp:= []) ahx) oI))).use (D:= []) ?_ hq;show(aT _ _ _ _ ((stA).wr (s,m,())) ((ag).wr ()) _).sat _;rw[V7];exact⟨hn.2,⟨rfl,rfl,Gu hn.2,hn.1⟩,rfl,rfl⟩
theorem J8(s m:List Int):(Bf s m).length=8:=rfl
end Go.Proofs.YtnbkagglkajbkaaGreat
end
