/- What the laws lean on, part 13: a reader of code, plain facts, and what each function gives; no conditions. -/
import Derived.Test.YtnbkagglkajbkaaGreatB12
set_option linter.unusedVariables false
set_option linter.unusedSimpArgs false
noncomputable section
namespace Go.Proofs.YtnbkagglkajbkaaGreat
open Go Go.Ev BJ Go.Proofs.Tryz
open Go.IntKind (i64 signed u16 u64 wrap)
set_option maxRecDepth 1000000
noncomputable section
variable (base zero:Pt) (encode:Pt→dG) (decode:dG→Pt×Bool) (Ko:Pt→Pt→Pt) (equal:Pt→Pt→Bool) (alive:Bool)
end
end Go.Proofs.YtnbkagglkajbkaaGreat
namespace BJ
def F.ah9(a:F)(e:Nat):F:=⟨pm pp 256 a.val e%pp,Nat.mod_lt _ (by decide)⟩
theorem F.S0(a:F){e:Nat}(he:e<2 ^ 256):F.pow a e=F.ah9 a e:=by
 apply Fin.ext
 show a.val ^ e%pp=pm pp 256 a.val e%pp;rw[SQ pp 256 a.val e he,Nat.mod_mod]
def F.arS(a:F):F:=F.ah9 a (pp-2)
theorem F.alo(a:F):F.inv a=F.arS a:=F.S0 a (by decide)
def acP(a:F):F×Bool:=
 let r:=F.ah9 a ((pp+3)/8)
 let r1:=if r*r=a then r else r*F.ah9 2 ((pp-1)/4)
 if r1*r1=a then(if r1.val%2=1 then-r1 else r1,true)else(0,false)
theorem an5(a:F):rootOf a=acP a:=by
 unfold rootOf acP;rw[F.S0 a (by decide),F.S0 2 (by decide)]
def arT(y:F):F×Bool:=if dd*(y*y)+1=0 then(0,decide (y*y-1=0))else acP ((y*y-1)*F.arS (dd*(y*y)+1))
theorem arU(y:F):my y=arT y:=by
 unfold my n6 arT;rw[an5,F.alo]
def rN:F:=46316835694926478169428394003475163141307993866256225615783033603165251855960
def vm:F:=15112221349535400772501151409588531511454012693041857206046113283949847762202
theorem acQ:4*F.inv 5=rN:=by rw[F.alo];decide+kernel
theorem acR:my rN=(vm,true):=by rw[arU];decide+kernel
theorem acS:Kw=xc vm rN:=by
 unfold Kw;rw[acQ,acR]
end BJ
namespace Go.Proofs.YtnbkagglkajbkaaGreat
open Go Go.Ev BJ Go.Proofs.Tryz
open Go.IntKind (i64 signed u16 u64 wrap)
theorem S1:qa fM∧GN fM=Kw:=by
 obtain⟨h1,h2,h3⟩:=ah7;obtain⟨o1,o2⟩:=BB h1 h2;exact⟨o1,o2.trans h3⟩
theorem S2:qa dB∧GN dB=oC:=by
 obtain⟨h1,h2,h3⟩:=GO;obtain⟨o1,o2⟩:=BB h1 h2;exact⟨o1,o2.trans h3⟩
end Go.Proofs.YtnbkagglkajbkaaGreat
namespace BJ
theorem aia(x:F):(x.val+(-x).val)%pp=0:=by
 have h:x+ -x=0:=by grobner
 have:=congrArg Fin.val h;rw[Fin.val_add]at this;exact this
theorem par{a b p:Nat}(hs:(a+b)%p=0)(ha:a<p)(hb:b<p)(h0:a≠0)(hp:p%2=1):b%2=1↔a%2=0:=by
 have h1:a+b=p:=by
  rcases Nat.lt_or_ge (a+b) p with h|h
  ·rw[Nat.mod_eq_of_lt h]at hs;omega
  ·rw[Nat.mod_eq_sub_mod h,Nat.mod_eq_of_lt (by omega)]at hs;omega
 omega
theorem an6:pp%2=1:=by decide+kernel
theorem GQ{x:F}(h:x≠0):(-x).val%2=1↔x.val%2=0:=
 par (aia x) x.isLt (-x).isLt (fun e=>h (Fin.ext e)) an6
theorem acT:(pp:Int)=57896044618658097711785492504343953926634992332820282019728792003956564819949:=rfl
theorem xh:Go.Proofs.YtnbkagglkajbkaaGreat.jV=57896044618658097711785492504343953926634992332820282019728792003956564819968:=rfl
def gX(r a:F):F×Bool:=if r*r=a then(if r.val%2=1 then-r else r,true)else(0,false)
theorem xi(a:F):rootOf a=gX (if F.pow a ((pp+3)/8)*F.pow a ((pp+3)/8)=a then F.pow a ((pp+3)/8)else F.pow a ((pp+3)/8)*F.pow 2 ((pp-1)/4)) a:=rfl
theorem F.vn:(0:F).val=0:=rfl
theorem Wj(r a:F):(gX r a).1.val%2=0:=by
 unfold gX
 by_cases h:r*r=a
 ·rw[if_pos h];show(if r.val%2=1 then-r else r).val%2=0
  by_cases h1:r.val%2=1
  ·rw[if_pos h1];have hr:r≠0:=fun e=>(by rw[e,F.vn]at h1;cases h1);have:=GQ hr;omega
  ·rw[if_neg h1];omega
 ·rw[if_neg h];show(0:F).val%2=0;rw[F.vn]
theorem Wl(a:F):(rootOf a).1.val%2=0:=by rw[xi];exact Wj _ _
theorem Pq(u v:F):(n6 u v).1.val%2=0:=by
 unfold n6
 by_cases h:v=0
 ·rw[if_pos h];show(0:F).val%2=0;rw[F.vn]
 ·rw[if_neg h];exact Wl _
theorem acU(y:F):(my y).1.val%2=0:=Pq _ _
end BJ
namespace Go.Proofs.YtnbkagglkajbkaaGreat
open Go Go.Ev BJ Go.Proofs.Tryz
open Go.IntKind (i64 signed u16 u64 wrap)
theorem BE{b:dG}(h:nm b)(h31:b.get 31<128):nm (xe b)∧bZ (xe b)=bZ b+jV:=by
 have e:xe b=Vec.xZ (fun x=>if x<128 then x+128 else x) 31 b:=xf (by show _=if b.get 31<128 then _ else _;rw[if_pos h31]);rw[e];obtain⟨h1,h2⟩:=Bx (fun x=>if x<128 then x+128 else x) (n:=31) h (fun x h1 h2=>by show 0≤(if x<128 then x+128 else x)∧(if x<128 then x+128 else x)<256;split<;>omega);refine⟨h1,h2.trans ?_⟩;show bZ b-b.get 31*_+(if b.get 31<128 then b.get 31+128 else b.get 31)*_=_;have:=xh;rw[if_pos h31,ah4];omega
end Go.Proofs.YtnbkagglkajbkaaGreat
namespace Go.Proofs.YtnbkagglkajbkaaGreat
open Go Go.Ev BJ Go.Proofs.Tryz
open Go.IntKind (i64 signed u16 u64 wrap)
set_option maxRecDepth 100000
end Go.Proofs.YtnbkagglkajbkaaGreat
namespace BJ
theorem F.acV:(1:F)≠0:=by decide+kernel
theorem F.an7(s:F)(m:Nat):F.pow (s*s) m=F.pow s (m+m):=by
 induction m with
 |zero=>rw[F.pow_zero,F.pow_zero]
 |succ m ih=>
  rw[F.pow_succ,ih,show m+1+(m+1)=(m+m+1)+1 from by omega,F.pow_succ,F.pow_succ]
  grobner
theorem F.sD{s:F}(h:s≠0):F.pow s (pp-1)=1:=by
 apply Fin.ext
 show s.val ^ (pp-1)%pp=1;exact GD.sD (F.Pa h)
theorem F.an8{t:F}(h:t*t=1):t=1∨t= -1:=by
 have:(t-1)*(t+1)=0:=by grobner
 rcases F.mul_eq_zero this with h1|h1
 ·left;grobner
 ·right;grobner
theorem F.arV{a b:F}(h:a*a=b*b):a=b∨a= -b:=by
 have:(a-b)*(a+b)=0:=by grobner
 rcases F.mul_eq_zero this with h1|h1
 ·left;grobner
 ·right;grobner
theorem Wm{r a:F}(h:r*r=a):(gX r a).2=true:=by
 unfold gX;rw[if_pos h]
theorem aib{r a:F}(h:(gX r a).2=true):(gX r a).1*(gX r a).1=a:=by
 unfold gX at h ⊢
 by_cases h1:r*r=a
 ·rw[if_pos h1];show(if r.val%2=1 then-r else r)*(if r.val%2=1 then-r else r)=a
  by_cases h2:r.val%2=1
  ·rw[if_pos h2];grobner
  ·rw[if_neg h2];exact h1
 ·rw[if_neg h1]at h;cases h
theorem acW{s c:F}{m k:Nat}(hm:m+m=k+1)(hk:s≠0→F.pow s (k+k)*F.pow s (k+k)=1)(hc:c*c= -1):
  (gX (if F.pow (s*s) m*F.pow (s*s) m=s*s then F.pow (s*s) m else F.pow (s*s) m*c) (s*s)).2=true:=by
 apply Wm
 by_cases h:F.pow (s*s) m*F.pow (s*s) m=s*s
 ·rw[if_pos h];exact h
 ·rw[if_neg h]
  have h1:F.pow (s*s) m*F.pow (s*s) m=F.pow s (k+k)*(s*s):=by
   rw[← F.pow_add,hm,F.pow_succ,F.an7]
  by_cases hs:s=0
  ·exfalso;apply h;rw[h1,hs];grobner
  ·rcases F.an8 (hk hs)with h2|h2
   ·exfalso;apply h;rw[h1,h2];grobner
   ·rw[h2]at h1;generalize F.pow (s*s) m=r at*
    grobner
theorem acX:(pp+3)/8+(pp+3)/8=(pp-1)/4+1:=by decide+kernel
theorem acY:(pp-1)/4+(pp-1)/4+((pp-1)/4+(pp-1)/4)=pp-1:=by decide+kernel
theorem Pr:F.pow 2 ((pp-1)/4)*F.pow 2 ((pp-1)/4)= -1:=by
 rw[F.S0 2 (by decide+kernel)];decide+kernel
theorem BF(s:F):(rootOf (s*s)).2=true:=by
 rw[xi];exact acW acX (fun hs=>by rw[← F.pow_add,acY];exact F.sD hs) Pr
theorem aic{a:F}(h:(rootOf a).2=true):(rootOf a).1*(rootOf a).1=a:=by
 rw[xi]at h ⊢;exact aib h
theorem Ps(y:F):dd*(y*y)+1≠0:=by
 intro h;have hy:y≠0:=by rintro rfl;exact F.acV (by grobner)
 have hi:=F.inv_mul hy;have h2:=alh
 apply uX (ii*F.inv y)
 generalize F.inv y=v at*
 grobner
theorem Pu{x y:F}(h:vU x y):(my y).2=true∧((my y).1=x∨(my y).1= -x):=by
 have h2:=F.inv_mul (Ps y)
 have e:(y*y-1)*F.inv (dd*(y*y)+1)=x*x:=by
  apply F.cancel (Ps y)
  unfold vU at h;generalize F.inv (dd*(y*y)+1)=v at*
  grobner
 unfold my n6;rw[if_neg (Ps y),e];exact⟨BF x,F.arV (aic (BF x))⟩
def KA(p:E4)(P:Pt):Prop:=p.2.2.1≠0∧p.1=P.x*p.2.2.1∧p.2.1=P.y*p.2.2.1∧p.2.2.2=P.x*P.y*p.2.2.1
theorem yP(P:Pt):KA (xc P.x P.y) P:=
 ⟨F.acV,(show P.x=P.x*1 by grobner),(show P.y=P.y*1 by grobner),(show P.x*P.y=P.x*P.y*1 by grobner)⟩
theorem KB:KA oC Pt.zero:=yP Pt.zero
theorem aid{x1 y1 Z1 x2 y2 Z2:F}{A B:F}(h1:vU x1 y1)(h2:vU x2 y2)(hz1:Z1≠0)(hz2:Z2≠0)
  (hA:A*(1+dd*x1*x2*y1*y2)=x1*y2+y1*x2) (hB:B*(1-dd*x1*x2*y1*y2)=y1*y2+x1*x2) {r:E4}
  (hr:BA (x1*Z1,y1*Z1,Z1,x1*y1*Z1) (x2*Z2,y2*Z2,Z2,x2*y2*Z2)=r):r.2.2.1≠0∧r.1=A*r.2.2.1∧r.2.1=B*r.2.2.1∧r.2.2.2=A*B*r.2.2.1:=by
 have d1:=gn h1 h2;have d2:=fb h1 h2;subst hr;unfold BA;simp only[];generalize hD:dd*x1*x2*y1*y2=D at*;have e1:y1*Z1*Z2+y1*Z1*Z2=y1*Z1*Z2+y1*Z1*Z2:=rfl;have eba:(y1*Z1+x1*Z1)*(y2*Z2+x2*Z2)-(y1*Z1-x1*Z1)*(y2*Z2-x2*Z2)=2*(Z1*Z2)*(A*(1+D)):=by rw[hA];grobner
 have ebA:(y1*Z1+x1*Z1)*(y2*Z2+x2*Z2)+(y1*Z1-x1*Z1)*(y2*Z2-x2*Z2)=2*(Z1*Z2)*(B*(1-D)):=by rw[hB];grobner
 have edc:Z1*Z2+Z1*Z2-(x1*y1*Z1*(x2*y2*Z2)*dd+x1*y1*Z1*(x2*y2*Z2)*dd)=2*(Z1*Z2)*(1-D):=by rw[← hD];grobner
 have edC:Z1*Z2+Z1*Z2+(x1*y1*Z1*(x2*y2*Z2)*dd+x1*y1*Z1*(x2*y2*Z2)*dd)=2*(Z1*Z2)*(1+D):=by rw[← hD];grobner
 rw[eba,ebA,edc,edC];have gv:=F.fx acs (F.fx hz1 hz2);refine⟨F.fx (F.fx gv d2) (F.fx gv d1),?_,?_,?_⟩<;>grobner
theorem KC{p:E4}{P:Pt}(h:KA p P):p=(P.x*p.2.2.1,P.y*p.2.2.1,p.2.2.1,P.x*P.y*p.2.2.1):=by
 obtain⟨X,Y,Z,T⟩:=p;obtain⟨_,h1,h2,h3⟩:=h;simp only at h1 h2 h3;rw[h1,h2,h3]
theorem GR{p q:E4}{P Q:Pt}(hp:KA p P)(hq:KA q Q):KA (BA p q) (P.add Q):=by
 have h:=aid P.on Q.on hp.1 hq.1 (jQ P.on Q.on) (jR P.on Q.on) (r:=BA p q) (by rw[← KC hp,← KC hq]);exact h
theorem aie{p:E4}{P:Pt}(hp:KA p P):KA (arQ p) P.neg:=by
 obtain⟨X,Y,Z,T⟩:=p;obtain⟨h0,h1,h2,h3⟩:=hp;simp only at h0 h1 h2 h3;refine⟨h0,?_,h2,?_⟩
 ·show-X= -P.x*Z
  grobner
 ·show-T= -P.x*P.y*Z
  grobner
theorem arW{p:E4}{P:Pt}(hp:KA p P):p.1*F.inv p.2.2.1=P.x:=by
 obtain⟨h0,h1,_⟩:=hp;have:=F.inv_mul h0;rw[h1];generalize F.inv p.2.2.1=v at*
 grobner
theorem arX{p:E4}{P:Pt}(hp:KA p P):p.2.1*F.inv p.2.2.1=P.y:=by
 obtain⟨h0,_,h2,_⟩:=hp;have:=F.inv_mul h0;rw[h2];generalize F.inv p.2.2.1=v at*
 grobner
theorem Pt.zero_add(p:Pt):Pt.zero.add p=p:=by rw[Pt.add_comm,Pt.add_zero]
def dR:Nat→Pt→Pt
 |0,_=>Pt.zero
 |n+1,p=>(dR n p).add p
theorem lX(m n:Nat)(p:Pt):dR (m+n) p=(dR m p).add (dR n p):=by
 induction n with
 |zero=>
  show dR m p=(dR m p).add Pt.zero;rw[Pt.add_zero]
 |succ n ih=>rw[← Nat.add_assoc,dR,dR,ih,Pt.add_assoc]
theorem arY(a b c d:Pt):(a.add b).add (c.add d)=(a.add c).add (b.add d):=by
 rw[Pt.add_assoc,Pt.add_assoc,← Pt.add_assoc b,Pt.add_comm b c,Pt.add_assoc c]
theorem acZ(n:Nat)(p q:Pt):dR n (p.add q)=(dR n p).add (dR n q):=by
 induction n with
 |zero=>
  show Pt.zero=Pt.zero.add Pt.zero;rw[Pt.add_zero]
 |succ n ih=>rw[dR,dR,dR,ih,arY]
theorem KD(n:Nat):dR n Pt.zero=Pt.zero:=by
 induction n with
 |zero=>rfl
 |succ n ih=>rw[dR,ih,Pt.add_zero]
theorem S3(m n:Nat)(p:Pt):dR (m*n) p=dR m (dR n p):=by
 induction m with
 |zero=>rw[Nat.zero_mul];rfl
 |succ m ih=>rw[Nat.succ_mul,lX,ih,dR]
theorem KE{a b c:Pt}(h:a.add b=a.add c):b=c:=by
 have:a.neg.add (a.add b)=a.neg.add (a.add c):=by rw[h]
 rwa [← Pt.add_assoc,← Pt.add_assoc,Pt.add_comm a.neg,Pt.add_neg,Pt.zero_add,Pt.zero_add]at this
theorem aif(n:Nat)(p:Pt):dR n p.neg=(dR n p).neg:=by
 apply KE (a:=dR n p)
 rw[← acZ,Pt.add_neg,Pt.add_neg,KD]
theorem aih(p:Pt):dR 1 p=p:=Pt.zero_add p
end BJ
namespace Go.Proofs.YtnbkagglkajbkaaGreat
open Go Go.Ev Go.Proofs.Tryz
open Go.IntKind (i64 signed u16 u64 wrap)
set_option maxRecDepth 1000000
noncomputable section
variable (bit:dG→Nat→Int) (zero:Pn) (anT:Fn) (add:Fn→Fn→Fn) (arD:Pn→Pn→Fn→Pn)
end
noncomputable section
variable (decode:dG→Pt×Bool) (base:Pt) (double:Pt→Pt)
end
noncomputable section
variable (decode:dG→Pt×Bool) (base:Pt) (double:Pt→Pt) (aii:dG→Pn×Bool) (axH:Pn) (arZ:Pn→Pn→Pn)
end
end Go.Proofs.YtnbkagglkajbkaaGreat
namespace Go.Proofs.YtnbkagglkajbkaaGreat
open Go Go.Ev BJ Go.Proofs.Tryz
open Go.IntKind (i64 signed u16 u64 wrap)
set_option maxRecDepth 1000000
end Go.Proofs.YtnbkagglkajbkaaGreat
namespace Go.Ev
open Go
open Go.IntKind (i64 signed u16 u64 wrap)
end Go.Ev
namespace Go.Proofs.YtnbkagglkajbkaaGreat
open Go Go.Ev BJ Go.Proofs.Tryz
open Go.IntKind (i64 signed u16 u64 wrap)
set_option maxRecDepth 1000000
noncomputable section
variable (at2:dG→Pt×Pn) (zero:Pt) (add:Pt→Pt→Pt) (neg double:Pt→Pt) (equal:Pt→Pt→Bool) (encode:Pt→dG)
end
noncomputable section
variable (at2:dG→Pt×Pn) (decode:dG→Pt×Bool) (add:Pt→Pt→Pt) (neg double:Pt→Pt) (equal:Pt→Pt→Bool) (encode:Pt→dG) (aii:dG→Pn×Bool) (arZ:Pn→Pn→Pn) (axI:Pn→Pn) (avJ:Pn→Pn→Bool) (atG:Pn→dG)
end
noncomputable section
variable (zero:Pt) (decode:dG→Pt×Bool) (neg double:Pt→Pt) (equal:Pt→Pt→Bool)
end
end Go.Proofs.YtnbkagglkajbkaaGreat
namespace Go.Proofs.YtnbkagglkajbkaaGreat
open Go Go.Ev BJ Go.Proofs.Tryz
open Go.IntKind (i64 signed u16 u64 wrap)
theorem aij:vU vm rN:=by unfold vU;decide+kernel
def bJ:BJ.Pt:=⟨vm,rN,aij⟩
theorem ac0:KA Kw bJ:=by
 rw[acS];exact yP bJ
structure Cs (p:Pt) (P:BJ.Pt):Prop where
 ok:qa p
 is:KA (GN p) P
theorem ac1:Cs dB BJ.Pt.zero:=⟨S2.1,by rw[S2.2];exact KB⟩
theorem BG:Cs fM bJ:=⟨S1.1,by rw[S1.2];exact ac0⟩
theorem vo{p q:Pt}{P Q:BJ.Pt}(hp:Cs p P)(hq:Cs q Q):Cs (cm p q) (P.add Q):=by
 obtain⟨h1,_,h3⟩:=Pm hp.ok hq.ok;exact⟨h1,by rw[h3];exact GR hp.is hq.is⟩
theorem Pv{p:Pt}{P:BJ.Pt}(hp:Cs p P):Cs (bB p) (P.add P):=vo hp hp
theorem aik{p:Pt}{P:BJ.Pt}(hp:Cs p P):Cs (nq p) P.neg:=by
 obtain⟨h1,_,h3⟩:=an3 hp.ok;exact⟨h1,by rw[h3];exact aie hp.is⟩
def qb(P:BJ.Pt):dG:=if P.x.val%2=1 then xe (fB P.y)else fB P.y
theorem ail{p:Pt}{P:BJ.Pt}(hp:Cs p P):vh p=qb P:=by
 rw[Wh hp.ok];unfold arR qb;rw[arW hp.is,arX hp.is]
theorem BH(P:BJ.Pt):bZ (qb P)=(P.y.val:Int)+(if P.x.val%2=1 then jV else 0):=by
 unfold qb;obtain⟨h1,h2⟩:=ie P.y
 by_cases h:P.x.val%2=1
 ·rw[if_pos h,if_pos h,(BE h1 (xg _).2).2,h2]
 ·rw[if_neg h,if_neg h,h2,Int.add_zero]
theorem ac2{P Q:BJ.Pt}(h:qb P=qb Q):P=Q:=by
 have hv:=congrArg bZ h;rw[BH,BH]at hv;have hp:=BD P.y;have hq:=BD Q.y;have c1:=xh;have c2:=acT;have hy:P.y=Q.y:=xW (by split at hv<;>split at hv<;>omega)
 have azN:P.x.val%2=1↔Q.x.val%2=1:=by
  split at hv<;>split at hv<;>omega
 refine BJ.Pt.ext' ?_ hy;have e1:=Pu P.on;have e2:=Pu Q.on;rw[← hy]at e2
 have hc:P.x=Q.x∨P.x= -Q.x:=by
  rcases e1.2 with a|a<;>rcases e2.2 with b|b<;>rw[a]at b
  ·exact .inl b
  ·exact .inr b
  ·right;grobner
  ·left;grobner
 rcases hc with h1|h1
 ·exact h1
 ·by_cases h0:Q.x=0
  ·rw[h1,h0];grobner
  ·have:=GQ h0;rw[← h1]at this;omega
end Go.Proofs.YtnbkagglkajbkaaGreat
namespace Go.Proofs.YtnbkagglkajbkaaGreat
open Go Go.Ev BJ Go.Proofs.Tryz
open Go.IntKind (i64 signed u16 u64 wrap)
theorem KF{V:Nat}(hV:V<2 ^ 256){p:E4}{P:BJ.Pt}(hp:KA p P):KA (Kz V p) (dR V P):=by
 have key:∀k,k≤256→KA (gC (lf V p) k oC) (dR (V/2 ^ (256-k)) P):=by
  intro k
  induction k with
  |zero=>
   intro _;rw[Nat.sub_zero,Nat.div_eq_of_lt hV];exact KB
  |succ k ih=>
   intro hk;have h:=ih (by omega);show KA (lf V p k (gC (lf V p) k oC)) _
   have hdiv:V/2 ^ (256-k)=V/2 ^ (256-(k+1))/2:=by
    rw[Nat.div_div_eq_div_mul,← Nat.pow_succ];congr 2;omega
   rw[hdiv]at h;unfold lf Pp;rw[show 255-k=256-(k+1)from by omega];generalize V/2 ^ (256-(k+1))=M at*;have h2:=GR h h;rw[← lX]at h2
   by_cases hb:M%2=1
   ·rw[decide_eq_true hb,if_pos rfl];have h3:=GR h2 hp
    have e:(dR (M/2+M/2) P).add P=dR M P:=by
     have:M=(M/2+M/2)+1:=by omega
     conv=>rhs;rw[this]
     rfl
    rw[e]at h3;exact h3
   ·rw[decide_eq_false hb,if_neg (by simp)];rw[show M/2+M/2=M from by omega]at h2;exact h2
 have:=key 256 (by omega);rw[Nat.sub_self,Nat.pow_zero,Nat.div_one]at this;exact this
theorem Pw{n:dG}(h:nm n):(bZ n).toNat<2 ^ 256:=by
 have h1:=rn h;have h0:=dp h;have an1:(256 ^ 32:Nat)=2 ^ 256:=by rw[show(256:Nat)=2 ^ 8 from rfl,← Nat.pow_mul]
 rw[an1]at h1;omega
theorem ac3{n:dG}{p:Pt}{P:BJ.Pt}(hn:nm n)(hp:Cs p P):Cs (BC n p) (dR (bZ n).toNat P):=by
 obtain⟨h1,h2⟩:=ah8 hn hp.ok;exact⟨h1,by rw[h2];exact KF (Pw hn) hp.is⟩
theorem KG(P:BJ.Pt):nm (qb P)∧acN (qb P)=(xc P.x P.y,true):=by
 obtain⟨b1,b2⟩:=ie P.y;have hv:=BH P
 have oN:nm (qb P):=by
  unfold qb
  split
  ·exact(BE b1 (xg _).2).1
  ·exact b1
 have hp:=BD P.y;have c1:=xh;have c2:=acT
 have hm:bZ (qb P)%jV=(P.y.val:Int):=by
  have c3:∀x:Int,x%jV=x%57896044618658097711785492504343953926634992332820282019728792003956564819968:=fun _=>rfl;rw[hv,c3]
  split<;>omega
 have hF:c6 (bZ (qb P)%jV)=P.y:=by rw[hm,an4]
 have h31:=rp oN (i:=31) (by decide);rw[ah4]at h31
 have Ky:128≤(qb P).get 31↔P.x.val%2=1:=by
  rw[h31,hv]
  split<;>omega
 obtain⟨x1,x2⟩:=Pu P.on;have hev:=acU P.y;refine⟨oN,?_⟩;unfold acN;simp only[hF]
 have kN:(my P.y).2=true∧bZ (qb P)%jV<(pp:Int)∧¬(128≤(qb P).get 31∧(my P.y).1=0):=by
  refine⟨x1,by rw[hm];exact hp.2,fun⟨h1,h2⟩=>?_⟩;have ar0:=Ky.1 h1
  have ti:P.x=0:=by
   rcases x2 with h|h
   ·rw[← h,h2]
   ·have:P.x= -(my P.y).1:=(by rw[h];grobner);rw[this,h2];grobner
  rw[ti,BJ.F.vn]at ar0;cases ar0
 rw[if_pos kN]
 have an9:(if 128≤(qb P).get 31 then-(my P.y).1 else(my P.y).1)=P.x:=by
  generalize (my P.y).1=X at*
  by_cases h:P.x.val%2=1
  ·rw[if_pos (Ky.2 h)];rcases x2 with e|e
   ·rw[e]at hev;omega
   ·rw[e];grobner
  ·rw[if_neg fun h'=>h (Ky.1 h')];rcases x2 with e|e
   ·exact e
   ·by_cases h0:P.x=0
    ·rw[e,h0];grobner
    ·have:=GQ h0;rw[← e]at this;omega
 rw[an9]
end Go.Proofs.YtnbkagglkajbkaaGreat
namespace Go.Proofs.YtnbkagglkajbkaaGreat
open Go Go.Ev BJ Go.Proofs.Tryz
open Go.IntKind (i64 signed u16 u64 wrap)
set_option maxRecDepth 1000000
noncomputable section
variable (alive:Unit) (mult:dG→Pt→Pt) (axJ:dG→Pt) (base zero:Pt) (double neg:Pt→Pt) (equal:Pt→Pt→Bool) (azO:dG→Pt) (add:Pt→Pt→Pt) (half:dG→dG) (plus:dG→dG→dG) (azP:dG→Pt→dG→Pt)
end
end Go.Proofs.YtnbkagglkajbkaaGreat
namespace Go.Proofs.YtnbkagglkajbkaaGreat
open Go Go.Ev Go.Proofs.Tryz
open Go.IntKind (i64 signed u16 u64 wrap)
set_option maxRecDepth 1000000
noncomputable section
variable (bit:dG→Nat→Int) (zero base:Pt) (double:Pt→Pt) (Ko:Pt→Pt→Pt)
def BI(z:Int): {n:Nat}→List (Vec Int n)→Vec Int n
 |0,_=>()
 |_+1,l=>((l.map (·.1)).getD z.toNat 0,BI z (l.map (·.2)))
def xj(z:Int)(l:List Pt):Pt:=((l.map (·.1)).getD z.toNat false,BI z (l.map (·.2.1)),BI z (l.map (·.2.2.1)),BI z (l.map (·.2.2.2.1)),BI z (l.map (·.2.2.2.2)))
def aim(a b c d:Pt):Vec Pt 4:=(a,b,c,d,())
def ain(a b:dG)(i:Int):Int:=w (bit a i.toNat+w (2*bit b i.toNat))
def rq(a b:dG)(l:Vec Pt 4)(i:Int)(r:Pt):Pt:=DL (decide (ain bit a b i>0)) (Ko (double r) (xj (ain bit a b i) l.toList)) (double r)
def alp(a:dG)(p:Pt)(b:dG):Pt:=gC (fun k r=>rq bit double Ko a b (aim zero p base (Ko p base)) (255-(k:Int)) r) 256 zero
end
end Go.Proofs.YtnbkagglkajbkaaGreat
namespace Go.Proofs.YtnbkagglkajbkaaGreat
open Go Go.Ev BJ Go.Proofs.Tryz
open Go.IntKind (i64 signed u16 u64 wrap)
theorem ac4{e:dG}(_k:Nat):iN e _k=0∨iN e _k=1:=by
 unfold iN;rw[z6 (m:=1) (by decide) _ 1 (by decide)];have h:=Int.emod_nonneg (shr .u8 (e.get (_k/8)) ((_k%8:Nat):Int)) (b:=((2 ^ 1:Nat):Int)) (by decide);have h2:=Int.emod_lt_of_pos (shr .u8 (e.get (_k/8)) ((_k%8:Nat):Int)) (b:=((2 ^ 1:Nat):Int)) (by decide);generalize (shr .u8 (e.get (_k/8)) ((_k%8:Nat):Int))%((2 ^ 1:Nat):Int)=x at*;have h3:((2 ^ 1:Nat):Int)=2:=by decide
 rw[h3]at h2;rw[wrap_i64 (by omega) (by omega)];omega
def ac5:dG→Pt→dG→Pt:=alp iN dB fM bB cm
theorem ns(z:Nat):∀ {n:Nat} (l:List (Vec Int n)) (v:Vec Int n),l[z]? =some v→BI (z:Int) l=v
 |0,_,_,_=>rfl
 |n+1,l,v,h=>by
  have h1:(l.map (·.1))[z]? =some v.1:=by rw[List.getElem?_map,h];rfl
  have h2:(l.map (·.2))[z]? =some v.2:=by rw[List.getElem?_map,h];rfl
  show((l.map (·.1)).getD ((z:Int)).toNat 0,BI (z:Int) (l.map (·.2)))=v;rw[ns z _ _ h2,Int.toNat_natCast,List.getD_eq_getElem?_getD,h1];rfl
theorem sJ(z:Nat)(l:List Pt)(v:Pt)(h:l[z]? =some v):xj (z:Int) l=v:=by
 have hm:∀ {α:Type} (f:Pt→α),(l.map f)[z]? =some (f v):=fun f=>by rw[List.getElem?_map,h];rfl
 unfold xj;rw[Int.toNat_natCast,List.getD_eq_getElem?_getD,hm,ns z _ _ (hm _),ns z _ _ (hm _),ns z _ _ (hm _),ns z _ _ (hm _)];rfl
theorem KH(V:Nat)(k:Nat)(hk:k<256)(e:dG)(he:nm e)(hV:V=(bZ e).toNat):iN e (255-(k:Int)).toNat=((V/2 ^ (256-(k+1))%2:Nat):Int):=by
 have h1:=DR he (i:=(255-(k:Int)).toNat) (by omega);have e1:(255-(k:Int)).toNat=256-(k+1):=by omega
 rw[e1]at h1 ⊢;unfold Pp at h1;rw[← hV]at h1;generalize V/2 ^ (256-(k+1))=M at*;rcases ac4 (e:=e) (256-(k+1))with h|h
 ·rw[h]at h1 ⊢;have:¬M%2=1:=fun h'=>by rw[decide_eq_true h']at h1;cases h1
  omega
 ·rw[h]at h1 ⊢
  have:M%2=1:=by
   refine Classical.byContradiction fun h'=>?_;rw[decide_eq_false h']at h1;cases h1
  omega
theorem vp(n:Nat)(P:BJ.Pt):(dR (n+1) P)=(dR n P).add P:=rfl
theorem KI(a b c d:BJ.Pt):((a.add b).add (c.add d))=(a.add c).add (b.add d):=arY a b c d
theorem aio{a b:dG}{p:Pt}{P:BJ.Pt}(ha:nm a)(hb:nm b)(hp:Cs p P):Cs (ac5 a p b) ((dR (bZ a).toNat P).add (dR (bZ b).toNat bJ)):=by
 have key:∀k,k≤256→Cs (gC (fun k r=>rq iN bB cm a b (aim dB p fM (cm p fM)) (255-(k:Int)) r) k dB) ((dR ((bZ a).toNat/2 ^ (256-k)) P).add (dR ((bZ b).toNat/2 ^ (256-k)) bJ)):=by
  intro k
  induction k with
  |zero=>
   intro _;rw[Nat.sub_zero,Nat.div_eq_of_lt (Pw ha),Nat.div_eq_of_lt (Pw hb)]
   have e:(dR 0 P).add (dR 0 bJ)=BJ.Pt.zero:=by
    show BJ.Pt.zero.add BJ.Pt.zero=_;rw[BJ.Pt.add_zero]
   rw[e];exact ac1
  |succ k ih=>
   intro hk;have h:=ih (by omega);simp only[gC];generalize gC (fun k r=>rq iN bB cm a b (aim dB p fM (cm p fM)) (255-(k:Int)) r) k dB=r at*
   have hdiv:∀V:Nat,V/2 ^ (256-k)=V/2 ^ (256-(k+1))/2:=fun V=>by
    rw[Nat.div_div_eq_div_mul,← Nat.pow_succ];congr 2;omega
   rw[hdiv,hdiv]at h;have b1:=KH _ k (by omega) a ha rfl;have b2:=KH _ k (by omega) b hb rfl;unfold rq ain;rw[b1,b2];generalize (bZ a).toNat/2 ^ (256-(k+1))=A at*;generalize (bZ b).toNat/2 ^ (256-(k+1))=B at*;have hd:=Pv h;rw[KI,← lX,← lX]at hd;have hA:A%2=0∨A%2=1:=(by omega);have hB:B%2=0∨B%2=1:=(by omega);rcases hA with hA|hA<;>rcases hB with hB|hB<;>rw[hA,hB]
   ·have e1:A/2+A/2=A:=(by omega);have e2:B/2+B/2=B:=(by omega);have e3:w (((0:Nat):Int)+w (2*((0:Nat):Int)))=0:=(by decide);rw[e1,e2]at hd;rw[e3,gq];exact hd
   ·have e1:A/2+A/2=A:=(by omega);have e2:B=B/2+B/2+1:=(by omega);have e3:w (((0:Nat):Int)+w (2*((1:Nat):Int)))=((2:Nat):Int):=(by decide);have hs:=vo hd BG;rw[e1,BJ.Pt.add_assoc]at hs;rw[e3,gq,sJ 2 _ fM rfl];have e4:dR B bJ=(dR (B/2+B/2) bJ).add bJ:=(by rw[← vp,← e2]);rw[e4];exact hs
   ·have e1:A=A/2+A/2+1:=(by omega);have e2:B/2+B/2=B:=(by omega);have e3:w (((1:Nat):Int)+w (2*((0:Nat):Int)))=((1:Nat):Int):=(by decide);have hs:=vo hd hp;have e5:∀x y z:BJ.Pt,(x.add y).add z=(x.add z).add y:=fun x y z=>(by rw[BJ.Pt.add_assoc,BJ.Pt.add_comm y z,← BJ.Pt.add_assoc]);rw[e2,e5]at hs;rw[e3,gq,sJ 1 _ p rfl];have e4:dR A P=(dR (A/2+A/2) P).add P:=(by rw[← vp,← e1]);rw[e4];exact hs
   ·have e1:A=A/2+A/2+1:=(by omega);have e2:B=B/2+B/2+1:=(by omega);have e3:w (((1:Nat):Int)+w (2*((1:Nat):Int)))=((3:Nat):Int):=(by decide);have hs:=vo hd (vo hp BG);rw[KI]at hs;rw[e3,gq,sJ 3 _ (cm p fM) rfl];have e4:dR A P=(dR (A/2+A/2) P).add P:=(by rw[← vp,← e1]);have e5:dR B bJ=(dR (B/2+B/2) bJ).add bJ:=(by rw[← vp,← e2]);rw[e4,e5];exact hs
 have:=key 256 (by omega);rw[Nat.sub_self,Nat.pow_zero,Nat.div_one,Nat.div_one]at this;exact this
end Go.Proofs.YtnbkagglkajbkaaGreat
end
noncomputable section
namespace Go.Proofs.YtnbkagglkajbkaaGreat
open Go Go.Ev BJ Go.Proofs.Tryz
open Go.IntKind (i64 signed u16 u64 wrap)
set_option maxRecDepth 1000000
abbrev mA:aW LV Fe:=si (k9 .u64 5)
abbrev cB:aW LV (List Int):=MT .u8 32
abbrev aip(b:dG):LV:=jq .u8 32 b.toList
abbrev aiq:aW (List LV) (Int×Unit):=ae (ah (ay .u64)) ag
abbrev sK:aW (List LV) (Fe×Unit):=ae mA ag
abbrev nt:aW (List LV) (Fe×Fe×Unit):=ae mA (ae mA ag)
abbrev lh:aW (List LV) (List Int×Unit):=ae cB ag
abbrev kK:List Wk:= [.fr [.sym],.auto]
abbrev kR:List Wk:= [.fr [.sym],.mT 0 0 32 .u8,.auto]
def vq:ar:=ar.dx [] (sK) (ag) fun x_ y_=>(fun(x:Fe)=>.leaf none (mA.wr (cx x)) []) x_.1
theorem KJ(x:Fe):aT Tryz.prog [] [] f270 ((sK).wr (x,())) ((ag).wr ()) [.fr [.sym],.auto]= .leaf (mA.wr (cx x)) ([]):=by kernel_rfl
theorem rr:vq.Ok Tryz.prog 270:=by
 refine(ar.br call270 fun x_ y_ Q H_=>?_).sym;obtain⟨x,_⟩:=x_;have hq:=H_.2;refine(aA mixed aE func270 rfl (LT:= []) (ks:= [.fr [.sym],.auto]) (aO.nil _)).use (D:= []) ?_ hq;show(aT _ _ _ _ ((sK).wr (x,())) ((ag).wr ()) _).sat _;rw[KJ];exact⟨rfl,rfl⟩
def GS:ar:=ar.dx [] (aiq) (ag) fun x_ y_=>(fun(n:Int)=>.leaf none (mA.wr (aX n)) []) x_.1
theorem KK(n:Int):aT Tryz.prog [] [] f194 ((aiq).wr (n,())) ((ag).wr ()) [.fr [.sym],.auto]= .leaf (mA.wr (aX n)) ([]):=by kernel_rfl
theorem DS:GS.Ok Tryz.prog 194:=by
 refine(ar.br call194 fun x_ y_ Q H_=>?_).sym;obtain⟨n,_⟩:=x_;have hq:=H_.2;refine(aA mixed aE func194 rfl (LT:= []) (ks:= [.fr [.sym],.auto]) (aO.nil _)).use (D:= []) ?_ hq;show(aT _ _ _ _ ((aiq).wr (n,())) ((ag).wr ()) _).sat _;rw[KK];exact⟨rfl,rfl⟩
def alq:ar:=ar.dx [] (nt) (ag) fun x_ y_=>(fun(x y:Fe)=>.leaf none (mA.wr (kb x y)) []) x_.1 x_.2.1
theorem Wn(x y:Fe):aT Tryz.prog [(270,vq)] [] f266 ((nt).wr (x,y,())) ((ag).wr ()) [.fr [.sym],.auto]= .leaf (mA.wr (kb x y)) ([]):=by kernel_rfl
theorem air:alq.Ok Tryz.prog 266:=by
 refine(ar.br call266 fun x_ y_ Q H_=>?_).sym;obtain⟨x,y,_⟩:=x_;have hq:=H_.2;refine(aA mixed ((aj rr aE)) func266 rfl (LT:= []) (ks:= [.fr [.sym],.auto]) (aO.nil _)).use (D:= []) ?_ hq;show(aT _ _ _ _ ((nt).wr (x,y,())) ((ag).wr ()) _).sat _;rw[Wn];exact⟨rfl,rfl⟩
def ac6:ar:=ar.dx [] (nt) (ag) fun x_ y_=>(fun(x y:Fe)=>.leaf none (mA.wr (lE x y)) []) x_.1 x_.2.1
theorem Wo(x y:Fe):aT Tryz.prog [(270,vq)] [] f265 ((nt).wr (x,y,())) ((ag).wr ()) [.fr [.sym],.auto]= .leaf (mA.wr (lE x y)) ([]):=by kernel_rfl
theorem S4:ac6.Ok Tryz.prog 265:=by
 refine(ar.br call265 fun x_ y_ Q H_=>?_).sym;obtain⟨x,y,_⟩:=x_;have hq:=H_.2;refine(aA mixed ((aj rr aE)) func265 rfl (LT:= []) (ks:= [.fr [.sym],.auto]) (aO.nil _)).use (D:= []) ?_ hq;show(aT _ _ _ _ ((nt).wr (x,y,())) ((ag).wr ()) _).sat _;rw[Wo];exact⟨rfl,rfl⟩
def alr:ar:=ar.dx [] (sK) (ag) fun x_ y_=>(fun(x:Fe)=>.leaf none (mA.wr (ld x)) []) x_.1
theorem Wp(x:Fe):aT Tryz.prog [(265,ac6)] [] f298 ((sK).wr (x,())) ((ag).wr ()) [.fr [.sym],.auto]= .leaf (mA.wr (ld x)) ([]):=by kernel_rfl
theorem ais:alr.Ok Tryz.prog 298:=by
 refine(ar.br call298 fun x_ y_ Q H_=>?_).sym;obtain⟨x,_⟩:=x_;have hq:=H_.2;refine(aA mixed ((aj S4 aE)) func298 rfl (LT:= []) (ks:= [.fr [.sym],.auto]) (aO.nil _)).use (D:= []) ?_ hq;show(aT _ _ _ _ ((sK).wr (x,())) ((ag).wr ()) _).sat _;rw[Wp];exact⟨rfl,rfl⟩
def ac7:ar:=ar.dx [] ((ae (ah (ay .u64)) (ae (ah (ay .u64)) ag))) (ag) fun x_ y_=>(fun(x y:Int)=>.leaf none (.cT [.sc (.int .u64 (.sym (bn x y).1)),.sc (.int .u64 (.sym (bn x y).2))]) []) x_.1 x_.2.1
theorem Px(x y:Int):aT Tryz.prog [] [] f200 (((ae (ah (ay .u64)) (ae (ah (ay .u64)) ag))).wr (x,y,())) ((ag).wr ()) [.fr [.sym],.auto]= .leaf (.cT [.sc (.int .u64 (.sym (bn x y).1)),.sc (.int .u64 (.sym (bn x y).2))]) ([]):=by kernel_rfl
theorem KL:ac7.Ok Tryz.prog 200:=by
 refine(ar.br call200 fun x_ y_ Q H_=>?_).sym;obtain⟨x,y,_⟩:=x_;have hq:=H_.2;refine(aA mixed aE func200 rfl (LT:= []) (ks:= [.fr [.sym],.auto]) (aO.nil _)).use (D:= []) ?_ hq;show(aT _ _ _ _ (((ae (ah (ay .u64)) (ae (ah (ay .u64)) ag))).wr (x,y,())) ((ag).wr ()) _).sat _;rw[Px];exact⟨rfl,rfl⟩
def Py:ar:=ar.dx [] (lh) (ag) fun x_ y_=>(fun(b:List Int)=>.leaf none (mA.wr (gp (oB b))) []) x_.1
theorem Pz(b:List Int):aT Tryz.prog [] [] f295 ((lh).wr (b,())) ((ag).wr ()) [.fr [.sym],.auto]= .leaf (mA.wr (gp (oB b))) ([]):=by kernel_rfl
theorem KM:Py.Ok Tryz.prog 295:=by
 refine(ar.br call295 fun x_ y_ Q H_=>?_).sym;obtain⟨b,_⟩:=x_;have hq:=H_.2;refine(aA mixed aE func295 rfl (LT:= []) (ks:= [.fr [.sym],.auto]) (aO.nil _)).use (D:= []) ?_ hq;show(aT _ _ _ _ ((lh).wr (b,())) ((ag).wr ()) _).sat _;rw[Pz];exact⟨rfl,rfl⟩
def S5:ar:=ar.dx [] (sK) (ag) fun x_ y_=>(fun(x:Fe)=>.leaf none (mA.wr (acO x)) []) x_.1
theorem KN(x:Fe):aT Tryz.prog [(270,vq)] [] f199 ((sK).wr (x,())) ((ag).wr ()) [.fr [.sym],.auto]= .leaf (mA.wr (acO x)) ([]):=by kernel_rfl
theorem Wq:S5.Ok Tryz.prog 199:=by
 refine(ar.br call199 fun x_ y_ Q H_=>?_).sym;obtain⟨x,_⟩:=x_;have hq:=H_.2;refine(aA mixed ((aj rr aE)) func199 rfl (LT:= []) (ks:= [.fr [.sym],.auto]) (aO.nil _)).use (D:= []) ?_ hq;show(aT _ _ _ _ ((sK).wr (x,())) ((ag).wr ()) _).sat _;rw[KN];exact⟨rfl,rfl⟩
def vr:ar:=ar.dx [] (sK) (ag) fun x_ y_=>(fun(x:Fe)=>.leaf none (aip (dQ x)) []) x_.1
theorem KO(x:Fe):aT Tryz.prog [(199,S5)] [] f136 ((sK).wr (x,())) ((ag).wr ()) kR= .leaf (aip (dQ x)) ([]):=by kernel_rfl
theorem ru:vr.Ok Tryz.prog 136:=by
 refine(ar.br call136 fun x_ y_ Q H_=>?_).sym;obtain⟨x,_⟩:=x_;have hq:=H_.2;refine(aA mixed ((aj Wq aE)) func136 rfl (LT:= []) (ks:=kR) (aO.nil _)).use (D:= []) ?_ hq;show(aT _ _ _ _ ((sK).wr (x,())) ((ag).wr ()) _).sat _;rw[KO];exact⟨rfl,rfl⟩
abbrev aoa:ar:=(lT bt).sym
theorem BK:aoa.Ok Tryz.prog 201:=(O5 func201 (by kernel_rfl) (by kernel_rfl) (by kernel_rfl) (by kernel_rfl) rfl).sym
def als(m:Int→Int→Int×Int):ar:=ar.dx [] (ae (ah (ay .u64)) (ae (ah (ay .u64)) ag)) ag fun x _=>.leaf none (.cT [.sc (.int .u64 (.sym (m x.1 x.2.1).1)),.sc (.int .u64 (.sym (m x.1 x.2.1).2))]) []
abbrev qc(o:Nat):aW (List LV) (Int×Int×Unit):=ak (ah (aP 0 o)) (ae (ah (ay .u64)) (ae (ah (ay .u64)) ag))
abbrev qd:aW Hp (Vec Int 10×Unit):=ae (iF 341 (k9 .u64 10)) ag
noncomputable section
variable (m:Int→Int→Int×Int) (a:Int→Int→Int→Int×Int)
def lY(k:Nat)(x y:Int)(v:Vec Int 10):Int×Int:=a (v.get (2*k+1)) (m x y).2 0
def qe(k:Nat)(x y:Int)(v:Vec Int 10):Vec Int 10:=Vec.xZ (fun _=>(lY m a k x y v).1) (2*k+1) (Vec.xZ (fun _=>(a (v.get (2*k)) (m x y).1 (lY m a k x y v).2).1) (2*k) v)
def rO(k:Nat):ar:=ar.dx [] (qc (2*k)) qd fun x h=>.leaf (some (0≤(lY m a k x.1 x.2.1 h.1).2∧(lY m a k x.1 x.2.1 h.1).2≤1)) (.cT []) [(0,.bm ((k9 .u64 10).wr (qe m a k x.1 x.2.1 h.1)) 341)]
abbrev n9:List (FuncId×ar):= [(200,als m),(201,(lT a).sym)]
abbrev rP:List Wk:= [.bm 0 (List.replicate 10 .sym),.auto]
theorem PA(x y:Int)(v:Vec Int 10):aT Tryz.prog (n9 m a) [] f269 ((qc 0).wr (x,y,())) (qd.wr (v,())) rP=
  .need (0≤(0:Int)∧(0:Int)≤1) (.need (0≤(lY m a 0 x y v).2∧(lY m a 0 x y v).2≤1) (.leaf (.cT []) [some (.bm ((k9 .u64 10).wr (qe m a 0 x y v)) 341)])):=by kernel_rfl
theorem PB(x y:Int)(v:Vec Int 10):aT Tryz.prog (n9 m a) [] f269 ((qc 2).wr (x,y,())) (qd.wr (v,())) rP=
  .need (0≤(0:Int)∧(0:Int)≤1) (.need (0≤(lY m a 1 x y v).2∧(lY m a 1 x y v).2≤1) (.leaf (.cT []) [some (.bm ((k9 .u64 10).wr (qe m a 1 x y v)) 341)])):=by kernel_rfl
theorem PC(x y:Int)(v:Vec Int 10):aT Tryz.prog (n9 m a) [] f269 ((qc 4).wr (x,y,())) (qd.wr (v,())) rP=
  .need (0≤(0:Int)∧(0:Int)≤1) (.need (0≤(lY m a 2 x y v).2∧(lY m a 2 x y v).2≤1) (.leaf (.cT []) [some (.bm ((k9 .u64 10).wr (qe m a 2 x y v)) 341)])):=by kernel_rfl
theorem PD(x y:Int)(v:Vec Int 10):aT Tryz.prog (n9 m a) [] f269 ((qc 6).wr (x,y,())) (qd.wr (v,())) rP=
  .need (0≤(0:Int)∧(0:Int)≤1) (.need (0≤(lY m a 3 x y v).2∧(lY m a 3 x y v).2≤1) (.leaf (.cT []) [some (.bm ((k9 .u64 10).wr (qe m a 3 x y v)) 341)])):=by kernel_rfl
theorem PE(x y:Int)(v:Vec Int 10):aT Tryz.prog (n9 m a) [] f269 ((qc 8).wr (x,y,())) (qd.wr (v,())) rP=
  .need (0≤(0:Int)∧(0:Int)≤1) (.need (0≤(lY m a 4 x y v).2∧(lY m a 4 x y v).2≤1) (.leaf (.cT []) [some (.bm ((k9 .u64 10).wr (qe m a 4 x y v)) 341)])):=by kernel_rfl
variable (hm:∀p∈n9 m a,p.2.Ok Tryz.prog p.1)
include hm
theorem ac8:(rO m a 0).Ok Tryz.prog 269:=by
 refine(ar.br call269 fun x_ y_ Q H_=>?_).sym;obtain⟨x,y,_⟩:=x_;obtain⟨v,_⟩:=y_;obtain⟨hn,hq⟩:=H_;refine(aA mixed hm func269 rfl (LT:= []) (ks:=rP) (aO.nil _)).use (D:= [(0,.bm ((k9 .u64 10).wr (qe m a 0 x y v)) 341)]) ?_ hq;show(aT _ _ _ _ ((qc 0).wr (x,y,())) (qd.wr (v,())) _).sat _;rw[PA];exact⟨by decide,hn,rfl,rfl⟩
theorem ac9:(rO m a 1).Ok Tryz.prog 269:=by
 refine(ar.br call269 fun x_ y_ Q H_=>?_).sym;obtain⟨x,y,_⟩:=x_;obtain⟨v,_⟩:=y_;obtain⟨hn,hq⟩:=H_;refine(aA mixed hm func269 rfl (LT:= []) (ks:=rP) (aO.nil _)).use (D:= [(0,.bm ((k9 .u64 10).wr (qe m a 1 x y v)) 341)]) ?_ hq;show(aT _ _ _ _ ((qc 2).wr (x,y,())) (qd.wr (v,())) _).sat _;rw[PB];exact⟨by decide,hn,rfl,rfl⟩
theorem ada:(rO m a 2).Ok Tryz.prog 269:=by
 refine(ar.br call269 fun x_ y_ Q H_=>?_).sym;obtain⟨x,y,_⟩:=x_;obtain⟨v,_⟩:=y_;obtain⟨hn,hq⟩:=H_;refine(aA mixed hm func269 rfl (LT:= []) (ks:=rP) (aO.nil _)).use (D:= [(0,.bm ((k9 .u64 10).wr (qe m a 2 x y v)) 341)]) ?_ hq;show(aT _ _ _ _ ((qc 4).wr (x,y,())) (qd.wr (v,())) _).sat _;rw[PC];exact⟨by decide,hn,rfl,rfl⟩
theorem adb:(rO m a 3).Ok Tryz.prog 269:=by
 refine(ar.br call269 fun x_ y_ Q H_=>?_).sym;obtain⟨x,y,_⟩:=x_;obtain⟨v,_⟩:=y_;obtain⟨hn,hq⟩:=H_;refine(aA mixed hm func269 rfl (LT:= []) (ks:=rP) (aO.nil _)).use (D:= [(0,.bm ((k9 .u64 10).wr (qe m a 3 x y v)) 341)]) ?_ hq;show(aT _ _ _ _ ((qc 6).wr (x,y,())) (qd.wr (v,())) _).sat _;rw[PD];exact⟨by decide,hn,rfl,rfl⟩
theorem ade:(rO m a 4).Ok Tryz.prog 269:=by
 refine(ar.br call269 fun x_ y_ Q H_=>?_).sym;obtain⟨x,y,_⟩:=x_;obtain⟨v,_⟩:=y_;obtain⟨hn,hq⟩:=H_;refine(aA mixed hm func269 rfl (LT:= []) (ks:=rP) (aO.nil _)).use (D:= [(0,.bm ((k9 .u64 10).wr (qe m a 4 x y v)) 341)]) ?_ hq;show(aT _ _ _ _ ((qc 8).wr (x,y,())) (qd.wr (v,())) _).sat _;rw[PE];exact⟨by decide,hn,rfl,rfl⟩
omit hm
def S6:ar:=(rO m a 0).or ((rO m a 1).or ((rO m a 2).or ((rO m a 3).or (rO m a 4))))
def adf(l:List Prop)(e:Ev.End):Ev.End:=l.foldr Ev.End.need e
theorem BL{R:LV→Hp→Prop}:∀ {l:List Prop} {e:Ev.End},(∀p∈l,p)→e.sat R→(adf l e).sat R
 | [],_,_,h=>h
 |p::l,e,hl,h=>⟨hl p (by simp),BL (fun q hq=>hl q (by simp[hq])) h⟩
theorem Wr(x y:Fe):aT Tryz.prog [(269,S6 m a),(270,vq)] [] f193 (nt.wr (x,y,())) [] kK=
  adf (Bm m a x y) (Ev.End.leaf (mA.wr (sG m a cx x y)) []):=by kernel_rfl
end
theorem adg:(als bn).Ok Tryz.prog 200:=KL
theorem lj:∀p∈n9 bn bt,p.2.Ok Tryz.prog p.1:=aj adg (aj BK aE)
theorem PF:(S6 bn bt).Ok Tryz.prog 269:=(ac8 bn bt lj).or ((ac9 bn bt lj).or ((ada bn bt lj).or ((adb bn bt lj).or (ade bn bt lj))))
theorem Ws(x y:Fe):∀p∈Bm bn bt x y,p:=vl x y fK _ fun k=>by
 have:([(0,0),(0,0),(0,0),(0,0),(0,0)]:List (Int×Int)).getD k (0,0)=(0,0):=by
  match k with
  |0=>rfl
  |1=>rfl
  |2=>rfl
  |3=>rfl
  |4=>rfl
  |k+5=>rfl
 rw[this];exact⟨by decide,by decide⟩
def DT:ar:=ar.dx [] nt ag fun x _=>.leaf none (mA.wr (mulC x.1 x.2.1)) []
theorem GU:DT.Ok Tryz.prog 193:=by
 refine(ar.br call193 fun x_ y_ Q H_=>?_).sym;obtain⟨x,y,_⟩:=x_;have hq:=H_.2;refine(aA mixed (aj PF (aj rr aE)) func193 rfl (LT:= []) (ks:=kK) (aO.nil _)).use (D:= []) ?_ hq;show(aT _ _ _ _ (nt.wr (x,y,())) [] _).sat _;rw[Wr];exact BL (Ws x y) ⟨rfl,rfl⟩
def adh:ar:=ar.dx [] (sK) (ag) fun x_ y_=>(fun(x:Fe)=>.leaf none (mA.wr (mulC x x)) []) x_.1
theorem adi(x:Fe):aT Tryz.prog [(193,DT)] [] f273 ((sK).wr (x,())) ((ag).wr ()) [.fr [.sym],.auto]= .leaf (mA.wr (mulC x x)) ([]):=by kernel_rfl
theorem adj:adh.Ok Tryz.prog 273:=by
 refine(ar.br call273 fun x_ y_ Q H_=>?_).sym;obtain⟨x,_⟩:=x_;have hq:=H_.2;refine(aA mixed ((aj GU aE)) func273 rfl (LT:= []) (ks:= [.fr [.sym],.auto]) (aO.nil _)).use (D:= []) ?_ hq;show(aT _ _ _ _ ((sK).wr (x,())) ((ag).wr ()) _).sat _;rw[adi];exact⟨rfl,rfl⟩
theorem S7(u v:dG):decide (u.toList=v.toList)=eqV u v:=by
 cases h:eqV u v with
 |true=>rw[(n5 u v).1 h];simp
 |false=>exact decide_eq_false fun e=>by rw[(n5 u v).2 (Vec.toList_inj e)]at h;cases h
def aob:ar:=ar.dx [] (nt) (ag) fun x_ y_=>(fun(x y:Fe)=>.leaf none (nB (Pk x y)) []) x_.1 x_.2.1
theorem adk(x y:Fe):aT Tryz.prog [(136,vr)] [] f321 ((nt).wr (x,y,())) ((ag).wr ()) [.fr [.sym],.auto]= .leaf (nB (decide ((dQ x).toList=(dQ y).toList))) []:=by kernel_rfl
theorem adl:aob.Ok Tryz.prog 321:=by
 refine(ar.br call321 fun x_ y_ Q H_=>?_).sym;obtain⟨x,y,_⟩:=x_;have hq:=H_.2;refine(aA mixed ((aj ru aE)) func321 rfl (LT:= []) (ks:= [.fr [.sym],.auto]) (aO.nil _)).use (D:= []) ?_ hq;show(aT _ _ _ _ ((nt).wr (x,y,())) ((ag).wr ()) _).sat _;rw[adk];rw[S7];exact⟨rfl,rfl⟩
def adm:ar:=ar.dx [] (sK) (ag) fun x_ y_=>(fun(x:Fe)=>.leaf none (nB (df x)) []) x_.1
theorem PG(x:Fe):aT Tryz.prog [(321,aob)] [] f297 ((sK).wr (x,())) ((ag).wr ()) [.fr [.sym],.auto]= .leaf (nB (df x)) ([]):=by kernel_rfl
theorem adn:adm.Ok Tryz.prog 297:=by
 refine(ar.br call297 fun x_ y_ Q H_=>?_).sym;obtain⟨x,_⟩:=x_;have hq:=H_.2;refine(aA mixed ((aj adl aE)) func297 rfl (LT:= []) (ks:= [.fr [.sym],.auto]) (aO.nil _)).use (D:= []) ?_ hq;show(aT _ _ _ _ ((sK).wr (x,())) ((ag).wr ()) _).sat _;rw[PG];exact⟨rfl,rfl⟩
def alu:ar:=ar.dx [] (sK) (ag) fun x_ y_=>(fun(x:Fe)=>.leaf none (nB (p9 x)) []) x_.1
theorem Wt(x:Fe):aT Tryz.prog [(136,vr)] [] f137 ((sK).wr (x,())) ((ag).wr ()) [.fr [.sym],.auto]= .leaf (nB (p9 x)) ([]):=by kernel_rfl
theorem ait:alu.Ok Tryz.prog 137:=by
 refine(ar.br call137 fun x_ y_ Q H_=>?_).sym;obtain⟨x,_⟩:=x_;have hq:=H_.2;refine(aA mixed ((aj ru aE)) func137 rfl (LT:= []) (ks:= [.fr [.sym],.auto]) (aO.nil _)).use (D:= []) ?_ hq;show(aT _ _ _ _ ((sK).wr (x,())) ((ag).wr ()) _).sat _;rw[Wt];exact⟨rfl,rfl⟩
theorem jx{l:List Int}(h:l.length=32):(oB l).toList=l:=by
 have e:(oB l).toList=(List.range 32).map fun i=>l.getD i 0:=rfl;rw[e,YY h]
theorem BM(u:dG):oB u.toList=u:=Vec.toList_inj (jx (Vec.eI u))
theorem BN{f:Int→Int}: {n:Nat}→(k:Nat)→(v:Vec Int n)→(Vec.xZ f k v).toList=v.toList.modify k f
 |0,k,_=>by simp[Vec.xZ,Vec.toList]
 |n+1,0,v=>by simp[Vec.xZ,Vec.toList]
 |n+1,k+1,v=>by simp[Vec.xZ,Vec.toList,BN k v.2]
theorem S8{l:List Int}(h:l.length=32){k:Nat}(hk:k<32)(f:Int→Int):oB (l.set k (f (l.getD k 0)))=Vec.xZ f k (oB l):=by
 apply Vec.toList_inj
 rw[BN,jx h,jx (by simpa using h),List.getD_eq_getElem?_getD,List.getElem?_eq_getElem (by omega:k<l.length),Option.getD_some]
 apply List.ext_getElem?
 intro i;simp only[List.getElem?_modify,List.getElem?_set]
 by_cases e:k=i
 ·subst e;simp[h,hk]
 ·simp[e]
theorem S9(l:List Int):∀ {k:Nat},k<32→(oB l).get k=l.getD k 0:=by
 have key:∀ (n:Nat) (g:Nat→Int) (k:Nat),k<n→(Vec.ofFn n g).get k=g k:=by
  intro n
  induction n with
  |zero=>intro g k hk;omega
  |succ n ih=>
   intro g k hk
   cases k with
   |zero=>rfl
   |succ k=>exact ih (fun i=>g (i+1)) k (by omega)
 intro k hk;exact key 32 (fun i=>l.getD i 0) k hk
theorem BO(k m:Nat):(k:Int).tmod (m:Int)=((k%m:Nat):Int):=by rw[Int.tmod_eq_emod_of_nonneg (by omega),← Int.natCast_emod]
def Ta:ar:=ar.dx [] (lh) (ag) fun x_ y_=>(fun(b:List Int)=>.leaf (some (b.length=32)) (nB (jw (oB b))) []) x_.1
theorem KP(b:List Int):aT Tryz.prog [(136,vr),(295,Py)] [] f296 ((lh).wr (b,())) ((ag).wr ()) [.fr [.sym],.auto]= .leaf (nB (decide ((dQ (gp (oB (b.set 31 (bT .u8 (b.getD 31 0) 128))))).toList=b.set 31 (bT .u8 (b.getD 31 0) 128)))) []:=by kernel_rfl
theorem Wu:Ta.Ok Tryz.prog 296:=by
 refine(ar.br call296 fun x_ y_ Q H_=>?_).sym;obtain⟨b,_⟩:=x_;obtain⟨hn,hq⟩:=H_;have hn:b.length=32:=hn;refine(aA mixed ((aj ru (aj KM aE))) func296 rfl (LT:= []) (ks:= [.fr [.sym],.auto]) (aO.nil _)).use (D:= []) ?_ hq;show(aT _ _ _ _ ((lh).wr (b,())) ((ag).wr ()) _).sat _;rw[KP];have e:=S8 hn (k:=31) (by omega) (fun x=>bT .u8 x 128);rw[show b.set 31 (bT .u8 (b.getD 31 0) 128)=(oB (b.set 31 (bT .u8 (b.getD 31 0) 128))).toList from(jx (by simpa using hn)).symm,S7,BM,e];exact⟨rfl,rfl⟩
def alv:ar:=ar.dx [] ((ae (ah (ay .u8)) (ae (ah (ay .u8)) ag))) (ag) fun x_ y_=>(fun(lo hi:Int)=>.leaf none (aip (jd lo hi)) []) x_.1 x_.2.1
theorem Wv(lo hi:Int):aT Tryz.prog [] [] f272 (((ae (ah (ay .u8)) (ae (ah (ay .u8)) ag))).wr (lo,hi,())) ((ag).wr ()) kR= .leaf (aip (jd lo hi)) ([]):=by kernel_rfl
theorem aiu:alv.Ok Tryz.prog 272:=by
 refine(ar.br call272 fun x_ y_ Q H_=>?_).sym;obtain⟨lo,hi,_⟩:=x_;have hq:=H_.2;refine(aA mixed aE func272 rfl (LT:= []) (ks:=kR) (aO.nil _)).use (D:= []) ?_ hq;show(aT _ _ _ _ (((ae (ah (ay .u8)) (ae (ah (ay .u8)) ag))).wr (lo,hi,())) ((ag).wr ()) _).sat _;rw[Wv];exact⟨rfl,rfl⟩
abbrev aoc:Func:=f271
abbrev poC:aW (List LV) (Int×Unit):=(jk 2 (ak (ah (aP 0 0)) (ak (ah (aP 1 0)) (ak (ah (aP 2 0)) (ak (ah (aP 3 0)) (ae (ah (ay .i64)) (jk 20 ag)))))))
abbrev aiv:Wk:=.fr (dK 27 [(2,.an),(3,.an),(4,.an),(5,.an),(6,.sym)])
abbrev poX:aW (List LV) (Unit):=(jk 4 (ak (ah (aP 0 0)) (ak (ah (aP 1 0)) (jk 21 ag))))
abbrev iFe:aW (Option Ev.Item) Fe:=iF 153 (k9 .u64 5)
abbrev poH:aW Hp (Fe×List Int×Fe×Fe×Unit):=ae iFe (ae (oJ 22 .u8 32) (ae iFe (ae iFe ag)))
abbrev Ww:aW Hp (Fe×Fe×Unit):=ae iFe (ae iFe ag)
abbrev ado:List (FuncId×ar):= [(194,GS),(273,adh),(193,DT)]
theorem KQ:∀p∈ado,p.2.Ok Tryz.prog p.1:=aj DS (aj adj (aj GU aE))
abbrev KR(i:Nat):Wk:=.bm i (List.replicate 5 .sym)
def poW:Exit→List Wk
 | .normal=> [aiv,KR 2,KR 3,.auto]
 | .exit 0=> [.fr (dK 27 [(4,.an),(5,.an)]),.auto]
 |_=> []
theorem aod(x r o:Fe)(e:List Int)(i:Int):ee Tryz.prog ado [] aoc 0 [] poW ((bD poC poH).wr ((i,()),(x,e,r,o,())))=
 aZ.ite (decide ((0:Int)≤i)) (aZ.need ((0:Int)≤i64.wrap (i.tdiv (8:Int))∧i64.wrap (i.tdiv (8:Int))<(32:Int))
 (aZ.need ((0:Int)≤i.tmod (8:Int)) (aZ.ite (bg IntKind.u8 (shr IntKind.u8 ((List.take (32:Nat) (List.drop (0:Nat) e)).getD
 (i64.wrap (i.tdiv (8:Int))).toNat (0:Int)) (i.tmod (8:Int))) (1:Int)==(1:Int)) (aZ.leaf Exit.normal ((bD poC poH).wr
 ((i64.wrap (i-(1:Int)),PUnit.unit),x,e,r,mulC (mulC o o) x,PUnit.unit))) (aZ.leaf Exit.normal ((bD poC poH).wr ((i64.wrap
 (i-(1:Int)),PUnit.unit),x,e,r,mulC o o,PUnit.unit)))))) (aZ.leaf (Exit.exit (0:Nat)) ((bD poX Ww).wr (PUnit.unit,r,o,PUnit.unit))):=by kernel_rfl
theorem aiw{e:List Int}(he:e.length=32){j:Nat}(hj:j<256):
  (bg .u8 (shr .u8 ((List.take 32 (List.drop 0 e)).getD (i64.wrap ((j:Int).tdiv 8)).toNat 0) ((j:Int).tmod 8)) 1==1)=DK (oB e) j:=by
 have e1:i64.wrap ((j:Int).tdiv 8)=((j/8:Nat):Int):=kP j 8 (by omega);have e2:(j:Int).tmod 8=((j%8:Nat):Int):=BO j 8;rw[e1,e2,bU he,Int.toNat_natCast];unfold DK;rw[S9 e (show j/8<32 by omega)]
def poF(x:(Int×Unit)×Fe×List Int×Fe×Fe×Unit):aZ:=
 .need (x.1.1=255∧x.2.2.1.length=32) (.leaf (.exit 0) ((bD poX Ww).wr ((),(x.2.2.2.1,gC (fY (fun x=>mulC x x) mulC x.2.1 (oB x.2.2.1)) 256 x.2.2.2.2.1,()))))
theorem aix(x):Ex Tryz.prog [] (.loop (aV aoc 0)) ((bD poC poH).wr x) (poF x):=by
 obtain⟨⟨i,_⟩,x,e,r,o,_⟩:=x;refine Ex.need fun⟨h1,h2⟩=>?_;simp only at h1 h2;subst h1
 have key:=gJ (fn:=aoc) (id:=0) (j:=0) (ws:=poW) (hp:= []) mixed KQ (aO.nil _) 256 (fun k o=>(bD poC poH).wr ((255-(k:Int),()),(x,e,r,o,()))) (fun o=>(bD poX Ww).wr ((),(r,o,()))) (fY (fun x=>mulC x x) mulC x (oB e)) (fun _ _=>True)
  (fun k o R hk _ hn hx=>?_) (fun _ _ _ _=>trivial) 0 o (by omega) trivial
 ·rw[Nat.sub_zero,rk]at key;exact key
 rw[aod];refine⟨fun hb=>?_,fun hb=>?_⟩
 ·have l9:k<256:=by have:=of_decide_eq_true hb;omega
  have e0:(255-(k:Int))=((255-k:Nat):Int):=by omega
  have vS:=hn l9;have e3:i64.wrap ((255-(k:Int))-1)=255-((k+1:Nat):Int):=by rw[ax (by omega) (by omega)];omega
  have hw:i64.wrap ((255-(k:Int)).tdiv 8)=(((255-k)/8:Nat):Int):=by rw[e0];exact kP _ 8 (by omega)
  have ht:(255-(k:Int)).tmod 8=(((255-k)%8:Nat):Int):=by rw[e0];exact BO _ 8
  have UD:=aiw h2 (j:=255-k) (by omega);rw[← e0]at UD;rw[UD,e3];refine⟨by rw[hw];omega,by rw[ht];omega,fun hc=>?_,fun hc=>?_⟩
  ·have:fY (fun x=>mulC x x) mulC x (oB e) k o=mulC (mulC o o) x:=(by unfold fY;rw[hc,eB];rfl);rw[this]at vS;exact vS
  ·have:fY (fun x=>mulC x x) mulC x (oB e) k o=mulC o o:=(by unfold fY;rw[hc,eB];rfl);rw[this]at vS;exact vS
 ·have:k=256:=by have:=of_decide_eq_false hb;omega
  exact hx this
def PH(x:Fe)(e:List Int)(o:Fe):Fe:=gC (fY (fun x=>mulC x x) mulC x (oB e)) 256 o
def avK(x:(Int×Unit)×Fe×List Int×Fe×Fe×Unit):aZ:=
 .need (x.1.1=255∧x.2.2.1.length=32) (.leaf (.exit 0) ((bD poX Ww).wr ((),(x.2.2.2.1,PH x.2.1 x.2.2.1 x.2.2.2.2.1,()))))
abbrev ar2:fq:= [(0,fF (bD poC poH) 0 [aiv,.auto,KR 2,KR 3] avK)]
abbrev poA:aW (List LV) (Fe×List Int×Unit):=ae mA (ae cB ag)
abbrev gY(r:Fe×Bool):LV:=.cT [.agg ((k9 .u64 5).wr r.1),.sc (.bool (.sym r.2))]
def vt(g:Fe→Fe):ar:=ar.dx [] sK ag fun x _=>.leaf none (mA.wr (g x.1)) []
def mE(g:Fe→Fe→Fe):ar:=ar.dx [] nt ag fun x _=>.leaf none (mA.wr (g x.1 x.2.1)) []
def Mb(g:Fe→Bool):ar:=ar.dx [] sK ag fun x _=>.leaf none (nB (g x.1)) []
def e2B(g:Fe→Fe→Bool):ar:=ar.dx [] nt ag fun x _=>.leaf none (nB (g x.1 x.2.1)) []
def e1P(g:Fe→Fe×Bool):ar:=ar.dx [] sK ag fun x _=>.leaf none (gY (g x.1)) []
def e2P(g:Fe→Fe→Fe×Bool):ar:=ar.dx [] nt ag fun x _=>.leaf none (gY (g x.1 x.2.1)) []
def GV(g:Int→Fe):ar:=ar.dx [] aiq ag fun x _=>.leaf none (mA.wr (g x.1)) []
def ePw(g:Fe→List Int→Fe):ar:=ar.dx [] poA ag fun x _=>.leaf (some (x.2.1.length=32)) (mA.wr (g x.1 x.2.1)) []
def eEx(g:Int→Int→List Int):ar:=ar.dx [] (ae (ah (ay .u8)) (ae (ah (ay .u8)) ag)) ag fun x _=>.leaf none (jq .u8 32 (g x.1 x.2.1)) []
def GW(x:Fe)(e:List Int):Fe:=powC x (oB e)
def BP(lo hi:Int):List Int:=(jd lo hi).toList
theorem KS(x:Fe)(lo hi:Int):GW x (BP lo hi)=powC x (jd lo hi):=by unfold GW BP;rw[BM]
theorem BQ(lo hi:Int):(BP lo hi).length=32:=Vec.eI _
abbrev ar5:ar:=ePw GW
theorem Wx(p:Fe→List Int→Fe→Fe)(sm:Int→Fe)(x:Fe)(e:List Int):aT Tryz.prog [(194,GV sm),(273,adh),(193,DT)] [(0,fF (bD poC poH) 0 [aiv,.auto,KR 2,KR 3] fun x=>.need (x.1.1=255∧x.2.2.1.length=32) (.leaf (.exit 0) ((bD poX Ww).wr ((),(x.2.2.2.1,p x.2.1 x.2.2.1 x.2.2.2.2.1,())))))] f271 (poA.wr (x,e,())) [] kK=
  .need ((255:Int)=255∧e.length=32) (.leaf (mA.wr (p x e (sm 1))) []):=by kernel_rfl
theorem Wy(x:Fe)(e:List Int):aT Tryz.prog ado ar2 f271 (poA.wr (x,e,())) [] kK=aT Tryz.prog [(194,GV aX),(273,adh),(193,DT)] [(0,fF (bD poC poH) 0 [aiv,.auto,KR 2,KR 3] fun x=>.need (x.1.1=255∧x.2.2.1.length=32) (.leaf (.exit 0) ((bD poX Ww).wr ((),(x.2.2.2.1,PH x.2.1 x.2.2.1 x.2.2.2.2.1,())))))] f271 (poA.wr (x,e,())) [] kK:=by kernel_rfl
theorem Tb:ar5.Ok Tryz.prog 271:=by
 refine(ar.br call271 fun x_ y_ Q H_=>?_).sym;obtain⟨x,e,_⟩:=x_;obtain⟨hn,hq⟩:=H_;have hn:e.length=32:=hn;refine(aA mixed KQ func271 rfl (LT:=ar2) (ks:=kK) (aO.cU (nJ rfl (cN (hp:= []) aix) oI))).use (D:= []) ?_ hq;show(aT _ _ _ _ (poA.wr (x,e,())) [] _).sat _;rw[Wy x e,Wx PH aX x e];exact⟨⟨rfl,hn⟩,rfl,rfl⟩
theorem Wz:GS=GV aX:=by kernel_rfl
theorem lk:(GV aX).Ok Tryz.prog 194:=Wz▸DS
theorem aiy:DT=mE mulC:=by kernel_rfl
theorem jX:(mE mulC).Ok Tryz.prog 193:=aiy▸GU
theorem aiz:alq=mE kb:=by kernel_rfl
theorem KT:(mE kb).Ok Tryz.prog 266:=aiz▸air
theorem aiA:ac6=mE lE:=by kernel_rfl
theorem KU:(mE lE).Ok Tryz.prog 265:=aiA▸S4
theorem aof:adh=vt (fun x=>mulC x x):=by kernel_rfl
theorem Tc:(vt (fun x=>mulC x x)).Ok Tryz.prog 273:=aof▸adj
theorem aiB:alr=vt ld:=by kernel_rfl
theorem BR:(vt ld).Ok Tryz.prog 298:=aiB▸ais
theorem aog:aob=e2B Pk:=by kernel_rfl
theorem aiC:(e2B Pk).Ok Tryz.prog 321:=aog▸adl
theorem aiD:alu=Mb p9:=by kernel_rfl
theorem KV:(Mb p9).Ok Tryz.prog 137:=aiD▸ait
theorem adq:adm=Mb df:=by kernel_rfl
theorem DU:(Mb df).Ok Tryz.prog 297:=adq▸adn
theorem aiE:alv=eEx BP:=by kernel_rfl
theorem KW:(eEx BP).Ok Tryz.prog 272:=aiE▸aiu
abbrev ar6:ar:=vt ka
theorem WA(pow:Fe→List Int→Fe)(exp:Int→Int→List Int)(x:Fe):aT Tryz.prog [(271,ePw pow),(272,eEx exp)] [] f195 ((sK).wr (x,())) [] kK= .need ((exp 235 127).length=32) (.leaf (mA.wr (pow x (exp 235 127))) []):=by kernel_rfl
theorem WB:∀p_∈([(271,ePw GW),(272,eEx BP)]:List (FuncId×ar)),p_.2.Ok Tryz.prog p_.1:=(aj Tb (aj KW aE))
theorem GX:ar6.Ok Tryz.prog 195:=by
 refine(ar.br call195 fun x_ y_ Q H_=>?_).sym;obtain⟨x,_⟩:=x_;have hq:=H_.2;refine(aA (tab:= [(271,ePw GW),(272,eEx BP)]) mixed WB func195 rfl (LT:= []) (ks:=kK) (aO.nil _)).use (D:= []) ?_ hq;show(aT _ _ _ _ ((sK).wr (x,())) [] _).sat _;rw[WA GW BP];rw[KS];exact⟨BQ _ _,rfl,rfl⟩
theorem aiF(pw:Fe→dG→Fe)(ex:Int→Int→dG)(ml:Fe→Fe→Fe)(sq ng:Fe→Fe)(sm:Int→Fe)(eq:Fe→Fe→Bool)(od:Fe→Bool)(x:Fe):
  Bn pw ex ml sq ng sm eq od x=bif eq (sq (pw x (ex 254 15))) x then(bif od (pw x (ex 254 15))then ng (pw x (ex 254 15))else pw x (ex 254 15),true)
   else bif eq (sq (ml (pw x (ex 254 15)) (pw (sm 2) (ex 251 31)))) x then(bif od (ml (pw x (ex 254 15)) (pw (sm 2) (ex 251 31)))then ng (ml (pw x (ex 254 15)) (pw (sm 2) (ex 251 31)))else ml (pw x (ex 254 15)) (pw (sm 2) (ex 251 31)),true)else(dn,false):=by
 have an9:∀ (b:Bool) (u v:Fe),iU b u v=bif b then u else v:=fun b u v=>eB b u v;unfold Bn;simp only[an9]
 cases h:eq (sq (pw x (ex 254 15))) x
 ·simp only[Bool.not_false,cond_true,cond_false]
  cases eq (sq (ml (pw x (ex 254 15)) (pw (sm 2) (ex 251 31)))) x<;>rfl
 ·simp only[Bool.not_true,cond_true,cond_false,h]
theorem adr{t1 t2 o1 o2:Bool}{r r2 n1 n2:Fe}{p1 p2:Prop}(h1:p1)(h2:p2){q:Fe×Bool}(hq:q=bif t1 then(bif o1 then n1 else r,true)else bif t2 then(bif o2 then n2 else r2,true)else(dn,false)):
  (Ev.End.need p1 (.ite (!t1) (.need p2 (.ite (!t2) (.leaf (gY (dn,false)) []) (.ite o2 (.leaf (gY (n2,true)) []) (.leaf (gY (r2,true)) [])))) (.ite (!t1) (.leaf (gY (dn,false)) []) (.ite o1 (.leaf (gY (n1,true)) []) (.leaf (gY (r,true)) []))))).sat fun v eK=>v=gY q∧eK= []:=by
 subst hq;refine⟨h1,?_⟩
 cases t1
 ·refine⟨fun _=>⟨h2,?_⟩,fun h=>(by cases h)⟩
  cases t2
  ·exact⟨fun _=>⟨rfl,rfl⟩,fun h=>(by cases h)⟩
  ·refine⟨fun h=>(by cases h),fun _=>?_⟩
   cases o2
   ·exact⟨fun h=>(by cases h),fun _=>⟨rfl,rfl⟩⟩
   ·exact⟨fun _=>⟨rfl,rfl⟩,fun h=>(by cases h)⟩
 ·refine⟨fun h=>(by cases h),fun _=>⟨fun h=>(by cases h),fun _=>?_⟩⟩
  cases o1
  ·exact⟨fun h=>(by cases h),fun _=>⟨rfl,rfl⟩⟩
  ·exact⟨fun _=>⟨rfl,rfl⟩,fun h=>(by cases h)⟩
theorem aiG(x:Fe):np x=Bn powC jd mulC (fun x=>mulC x x) ld aX Pk p9 x:=rfl
abbrev aoh:ar:=e1P np
theorem PI(pow:Fe→List Int→Fe)(exp:Int→Int→List Int)(mul:Fe→Fe→Fe)(sq neg:Fe→Fe)(eq:Fe→Fe→Bool)(Kn:Fe→Bool)(sm:Int→Fe)(x:Fe):aT Tryz.prog [(271,ePw pow),(272,eEx exp),(193,mE mul),(273,vt sq),(298,vt neg),(321,e2B eq),(137,Mb Kn),(194,GV sm)] [] f311 ((sK).wr (x,())) [] kK= .need ((exp 254 15).length=32) (.ite (!(eq (sq (pow x (exp 254 15))) x)) (.need ((exp 251 31).length=32) (.ite (!(eq (sq (mul (pow x (exp 254 15)) (pow (sm 2) (exp 251 31)))) x)) (.leaf (gY (dn,false)) []) (.ite (Kn (mul (pow x (exp 254 15)) (pow (sm 2) (exp 251 31)))) (.leaf (gY (neg (mul (pow x (exp 254 15)) (pow (sm 2) (exp 251 31))),true)) []) (.leaf (gY (mul (pow x (exp 254 15)) (pow (sm 2) (exp 251 31)),true)) [])))) (.ite (!(eq (sq (pow x (exp 254 15))) x)) (.leaf (gY (dn,false)) []) (.ite (Kn (pow x (exp 254 15))) (.leaf (gY (neg (pow x (exp 254 15)),true)) []) (.leaf (gY (pow x (exp 254 15),true)) [])))):=by kernel_rfl
theorem PJ:∀p_∈([(271,ePw GW),(272,eEx BP),(193,mE mulC),(273,vt (fun x=>mulC x x)),(298,vt ld),(321,e2B Pk),(137,Mb p9),(194,GV aX)]:List (FuncId×ar)),p_.2.Ok Tryz.prog p_.1:=(aj Tb (aj KW (aj jX (aj Tc (aj BR (aj aiC (aj KV (aj lk aE))))))))
theorem ads:aoh.Ok Tryz.prog 311:=by
 refine(ar.br call311 fun x_ y_ Q H_=>?_).sym;obtain⟨x,_⟩:=x_;have hq:=H_.2;refine(aA (tab:= [(271,ePw GW),(272,eEx BP),(193,mE mulC),(273,vt (fun x=>mulC x x)),(298,vt ld),(321,e2B Pk),(137,Mb p9),(194,GV aX)]) mixed PJ func311 rfl (LT:= []) (ks:=kK) (aO.nil _)).use (D:= []) ?_ hq;show(aT _ _ _ _ ((sK).wr (x,())) [] _).sat _;rw[PI GW BP mulC (fun x=>mulC x x) ld Pk p9 aX];simp only[KS];exact adr (BQ _ _) (BQ _ _) ((aiG x).trans (aiF _ _ _ _ _ _ _ _ x))
theorem adt(u v:Fe):mw u v=(iU (df v) dn (np (mulC u (ka v))).1,bif df v then df u else(np (mulC u (ka v))).2):=by unfold mw;rfl
theorem WC{z zu:Bool}{s r:Fe×Bool}(hr:r=(iU z dn s.1,bif z then zu else s.2)):(Ev.End.ite z (.leaf (gY (dn,zu)) []) (.leaf (gY s) [])).sat fun v eK=>v=gY r∧eK= []:=by
 subst hr;rw[eB]
 cases z
 ·exact⟨fun h=>(by cases h),fun _=>⟨rfl,rfl⟩⟩
 ·exact⟨fun _=>⟨rfl,rfl⟩,fun h=>(by cases h)⟩
abbrev aiH:ar:=e2P mw
theorem KX(mul:Fe→Fe→Fe)(inv:Fe→Fe)(Td:Fe→Bool)(sqrt:Fe→Fe×Bool)(u v:Fe):aT Tryz.prog [(193,mE mul),(195,vt inv),(297,Mb Td),(311,e1P sqrt)] [] f274 ((nt).wr (u,v,())) [] kK= .ite (Td v) (.leaf (gY (dn,Td u)) []) (.leaf (gY (sqrt (mul u (inv v)))) []):=by kernel_rfl
theorem KY:∀p_∈([(193,mE mulC),(195,vt ka),(297,Mb df),(311,e1P np)]:List (FuncId×ar)),p_.2.Ok Tryz.prog p_.1:=(aj jX (aj GX (aj DU (aj ads aE))))
theorem WD:aiH.Ok Tryz.prog 274:=by
 refine(ar.br call274 fun x_ y_ Q H_=>?_).sym;obtain⟨u,v,_⟩:=x_;have hq:=H_.2;refine(aA (tab:= [(193,mE mulC),(195,vt ka),(297,Mb df),(311,e1P np)]) mixed KY func274 rfl (LT:= []) (ks:=kK) (aO.nil _)).use (D:= []) ?_ hq;show(aT _ _ _ _ ((nt).wr (u,v,())) [] _).sat _;rw[KX mulC ka df np];exact WC (adt u v)
abbrev vu:aW LV Pt:=si (ae ja (uR .u64 (uR .u64 (uR .u64 (k9 .u64 5) 5) 5) 5))
abbrev WE:aW (List LV) (Pt×Unit):=ae vu ag
abbrev aoi:aW (List LV) (Pt×Pt×Unit):=ae vu (ae vu ag)
def eFr(g:List Int→Fe):ar:=ar.dx [] lh ag fun x _=>.leaf none (mA.wr (g x.1)) []
def e0F(c:Fe):ar:=ar.dx [] ag ag fun _ _=>.leaf none (mA.wr c) []
def WG(c:Pt):ar:=ar.dx [] ag ag fun _ _=>.leaf none (vu.wr c) []
def eAf(g:Fe→Fe→Pt):ar:=ar.dx [] nt ag fun x _=>.leaf none (vu.wr (g x.1 x.2.1)) []
def BS(g:Pt→Pt):ar:=ar.dx [] WE ag fun x _=>.leaf none (vu.wr (g x.1)) []
def e2Q(g:Pt→Pt→Pt):ar:=ar.dx [] aoi ag fun x _=>.leaf none (vu.wr (g x.1 x.2.1)) []
def kg(b:List Int):Fe:=gp (oB b)
theorem adv:Py=eFr kg:=by kernel_rfl
theorem DV:(eFr kg).Ok Tryz.prog 295:=adv▸KM
theorem WH:jU=kg nk.toList:=by unfold kg;rw[BM];rfl
abbrev aok:ar:=e0F jU
theorem PK(w6:List Int→Fe):aT Tryz.prog [(295,eFr w6)] [] f267 ((ag).wr ()) [] kK= .leaf (mA.wr (w6 nk.toList)) []:=by kernel_rfl
theorem PL:∀p_∈([(295,eFr kg)]:List (FuncId×ar)),p_.2.Ok Tryz.prog p_.1:=(aj DV aE)
theorem KZ:aok.Ok Tryz.prog 267:=by
 refine(ar.br call267 fun x_ y_ Q H_=>?_).sym;have hq:=H_.2;refine(aA (tab:= [(295,eFr kg)]) mixed PL func267 rfl (LT:= []) (ks:=kK) (aO.nil _)).use (D:= []) ?_ hq;show(aT _ _ _ _ ((ag).wr ()) [] _).sat _;rw[PK kg];rw[WH];exact⟨rfl,rfl⟩
abbrev adw:ar:=eAf cY
theorem GY(mul:Fe→Fe→Fe)(sm:Int→Fe)(x y:Fe):aT Tryz.prog [(193,mE mul),(194,GV sm)] [] f197 ((nt).wr (x,y,())) [] kK= .leaf (vu.wr (true,x,y,sm 1,mul x y)) []:=by kernel_rfl
theorem GZ:∀p_∈([(193,mE mulC),(194,GV aX)]:List (FuncId×ar)),p_.2.Ok Tryz.prog p_.1:=(aj jX (aj lk aE))
theorem sL:adw.Ok Tryz.prog 197:=by
 refine(ar.br call197 fun x_ y_ Q H_=>?_).sym;obtain⟨x,y,_⟩:=x_;have hq:=H_.2;refine(aA (tab:= [(193,mE mulC),(194,GV aX)]) mixed GZ func197 rfl (LT:= []) (ks:=kK) (aO.nil _)).use (D:= []) ?_ hq;show(aT _ _ _ _ ((nt).wr (x,y,())) [] _).sat _;rw[GY mulC aX];exact⟨rfl,rfl⟩
abbrev aol:ar:=WG dB
theorem PM(af:Fe→Fe→Pt)(sm:Int→Fe):aT Tryz.prog [(197,eAf af),(194,GV sm)] [] f189 ((ag).wr ()) [] kK= .leaf (vu.wr (af dn (sm 1))) []:=by kernel_rfl
theorem PN:∀p_∈([(197,eAf cY),(194,GV aX)]:List (FuncId×ar)),p_.2.Ok Tryz.prog p_.1:=(aj sL (aj lk aE))
theorem BT:aol.Ok Tryz.prog 189:=by
 refine(ar.br call189 fun x_ y_ Q H_=>?_).sym;have hq:=H_.2;refine(aA (tab:= [(197,eAf cY),(194,GV aX)]) mixed PN func189 rfl (LT:= []) (ks:=kK) (aO.nil _)).use (D:= []) ?_ hq;show(aT _ _ _ _ ((ag).wr ()) [] _).sat _;rw[PM cY aX];exact⟨rfl,rfl⟩
theorem Te(p:Pt):eF p=bif !p.1 then dB else p:=by unfold eF acx;rw[gq]
theorem Tf{t:Bool}{V W X:LV}(h1:t=true→V=X)(h2:t=false→W=X):(Ev.End.ite t (.leaf V []) (.leaf W [])).sat fun v eK=>v=X∧eK= []:=⟨fun h=>⟨h1 h,rfl⟩,fun h=>⟨h2 h,rfl⟩⟩
abbrev ar7:ar:=BS eF
theorem WI(z:Pt)(p:Pt):aT Tryz.prog [(189,WG z)] [] f198 ((WE).wr (p,())) [] kK= .ite (!p.1) (.leaf (vu.wr z) []) (.leaf (vu.wr p) []):=by kernel_rfl
theorem WJ:∀p_∈([(189,WG dB)]:List (FuncId×ar)),p_.2.Ok Tryz.prog p_.1:=(aj BT aE)
theorem G0:ar7.Ok Tryz.prog 198:=by
 refine(ar.br call198 fun x_ y_ Q H_=>?_).sym;obtain⟨p,_⟩:=x_;have hq:=H_.2;refine(aA (tab:= [(189,WG dB)]) mixed WJ func198 rfl (LT:= []) (ks:=kK) (aO.nil _)).use (D:= []) ?_ hq;show(aT _ _ _ _ ((WE).wr (p,())) [] _).sat _;rw[WI dB];exact Tf (fun h=>by rw[Te,h];rfl) (fun h=>by rw[Te,h];rfl)
abbrev aom:ar:=e1P jW
theorem PO(mul add sub:Fe→Fe→Fe)(sq:Fe→Fe)(sm:Int→Fe)(ed:Fe)(ratio:Fe→Fe→Fe×Bool)(y:Fe):aT Tryz.prog [(193,mE mul),(266,mE add),(265,mE sub),(273,vt sq),(194,GV sm),(267,e0F ed),(274,e2P ratio)] [] f196 ((sK).wr (y,())) [] kK= .leaf (gY (ratio (sub (sq y) (sm 1)) (add (mul ed (sq y)) (sm 1)))) []:=by kernel_rfl
theorem PQ:∀p_∈([(193,mE mulC),(266,mE kb),(265,mE lE),(273,vt (fun x=>mulC x x)),(194,GV aX),(267,e0F jU),(274,e2P mw)]:List (FuncId×ar)),p_.2.Ok Tryz.prog p_.1:=(aj jX (aj KT (aj KU (aj Tc (aj lk (aj KZ (aj WD aE)))))))
theorem K0:aom.Ok Tryz.prog 196:=by
 refine(ar.br call196 fun x_ y_ Q H_=>?_).sym;obtain⟨y,_⟩:=x_;have hq:=H_.2;refine(aA (tab:= [(193,mE mulC),(266,mE kb),(265,mE lE),(273,vt (fun x=>mulC x x)),(194,GV aX),(267,e0F jU),(274,e2P mw)]) mixed PQ func196 rfl (LT:= []) (ks:=kK) (aO.nil _)).use (D:= []) ?_ hq;show(aT _ _ _ _ ((sK).wr (y,())) [] _).sat _;rw[PO mulC kb lE (fun x=>mulC x x) aX jU mw];exact⟨rfl,rfl⟩
abbrev aon:ar:=WG fM
theorem PR(mul:Fe→Fe→Fe)(sm:Int→Fe)(inv:Fe→Fe)(root:Fe→Fe×Bool)(af:Fe→Fe→Pt):aT Tryz.prog [(193,mE mul),(194,GV sm),(195,vt inv),(196,e1P root),(197,eAf af)] [] f134 ((ag).wr ()) [] kK= .leaf (vu.wr (af (root (mul (sm 4) (inv (sm 5)))).1 (mul (sm 4) (inv (sm 5))))) []:=by kernel_rfl
theorem PS:∀p_∈([(193,mE mulC),(194,GV aX),(195,vt ka),(196,e1P jW),(197,eAf cY)]:List (FuncId×ar)),p_.2.Ok Tryz.prog p_.1:=(aj jX (aj lk (aj GX (aj K0 (aj sL aE)))))
theorem K1:aon.Ok Tryz.prog 134:=by
 refine(ar.br call134 fun x_ y_ Q H_=>?_).sym;have hq:=H_.2;refine(aA (tab:= [(193,mE mulC),(194,GV aX),(195,vt ka),(196,e1P jW),(197,eAf cY)]) mixed PS func134 rfl (LT:= []) (ks:=kK) (aO.nil _)).use (D:= []) ?_ hq;show(aT _ _ _ _ ((ag).wr ()) [] _).sat _;rw[PR mulC aX ka jW cY];exact⟨rfl,rfl⟩
def e4Q(g:Fe→Fe→Fe→Fe→Pt):ar:=ar.dx [] (ae mA (ae mA (ae mA (ae mA ag)))) ag fun x _=>.leaf none (vu.wr (g x.1 x.2.1 x.2.2.1 x.2.2.2.1)) []
abbrev aiI:ar:=e4Q n7
theorem K2(mul:Fe→Fe→Fe)(e f g h:Fe):aT Tryz.prog [(193,mE mul)] [] f268 (((ae mA (ae mA (ae mA (ae mA ag))))).wr (e,f,g,h,())) [] kK= .leaf (vu.wr (true,mul e f,mul g h,mul f g,mul e h)) []:=by kernel_rfl
theorem K3:∀p_∈([(193,mE mulC)]:List (FuncId×ar)),p_.2.Ok Tryz.prog p_.1:=(aj jX aE)
theorem WK:aiI.Ok Tryz.prog 268:=by
 refine(ar.br call268 fun x_ y_ Q H_=>?_).sym;obtain⟨e,f,g,h,_⟩:=x_;have hq:=H_.2;refine(aA (tab:= [(193,mE mulC)]) mixed K3 func268 rfl (LT:= []) (ks:=kK) (aO.nil _)).use (D:= []) ?_ hq;show(aT _ _ _ _ (((ae mA (ae mA (ae mA (ae mA ag))))).wr (e,f,g,h,())) [] _).sat _;rw[K2 mulC];exact⟨rfl,rfl⟩
abbrev ar8:ar:=e2Q cm
theorem WL(mul add sub:Fe→Fe→Fe)(ed:Fe)(own:Pt→Pt)(SU:Fe→Fe→Fe→Fe→Pt)(p q:Pt):aT Tryz.prog [(193,mE mul),(266,mE add),(265,mE sub),(267,e0F ed),(198,BS own),(268,e4Q SU)] [] f192 ((aoi).wr (p,q,())) [] kK= .leaf (vu.wr (addFn mul add sub ed own SU p q)) []:=by kernel_rfl
theorem WM:∀p_∈([(193,mE mulC),(266,mE kb),(265,mE lE),(267,e0F jU),(198,BS eF),(268,e4Q n7)]:List (FuncId×ar)),p_.2.Ok Tryz.prog p_.1:=(aj jX (aj KT (aj KU (aj KZ (aj G0 (aj WK aE))))))
theorem yQ:ar8.Ok Tryz.prog 192:=by
 refine(ar.br call192 fun x_ y_ Q H_=>?_).sym;obtain⟨p,q,_⟩:=x_;have hq:=H_.2;refine(aA (tab:= [(193,mE mulC),(266,mE kb),(265,mE lE),(267,e0F jU),(198,BS eF),(268,e4Q n7)]) mixed WM func192 rfl (LT:= []) (ks:=kK) (aO.nil _)).use (D:= []) ?_ hq;show(aT _ _ _ _ ((aoi).wr (p,q,())) [] _).sat _;rw[WL mulC kb lE jU eF n7];exact⟨rfl,rfl⟩
abbrev adx:ar:=BS bB
theorem G1(add:Pt→Pt→Pt)(p:Pt):aT Tryz.prog [(192,e2Q add)] [] f190 ((WE).wr (p,())) [] kK= .leaf (vu.wr (add p p)) []:=by kernel_rfl
theorem G2:∀p_∈([(192,e2Q cm)]:List (FuncId×ar)),p_.2.Ok Tryz.prog p_.1:=(aj yQ aE)
theorem sM:adx.Ok Tryz.prog 190:=by
 refine(ar.br call190 fun x_ y_ Q H_=>?_).sym;obtain⟨p,_⟩:=x_;have hq:=H_.2;refine(aA (tab:= [(192,e2Q cm)]) mixed G2 func190 rfl (LT:= []) (ks:=kK) (aO.nil _)).use (D:= []) ?_ hq;show(aT _ _ _ _ ((WE).wr (p,())) [] _).sat _;rw[G1 cm];exact⟨rfl,rfl⟩
abbrev ar9:ar:=BS nq
theorem WN(neg:Fe→Fe)(own:Pt→Pt)(p:Pt):aT Tryz.prog [(298,vt neg),(198,BS own)] [] f241 ((WE).wr (p,())) [] kK= .leaf (vu.wr (negFn neg own p)) []:=by kernel_rfl
theorem WO:∀p_∈([(298,vt ld),(198,BS eF)]:List (FuncId×ar)),p_.2.Ok Tryz.prog p_.1:=(aj BR (aj G0 aE))
theorem aiJ:ar9.Ok Tryz.prog 241:=by
 refine(ar.br call241 fun x_ y_ Q H_=>?_).sym;obtain⟨p,_⟩:=x_;have hq:=H_.2;refine(aA (tab:= [(298,vt ld),(198,BS eF)]) mixed WO func241 rfl (LT:= []) (ks:=kK) (aO.nil _)).use (D:= []) ?_ hq;show(aT _ _ _ _ ((WE).wr (p,())) [] _).sat _;rw[WN ld eF];exact⟨rfl,rfl⟩
def ePl(g:Pt→Fe×Fe):ar:=ar.dx [] WE ag fun x _=>.leaf none (.cT [.agg ((k9 .u64 5).wr (g x.1).1),.agg ((k9 .u64 5).wr (g x.1).2)]) []
abbrev aiK:ar:=ePl jv
theorem K4(mul:Fe→Fe→Fe)(inv:Fe→Fe)(own:Pt→Pt)(p:Pt):aT Tryz.prog [(193,mE mul),(195,vt inv),(198,BS own)] [] f135 ((WE).wr (p,())) [] kK= .leaf (.cT [.agg ((k9 .u64 5).wr (mul (own p).2.1 (inv (own p).2.2.2.1))),.agg ((k9 .u64 5).wr (mul (own p).2.2.1 (inv (own p).2.2.2.1)))]) []:=by kernel_rfl
theorem K5:∀p_∈([(193,mE mulC),(195,vt ka),(198,BS eF)]:List (FuncId×ar)),p_.2.Ok Tryz.prog p_.1:=(aj jX (aj GX (aj G0 aE)))
theorem WQ:aiK.Ok Tryz.prog 135:=by
 refine(ar.br call135 fun x_ y_ Q H_=>?_).sym;obtain⟨p,_⟩:=x_;have hq:=H_.2;refine(aA (tab:= [(193,mE mulC),(195,vt ka),(198,BS eF)]) mixed K5 func135 rfl (LT:= []) (ks:=kK) (aO.nil _)).use (D:= []) ?_ hq;show(aT _ _ _ _ ((WE).wr (p,())) [] _).sat _;rw[K4 mulC ka eF];exact⟨rfl,rfl⟩
def eBy(g:Fe→List Int):ar:=ar.dx [] sK ag fun x _=>.leaf none (jq .u8 32 (g x.1)) []
def eLB(g:List Int→Bool):ar:=ar.dx [] lh ag fun x _=>.leaf (some (x.1.length=32)) (nB (g x.1)) []
def X1(g:Pt→List Int):ar:=ar.dx [] WE ag fun x _=>.leaf none (jq .u8 32 (g x.1)) []
abbrev Mc(r:Pt×Bool):LV:=.cT [.agg ((ae ja (uR .u64 (uR .u64 (uR .u64 (k9 .u64 5) 5) 5) 5)).wr r.1),.sc (.bool (.sym r.2))]
def eDe(g:List Int→Pt×Bool):ar:=ar.dx [] lh ag fun x _=>.leaf (some (x.1.length=32)) (Mc (g x.1)) []
def oa(x:Fe):List Int:=(dQ x).toList
def xk(b:List Int):Bool:=jw (oB b)
def bH(p:Pt):List Int:=(vh p).toList
def ga(b:List Int):Pt×Bool:=vk (oB b)
theorem WR:vr=eBy oa:=by kernel_rfl
theorem PT:(eBy oa).Ok Tryz.prog 136:=WR▸ru
theorem WS:Ta=eLB xk:=by kernel_rfl
theorem PU:(eLB xk).Ok Tryz.prog 296:=WS▸Wu
theorem aiL{f:Int→Int}(v:dG):(Vec.xZ f 31 v).toList=v.toList.set 31 (f (v.toList.getD 31 0)):=by
 have h:=S8 (Vec.eI v) (k:=31) (by omega) f;rw[BM]at h;rw[← h,jx (by rw[List.length_set];exact Vec.eI v)]
theorem DW(p:Pt):bH p=bif p9 (jv p).1 then(oa (jv p).2).set 31 (bp .u8 ((oa (jv p).2).getD 31 0) 128)else oa (jv p).2:=by
 unfold bH vh Bo oa;simp only[eB];generalize dQ (jv p).2=v
 cases p9 (jv p).1
 ·rfl
 ·exact aiL v
abbrev ady:ar:=X1 bH
theorem G3(pl:Pt→Fe×Fe)(byt:Fe→List Int)(Kn:Fe→Bool)(p:Pt):aT Tryz.prog [(135,ePl pl),(136,eBy byt),(137,Mb Kn)] [] f81 ((WE).wr (p,())) [] kK= .ite (Kn (pl p).1) (.leaf (jq .u8 32 ((byt (pl p).2).set 31 (bp .u8 ((byt (pl p).2).getD 31 0) 128))) []) (.leaf (jq .u8 32 (byt (pl p).2)) []):=by kernel_rfl
theorem G4:∀p_∈([(135,ePl jv),(136,eBy oa),(137,Mb p9)]:List (FuncId×ar)),p_.2.Ok Tryz.prog p_.1:=(aj WQ (aj PT (aj KV aE)))
theorem sN:ady.Ok Tryz.prog 81:=by
 refine(ar.br call81 fun x_ y_ Q H_=>?_).sym;obtain⟨p,_⟩:=x_;have hq:=H_.2;refine(aA (tab:= [(135,ePl jv),(136,eBy oa),(137,Mb p9)]) mixed G4 func81 rfl (LT:= []) (ks:=kK) (aO.nil _)).use (D:= []) ?_ hq;show(aT _ _ _ _ ((WE).wr (p,())) [] _).sat _;rw[G3 jv oa p9];exact Tf (fun h=>by rw[DW,h];rfl) (fun h=>by rw[DW,h];rfl)
theorem adz(neg:Fe→Fe)(Td:Fe→Bool)(w6:dG→Fe)(canon:dG→Bool)(af:Fe→Fe→Pt)(root:Fe→Fe×Bool)(b:dG):
  u0 neg Td w6 canon af root b=bif (root (w6 b)).2 then(bif canon b then(bif w7 b then(bif Td (root (w6 b)).1 then(fy,false)else(af (neg (root (w6 b)).1) (w6 b),true))else(af (root (w6 b)).1 (w6 b),true))else(fy,false))else(fy,false):=by
 unfold u0;simp only[eB,gq];generalize root (w6 b)=r;generalize w6 b=y;obtain⟨x,ok⟩:=r;simp only
 cases ok<;>cases canon b<;>cases w7 b<;>cases Td x<;>rfl
theorem WT(b:List Int):ga b=bif (jW (kg b)).2 then(bif xk b then(bif bg .u8 (b.getD 31 0) 128!=0 then(bif df (jW (kg b)).1 then(fy,false)else(cY (ld (jW (kg b)).1) (kg b),true))else(cY (jW (kg b)).1 (kg b),true))else(fy,false))else(fy,false):=adz ld df gp jw cY jW (oB b)
theorem aiN{p:Prop}{ok canon Kn Td:Bool}{P Q:Pt}(hp:p){r:Pt×Bool}(hr:r=bif ok then(bif canon then(bif Kn then(bif Td then(fy,false)else(P,true))else(Q,true))else(fy,false))else(fy,false)):
  (Ev.End.ite ((!ok)==false) (.need p (.ite ((!canon)==false) (.ite (Kn==true) (.ite Td (.leaf (Mc (fy,false)) []) (.ite Kn (.leaf (Mc (P,true)) []) (.leaf (Mc (Q,true)) []))) (.ite Kn (.leaf (Mc (P,true)) []) (.leaf (Mc (Q,true)) []))) (.leaf (Mc (fy,false)) []))) (.leaf (Mc (fy,false)) [])).sat fun v eK=>v=Mc r∧eK= []:=by
 subst hr
 cases ok
 ·exact⟨fun h=>(by cases h),fun _=>⟨rfl,rfl⟩⟩
 ·refine⟨fun _=>⟨hp,?_⟩,fun h=>(by cases h)⟩
  cases canon
  ·exact⟨fun h=>(by cases h),fun _=>⟨rfl,rfl⟩⟩
  ·refine⟨fun _=>?_,fun h=>(by cases h)⟩
   cases Kn
   ·exact⟨fun h=>(by cases h),fun _=>⟨fun h=>(by cases h),fun _=>⟨rfl,rfl⟩⟩⟩
   ·refine⟨fun _=>?_,fun h=>(by cases h)⟩
    cases Td
    ·exact⟨fun h=>(by cases h),fun _=>⟨fun _=>⟨rfl,rfl⟩,fun h=>(by cases h)⟩⟩
    ·exact⟨fun _=>⟨rfl,rfl⟩,fun h=>(by cases h)⟩
abbrev adA:ar:=eDe ga
theorem G5(w6:List Int→Fe)(root:Fe→Fe×Bool)(canon:List Int→Bool)(Td:Fe→Bool)(neg:Fe→Fe)(af:Fe→Fe→Pt)(b:List Int):aT Tryz.prog [(295,eFr w6),(196,e1P root),(296,eLB canon),(297,Mb Td),(298,vt neg),(197,eAf af)] [] f238 ((lh).wr (b,())) [] kK= .ite ((!(root (w6 b)).2)==false) (.need (b.length=32) (.ite ((!canon b)==false) (.ite ((bg .u8 (b.getD 31 0) 128!=0)==true) (.ite (Td (root (w6 b)).1) (.leaf (Mc (fy,false)) []) (.ite (bg .u8 (b.getD 31 0) 128!=0) (.leaf (Mc (af (neg (root (w6 b)).1) (w6 b),true)) []) (.leaf (Mc (af (root (w6 b)).1 (w6 b),true)) []))) (.ite (bg .u8 (b.getD 31 0) 128!=0) (.leaf (Mc (af (neg (root (w6 b)).1) (w6 b),true)) []) (.leaf (Mc (af (root (w6 b)).1 (w6 b),true)) []))) (.leaf (Mc (fy,false)) []))) (.leaf (Mc (fy,false)) []):=by kernel_rfl
theorem G6:∀p_∈([(295,eFr kg),(196,e1P jW),(296,eLB xk),(297,Mb df),(298,vt ld),(197,eAf cY)]:List (FuncId×ar)),p_.2.Ok Tryz.prog p_.1:=(aj DV (aj K0 (aj PU (aj DU (aj BR (aj sL aE))))))
theorem PV:adA.Ok Tryz.prog 238:=by
 refine(ar.br call238 fun x_ y_ Q H_=>?_).sym;obtain⟨b,_⟩:=x_;obtain⟨hn,hq⟩:=H_;have hn:b.length=32:=hn;refine(aA (tab:= [(295,eFr kg),(196,e1P jW),(296,eLB xk),(297,Mb df),(298,vt ld),(197,eAf cY)]) mixed G6 func238 rfl (LT:= []) (ks:=kK) (aO.nil _)).use (D:= []) ?_ hq;show(aT _ _ _ _ ((lh).wr (b,())) [] _).sat _;rw[G5 kg jW xk df ld cY];exact aiN hn (WT b)
abbrev biA:aW (List LV) (List Int×Int×Unit):=ae cB (ae (ah (ay .i64)) ag)
def eBi(g:List Int→Int→Int):ar:=ar.dx [] biA ag fun x _=>.leaf (some (x.1.length=32∧0≤x.2.1∧x.2.1<256)) (nI (g x.1 x.2.1)) []
def gQ(a:List Int)(i:Int):Int:=iN (oB a) i.toNat
def alA:ar:=ar.dx [] (biA) (ag) fun x_ y_=>(fun(a:List Int) (i:Int)=>.leaf (some (a.length=32∧0≤i∧i<256)) (nI (gQ a i)) []) x_.1 x_.2.1
theorem WU(a:List Int)(i:Int):aT Tryz.prog [] [] f191 ((biA).wr (a,i,())) ((ag).wr ()) [.fr [.sym],.auto]=
 End.ite (decide (i<(0:Int))==false) (End.ite (decide ((256:Int)≤i)) (End.leaf (LV.one (VV.sc (SV.int i64 (SI.sym (0:Int))))) [])
 (End.need ((0:Int)≤i64.wrap (i.tdiv (8:Int))∧i64.wrap (i.tdiv (8:Int))<(32:Int)) (End.need ((0:Int)≤i.tmod (8:Int))
 (End.leaf (LV.one (VV.sc (SV.int i64 (SI.sym (i64.wrap (bg IntKind.u8 (shr IntKind.u8 ((List.take (32:Nat) (List.drop (0:Nat)
 a)).getD (i64.wrap (i.tdiv (8:Int))).toNat (0:Int)) (i.tmod (8:Int))) (1:Int))))))) [])))) (End.leaf (LV.one (VV.sc (SV.int i64
 (SI.sym (0:Int))))) []):=by kernel_rfl
theorem aiP:alA.Ok Tryz.prog 191:=by
 refine(ar.br call191 fun x_ y_ Q H_=>?_).sym;obtain⟨a,i,_⟩:=x_;obtain⟨hn,hq⟩:=H_;have hn:a.length=32∧0≤i∧i<256:=hn;refine(aA mixed aE func191 rfl (LT:= []) (ks:= [.fr [.sym],.auto]) (aO.nil _)).use (D:= []) ?_ hq;show(aT _ _ _ _ ((biA).wr (a,i,())) ((ag).wr ()) _).sat _;rw[WU];obtain⟨ha,h0,h1⟩:=hn;obtain⟨k,rfl⟩:=Int.eq_ofNat_of_zero_le h0;have hk:k<256:=by omega
 have e1:i64.wrap ((k:Int).tdiv 8)=((k/8:Nat):Int):=kP k 8 (by omega);have e2:(k:Int).tmod 8=((k%8:Nat):Int):=BO k 8
 have e:gQ a (k:Int)=i64.wrap (bg .u8 (shr .u8 (a.getD (k/8) 0) ((k%8:Nat):Int)) 1):=by
  unfold gQ iN;rw[Int.toNat_natCast,S9 a (show k/8<32 by omega)]
 rw[e1,e2,bU ha,Int.toNat_natCast,e];refine⟨fun _=>⟨fun h=>?_,fun _=>⟨by omega,by omega,rfl,rfl⟩⟩,fun h=>?_⟩
 ·have:=of_decide_eq_true h;omega
 ·exfalso;revert h;simp
abbrev PW:Func:=f133
abbrev muC:aW (List LV) (Int×Unit):=(jk 2 (ak (ah (aP 0 0)) (ak (ah (aP 1 0)) (ak (ah (aP 2 0)) (ak (ah (aP 3 0)) (ae (ah (ay .i64)) (jk 15 ag)))))))
abbrev asd:Wk:=.fr (dK 22 [(2,.an),(3,.an),(4,.an),(5,.an),(6,.sym)])
abbrev muX:aW (List LV) (Unit):=(jk 4 (ak (ah (aP 0 0)) (ak (ah (aP 1 0)) (jk 16 ag))))
abbrev iPt:aW (Option Ev.Item) Pt:=iF 155 (ae ja (uR .u64 (uR .u64 (uR .u64 (k9 .u64 5) 5) 5) 5))
abbrev muH:aW Hp (List Int×Pt×Pt×Pt×Unit):=ae (oJ 22 .u8 32) (ae iPt (ae iPt (ae iPt ag)))
abbrev K6:aW Hp (Pt×Pt×Unit):=ae iPt (ae iPt ag)
abbrev K7(i:Nat):Wk:=.bm i (List.replicate 21 .sym)
def muW:Exit→List Wk
 | .normal=> [asd,K7 2,K7 3,.auto]
 | .exit 0=> [.fr (dK 22 [(4,.an),(5,.an)]),.auto]
 |_=> []
theorem aor(bit:List Int→Int→Int)(G7:Pt→Pt)(add:Pt→Pt→Pt)(n:List Int)(p r o:Pt)(i:Int):ee Tryz.prog [(191,eBi bit),(190,BS G7),(192,e2Q add)] [] PW 0 [] muW ((bD muC muH).wr ((i,()),(n,p,r,o,())))=
 aZ.ite (decide ((0:Int)≤i)) (aZ.need (n.length=(32:Nat)∧(0:Int)≤i∧i<(256:Int)) (aZ.ite (bit n i==(1:Int)) (aZ.leaf
 Exit.normal ((bD muC muH).wr ((i64.wrap (i-(1:Int)),PUnit.unit),n,p,r,add (G7 o) p,PUnit.unit))) (aZ.leaf Exit.normal ((bD muC
 muH).wr ((i64.wrap (i-(1:Int)),PUnit.unit),n,p,r,G7 o,PUnit.unit))))) (aZ.leaf (Exit.exit (0:Nat)) ((bD muX K6).wr
 (PUnit.unit,r,o,PUnit.unit))):=by kernel_rfl
abbrev ase:List (FuncId×ar):= [(191,eBi gQ),(190,BS bB),(192,e2Q cm)]
theorem aiQ:alA=eBi gQ:=by kernel_rfl
theorem BU:(eBi gQ).Ok Tryz.prog 191:=aiQ▸aiP
theorem K8:∀p∈ase,p.2.Ok Tryz.prog p.1:=aj BU (aj sM (aj yQ aE))
def CN(bit:List Int→Int→Int)(G7:Pt→Pt)(add:Pt→Pt→Pt)(n:List Int)(p:Pt)(k:Nat)(r:Pt):Pt:=bif bit n (255-(k:Int))==1 then add (G7 r) p else G7 r
theorem aiR(x:(Int×Unit)×List Int×Pt×Pt×Pt×Unit):Ex Tryz.prog [] (.loop (aV PW 0)) ((bD muC muH).wr x) (.need (x.1.1=255∧x.2.1.length=32) (.leaf (.exit 0) ((bD muX K6).wr ((),(x.2.2.2.1,gC (CN gQ bB cm x.2.1 x.2.2.1) 256 x.2.2.2.2.1,()))))):=by
 obtain⟨⟨i,_⟩,n,p,r,o,_⟩:=x;refine Ex.need fun⟨h1,h2⟩=>?_;simp only at h1 h2;subst h1
 have key:=gJ (fn:=PW) (id:=0) (j:=0) (ws:=muW) (hp:= []) mixed K8 (aO.nil _) 256 (fun k o=>(bD muC muH).wr ((255-(k:Int),()),(n,p,r,o,()))) (fun o=>(bD muX K6).wr ((),(r,o,()))) (CN gQ bB cm n p) (fun _ _=>True)
  (fun k o R hk _ hn hx=>?_) (fun _ _ _ _=>trivial) 0 o (by omega) trivial
 ·rw[Nat.sub_zero,rk]at key;exact key
 rw[aor];refine⟨fun hb=>?_,fun hb=>?_⟩
 ·have l9:k<256:=by have:=of_decide_eq_true hb;omega
  have vS:=hn l9;have e3:i64.wrap ((255-(k:Int))-1)=255-((k+1:Nat):Int):=by rw[ax (by omega) (by omega)];omega
  rw[e3];refine⟨⟨h2,by omega,by omega⟩,fun hc=>?_,fun hc=>?_⟩
  ·have:CN gQ bB cm n p k o=cm (bB o) p:=(by unfold CN;rw[hc];rfl);rw[this]at vS;exact vS
  ·have:CN gQ bB cm n p k o=bB o:=(by unfold CN;rw[hc];rfl);rw[this]at vS;exact vS
 ·have:k=256:=by have:=of_decide_eq_false hb;omega
  exact hx this
abbrev mpA:aW (List LV) (List Int×Pt×Unit):=ae cB (ae vu ag)
def eMu(g:List Int→Pt→Pt):ar:=ar.dx [] mpA ag fun x _=>.leaf (some (x.1.length=32)) (vu.wr (g x.1 x.2.1)) []
def aos(w:List Int→Pt→Pt→Pt)(x:(Int×Unit)×List Int×Pt×Pt×Pt×Unit):aZ:=.need (x.1.1=255∧x.2.1.length=32) (.leaf (.exit 0) ((bD muX K6).wr ((),(x.2.2.2.1,w x.2.1 x.2.2.1 x.2.2.2.2.1,()))))
abbrev aot(w:List Int→Pt→Pt→Pt):fq:= [(0,fF (bD muC muH) 0 [asd,.auto,K7 2,K7 3] (aos w))]
theorem PX(z:Pt)(w:List Int→Pt→Pt→Pt)(bit:List Int→Int→Int)(G7:Pt→Pt)(add:Pt→Pt→Pt)(n:List Int)(p:Pt):aT Tryz.prog [(191,eBi bit),(190,BS G7),(192,e2Q add),(189,WG z)] (aot w) PW (mpA.wr (n,p,())) [] kK=
  .need ((255:Int)=255∧n.length=32) (.leaf (vu.wr (w n p z)) []):=by kernel_rfl
theorem K9:∃f:List Int→Pt→Pt,∀n p,f n p=BC (oB n) p:=⟨fun n p=>BC (oB n) p,fun _ _=>rfl⟩
def xX:List Int→Pt→Pt:=Classical.choose K9
theorem La(n:List Int)(p:Pt):xX n p=BC (oB n) p:=Classical.choose_spec K9 n p
def BV(n:List Int)(p z:Pt):Pt:=gC (CN gQ bB cm n p) 256 z
abbrev aou:ar:=eMu xX
theorem aiS(n:List Int)(p:Pt)(k:Nat)(hk:k<256)(r:Pt):CN gQ bB cm n p k r=iO iN bB cm (oB n) p k r:=by
 unfold CN iO gQ;rw[gq,show(255-(k:Int)).toNat=255-k from by omega]
theorem sO{α:Type}{f g:Nat→α→α}{n:Nat}(h:∀k,k<n→∀r,f k r=g k r)(a:α):∀m,m≤n→gC f m a=gC g m a
 |0,_=>rfl
 |m+1,hm=>by
  show f m (gC f m a)=g m (gC g m a);rw[sO h a m (by omega),h m (by omega)]
theorem aiT(n:List Int)(p:Pt):BV n p dB=xX n p:=by
 rw[La];unfold BV BC acy;exact sO (fun k hk r=>aiS n p k hk r) dB 256 (Nat.le_refl _)
theorem aiU:∀p∈([(191,eBi gQ),(190,BS bB),(192,e2Q cm),(189,WG dB)]:List (FuncId×ar)),p.2.Ok Tryz.prog p.1:=aj BU (aj sM (aj yQ (aj BT aE)))
theorem adB{n:List Int}{V W:Pt}(hn:n.length=32)(h:V=W):(Ev.End.need ((255:Int)=255∧n.length=32) (.leaf (vu.wr V) [])).sat fun v eK=>v=vu.wr W∧eK= []:=by
 subst h;exact⟨⟨rfl,hn⟩,rfl,rfl⟩
theorem WV(n:List Int)(p z:Pt):BV n p z=gC (CN gQ bB cm n p) 256 z:=rfl
theorem adC(x:(Int×Unit)×List Int×Pt×Pt×Pt×Unit):Ex Tryz.prog [] (.loop (aV PW 0)) ((bD muC muH).wr x) (aos BV x):=by
 unfold aos;rw[WV];exact aiR x
theorem aov:aO Tryz.prog [] (aot BV) (aG PW):=aO.cU (nJ rfl (cN (hp:= []) adC) oI)
theorem adD:aou.Ok Tryz.prog 133:=by
 refine(ar.br call133 fun x_ y_ Q H_=>?_).sym;obtain⟨n,p,_⟩:=x_;obtain⟨hn,hq⟩:=H_;have hn:n.length=32:=hn
 have hc:j6 Tryz.prog 133 (mpA.wr (n,p,())) [] (aT Tryz.prog [(191,eBi gQ),(190,BS bB),(192,e2Q cm),(189,WG dB)] (aot BV) PW (mpA.wr (n,p,())) [] kK):=
  aA mixed aiU func133 rfl aov
 rw[PX dB BV gQ bB cm]at hc;exact hc.use (D:= []) (adB hn (aiT n p)) hq
def eMb(g:List Int→Pt):ar:=ar.dx [] lh ag fun x _=>.leaf (some (x.1.length=32)) (vu.wr (g x.1)) []
def dz(n:List Int):Pt:=xX n fM
abbrev aow:ar:=eMb dz
theorem PY(mu:List Int→Pt→Pt)(b:Pt)(n:List Int):aT Tryz.prog [(133,eMu mu),(134,WG b)] [] f80 ((lh).wr (n,())) [] kK= .need (n.length=32) (.leaf (vu.wr (mu n b)) []):=by kernel_rfl
theorem PZ:∀p_∈([(133,eMu xX),(134,WG fM)]:List (FuncId×ar)),p_.2.Ok Tryz.prog p_.1:=(aj adD (aj K1 aE))
theorem Lb:aow.Ok Tryz.prog 80:=by
 refine(ar.br call80 fun x_ y_ Q H_=>?_).sym;obtain⟨n,_⟩:=x_;obtain⟨hn,hq⟩:=H_;have hn:n.length=32:=hn;refine(aA (tab:= [(133,eMu xX),(134,WG fM)]) mixed PZ func80 rfl (LT:= []) (ks:=kK) (aO.nil _)).use (D:= []) ?_ hq;show(aT _ _ _ _ ((lh).wr (n,())) [] _).sat _;rw[PY xX fM];exact⟨hn,rfl,rfl⟩
abbrev P0:Func:=f240
abbrev twC:aW (List LV) (Int×Unit):=(jk 3 (ak (ah (aP 0 0)) (jk 1 (ak (ah (aP 1 0)) (ak (ah (aP 2 0)) (jk 1 (ak (ah (aP 3 0)) (ak (ah (aP 4 0)) (ae (ah (ay .i64)) (jk 32 ag))))))))))
abbrev asf:Wk:=.fr (dK 43 [(3,.an),(5,.an),(6,.an),(8,.an),(9,.an),(10,.sym)])
abbrev twX:aW (List LV) (Unit):=(jk 6 (ak (ah (aP 0 0)) (jk 2 (ak (ah (aP 1 0)) (jk 33 ag)))))
abbrev avL:Wk:=.fr (dK 43 [(6,.an),(9,.an)])
abbrev ptC{Y:Type}(r:aW (List SV) Y):aW (List SV) (Pt×Y):=(ae ja (uR .u64 (uR .u64 (uR .u64 (uR .u64 r 5) 5) 5) 5)).nH (fun x=>((x.1,x.2.1,x.2.2.1,x.2.2.2.1,x.2.2.2.2.1),x.2.2.2.2.2)) (fun y=>(y.1.1,y.1.2.1,y.1.2.2.1,y.1.2.2.2.1,y.1.2.2.2.2,y.2)) (fun _=>rfl)
abbrev avM:aW (List SV) (Pt×Pt×Pt×Pt×Unit):=ptC (ptC (ptC (ptC ag)))
abbrev twH:aW Hp (List Int×List Int×Pt×(Pt×Pt×Pt×Pt×Unit)×Pt×Unit):=ae (oJ 22 .u8 32) (ae (oJ 22 .u8 32) (ae iPt (ae (iF 362 avM) (ae iPt ag))))
def twW:Exit→List Wk
 | .normal=> [asf,K7 2,.bm 3 (List.replicate 84 .sym),K7 4,.auto]
 | .exit 0=> [avL,.auto]
 |_=> []
abbrev twI(bit:List Int→Int→Int)(a b:List Int)(i:Int):Int:=i64.wrap (bit a i+i64.wrap (2*bit b i))
theorem aoz(bit:List Int→Int→Int)(G7:Pt→Pt)(add:Pt→Pt→Pt)(a b:List Int)(r p0 p1 p2 p3 o:Pt)(i:Int):ee Tryz.prog [(191,eBi bit),(190,BS G7),(192,e2Q add)] [] P0 0 [] twW ((bD twC twH).wr ((i,()),(a,b,r,(p0,p1,p2,p3,()),o,())))=
  .ite (decide (0≤i)) (.need (a.length=32∧0≤i∧i<256) (.need (b.length=32∧0≤i∧i<256) (.ite (decide (0<twI bit a b i))
   (.need (0≤twI bit a b i∧twI bit a b i<4) (.leaf .normal ((bD twC twH).wr ((i64.wrap (i-1),()),(a,b,r,(p0,p1,p2,p3,()),add (G7 o) (xj (twI bit a b i) [p0,p1,p2,p3]),())))))
   (.leaf .normal ((bD twC twH).wr ((i64.wrap (i-1),()),(a,b,r,(p0,p1,p2,p3,()),G7 o,())))))))
   (.leaf (.exit 0) ((bD twX K6).wr ((),(r,o,())))):=by kernel_rfl
def twG(bit:List Int→Int→Int)(G7:Pt→Pt)(add:Pt→Pt→Pt)(a b:List Int)(l:List Pt)(k:Nat)(r:Pt):Pt:=bif decide (0<twI bit a b (255-(k:Int)))then add (G7 r) (xj (twI bit a b (255-(k:Int))) l)else G7 r
abbrev twT:Type:=(Int×Unit)×List Int×List Int×Pt×(Pt×Pt×Pt×Pt×Unit)×Pt×Unit
def aoA(w:List Int→List Int→Pt→Pt→Pt→Pt→Pt→Pt)(x:twT):aZ:=.need (x.1.1=255∧x.2.1.length=32∧x.2.2.1.length=32) (.leaf (.exit 0) ((bD twX K6).wr ((),(x.2.2.2.1,w x.2.1 x.2.2.1 x.2.2.2.2.1.1 x.2.2.2.2.1.2.1 x.2.2.2.2.1.2.2.1 x.2.2.2.2.1.2.2.2.1 x.2.2.2.2.2.1,()))))
theorem Tg{a:List Int}{i:Int}:gQ a i=0∨gQ a i=1:=ac4 _
theorem WW(a b:List Int)(i:Int):0≤twI gQ a b i∧twI gQ a b i<4:=by
 rcases Tg (a:=a) (i:=i)with h|h<;>rcases Tg (a:=b) (i:=i)with h'|h'<;>unfold twI<;>rw[h,h']<;>decide
theorem aiV(x:twT):Ex Tryz.prog [] (.loop (aV P0 0)) ((bD twC twH).wr x) (.need (x.1.1=255∧x.2.1.length=32∧x.2.2.1.length=32) (.leaf (.exit 0) ((bD twX K6).wr ((),(x.2.2.2.1,gC (twG gQ bB cm x.2.1 x.2.2.1 [x.2.2.2.2.1.1,x.2.2.2.2.1.2.1,x.2.2.2.2.1.2.2.1,x.2.2.2.2.1.2.2.2.1]) 256 x.2.2.2.2.2.1,()))))):=by
 obtain⟨⟨i,_⟩,a,b,r,⟨p0,p1,p2,p3,_⟩,o,_⟩:=x;refine Ex.need fun⟨h1,h2,h3⟩=>?_;simp only at h1 h2 h3;subst h1
 have key:=gJ (fn:=P0) (id:=0) (j:=0) (ws:=twW) (hp:= []) mixed K8 (aO.nil _) 256 (fun k o=>(bD twC twH).wr ((255-(k:Int),()),(a,b,r,(p0,p1,p2,p3,()),o,()))) (fun o=>(bD twX K6).wr ((),(r,o,()))) (twG gQ bB cm a b [p0,p1,p2,p3]) (fun _ _=>True)
  (fun k o R hk _ hn hx=>?_) (fun _ _ _ _=>trivial) 0 o (by omega) trivial
 ·rw[Nat.sub_zero,rk]at key;exact key
 rw[aoz];refine⟨fun hb=>?_,fun hb=>?_⟩
 ·have l9:k<256:=by have:=of_decide_eq_true hb;omega
  have vS:=hn l9;have e3:i64.wrap ((255-(k:Int))-1)=255-((k+1:Nat):Int):=by rw[ax (by omega) (by omega)];omega
  rw[e3];refine⟨⟨h2,by omega,by omega⟩,⟨h3,by omega,by omega⟩,fun hc=>⟨WW _ _ _,?_⟩,fun hc=>?_⟩
  ·have:twG gQ bB cm a b [p0,p1,p2,p3] k o=cm (bB o) (xj (twI gQ a b (255-(k:Int))) [p0,p1,p2,p3]):=(by unfold twG;rw[hc];rfl);rw[this]at vS;exact vS
  ·have:twG gQ bB cm a b [p0,p1,p2,p3] k o=bB o:=(by unfold twG;rw[hc];rfl);rw[this]at vS;exact vS
 ·have:k=256:=by have:=of_decide_eq_false hb;omega
  exact hx this
abbrev aoB(w:List Int→List Int→Pt→Pt→Pt→Pt→Pt→Pt):fq:= [(0,fF (bD twC twH) 0 [asf,.auto,K7 2,.bm 3 (List.replicate 84 .sym),K7 4] (aoA w))]
abbrev twA:aW (List LV) (List Int×Pt×List Int×Unit):=ae cB (ae vu (ae cB ag))
def eTw(g:List Int→Pt→List Int→Pt):ar:=ar.dx [] twA ag fun x _=>.leaf (some (x.1.length=32∧x.2.2.1.length=32)) (vu.wr (g x.1 x.2.1 x.2.2.1)) []
abbrev adF(z b:Pt)(bit:List Int→Int→Int)(G7:Pt→Pt)(add:Pt→Pt→Pt):List (FuncId×ar):= [(191,eBi bit),(190,BS G7),(192,e2Q add),(189,WG z),(134,WG b)]
theorem WX(z b:Pt)(w:List Int→List Int→Pt→Pt→Pt→Pt→Pt→Pt)(bit:List Int→Int→Int)(G7:Pt→Pt)(add:Pt→Pt→Pt)(n m:List Int)(p:Pt):aT Tryz.prog (adF z b bit G7 add) (aoB w) P0 (twA.wr (n,p,m,())) [] kK=
  .need ((255:Int)=255∧n.length=32∧m.length=32) (.leaf (vu.wr (w n m z p b (add p b) z)) []):=by kernel_rfl
theorem Th:∃f:List Int→Pt→List Int→Pt,∀n p m,f n p m=ac5 (oB n) p (oB m):=⟨fun n p m=>ac5 (oB n) p (oB m),fun _ _ _=>rfl⟩
def CO:List Int→Pt→List Int→Pt:=Classical.choose Th
theorem Ti(n:List Int)(p:Pt)(m:List Int):CO n p m=ac5 (oB n) p (oB m):=Classical.choose_spec Th n p m
def P1(a b:List Int)(p0 p1 p2 p3 o:Pt):Pt:=gC (twG gQ bB cm a b [p0,p1,p2,p3]) 256 o
theorem aoC(a b:List Int)(l:Vec Pt 4)(k:Nat)(hk:k<256)(r:Pt):twG gQ bB cm a b l.toList k r=rq iN bB cm (oB a) (oB b) l (255-(k:Int)) r:=by
 unfold twG rq ain twI gQ;rw[gq];rfl
theorem aiW(n m:List Int)(p:Pt):P1 n m dB p fM (cm p fM) dB=CO n p m:=by
 rw[Ti];unfold P1 ac5 alp;exact sO (fun k hk r=>aoC n m (aim dB p fM (cm p fM)) k hk r) dB 256 (Nat.le_refl _)
theorem adG{n m:List Int}{V W:Pt}(hn:n.length=32)(hm:m.length=32)(h:V=W):(Ev.End.need ((255:Int)=255∧n.length=32∧m.length=32) (.leaf (vu.wr V) [])).sat fun v eK=>v=vu.wr W∧eK= []:=by
 subst h;exact⟨⟨rfl,hn,hm⟩,rfl,rfl⟩
theorem adH(a b:List Int)(p0 p1 p2 p3 o:Pt):P1 a b p0 p1 p2 p3 o=gC (twG gQ bB cm a b [p0,p1,p2,p3]) 256 o:=rfl
theorem adI(x:twT):Ex Tryz.prog [] (.loop (aV P0 0)) ((bD twC twH).wr x) (aoA P1 x):=by
 unfold aoA;rw[adH];exact aiV x
theorem aoD:aO Tryz.prog [] (aoB P1) (aG P0):=aO.cU (nJ rfl (cN (hp:= []) adI) oI)
theorem aoE:∀p∈adF dB fM gQ bB cm,p.2.Ok Tryz.prog p.1:=aj BU (aj sM (aj yQ (aj BT (aj K1 aE))))
abbrev ash:ar:=eTw CO
theorem aiX:ash.Ok Tryz.prog 240:=by
 refine(ar.br call240 fun x_ y_ Q H_=>?_).sym;obtain⟨n,p,m,_⟩:=x_;obtain⟨hn,hq⟩:=H_;have hn:n.length=32∧m.length=32:=hn
 have hc:j6 Tryz.prog 240 (twA.wr (n,p,m,())) [] (aT Tryz.prog (adF dB fM gQ bB cm) (aoB P1) P0 (twA.wr (n,p,m,())) [] kK):=
  aA mixed aoE func240 rfl aoD
 rw[WX dB fM P1 gQ bB cm]at hc;exact hc.use (D:= []) (adG hn.1 hn.2 (aiW n m p)) hq
end Go.Proofs.YtnbkagglkajbkaaGreat
end
