/- What the laws lean on, part 15: a reader of code, plain facts, and what each function gives; no conditions. -/
import Derived.Test.YtcbjpiangpjbgaaGreatA14
set_option linter.unusedVariables false
set_option linter.unusedSimpArgs false
noncomputable section
namespace Go.Proofs.YtcbjpiangpjbgaaGreat
open Go Go.Ev BJ Go.Proofs.Tryz
open Go.IntKind (i64 signed u32 u64 wrap wrap_u32)
set_option maxRecDepth 1000000
noncomputable section
variable (base zero:Pt) (encode:Pt→cZ) (decode:cZ→Pt×Bool) (Xw:Pt→Pt→Pt) (equal:Pt→Pt→Bool) (alive:Bool)
end
end Go.Proofs.YtcbjpiangpjbgaaGreat
namespace BJ
def F.apt(a:F)(e:Nat):F:=⟨pm pp 256 a.val e%pp,Nat.mod_lt _ (by decide)⟩
theorem F.aib(a:F){e:Nat}(he:e<2 ^ 256):F.pow a e=F.apt a e:=by
 apply Fin.ext
 show a.val ^ e%pp=pm pp 256 a.val e%pp;rw[TI pp 256 a.val e he,Nat.mod_mod]
def F.aDQ(a:F):F:=F.apt a (pp-2)
theorem F.aic(a:F):F.inv a=F.aDQ a:=F.aib a (by decide)
def aid(a:F):F×Bool:=
 let r:=F.apt a ((pp+3)/8)
 let r1:=if r*r=a then r else r*F.apt 2 ((pp-1)/4)
 if r1*r1=a then(if r1.val%2=1 then-r1 else r1,true)else(0,false)
theorem ayc(a:F):rootOf a=aid a:=by
 unfold rootOf aid;rw[F.aib a (by decide),F.aib 2 (by decide)]
def aDR(y:F):F×Bool:=if dd*(y*y)+1=0 then(0,decide (y*y-1=0))else aid ((y*y-1)*F.aDQ (dd*(y*y)+1))
theorem aDS(y:F):lk y=aDR y:=by
 unfold lk kH aDR;rw[ayc,F.aic]
def rn:F:=46316835694926478169428394003475163141307993866256225615783033603165251855960
def uA:F:=15112221349535400772501151409588531511454012693041857206046113283949847762202
theorem aie:4*F.inv 5=rn:=by rw[F.aic];decide+kernel
theorem aif:lk rn=(uA,true):=by rw[aDS];decide+kernel
theorem aih:Ah=qV uA rn:=by
 unfold Ah;rw[aie,aif]
end BJ
namespace Go.Proofs.YtcbjpiangpjbgaaGreat
open Go Go.Ev BJ Go.Proofs.Tryz
open Go.IntKind (i64 signed u32 u64 wrap wrap_u32)
theorem TZ:wb gX∧TR gX=Ah:=by
 obtain⟨h1,h2,h3⟩:=apl;obtain⟨o1,o2⟩:=Cf h1 h2;exact⟨o1,o2.trans h3⟩
theorem T0:wb gm∧TR gm=lj:=by
 obtain⟨h1,h2,h3⟩:=TS;obtain⟨o1,o2⟩:=Cf h1 h2;exact⟨o1,o2.trans h3⟩
end Go.Proofs.YtcbjpiangpjbgaaGreat
namespace BJ
def j7(r a:F):F×Bool:=if r*r=a then(if r.val%2=1 then-r else r,true)else(0,false)
theorem Co(a:F):rootOf a=j7 (if F.pow a ((pp+3)/8)*F.pow a ((pp+3)/8)=a then F.pow a ((pp+3)/8)else F.pow a ((pp+3)/8)*F.pow 2 ((pp-1)/4)) a:=rfl
end BJ
namespace Go.Proofs.YtcbjpiangpjbgaaGreat
open Go Go.Ev BJ Go.Proofs.Tryz
open Go.IntKind (i64 signed u32 u64 wrap wrap_u32)
end Go.Proofs.YtcbjpiangpjbgaaGreat
namespace Go.Proofs.YtcbjpiangpjbgaaGreat
open Go Go.Ev BJ Go.Proofs.Tryz
open Go.IntKind (i64 signed u32 u64 wrap wrap_u32)
set_option maxRecDepth 100000
theorem ia{n:Int}(h0:0≤n)(h1:n<18446744073709551616):bK n=bt (cO n):=by
 have hv:((cO n).val:Int)=n:=by rw[ef,Int.emod_eq_of_lt h0 (by simp only[pp];omega)]
 unfold bt nM bK;rw[hv]
 apply jE
 intro i hi;have e:(65536 ^ i:Nat)=2 ^ (16*i):=by rw[show(65536:Nat)=2 ^ 16 from rfl,← Nat.pow_mul]
 by_cases h4:i<4
 ·rw[if_pos h4];have e1:bV n ((16*i:Nat):Int)=n/(2 ^ (16*i):Nat):=ee .u64 n (16*i) (by show 16*i≤64;omega);have e2:dM (bV n ((16*i:Nat):Int)) 65535=bV n ((16*i:Nat):Int)%(2 ^ 16:Nat):=pZ (m:=16) (by decide) _ 65535 (by decide);have e3:((2 ^ 16:Nat):Int)=65536:=by decide
  rw[e2,e1,e,e3,sd (by omega) (by omega)]
 ·rw[if_neg h4];have h:(65536 ^ 4:Nat)≤65536 ^ i:=Nat.pow_le_pow_right (by omega) (by omega);have h':(65536 ^ 4:Nat)=18446744073709551616:=by decide
  rw[h']at h;rw[Int.ediv_eq_zero_of_lt h0 (by omega)];rfl
theorem At(a:F):nG (bt a)=dS a:=by
 have hV:=sg a;unfold nG dS xr
 apply jE
 intro i hi;obtain⟨h1,h2⟩:=fX a;have hg:=Aj h1 (i:=i/2) (by omega);rw[h2]at hg;have hr:=qv h1 (i:=i/2) (by omega);have e:(65536 ^ (i/2):Nat)=256 ^ (2*(i/2)):=by rw[show(65536:Nat)=256 ^ 2 from rfl,← Nat.pow_mul]
 rw[e]at hg
 by_cases he:i%2=0
 ·rw[if_pos he];have e1:cA ((bt a).get (i/2)) 255=(bt a).get (i/2)%(2 ^ 8:Nat):=p8 (m:=8) (by decide) _ 255 (by decide);have e2:((2 ^ 8:Nat):Int)=256:=by decide
  rw[e1,e2,wrap_u8,hg,show 2*(i/2)=i from by omega];omega
 ·rw[if_neg he];have e1:down ((bt a).get (i/2)) 8=(bt a).get (i/2)/(2 ^ 8:Nat):=ee .i64 _ 8 (by decide);have e2:((2 ^ 8:Nat):Int)=256:=by decide
  have e3:(256 ^ i:Nat)=256 ^ (2*(i/2))*256:=by rw[← Nat.pow_succ];congr 1;omega
  rw[e1,e2,wrap_u8,hg,e3,Int.natCast_mul,← Int.ediv_ediv_of_nonneg (Int.natCast_nonneg _)];generalize (a.val:Int)/((256 ^ (2*(i/2)):Nat):Int)=q;have:(((256:Nat)):Int)=256:=rfl;rw[this];omega
theorem Ke: {n:Nat}→ {v:Vec Int (n+1)}→u6 v→uv v
 |0,_,_=>trivial
 |_+1,_,h=>⟨h.1,Ke h.2⟩
def wm:cZ→Fn:=ahO dN
theorem Cp{b:cZ}(h:mo b):wm b=bt (cO (bN b%57896044618658097711785492504343953926634992332820282019728792003956564819968)):=by
 have hV:=cR h;have XA:=lR h;rw[aph]at XA
 have hp:Fb b=nM 16 (bN b):=by
  unfold Fb nM
  apply jE
  intro i hi;have g1:=nH h (i:=2*i) (by omega);have g2:=nH h (i:=2*i+1) (by omega);have b1:=po h (i:=2*i) (by omega);have b2:=po h (i:=2*i+1) (by omega);rw[sd (x:=b.get (2*i)) (by omega) (by omega),sd (x:=b.get (2*i+1)) (by omega) (by omega),sd (x:=256*b.get (2*i+1)) (by omega) (by omega),sd (by omega) (by omega),g1,g2];have e:(65536 ^ i:Nat)=256 ^ (2*i):=by rw[show(65536:Nat)=256 ^ 2 from rfl,← Nat.pow_mul]
  rw[e,Nat.pow_succ,Int.natCast_mul,← Int.ediv_ediv_of_nonneg (Int.natCast_nonneg _)];generalize bN b/((256 ^ (2*i):Nat):Int)=q;have:(((256:Nat)):Int)=256:=rfl;rw[this];omega
 obtain⟨d1,d2⟩:=qu 16 (bN b) hV;rw[p16,Int.emod_eq_of_lt hV (by omega)]at d2;have hg:=Aj d1 (i:=15) (by decide);rw[d2]at hg;rw[XE]at hg;have hu:=Fu (n:=15) (fun x=>cA x 32767) (nM 16 (bN b));rw[XE,d2]at hu
 have hb:=Pd (n:=15) (B:=70368744177664) (fun x=>cA x 32767) (nM 16 (bN b)) (Ke d1) (by decide) (by
  show-70368744177664≤cA (Vec.get (n:=16) (nM 16 (bN b)) 15) 32767∧cA (Vec.get (n:=16) (nM 16 (bN b)) 15) 32767≤70368744177664;rw[Ft];omega)
 have hv:bS (Vec.nf (n:=16) (fun x=>cA x 32767) 15 (nM 16 (bN b)))=bN b%57896044618658097711785492504343953926634992332820282019728792003956564819968:=by
  refine hu.trans ?_;show bN b+_*(cA (Vec.get (n:=16) (nM 16 (bN b)) 15) 32767-Vec.get (n:=16) (nM 16 (bN b)) 15)=_;rw[Ft,hg];omega
 show dN (Vec.nf (fun x=>cA x 32767) 15 (Fb b))=_;rw[hp,ux hb (by rw[hv];omega) (by rw[hv];omega),hv]
theorem XJ{b:cZ}(_h:mo b):O3 b=gV b:=by
 refine qp ?_;show bd .u8 (b.get 31) 127=dh .u8 (b.get 31) 128;rw[r8];exact rJ (m:=7) (by decide) _ 127 (by decide)
def il(b:cZ):Bool:=mn (nG (wm (O3 b))) (O3 b)
theorem Au{b:cZ}(h:mo b):il b=decide (bN b%fW<(pp:Int)):=by
 obtain⟨h1,h2⟩:=v8 h;have dU:bN (gV b)<57896044618658097711785492504343953926634992332820282019728792003956564819968:=by rw[h2];omega
 unfold il;rw[XJ h,Cp h1,At,Int.emod_eq_of_lt (cR h1) dU,um h1 dU,h2]
theorem Kf(a:F):qU (bt a)=decide (a.val%2=1):=by
 obtain⟨h1,h2⟩:=fX a;have h3:(bt a).1+65536*bS (bt a).2=(a.val:Int):=h2;have h4:=h1.1;unfold qU;generalize (bt a).1=x at*;generalize bS (bt a).2=y at*;rw[Int.tmod_eq_emod_of_nonneg h4.1]
 by_cases h:a.val%2=1
 ·rw[decide_eq_true h,beq_iff_eq];omega
 ·rw[decide_eq_false h];refine Bool.eq_false_iff.2 fun e=>h ?_;rw[beq_iff_eq]at e;omega
theorem T1{e:cZ}(h:mo e){i:Nat}(hi:i<256):mb e i=lP e i:=by
 obtain⟨h1,h2⟩:=po h (i:=i/8) (by omega);unfold mb lP;have e1:shr .u8 (e.get (i/8)) ((i%8:Nat):Int)=e.get (i/8)/(2 ^ (i%8):Nat):=ee .u8 _ _ (by show i%8≤8;omega);have hp:(0:Int)<((2 ^ (i%8):Nat):Int):=by have:=Nat.pow_pos (n:=i%8) (show 0<2 by decide);omega
 have h3:0≤e.get (i/8)/((2 ^ (i%8):Nat):Int):=Int.ediv_nonneg h1 (by omega);have h4:e.get (i/8)/((2 ^ (i%8):Nat):Int)≤e.get (i/8):=Int.ediv_le_self _ h1;rw[e1,wrap_i64 (by omega) (by omega),p8 (m:=1) (by decide) _ 1 (by decide),rJ (m:=1) (by decide) _ 1 (by decide),wrap_i64 (by omega) (by omega)]
def lT(x:Fn)(e:cZ):Fn:=ahP mb bK bx x e
theorem Av(a:F){e:cZ}(he:mo e):lT (bt a) e=bt (F.pow a (bN e).toNat):=by
 have hV:=cR he;have XA:=lR he;obtain⟨N,hN⟩:=Int.eq_ofNat_of_zero_le hV
 have key:∀k,k≤256→fG (m5 mb bx (bt a) e) k (bK 1)=bt (F.pow a (N/2 ^ (256-k))):=by
  intro k
  induction k with
  |zero=>
   intro _;have ahZ:(256 ^ 32:Nat)=2 ^ 256:=(by rw[show(256:Nat)=2 ^ 8 from rfl,← Nat.pow_mul]);have:N/2 ^ (256-0)=0:=Nat.div_eq_of_lt (by rw[hN]at XA;rw[Nat.sub_zero,← ahZ];omega);rw[this,F.pow_zero];show bK 1=_;rw[ia (by decide) (by decide),yh]
  |succ k ih=>
   intro hk;show m5 mb bx (bt a) e k (fG (m5 mb bx (bt a) e) k (bK 1))=_;rw[ih (by omega)];unfold m5;rw[eN,eN,T1 he (by omega),we he (by omega),bU,hN,Int.toNat_natCast]
   have hdiv:N/2 ^ (256-k)=N/2 ^ (256-(k+1))/2:=by
    rw[Nat.div_div_eq_div_mul,← Nat.pow_succ];congr 2;omega
   rw[hdiv];have ax9:255-k=256-(k+1):=(by omega);rw[ax9];unfold Pb;generalize N/2 ^ (256-(k+1))=M at*
   by_cases hb:M%2=1
   ·rw[decide_eq_true hb,cond_true];have:M=2*(M/2)+1:=by omega
    conv=>rhs;rw[this]
    rw[F.pow_succ,F.nJ]
   ·rw[decide_eq_false hb,cond_false];have:M=2*(M/2):=by omega
    conv=>rhs;rw[this]
    rw[F.nJ]
 have:=key 256 (by omega);rw[hN,Int.toNat_natCast];have e1:N/2 ^ (256-256)=N:=by simp
 rw[e1]at this;exact this
def dm(x:Fn):Fn:=lT x (cz 235 127)
theorem uB(a:F):dm (bt a)=bt (F.inv a):=by
 unfold dm;rw[Av a (qo (by omega) (by omega)),TQ];rfl
def iO:Fn→Fn×Bool:=uh bK bx fb qU lT
theorem T2(b:Bool)(a c:F):df b (bt a) (bt c)=bt (if b=true then a else c):=by
 rw[bU];cases b<;>rfl
theorem aDT(R a:F):(df (!(decide (R*R=a))) (bt 0) (df (decide (R.val%2=1)) (bt (-R)) (bt R)),bif !(decide (R*R=a))then false else true)=(bt (j7 R a).1,(j7 R a).2):=by
 unfold j7
 by_cases h:R*R=a
 ·rw[decide_eq_true h,if_pos h]
  by_cases h2:R.val%2=1
  ·rw[decide_eq_true h2,bU,bU];show(bt (-R),true)=(bt (if R.val%2=1 then-R else R),true);rw[if_pos h2]
  ·rw[decide_eq_false h2,bU,bU];show(bt R,true)=(bt (if R.val%2=1 then-R else R),true);rw[if_neg h2]
 ·rw[decide_eq_false h,if_neg h,bU];rfl
theorem t2F:cO 2=2:=by decide+kernel
theorem XK(a:F):iO (bt a)=(bt (rootOf a).1,(rootOf a).2):=by
 have h1:=Av a (qo (lo:=254) (hi:=15) (by omega) (by omega));have h2:=Av 2 (qo (lo:=251) (hi:=31) (by omega) (by omega));rw[J5]at h1;rw[ah0]at h2;have h3:bK 2=bt 2:=by rw[ia (by decide) (by decide),t2F]
 have e1:df (!(mn (bx (lT (bt a) (cz 254 15)) (lT (bt a) (cz 254 15))) (bt a))) (bx (lT (bt a) (cz 254 15)) (lT (bK 2) (cz 251 31))) (lT (bt a) (cz 254 15))=
   bt (if F.pow a ((pp+3)/8)*F.pow a ((pp+3)/8)=a then F.pow a ((pp+3)/8)else F.pow a ((pp+3)/8)*F.pow 2 ((pp-1)/4)):=by
  rw[h1,h3,h2,eN,eN,Ao,T2]
  by_cases h:F.pow a ((pp+3)/8)*F.pow a ((pp+3)/8)=a
  ·rw[decide_eq_true h,if_pos h];rfl
  ·rw[decide_eq_false h,if_neg h];rfl
 unfold iO uh;simp only[e1,ql];rw[eN,Ao,Kf,uz,pr,aDT,← Co]
def jM:Fn→Fn→Fn×Bool:=JW bx dm iO
theorem XM(u v:F):jM (bt u) (bt v)=(df (mn (bt v) cI) cI (iO (bx (bt u) (dm (bt v)))).1,bif mn (bt v) cI then mn (bt u) cI else(iO (bx (bt u) (dm (bt v)))).2):=rfl
theorem XN(u v:F):iO (bx (bt u) (dm (bt v)))=(bt (rootOf (u*F.inv v)).1,(rootOf (u*F.inv v)).2):=by
 rw[uB,eN,XK]
theorem XO(u v:F)(z:F×Bool):(df (mn (bt v) cI) cI (bt z.1,z.2).1,bif mn (bt v) cI then mn (bt u) cI else(bt z.1,z.2).2)=(df (decide (v=0)) (bt 0) (bt z.1),bif decide (v=0)then decide (u=0)else z.2):=by
 rw[pr,Ao,Ao]
theorem Kg(u v:F)(z:F×Bool):(df (decide (v=0)) (bt 0) (bt z.1),bif decide (v=0)then decide (u=0)else z.2)=(bt (if v=0 then((0:F),decide (u=0))else z).1,(if v=0 then((0:F),decide (u=0))else z).2):=by
 by_cases h:v=0
 ·rw[decide_eq_true h,if_pos h,bU,cond_true,cond_true]
 ·rw[decide_eq_false h,if_neg h,bU,cond_false,cond_false]
theorem XP(u v:F):kH u v=if v=0 then((0:F),decide (u=0))else rootOf (u*F.inv v):=by unfold kH;rfl
theorem Pe(u v:F):jM (bt u) (bt v)=(bt (kH u v).1,(kH u v).2):=by
 rw[XM,XN,XP];generalize rootOf (u*F.inv v)=z;rw[XO,Kg]
def pn(p:E4):Pn:=(bt p.1,bt p.2.1,bt p.2.2.1,bt p.2.2.2)
theorem wo(b:Bool)(p q:E4):Cc b (pn p) (pn q)=pn (if b=true then p else q):=by
 rw[Ab];cases b<;>rfl
def dF:Fn:=bx (fb (bK 121665)) (dm (bK 121666))
theorem aii: -(cO 121665)*F.inv (cO 121666)=dd:=by rw[F.aic];decide+kernel
theorem wq:dF=bt dd:=by
 unfold dF;rw[ia (by decide) (by decide),ia (by decide) (by decide),uz,uB,eN,aii]
def gA:Pn:=O4 bK
theorem ayd:bK 1=bt 1:=by rw[ia (by decide) (by decide),yh]
theorem Kh:gA=pn lj:=by
 unfold gA O4 pn lj qV;rw[ayd,pr];have:(0:F)*1=0:=by decide+kernel
 simp only[this]
def pB:Fn→Fn→Pn:=ax6 bK bx
theorem aij(x y:F):pB (bt x) (bt y)=pn (qV x y):=by
 unfold pB ax6 pn qV;rw[ayd,eN]
def iP:Fn→Fn×Bool:=ahQ bK bx fY iN jM dF
theorem Ki(y:F):iP (bt y)=(bt (lk y).1,(lk y).2):=by
 unfold iP ahQ;rw[ayd,wq,eN,eN,Ap,uy,Pe];rfl
theorem t4F:cO 4=4:=by decide+kernel
theorem t5F:cO 5=5:=by decide+kernel
def mf:Pn:=Fc bK bx dm pB iP
theorem aik:mf=pn Ah:=by
 unfold mf Fc;rw[ia (by decide) (by decide),ia (by decide) (by decide),t4F,t5F,uB,eN,Ki];show pB (bt (lk (4*F.inv 5)).1) (bt (4*F.inv 5))=_;rw[aij];rfl
def pC:cZ→Pn×Bool:=qm fb wm il gA pB iP
theorem Fx(c ok t:Bool)(b:cZ)(X Y:F)(hc:il b=c)(hf:wm b=bt Y)(hx:iP (bt Y)=(bt X,ok))(ht:decide (b.get 31>127)=t):
  pC b=(if(ok&&c&& !(t&&decide (X=0)))=true then pn (qV (if t=true then-X else X) Y)else pn lj,ok&&c&& !(t&&decide (X=0))):=by
 unfold pC qm;simp only[hc,hf,hx,ht,ql,Bool.cond_self];rw[pr,Ao,uz,T2,aij,Kh,wo,wo];generalize decide (X=0)=z
 cases c<;>cases ok<;>cases t<;>cases z<;>rfl
theorem Pf{b:cZ}(h:mo b):pC b=(pn (J6 b).1,(J6 b).2):=by
 rw[Fx (il b) (lk (cO (bN b%fW))).2 (decide (b.get 31>127)) b (lk (cO (bN b%fW))).1 (cO (bN b%fW)) rfl (Cp h) (Ki _) rfl,Au h];have ht:decide (b.get 31>127)=decide (128≤b.get 31):=by congr 1
 rw[ht];unfold J6;simp only[];generalize (lk (cO (bN b%fW))).2=ok at*;generalize (lk (cO (bN b%fW))).1=X at*
 have hg:(ok&&decide (bN b%fW<(pp:Int))&& !(decide (128≤b.get 31)&&decide (X=0)))=decide (ok=true∧bN b%fW<(pp:Int)∧¬(128≤b.get 31∧X=0)):=by
  cases ok
  ·simp
  ·by_cases h1:bN b%fW<(pp:Int)<;>by_cases h2:128≤b.get 31<;>by_cases h3:X=0<;>simp[h2,h3]
 rw[hg]
 by_cases h:ok=true∧bN b%fW<(pp:Int)∧¬(128≤b.get 31∧X=0)
 ·rw[decide_eq_true h,if_pos h,if_pos rfl]
  by_cases h2:128≤b.get 31
  ·rw[decide_eq_true h2,if_pos rfl,if_pos h2]
  ·rw[decide_eq_false h2,if_neg (by decide),if_neg h2]
 ·rw[decide_eq_false h,if_neg h,if_neg (by decide)]
def uC:Pn→cZ:=vY bx dm qU nG
theorem Pg(p:E4):uC (pn p)=apk p:=by
 unfold uC vY;show df (qU (bx (bt p.1) (dm (bt p.2.2.1)))) (Vec.nf (fun x=>IntKind.u8.wrap (x+128)) 31 (nG (bx (bt p.2.1) (dm (bt p.2.2.1))))) (nG (bx (bt p.2.1) (dm (bt p.2.2.1))))=_;rw[uB,eN,eN,At,Kf,Ai];have hb:=Cg (p.2.1*F.inv p.2.2.1)
 have hu:Vec.nf (fun x=>IntKind.u8.wrap (x+128)) 31 (dS (p.2.1*F.inv p.2.2.1))=Fq (dS (p.2.1*F.inv p.2.2.1)):=by
  refine qp ?_;generalize Vec.get (dS (p.2.1*F.inv p.2.2.1)) 31=z at*;show IntKind.u8.wrap (z+128)=z+128;rw[wrap_u8];omega
 rw[hu];rfl
def cT:Pn→Pn→Fn→Pn:=yg bx fY iN
def mg(p q:Pn):Pn:=cT p q (fY dF dF)
theorem apu(p q:E4):qW p q=(((p.2.1+p.1)*(q.2.1+q.1)-(p.2.1-p.1)*(q.2.1-q.1))*((p.2.2.1+p.2.2.1)*q.2.2.1-p.2.2.2*q.2.2.2*(dd+dd)),
  ((p.2.2.1+p.2.2.1)*q.2.2.1+p.2.2.2*q.2.2.2*(dd+dd))*((p.2.1+p.1)*(q.2.1+q.1)+(p.2.1-p.1)*(q.2.1-q.1)),
  ((p.2.2.1+p.2.2.1)*q.2.2.1-p.2.2.2*q.2.2.2*(dd+dd))*((p.2.2.1+p.2.2.1)*q.2.2.1+p.2.2.2*q.2.2.2*(dd+dd)),
  ((p.2.1+p.1)*(q.2.1+q.1)-(p.2.1-p.1)*(q.2.1-q.1))*((p.2.1+p.1)*(q.2.1+q.1)+(p.2.1-p.1)*(q.2.1-q.1))):=by
 unfold qW;simp only[];have e1:p.2.2.2*q.2.2.2*dd+p.2.2.2*q.2.2.2*dd=p.2.2.2*q.2.2.2*(dd+dd):=by generalize dd=d;grobner
 have e2:p.2.2.1*q.2.2.1+p.2.2.1*q.2.2.1=(p.2.2.1+p.2.2.1)*q.2.2.1:=by grobner
 rw[e1,e2]
theorem wu(p q:E4):cT (pn p) (pn q) (bt (dd+dd))=pn (qW p q):=by
 rw[apu];unfold cT yg pn;simp only[eN,uy,Ap]
theorem ail(p q:E4):mg (pn p) (pn q)=pn (qW p q):=by
 unfold mg;rw[wq,uy,wu]
def mh(p:Pn):Pn:=(fb p.1,p.2.1,p.2.2.1,fb p.2.2.2)
theorem aim(p:E4):mh (pn p)=pn (ah2 p):=by
 unfold mh pn ah2;simp only[uz]
end Go.Proofs.YtcbjpiangpjbgaaGreat
namespace BJ
theorem F.ain:(1:F)≠0:=by decide+kernel
theorem F.vV{s:F}(h:s≠0):F.pow s (pp-1)=1:=by
 apply Fin.ext
 show s.val ^ (pp-1)%pp=1;exact Fa.vV (F.OX h)
theorem apv{r a:F}(h:(j7 r a).2=true):(j7 r a).1*(j7 r a).1=a:=by
 unfold j7 at h ⊢
 by_cases h1:r*r=a
 ·rw[if_pos h1];show(if r.val%2=1 then-r else r)*(if r.val%2=1 then-r else r)=a
  by_cases h2:r.val%2=1
  ·rw[if_pos h2];grobner
  ·rw[if_neg h2];exact h1
 ·rw[if_neg h1]at h;cases h
theorem apw{a:F}(h:(rootOf a).2=true):(rootOf a).1*(rootOf a).1=a:=by
 rw[Co]at h ⊢;exact apv h
theorem aio(y:F):dd*(y*y)+1≠0:=by
 intro h;have hy:y≠0:=by rintro rfl;exact F.ain (by grobner)
 have hi:=F.inv_mul hy;have h2:=aul
 apply uc (ii*F.inv y)
 generalize F.inv y=v at*
 grobner
theorem aye{y:F}(h:(lk y).2=true):sA (lk y).1 y:=by
 unfold lk kH at h ⊢;rw[if_neg (aio y)]at h ⊢;have h1:=apw h;have h2:=F.inv_mul (aio y);generalize (rootOf ((y*y-1)*F.inv (dd*(y*y)+1))).1=x at*;generalize F.inv (dd*(y*y)+1)=v at*;unfold sA
 grobner
def Fy(p:E4)(P:Pt):Prop:=p.2.2.1≠0∧p.1=P.x*p.2.2.1∧p.2.1=P.y*p.2.2.1∧p.2.2.2=P.x*P.y*p.2.2.1
theorem uD(P:Pt):Fy (qV P.x P.y) P:=
 ⟨F.ain,(show P.x=P.x*1 by grobner),(show P.y=P.y*1 by grobner),(show P.x*P.y=P.x*P.y*1 by grobner)⟩
theorem Aw:Fy lj Pt.zero:=uD Pt.zero
theorem apx{x1 y1 Z1 x2 y2 Z2:F}{A B:F}(h1:sA x1 y1)(h2:sA x2 y2)(hz1:Z1≠0)(hz2:Z2≠0)
  (hA:A*(1+dd*x1*x2*y1*y2)=x1*y2+y1*x2) (hB:B*(1-dd*x1*x2*y1*y2)=y1*y2+x1*x2) {r:E4}
  (hr:qW (x1*Z1,y1*Z1,Z1,x1*y1*Z1) (x2*Z2,y2*Z2,Z2,x2*y2*Z2)=r):r.2.2.1≠0∧r.1=A*r.2.2.1∧r.2.1=B*r.2.2.1∧r.2.2.2=A*B*r.2.2.1:=by
 have d1:=gx h1 h2;have d2:=ft h1 h2;subst hr;unfold qW;simp only[];generalize hD:dd*x1*x2*y1*y2=D at*;have e1:y1*Z1*Z2+y1*Z1*Z2=y1*Z1*Z2+y1*Z1*Z2:=rfl;have eba:(y1*Z1+x1*Z1)*(y2*Z2+x2*Z2)-(y1*Z1-x1*Z1)*(y2*Z2-x2*Z2)=2*(Z1*Z2)*(A*(1+D)):=by rw[hA];grobner
 have ebA:(y1*Z1+x1*Z1)*(y2*Z2+x2*Z2)+(y1*Z1-x1*Z1)*(y2*Z2-x2*Z2)=2*(Z1*Z2)*(B*(1-D)):=by rw[hB];grobner
 have edc:Z1*Z2+Z1*Z2-(x1*y1*Z1*(x2*y2*Z2)*dd+x1*y1*Z1*(x2*y2*Z2)*dd)=2*(Z1*Z2)*(1-D):=by rw[← hD];grobner
 have edC:Z1*Z2+Z1*Z2+(x1*y1*Z1*(x2*y2*Z2)*dd+x1*y1*Z1*(x2*y2*Z2)*dd)=2*(Z1*Z2)*(1+D):=by rw[← hD];grobner
 rw[eba,ebA,edc,edC];have gD:=F.fJ ahK (F.fJ hz1 hz2);refine⟨F.fJ (F.fJ gD d2) (F.fJ gD d1),?_,?_,?_⟩<;>grobner
theorem Kj{p:E4}{P:Pt}(h:Fy p P):p=(P.x*p.2.2.1,P.y*p.2.2.1,p.2.2.1,P.x*P.y*p.2.2.1):=by
 obtain⟨X,Y,Z,T⟩:=p;obtain⟨_,h1,h2,h3⟩:=h;simp only at h1 h2 h3;rw[h1,h2,h3]
theorem yj{p q:E4}{P Q:Pt}(hp:Fy p P)(hq:Fy q Q):Fy (qW p q) (P.add Q):=by
 have h:=apx P.on Q.on hp.1 hq.1 (j0 P.on Q.on) (j3 P.on Q.on) (r:=qW p q) (by rw[← Kj hp,← Kj hq]);exact h
theorem T3{p:E4}{P:Pt}(hp:Fy p P):Fy (ah2 p) P.neg:=by
 obtain⟨X,Y,Z,T⟩:=p;obtain⟨h0,h1,h2,h3⟩:=hp;simp only at h0 h1 h2 h3;refine⟨h0,?_,h2,?_⟩
 ·show-X= -P.x*Z
  grobner
 ·show-T= -P.x*P.y*Z
  grobner
theorem aus{p:E4}{P:Pt}(hp:Fy p P):p.1*F.inv p.2.2.1=P.x:=by
 obtain⟨h0,h1,_⟩:=hp;have:=F.inv_mul h0;rw[h1];generalize F.inv p.2.2.1=v at*
 grobner
theorem aut{p:E4}{P:Pt}(hp:Fy p P):p.2.1*F.inv p.2.2.1=P.y:=by
 obtain⟨h0,_,h2,_⟩:=hp;have:=F.inv_mul h0;rw[h2];generalize F.inv p.2.2.1=v at*
 grobner
theorem Pt.zero_add(p:Pt):Pt.zero.add p=p:=by rw[Pt.add_comm,Pt.add_zero]
def ja:Nat→Pt→Pt
 |0,_=>Pt.zero
 |n+1,p=>(ja n p).add p
theorem uE(m n:Nat)(p:Pt):ja (m+n) p=(ja m p).add (ja n p):=by
 induction n with
 |zero=>
  show ja m p=(ja m p).add Pt.zero;rw[Pt.add_zero]
 |succ n ih=>rw[← Nat.add_assoc,ja,ja,ih,Pt.add_assoc]
theorem aDU(a b c d:Pt):(a.add b).add (c.add d)=(a.add c).add (b.add d):=by
 rw[Pt.add_assoc,Pt.add_assoc,← Pt.add_assoc b,Pt.add_comm b c,Pt.add_assoc c]
theorem aip(n:Nat)(p q:Pt):ja n (p.add q)=(ja n p).add (ja n q):=by
 induction n with
 |zero=>
  show Pt.zero=Pt.zero.add Pt.zero;rw[Pt.add_zero]
 |succ n ih=>rw[ja,ja,ja,ih,aDU]
theorem Kk(n:Nat):ja n Pt.zero=Pt.zero:=by
 induction n with
 |zero=>rfl
 |succ n ih=>rw[ja,ih,Pt.add_zero]
theorem apy(m n:Nat)(p:Pt):ja (m*n) p=ja m (ja n p):=by
 induction m with
 |zero=>rw[Nat.zero_mul];rfl
 |succ m ih=>rw[Nat.succ_mul,uE,ih,ja]
theorem aiq{a b c:Pt}(h:a.add b=a.add c):b=c:=by
 have:a.neg.add (a.add b)=a.neg.add (a.add c):=by rw[h]
 rwa [← Pt.add_assoc,← Pt.add_assoc,Pt.add_comm a.neg,Pt.add_neg,Pt.zero_add,Pt.zero_add]at this
theorem apz(n:Nat)(p:Pt):ja n p.neg=(ja n p).neg:=by
 apply aiq (a:=ja n p)
 rw[← aip,Pt.add_neg,Pt.add_neg,Kk]
theorem apA(p:Pt):ja 1 p=p:=Pt.zero_add p
end BJ
namespace Go.Proofs.YtcbjpiangpjbgaaGreat
open Go Go.Ev Go.Proofs.Tryz
open Go.IntKind (i64 signed u32 u64 wrap wrap_u32)
set_option maxRecDepth 1000000
noncomputable section
variable (bit:cZ→Nat→Int) (zero:Pn) (Xv:Fn) (add:Fn→Fn→Fn) (JV:Pn→Pn→Fn→Pn)
def qB(n:cZ)(p:Pn)(d:Fn)(i:Int)(q:Pn):Pn:=Cc (bit n i.toNat==1) (JV (JV q q d) p d) (JV q q d)
def T4(n:cZ)(p:Pn):Pn:=fG (fun k q=>qB bit JV n p (add Xv Xv) (255-(k:Int)) q) 256 zero
end
noncomputable section
variable (decode:cZ→Pt×Bool) (base:Pt) (double:Pt→Pt)
end
noncomputable section
variable (decode:cZ→Pt×Bool) (base:Pt) (double:Pt→Pt) (apB:cZ→Pn×Bool) (aKm:Pn) (aDV:Pn→Pn→Pn)
end
end Go.Proofs.YtcbjpiangpjbgaaGreat
namespace Go.Proofs.YtcbjpiangpjbgaaGreat
open Go Go.Ev BJ Go.Proofs.Tryz
open Go.IntKind (i64 signed u32 u64 wrap wrap_u32)
set_option maxRecDepth 1000000
def uF(a b:Fn):Bool:=iM a b 16
def Ax:cZ→Pn→Pn:=T4 mb gA dF fY cT
end Go.Proofs.YtcbjpiangpjbgaaGreat
namespace Go.Ev
open Go
open Go.IntKind (i64 signed u32 u64 wrap wrap_u32)
end Go.Ev
namespace Go.Proofs.YtcbjpiangpjbgaaGreat
open Go Go.Ev BJ Go.Proofs.Tryz
open Go.IntKind (i64 signed u32 u64 wrap wrap_u32)
set_option maxRecDepth 1000000
def both(a b:Bool):Bool:=bif a==true then b else false
noncomputable section
variable (at2:cZ→Pt×Pn) (zero:Pt) (add:Pt→Pt→Pt) (neg double:Pt→Pt) (equal:Pt→Pt→Bool) (encode:Pt→cZ)
end
noncomputable section
variable (at2:cZ→Pt×Pn) (decode:cZ→Pt×Bool) (add:Pt→Pt→Pt) (neg double:Pt→Pt) (equal:Pt→Pt→Bool) (encode:Pt→cZ) (apB:cZ→Pn×Bool) (aDV:Pn→Pn→Pn) (aKn:Pn→Pn) (aIh:Pn→Pn→Bool) (aF4:Pn→cZ)
end
noncomputable section
variable (zero:Pt) (decode:cZ→Pt×Bool) (neg double:Pt→Pt) (equal:Pt→Pt→Bool)
end
end Go.Proofs.YtcbjpiangpjbgaaGreat
namespace Go.Proofs.YtcbjpiangpjbgaaGreat
open Go Go.Ev BJ Go.Proofs.Tryz
open Go.IntKind (i64 signed u32 u64 wrap wrap_u32)
theorem ayf(b:cZ):∃P:BJ.Pt,Fy (J6 b).1 P:=by
 unfold J6;simp only[]
 by_cases h:(lk (cO (bN b%fW))).2=true∧bN b%fW<(pp:Int)∧¬(128≤b.get 31∧(lk (cO (bN b%fW))).1=0)
 ·rw[if_pos h];have ho:=aye h.1;generalize (lk (cO (bN b%fW))).1=X at*;generalize cO (bN b%fW)=Y at*
  by_cases h2:128≤b.get 31
  ·rw[if_pos h2];have ho':sA (-X) Y:=(by unfold sA at*;grobner);exact⟨⟨-X,Y,ho'⟩,uD ⟨-X,Y,ho'⟩⟩
  ·rw[if_neg h2];exact⟨⟨X,Y,ho⟩,uD ⟨X,Y,ho⟩⟩
 ·rw[if_neg h];exact⟨_,Aw⟩
theorem apC:sA uA rn:=by unfold sA;decide+kernel
def fc:BJ.Pt:=⟨uA,rn,apC⟩
theorem Kl:Fy Ah fc:=by
 rw[aih];exact uD fc
structure Km (p:Pt) (P:BJ.Pt):Prop where
 ok:wb p
 is:Fy (TR p) P
theorem air:Km gm BJ.Pt.zero:=⟨T0.1,by rw[T0.2];exact Aw⟩
theorem Kn:Km gX fc:=⟨TZ.1,by rw[TZ.2];exact Kl⟩
theorem uG{p q:Pt}{P Q:BJ.Pt}(hp:Km p P)(hq:Km q Q):Km (eD p q) (P.add Q):=by
 obtain⟨h1,_,h3⟩:=aya hp.ok hq.ok;exact⟨h1,by rw[h3];exact yj hp.is hq.is⟩
theorem Ph{p:Pt}{P:BJ.Pt}(hp:Km p P):Km (dT p) (P.add P):=uG hp hp
theorem apD{p:Pt}{P:BJ.Pt}(hp:Km p P):Km (m7 p) P.neg:=by
 obtain⟨h1,_,h3⟩:=ayb hp.ok;exact⟨h1,by rw[h3];exact T3 hp.is⟩
def apE(P:BJ.Pt):cZ:=if P.x.val%2=1 then Fq (dS P.y)else dS P.y
theorem apF{p:Pt}{P:BJ.Pt}(hp:Km p P):uq p=apE P:=by
 rw[XB hp.ok];unfold apk apE;rw[aus hp.is,aut hp.is]
end Go.Proofs.YtcbjpiangpjbgaaGreat
namespace Go.Proofs.YtcbjpiangpjbgaaGreat
open Go Go.Ev BJ Go.Proofs.Tryz
open Go.IntKind (i64 signed u32 u64 wrap wrap_u32)
theorem Ko{V:Nat}(hV:V<2 ^ 256){p:E4}{P:BJ.Pt}(hp:Fy p P):Fy (Ch V p) (ja V P):=by
 have key:∀k,k≤256→Fy (fG (me V p) k lj) (ja (V/2 ^ (256-k)) P):=by
  intro k
  induction k with
  |zero=>
   intro _;rw[Nat.sub_zero,Nat.div_eq_of_lt hV];exact Aw
  |succ k ih=>
   intro hk;have h:=ih (by omega);show Fy (me V p k (fG (me V p) k lj)) _
   have hdiv:V/2 ^ (256-k)=V/2 ^ (256-(k+1))/2:=by
    rw[Nat.div_div_eq_div_mul,← Nat.pow_succ];congr 2;omega
   rw[hdiv]at h;unfold me Pb;rw[show 255-k=256-(k+1)from by omega];generalize V/2 ^ (256-(k+1))=M at*;have h2:=yj h h;rw[← uE]at h2
   by_cases hb:M%2=1
   ·rw[decide_eq_true hb,if_pos rfl];have h3:=yj h2 hp
    have e:(ja (M/2+M/2) P).add P=ja M P:=by
     have:M=(M/2+M/2)+1:=by omega
     conv=>rhs;rw[this]
     rfl
    rw[e]at h3;exact h3
   ·rw[decide_eq_false hb,if_neg (by simp)];rw[show M/2+M/2=M from by omega]at h2;exact h2
 have:=key 256 (by omega);rw[Nat.sub_self,Nat.pow_zero,Nat.div_one]at this;exact this
theorem Pj{n:cZ}(h:mo n):(bN n).toNat<2 ^ 256:=by
 have h1:=lR h;have h0:=cR h;have ahZ:(256 ^ 32:Nat)=2 ^ 256:=by rw[show(256:Nat)=2 ^ 8 from rfl,← Nat.pow_mul]
 rw[ahZ]at h1;omega
theorem ais{n:cZ}(hn:mo n)(p:E4):Ax n (pn p)=pn (Ch (bN n).toNat p):=by
 have hd:fY dF dF=bt (dd+dd):=by rw[wq,uy]
 have key:∀k,k≤256→fG (fun k q=>qB mb cT n (pn p) (fY dF dF) (255-(k:Int)) q) k gA=pn (fG (me (bN n).toNat p) k lj):=by
  intro k
  induction k with
  |zero=>intro _;exact Kh
  |succ k ih=>
   intro hk;simp only[fG];rw[ih (by omega)];unfold qB me;rw[hd,wu,wu,show(255-(k:Int)).toNat=255-k from by omega,T1 hn (by omega),we hn (by omega),wo]
 exact key 256 (by omega)
end Go.Proofs.YtcbjpiangpjbgaaGreat
namespace Go.Proofs.YtcbjpiangpjbgaaGreat
open Go Go.Ev BJ Go.Proofs.Tryz
open Go.IntKind (i64 signed u32 u64 wrap wrap_u32)
set_option maxRecDepth 1000000
noncomputable section
variable (alive:Unit) (mult:cZ→Pt→Pt) (aKo:cZ→Pt) (base zero:Pt) (double neg:Pt→Pt) (equal:Pt→Pt→Bool) (aMG:cZ→Pt) (add:Pt→Pt→Pt) (half:cZ→cZ) (plus:cZ→cZ→cZ) (aMH:cZ→Pt→cZ→Pt)
end
end Go.Proofs.YtcbjpiangpjbgaaGreat
namespace Go.Proofs.YtcbjpiangpjbgaaGreat
open Go Go.Ev Go.Proofs.Tryz
open Go.IntKind (i64 signed u32 u64 wrap wrap_u32)
set_option maxRecDepth 1000000
noncomputable section
variable (bit:cZ→Nat→Int) (zero base:Pt) (double:Pt→Pt) (Xw:Pt→Pt→Pt)
def Ay(z:Int): {n:Nat}→List (Vec Int n)→Vec Int n
 |0,_=>()
 |_+1,l=>((l.map (·.1)).getD z.toNat 0,Ay z (l.map (·.2)))
def wv(z:Int)(l:List Pt):Pt:=((l.map (·.1)).getD z.toNat false,Ay z (l.map (·.2.1)),Ay z (l.map (·.2.2.1)),Ay z (l.map (·.2.2.2.1)),Ay z (l.map (·.2.2.2.2)))
def apG(a b c d:Pt):Vec Pt 4:=(a,b,c,d,())
def apH(a b:cZ)(i:Int):Int:=w (bit a i.toNat+w (2*bit b i.toNat))
def qC(a b:cZ)(l:Vec Pt 4)(i:Int)(r:Pt):Pt:=JU (decide (apH bit a b i>0)) (Xw (double r) (wv (apH bit a b i) l.toList)) (double r)
def auu(a:cZ)(p:Pt)(b:cZ):Pt:=fG (fun k r=>qC bit double Xw a b (apG zero p base (Xw p base)) (255-(k:Int)) r) 256 zero
end
end Go.Proofs.YtcbjpiangpjbgaaGreat
namespace Go.Proofs.YtcbjpiangpjbgaaGreat
open Go Go.Ev BJ Go.Proofs.Tryz
open Go.IntKind (i64 signed u32 u64 wrap wrap_u32)
theorem ait{e:cZ}(_k:Nat):lP e _k=0∨lP e _k=1:=by
 unfold lP;rw[rJ (m:=1) (by decide) _ 1 (by decide)];have h:=Int.emod_nonneg (shr .u8 (e.get (_k/8)) ((_k%8:Nat):Int)) (b:=((2 ^ 1:Nat):Int)) (by decide);have h2:=Int.emod_lt_of_pos (shr .u8 (e.get (_k/8)) ((_k%8:Nat):Int)) (b:=((2 ^ 1:Nat):Int)) (by decide);generalize (shr .u8 (e.get (_k/8)) ((_k%8:Nat):Int))%((2 ^ 1:Nat):Int)=x at*;have h3:((2 ^ 1:Nat):Int)=2:=by decide
 rw[h3]at h2;rw[wrap_i64 (by omega) (by omega)];omega
def aiu:cZ→Pt→cZ→Pt:=auu lP gm gX dT eD
theorem m8(z:Nat):∀ {n:Nat} (l:List (Vec Int n)) (v:Vec Int n),l[z]? =some v→Ay (z:Int) l=v
 |0,_,_,_=>rfl
 |n+1,l,v,h=>by
  have h1:(l.map (·.1))[z]? =some v.1:=by rw[List.getElem?_map,h];rfl
  have h2:(l.map (·.2))[z]? =some v.2:=by rw[List.getElem?_map,h];rfl
  show((l.map (·.1)).getD ((z:Int)).toNat 0,Ay (z:Int) (l.map (·.2)))=v;rw[m8 z _ _ h2,Int.toNat_natCast,List.getD_eq_getElem?_getD,h1];rfl
theorem si(z:Nat)(l:List Pt)(v:Pt)(h:l[z]? =some v):wv (z:Int) l=v:=by
 have hm:∀ {α:Type} (f:Pt→α),(l.map f)[z]? =some (f v):=fun f=>by rw[List.getElem?_map,h];rfl
 unfold wv;rw[Int.toNat_natCast,List.getD_eq_getElem?_getD,hm,m8 z _ _ (hm _),m8 z _ _ (hm _),m8 z _ _ (hm _),m8 z _ _ (hm _)];rfl
theorem Kp(V:Nat)(k:Nat)(hk:k<256)(e:cZ)(he:mo e)(hV:V=(bN e).toNat):lP e (255-(k:Int)).toNat=((V/2 ^ (256-(k+1))%2:Nat):Int):=by
 have h1:=we he (i:=(255-(k:Int)).toNat) (by omega);have e1:(255-(k:Int)).toNat=256-(k+1):=by omega
 rw[e1]at h1 ⊢;unfold Pb at h1;rw[← hV]at h1;generalize V/2 ^ (256-(k+1))=M at*;rcases ait (e:=e) (256-(k+1))with h|h
 ·rw[h]at h1 ⊢;have:¬M%2=1:=fun h'=>by rw[decide_eq_true h']at h1;cases h1
  omega
 ·rw[h]at h1 ⊢
  have:M%2=1:=by
   refine Classical.byContradiction fun h'=>?_;rw[decide_eq_false h']at h1;cases h1
  omega
theorem uH(n:Nat)(P:BJ.Pt):(ja (n+1) P)=(ja n P).add P:=rfl
theorem Kq(a b c d:BJ.Pt):((a.add b).add (c.add d))=(a.add c).add (b.add d):=aDU a b c d
theorem apI{a b:cZ}{p:Pt}{P:BJ.Pt}(ha:mo a)(hb:mo b)(hp:Km p P):Km (aiu a p b) ((ja (bN a).toNat P).add (ja (bN b).toNat fc)):=by
 have key:∀k,k≤256→Km (fG (fun k r=>qC lP dT eD a b (apG gm p gX (eD p gX)) (255-(k:Int)) r) k gm) ((ja ((bN a).toNat/2 ^ (256-k)) P).add (ja ((bN b).toNat/2 ^ (256-k)) fc)):=by
  intro k
  induction k with
  |zero=>
   intro _;rw[Nat.sub_zero,Nat.div_eq_of_lt (Pj ha),Nat.div_eq_of_lt (Pj hb)]
   have e:(ja 0 P).add (ja 0 fc)=BJ.Pt.zero:=by
    show BJ.Pt.zero.add BJ.Pt.zero=_;rw[BJ.Pt.add_zero]
   rw[e];exact air
  |succ k ih=>
   intro hk;have h:=ih (by omega);simp only[fG];generalize fG (fun k r=>qC lP dT eD a b (apG gm p gX (eD p gX)) (255-(k:Int)) r) k gm=r at*
   have hdiv:∀V:Nat,V/2 ^ (256-k)=V/2 ^ (256-(k+1))/2:=fun V=>by
    rw[Nat.div_div_eq_div_mul,← Nat.pow_succ];congr 2;omega
   rw[hdiv,hdiv]at h;have b1:=Kp _ k (by omega) a ha rfl;have b2:=Kp _ k (by omega) b hb rfl;unfold qC apH;rw[b1,b2];generalize (bN a).toNat/2 ^ (256-(k+1))=A at*;generalize (bN b).toNat/2 ^ (256-(k+1))=B at*;have hd:=Ph h;rw[Kq,← uE,← uE]at hd;have hA:A%2=0∨A%2=1:=(by omega);have hB:B%2=0∨B%2=1:=(by omega);rcases hA with hA|hA<;>rcases hB with hB|hB<;>rw[hA,hB]
   ·have e1:A/2+A/2=A:=(by omega);have e2:B/2+B/2=B:=(by omega);have e3:w (((0:Nat):Int)+w (2*((0:Nat):Int)))=0:=(by decide);rw[e1,e2]at hd;rw[e3,iL];exact hd
   ·have e1:A/2+A/2=A:=(by omega);have e2:B=B/2+B/2+1:=(by omega);have e3:w (((0:Nat):Int)+w (2*((1:Nat):Int)))=((2:Nat):Int):=(by decide);have hs:=uG hd Kn;rw[e1,BJ.Pt.add_assoc]at hs;rw[e3,iL,si 2 _ gX rfl];have e4:ja B fc=(ja (B/2+B/2) fc).add fc:=(by rw[← uH,← e2]);rw[e4];exact hs
   ·have e1:A=A/2+A/2+1:=(by omega);have e2:B/2+B/2=B:=(by omega);have e3:w (((1:Nat):Int)+w (2*((0:Nat):Int)))=((1:Nat):Int):=(by decide);have hs:=uG hd hp;have e5:∀x y z:BJ.Pt,(x.add y).add z=(x.add z).add y:=fun x y z=>(by rw[BJ.Pt.add_assoc,BJ.Pt.add_comm y z,← BJ.Pt.add_assoc]);rw[e2,e5]at hs;rw[e3,iL,si 1 _ p rfl];have e4:ja A P=(ja (A/2+A/2) P).add P:=(by rw[← uH,← e1]);rw[e4];exact hs
   ·have e1:A=A/2+A/2+1:=(by omega);have e2:B=B/2+B/2+1:=(by omega);have e3:w (((1:Nat):Int)+w (2*((1:Nat):Int)))=((3:Nat):Int):=(by decide);have hs:=uG hd (uG hp Kn);rw[Kq]at hs;rw[e3,iL,si 3 _ (eD p gX) rfl];have e4:ja A P=(ja (A/2+A/2) P).add P:=(by rw[← uH,← e1]);have e5:ja B fc=(ja (B/2+B/2) fc).add fc:=(by rw[← uH,← e2]);rw[e4,e5];exact hs
 have:=key 256 (by omega);rw[Nat.sub_self,Nat.pow_zero,Nat.div_one,Nat.div_one]at this;exact this
end Go.Proofs.YtcbjpiangpjbgaaGreat
end
noncomputable section
namespace Go.Proofs.YtcbjpiangpjbgaaGreat
open Go Go.Ev BJ Go.Proofs.Tryz
open Go.IntKind (i64 signed u32 u64 wrap wrap_u32)
set_option maxRecDepth 1000000
abbrev mi:aY LV Fe:=iD (jd .u64 5)
abbrev cB:aY LV (List Int):=te .u8 32
abbrev apJ(b:cZ):LV:=dQ .u8 32 b.toList
abbrev Pk:aY (List LV) (Int×Unit):=ag (ah (aC .u64)) ae
abbrev sj:aY (List LV) (Fe×Unit):=ag mi ae
abbrev m9:aY (List LV) (Fe×Fe×Unit):=ag mi (ag mi ae)
abbrev ki:aY (List LV) (List Int×Unit):=ag cB ae
abbrev kK:List Wk:= [.fr [.sym],.auto]
abbrev kR:List Wk:= [.fr [.sym],.fQ 0 0 32 .u8,.auto]
def uI:ao:=ao.cH [] (sj) (ae) fun x_ y_=>(fun(x:Fe)=>.leaf none (mi.wr (cL x)) []) x_.1
theorem Kr(x:Fe):aN Tryz.prog [] [] f214 ((sj).wr (x,())) ((ae).wr ()) [.fr [.sym],.auto]= .leaf (mi.wr (cL x)) ([]):=by kernel_rfl
theorem qD:uI.Ok Tryz.prog 214:=by
 refine(ao.ba call214 fun x_ y_ Q H_=>?_).sym;obtain⟨x,_⟩:=x_;have hq:=H_.2;refine(au mixed aw func214 rfl (LT:= []) (ks:= [.fr [.sym],.auto]) (aJ.nil _)).use (D:= []) ?_ hq;show(aN _ _ _ _ ((sj).wr (x,())) ((ae).wr ()) _).sat _;rw[Kr];exact⟨rfl,rfl⟩
def Fz:ao:=ao.cH [] (Pk) (ae) fun x_ y_=>(fun(n:Int)=>.leaf none (mi.wr (bw n)) []) x_.1
theorem Ks(n:Int):aN Tryz.prog [] [] f186 ((Pk).wr (n,())) ((ae).wr ()) [.fr [.sym],.auto]= .leaf (mi.wr (bw n)) ([]):=by kernel_rfl
theorem Cq:Fz.Ok Tryz.prog 186:=by
 refine(ao.ba call186 fun x_ y_ Q H_=>?_).sym;obtain⟨n,_⟩:=x_;have hq:=H_.2;refine(au mixed aw func186 rfl (LT:= []) (ks:= [.fr [.sym],.auto]) (aJ.nil _)).use (D:= []) ?_ hq;show(aN _ _ _ _ ((Pk).wr (n,())) ((ae).wr ()) _).sat _;rw[Ks];exact⟨rfl,rfl⟩
def auv:ao:=ao.cH [] (m9) (ae) fun x_ y_=>(fun(x y:Fe)=>.leaf none (mi.wr (kh x y)) []) x_.1 x_.2.1
theorem XQ(x y:Fe):aN Tryz.prog [(214,uI)] [] f187 ((m9).wr (x,y,())) ((ae).wr ()) [.fr [.sym],.auto]= .leaf (mi.wr (kh x y)) ([]):=by kernel_rfl
theorem apK:auv.Ok Tryz.prog 187:=by
 refine(ao.ba call187 fun x_ y_ Q H_=>?_).sym;obtain⟨x,y,_⟩:=x_;have hq:=H_.2;refine(au mixed ((aj qD aw)) func187 rfl (LT:= []) (ks:= [.fr [.sym],.auto]) (aJ.nil _)).use (D:= []) ?_ hq;show(aN _ _ _ _ ((m9).wr (x,y,())) ((ae).wr ()) _).sat _;rw[XQ];exact⟨rfl,rfl⟩
def aiv:ao:=ao.cH [] (m9) (ae) fun x_ y_=>(fun(x y:Fe)=>.leaf none (mi.wr (lA x y)) []) x_.1 x_.2.1
theorem XS(x y:Fe):aN Tryz.prog [(214,uI)] [] f185 ((m9).wr (x,y,())) ((ae).wr ()) [.fr [.sym],.auto]= .leaf (mi.wr (lA x y)) ([]):=by kernel_rfl
theorem T5:aiv.Ok Tryz.prog 185:=by
 refine(ao.ba call185 fun x_ y_ Q H_=>?_).sym;obtain⟨x,y,_⟩:=x_;have hq:=H_.2;refine(au mixed ((aj qD aw)) func185 rfl (LT:= []) (ks:= [.fr [.sym],.auto]) (aJ.nil _)).use (D:= []) ?_ hq;show(aN _ _ _ _ ((m9).wr (x,y,())) ((ae).wr ()) _).sat _;rw[XS];exact⟨rfl,rfl⟩
def auw:ao:=ao.cH [] (sj) (ae) fun x_ y_=>(fun(x:Fe)=>.leaf none (mi.wr (lh x)) []) x_.1
theorem XT(x:Fe):aN Tryz.prog [(185,aiv)] [] f139 ((sj).wr (x,())) ((ae).wr ()) [.fr [.sym],.auto]= .leaf (mi.wr (lh x)) ([]):=by kernel_rfl
theorem apL:auw.Ok Tryz.prog 139:=by
 refine(ao.ba call139 fun x_ y_ Q H_=>?_).sym;obtain⟨x,_⟩:=x_;have hq:=H_.2;refine(au mixed ((aj T5 aw)) func139 rfl (LT:= []) (ks:= [.fr [.sym],.auto]) (aJ.nil _)).use (D:= []) ?_ hq;show(aN _ _ _ _ ((sj).wr (x,())) ((ae).wr ()) _).sat _;rw[XT];exact⟨rfl,rfl⟩
def ayg:ao:=ao.cH [] ((ag (ah (aC .u64)) (ag (ah (aC .u64)) ae))) (ae) fun x_ y_=>(fun(x y:Int)=>.leaf none (.cG [.sc (.int .u64 (.sym (cm x y).1)),.sc (.int .u64 (.sym (cm x y).2))]) []) x_.1 x_.2.1
theorem Pm(x y:Int):aN Tryz.prog [] [] f232 (((ag (ah (aC .u64)) (ag (ah (aC .u64)) ae))).wr (x,y,())) ((ae).wr ()) [.fr [.sym],.auto]= .leaf (.cG [.sc (.int .u64 (.sym (cm x y).1)),.sc (.int .u64 (.sym (cm x y).2))]) ([]):=by kernel_rfl
theorem aiw:ayg.Ok Tryz.prog 232:=by
 refine(ao.ba call232 fun x_ y_ Q H_=>?_).sym;obtain⟨x,y,_⟩:=x_;have hq:=H_.2;refine(au mixed aw func232 rfl (LT:= []) (ks:= [.fr [.sym],.auto]) (aJ.nil _)).use (D:= []) ?_ hq;show(aN _ _ _ _ (((ag (ah (aC .u64)) (ag (ah (aC .u64)) ae))).wr (x,y,())) ((ae).wr ()) _).sat _;rw[Pm];exact⟨rfl,rfl⟩
def Po:ao:=ao.cH [] (ki) (ae) fun x_ y_=>(fun(b:List Int)=>.leaf none (mi.wr (gy (kp b))) []) x_.1
theorem Pp(b:List Int):aN Tryz.prog [] [] f135 ((ki).wr (b,())) ((ae).wr ()) [.fr [.sym],.auto]= .leaf (mi.wr (gy (kp b))) ([]):=by kernel_rfl
theorem Kt:Po.Ok Tryz.prog 135:=by
 refine(ao.ba call135 fun x_ y_ Q H_=>?_).sym;obtain⟨b,_⟩:=x_;have hq:=H_.2;refine(au mixed aw func135 rfl (LT:= []) (ks:= [.fr [.sym],.auto]) (aJ.nil _)).use (D:= []) ?_ hq;show(aN _ _ _ _ ((ki).wr (b,())) ((ae).wr ()) _).sat _;rw[Pp];exact⟨rfl,rfl⟩
def T6:ao:=ao.cH [] (sj) (ae) fun x_ y_=>(fun(x:Fe)=>.leaf none (mi.wr (ah6 x)) []) x_.1
theorem Ku(x:Fe):aN Tryz.prog [(214,uI)] [] f195 ((sj).wr (x,())) ((ae).wr ()) [.fr [.sym],.auto]= .leaf (mi.wr (ah6 x)) ([]):=by kernel_rfl
theorem XU:T6.Ok Tryz.prog 195:=by
 refine(ao.ba call195 fun x_ y_ Q H_=>?_).sym;obtain⟨x,_⟩:=x_;have hq:=H_.2;refine(au mixed ((aj qD aw)) func195 rfl (LT:= []) (ks:= [.fr [.sym],.auto]) (aJ.nil _)).use (D:= []) ?_ hq;show(aN _ _ _ _ ((sj).wr (x,())) ((ae).wr ()) _).sat _;rw[Ku];exact⟨rfl,rfl⟩
def uJ:ao:=ao.cH [] (sj) (ae) fun x_ y_=>(fun(x:Fe)=>.leaf none (apJ (eh x)) []) x_.1
theorem Kv(x:Fe):aN Tryz.prog [(195,T6)] [] f153 ((sj).wr (x,())) ((ae).wr ()) kR= .leaf (apJ (eh x)) ([]):=by kernel_rfl
theorem qE:uJ.Ok Tryz.prog 153:=by
 refine(ao.ba call153 fun x_ y_ Q H_=>?_).sym;obtain⟨x,_⟩:=x_;have hq:=H_.2;refine(au mixed ((aj XU aw)) func153 rfl (LT:= []) (ks:=kR) (aJ.nil _)).use (D:= []) ?_ hq;show(aN _ _ _ _ ((sj).wr (x,())) ((ae).wr ()) _).sat _;rw[Kv];exact⟨rfl,rfl⟩
abbrev ayh:ao:=(mW cl).sym
theorem Kw:ayh.Ok Tryz.prog 233:=(OS func233 (by kernel_rfl) (by kernel_rfl) (by kernel_rfl) (by kernel_rfl) rfl).sym
def auy(m:Int→Int→Int×Int):ao:=ao.cH [] (ag (ah (aC .u64)) (ag (ah (aC .u64)) ae)) ae fun x _=>.leaf none (.cG [.sc (.int .u64 (.sym (m x.1 x.2.1).1)),.sc (.int .u64 (.sym (m x.1 x.2.1).2))]) []
abbrev pD(o:Nat):aY (List LV) (Int×Int×Unit):=aq (ah (aU 0 o)) (ag (ah (aC .u64)) (ag (ah (aC .u64)) ae))
abbrev pE:aY Hp (Vec Int 10×Unit):=ag (kY 261 (jd .u64 10)) ae
noncomputable section
variable (m:Int→Int→Int×Int) (a:Int→Int→Int→Int×Int)
def lU(k:Nat)(x y:Int)(v:Vec Int 10):Int×Int:=a (v.get (2*k+1)) (m x y).2 0
def pF(k:Nat)(x y:Int)(v:Vec Int 10):Vec Int 10:=Vec.nf (fun _=>(lU m a k x y v).1) (2*k+1) (Vec.nf (fun _=>(a (v.get (2*k)) (m x y).1 (lU m a k x y v).2).1) (2*k) v)
def rp(k:Nat):ao:=ao.cH [] (pD (2*k)) pE fun x h=>.leaf (some (0≤(lU m a k x.1 x.2.1 h.1).2∧(lU m a k x.1 x.2.1 h.1).2≤1)) (.cG []) [(0,.bH ((jd .u64 10).wr (pF m a k x.1 x.2.1 h.1)) 261)]
abbrev nP:List (FuncId×ao):= [(232,auy m),(233,(mW a).sym)]
abbrev rq:List Wk:= [.bH 0 (List.replicate 10 .sym),.auto]
theorem Pq(x y:Int)(v:Vec Int 10):aN Tryz.prog (nP m a) [] f215 ((pD 0).wr (x,y,())) (pE.wr (v,())) rq=
  .need (0≤(0:Int)∧(0:Int)≤1) (.need (0≤(lU m a 0 x y v).2∧(lU m a 0 x y v).2≤1) (.leaf (.cG []) [some (.bH ((jd .u64 10).wr (pF m a 0 x y v)) 261)])):=by kernel_rfl
theorem Pr(x y:Int)(v:Vec Int 10):aN Tryz.prog (nP m a) [] f215 ((pD 2).wr (x,y,())) (pE.wr (v,())) rq=
  .need (0≤(0:Int)∧(0:Int)≤1) (.need (0≤(lU m a 1 x y v).2∧(lU m a 1 x y v).2≤1) (.leaf (.cG []) [some (.bH ((jd .u64 10).wr (pF m a 1 x y v)) 261)])):=by kernel_rfl
theorem Ps(x y:Int)(v:Vec Int 10):aN Tryz.prog (nP m a) [] f215 ((pD 4).wr (x,y,())) (pE.wr (v,())) rq=
  .need (0≤(0:Int)∧(0:Int)≤1) (.need (0≤(lU m a 2 x y v).2∧(lU m a 2 x y v).2≤1) (.leaf (.cG []) [some (.bH ((jd .u64 10).wr (pF m a 2 x y v)) 261)])):=by kernel_rfl
theorem Pu(x y:Int)(v:Vec Int 10):aN Tryz.prog (nP m a) [] f215 ((pD 6).wr (x,y,())) (pE.wr (v,())) rq=
  .need (0≤(0:Int)∧(0:Int)≤1) (.need (0≤(lU m a 3 x y v).2∧(lU m a 3 x y v).2≤1) (.leaf (.cG []) [some (.bH ((jd .u64 10).wr (pF m a 3 x y v)) 261)])):=by kernel_rfl
theorem Pv(x y:Int)(v:Vec Int 10):aN Tryz.prog (nP m a) [] f215 ((pD 8).wr (x,y,())) (pE.wr (v,())) rq=
  .need (0≤(0:Int)∧(0:Int)≤1) (.need (0≤(lU m a 4 x y v).2∧(lU m a 4 x y v).2≤1) (.leaf (.cG []) [some (.bH ((jd .u64 10).wr (pF m a 4 x y v)) 261)])):=by kernel_rfl
variable (hm:∀p∈nP m a,p.2.Ok Tryz.prog p.1)
include hm
theorem aix:(rp m a 0).Ok Tryz.prog 215:=by
 refine(ao.ba call215 fun x_ y_ Q H_=>?_).sym;obtain⟨x,y,_⟩:=x_;obtain⟨v,_⟩:=y_;obtain⟨hn,hq⟩:=H_;refine(au mixed hm func215 rfl (LT:= []) (ks:=rq) (aJ.nil _)).use (D:= [(0,.bH ((jd .u64 10).wr (pF m a 0 x y v)) 261)]) ?_ hq;show(aN _ _ _ _ ((pD 0).wr (x,y,())) (pE.wr (v,())) _).sat _;rw[Pq];exact⟨by decide,hn,rfl,rfl⟩
theorem aiy:(rp m a 1).Ok Tryz.prog 215:=by
 refine(ao.ba call215 fun x_ y_ Q H_=>?_).sym;obtain⟨x,y,_⟩:=x_;obtain⟨v,_⟩:=y_;obtain⟨hn,hq⟩:=H_;refine(au mixed hm func215 rfl (LT:= []) (ks:=rq) (aJ.nil _)).use (D:= [(0,.bH ((jd .u64 10).wr (pF m a 1 x y v)) 261)]) ?_ hq;show(aN _ _ _ _ ((pD 2).wr (x,y,())) (pE.wr (v,())) _).sat _;rw[Pr];exact⟨by decide,hn,rfl,rfl⟩
theorem aiz:(rp m a 2).Ok Tryz.prog 215:=by
 refine(ao.ba call215 fun x_ y_ Q H_=>?_).sym;obtain⟨x,y,_⟩:=x_;obtain⟨v,_⟩:=y_;obtain⟨hn,hq⟩:=H_;refine(au mixed hm func215 rfl (LT:= []) (ks:=rq) (aJ.nil _)).use (D:= [(0,.bH ((jd .u64 10).wr (pF m a 2 x y v)) 261)]) ?_ hq;show(aN _ _ _ _ ((pD 4).wr (x,y,())) (pE.wr (v,())) _).sat _;rw[Ps];exact⟨by decide,hn,rfl,rfl⟩
theorem aiA:(rp m a 3).Ok Tryz.prog 215:=by
 refine(ao.ba call215 fun x_ y_ Q H_=>?_).sym;obtain⟨x,y,_⟩:=x_;obtain⟨v,_⟩:=y_;obtain⟨hn,hq⟩:=H_;refine(au mixed hm func215 rfl (LT:= []) (ks:=rq) (aJ.nil _)).use (D:= [(0,.bH ((jd .u64 10).wr (pF m a 3 x y v)) 261)]) ?_ hq;show(aN _ _ _ _ ((pD 6).wr (x,y,())) (pE.wr (v,())) _).sat _;rw[Pu];exact⟨by decide,hn,rfl,rfl⟩
theorem aiB:(rp m a 4).Ok Tryz.prog 215:=by
 refine(ao.ba call215 fun x_ y_ Q H_=>?_).sym;obtain⟨x,y,_⟩:=x_;obtain⟨v,_⟩:=y_;obtain⟨hn,hq⟩:=H_;refine(au mixed hm func215 rfl (LT:= []) (ks:=rq) (aJ.nil _)).use (D:= [(0,.bH ((jd .u64 10).wr (pF m a 4 x y v)) 261)]) ?_ hq;show(aN _ _ _ _ ((pD 8).wr (x,y,())) (pE.wr (v,())) _).sat _;rw[Pv];exact⟨by decide,hn,rfl,rfl⟩
omit hm
def T7:ao:=(rp m a 0).or ((rp m a 1).or ((rp m a 2).or ((rp m a 3).or (rp m a 4))))
def aiC(l:List Prop)(e:Ev.End):Ev.End:=l.foldr Ev.End.need e
theorem Az{R:LV→Hp→Prop}:∀ {l:List Prop} {e:Ev.End},(∀p∈l,p)→e.sat R→(aiC l e).sat R
 | [],_,_,h=>h
 |p::l,e,hl,h=>⟨hl p (by simp),Az (fun q hq=>hl q (by simp[hq])) h⟩
theorem XV(x y:Fe):aN Tryz.prog [(215,T7 m a),(214,uI)] [] f188 (m9.wr (x,y,())) [] kK=
  aiC (z8 m a x y) (Ev.End.leaf (mi.wr (rY m a cL x y)) []):=by kernel_rfl
end
theorem aiD:(auy cm).Ok Tryz.prog 232:=aiw
theorem ln:∀p∈nP cm cl,p.2.Ok Tryz.prog p.1:=aj aiD (aj Kw aw)
theorem Pw:(T7 cm cl).Ok Tryz.prog 215:=(aix cm cl ln).or ((aiy cm cl ln).or ((aiz cm cl ln).or ((aiA cm cl ln).or (aiB cm cl ln))))
theorem XW(x y:Fe):∀p∈z8 cm cl x y,p:=ur x y fU _ fun k=>by
 have:([(0,0),(0,0),(0,0),(0,0),(0,0)]:List (Int×Int)).getD k (0,0)=(0,0):=by
  match k with
  |0=>rfl
  |1=>rfl
  |2=>rfl
  |3=>rfl
  |4=>rfl
  |k+5=>rfl
 rw[this];exact⟨by decide,by decide⟩
def Cr:ao:=ao.cH [] m9 ae fun x _=>.leaf none (mi.wr (mulC x.1 x.2.1)) []
theorem FA:Cr.Ok Tryz.prog 188:=by
 refine(ao.ba call188 fun x_ y_ Q H_=>?_).sym;obtain⟨x,y,_⟩:=x_;have hq:=H_.2;refine(au mixed (aj Pw (aj qD aw)) func188 rfl (LT:= []) (ks:=kK) (aJ.nil _)).use (D:= []) ?_ hq;show(aN _ _ _ _ (m9.wr (x,y,())) [] _).sat _;rw[XV];exact Az (XW x y) ⟨rfl,rfl⟩
def aiE:ao:=ao.cH [] (sj) (ae) fun x_ y_=>(fun(x:Fe)=>.leaf none (mi.wr (mulC x x)) []) x_.1
theorem aiF(x:Fe):aN Tryz.prog [(188,Cr)] [] f183 ((sj).wr (x,())) ((ae).wr ()) [.fr [.sym],.auto]= .leaf (mi.wr (mulC x x)) ([]):=by kernel_rfl
theorem aiG:aiE.Ok Tryz.prog 183:=by
 refine(ao.ba call183 fun x_ y_ Q H_=>?_).sym;obtain⟨x,_⟩:=x_;have hq:=H_.2;refine(au mixed ((aj FA aw)) func183 rfl (LT:= []) (ks:= [.fr [.sym],.auto]) (aJ.nil _)).use (D:= []) ?_ hq;show(aN _ _ _ _ ((sj).wr (x,())) ((ae).wr ()) _).sat _;rw[aiF];exact⟨rfl,rfl⟩
theorem FB(u v:cZ):decide (u.toList=v.toList)=mn u v:=by
 cases h:mn u v with
 |true=>rw[(kF u v).1 h];simp
 |false=>exact decide_eq_false fun e=>by rw[(kF u v).2 (Vec.toList_inj e)]at h;cases h
def ayi:ao:=ao.cH [] (m9) (ae) fun x_ y_=>(fun(x y:Fe)=>.leaf none (nB (O8 x y)) []) x_.1 x_.2.1
theorem aiH(x y:Fe):aN Tryz.prog [(153,uJ)] [] f190 ((m9).wr (x,y,())) ((ae).wr ()) [.fr [.sym],.auto]= .leaf (nB (decide ((eh x).toList=(eh y).toList))) []:=by kernel_rfl
theorem aiI:ayi.Ok Tryz.prog 190:=by
 refine(ao.ba call190 fun x_ y_ Q H_=>?_).sym;obtain⟨x,y,_⟩:=x_;have hq:=H_.2;refine(au mixed ((aj qE aw)) func190 rfl (LT:= []) (ks:= [.fr [.sym],.auto]) (aJ.nil _)).use (D:= []) ?_ hq;show(aN _ _ _ _ ((m9).wr (x,y,())) ((ae).wr ()) _).sat _;rw[aiH];rw[FB];exact⟨rfl,rfl⟩
def aiJ:ao:=ao.cH [] (sj) (ae) fun x_ y_=>(fun(x:Fe)=>.leaf none (nB (dB x)) []) x_.1
theorem Px(x:Fe):aN Tryz.prog [(190,ayi)] [] f138 ((sj).wr (x,())) ((ae).wr ()) [.fr [.sym],.auto]= .leaf (nB (dB x)) ([]):=by kernel_rfl
theorem aiK:aiJ.Ok Tryz.prog 138:=by
 refine(ao.ba call138 fun x_ y_ Q H_=>?_).sym;obtain⟨x,_⟩:=x_;have hq:=H_.2;refine(au mixed ((aj aiI aw)) func138 rfl (LT:= []) (ks:= [.fr [.sym],.auto]) (aJ.nil _)).use (D:= []) ?_ hq;show(aN _ _ _ _ ((sj).wr (x,())) ((ae).wr ()) _).sat _;rw[Px];exact⟨rfl,rfl⟩
def auz:ao:=ao.cH [] (sj) (ae) fun x_ y_=>(fun(x:Fe)=>.leaf none (nB (pq x)) []) x_.1
theorem XX(x:Fe):aN Tryz.prog [(153,uJ)] [] f154 ((sj).wr (x,())) ((ae).wr ()) [.fr [.sym],.auto]= .leaf (nB (pq x)) ([]):=by kernel_rfl
theorem apM:auz.Ok Tryz.prog 154:=by
 refine(ao.ba call154 fun x_ y_ Q H_=>?_).sym;obtain⟨x,_⟩:=x_;have hq:=H_.2;refine(au mixed ((aj qE aw)) func154 rfl (LT:= []) (ks:= [.fr [.sym],.auto]) (aJ.nil _)).use (D:= []) ?_ hq;show(aN _ _ _ _ ((sj).wr (x,())) ((ae).wr ()) _).sat _;rw[XX];exact⟨rfl,rfl⟩
theorem ib{l:List Int}(h:l.length=32):(kp l).toList=l:=by
 have e:(kp l).toList=(List.range 32).map fun i=>l.getD i 0:=rfl;rw[e,HW h]
theorem AA(u:cZ):kp u.toList=u:=Vec.toList_inj (ib (Vec.eT u))
theorem AB{f:Int→Int}: {n:Nat}→(k:Nat)→(v:Vec Int n)→(Vec.nf f k v).toList=v.toList.modify k f
 |0,k,_=>by simp[Vec.nf,Vec.toList]
 |n+1,0,v=>by simp[Vec.nf,Vec.toList]
 |n+1,k+1,v=>by simp[Vec.nf,Vec.toList,AB k v.2]
theorem FC{l:List Int}(h:l.length=32){k:Nat}(hk:k<32)(f:Int→Int):kp (l.set k (f (l.getD k 0)))=Vec.nf f k (kp l):=by
 apply Vec.toList_inj
 rw[AB,ib h,ib (by simpa using h),List.getD_eq_getElem?_getD,List.getElem?_eq_getElem (by omega:k<l.length),Option.getD_some]
 apply List.ext_getElem?
 intro i;simp only[List.getElem?_modify,List.getElem?_set]
 by_cases e:k=i
 ·subst e;simp[h,hk]
 ·simp[e]
theorem yk(l:List Int):∀ {k:Nat},k<32→(kp l).get k=l.getD k 0:=by
 have key:∀ (n:Nat) (g:Nat→Int) (k:Nat),k<n→(Vec.ofFn n g).get k=g k:=by
  intro n
  induction n with
  |zero=>intro g k hk;omega
  |succ n ih=>
   intro g k hk
   cases k with
   |zero=>rfl
   |succ k=>exact ih (fun i=>g (i+1)) k (by omega)
 intro k hk;exact key 32 (fun i=>l.getD i 0) k hk
theorem uK(k m:Nat):(k:Int).tmod (m:Int)=((k%m:Nat):Int):=by rw[Int.tmod_eq_emod_of_nonneg (by omega),← Int.natCast_emod]
def T8:ao:=ao.cH [] (ki) (ae) fun x_ y_=>(fun(b:List Int)=>.leaf (some (b.length=32)) (nB (jG (kp b))) []) x_.1
theorem Kx(b:List Int):aN Tryz.prog [(153,uJ),(135,Po)] [] f137 ((ki).wr (b,())) ((ae).wr ()) [.fr [.sym],.auto]= .leaf (nB (decide ((eh (gy (kp (b.set 31 (dh .u8 (b.getD 31 0) 128))))).toList=b.set 31 (dh .u8 (b.getD 31 0) 128)))) []:=by kernel_rfl
theorem XY:T8.Ok Tryz.prog 137:=by
 refine(ao.ba call137 fun x_ y_ Q H_=>?_).sym;obtain⟨b,_⟩:=x_;obtain⟨hn,hq⟩:=H_;have hn:b.length=32:=hn;refine(au mixed ((aj qE (aj Kt aw))) func137 rfl (LT:= []) (ks:= [.fr [.sym],.auto]) (aJ.nil _)).use (D:= []) ?_ hq;show(aN _ _ _ _ ((ki).wr (b,())) ((ae).wr ()) _).sat _;rw[Kx];have e:=FC hn (k:=31) (by omega) (fun x=>dh .u8 x 128);rw[show b.set 31 (dh .u8 (b.getD 31 0) 128)=(kp (b.set 31 (dh .u8 (b.getD 31 0) 128))).toList from(ib (by simpa using hn)).symm,FB,AA,e];exact⟨rfl,rfl⟩
def auA:ao:=ao.cH [] ((ag (ah (aC .u8)) (ag (ah (aC .u8)) ae))) (ae) fun x_ y_=>(fun(lo hi:Int)=>.leaf none (apJ (cz lo hi)) []) x_.1 x_.2.1
theorem XZ(lo hi:Int):aN Tryz.prog [] [] f217 (((ag (ah (aC .u8)) (ag (ah (aC .u8)) ae))).wr (lo,hi,())) ((ae).wr ()) kR= .leaf (apJ (cz lo hi)) ([]):=by kernel_rfl
theorem apN:auA.Ok Tryz.prog 217:=by
 refine(ao.ba call217 fun x_ y_ Q H_=>?_).sym;obtain⟨lo,hi,_⟩:=x_;have hq:=H_.2;refine(au mixed aw func217 rfl (LT:= []) (ks:=kR) (aJ.nil _)).use (D:= []) ?_ hq;show(aN _ _ _ _ (((ag (ah (aC .u8)) (ag (ah (aC .u8)) ae))).wr (lo,hi,())) ((ae).wr ()) _).sat _;rw[XZ];exact⟨rfl,rfl⟩
abbrev ayj:Func:=f216
abbrev poC:aY (List LV) (Int×Unit):=(jk 2 (aq (ah (aU 0 0)) (aq (ah (aU 1 0)) (aq (ah (aU 2 0)) (aq (ah (aU 3 0)) (ag (ah (aC .i64)) (jk 20 ae)))))))
abbrev apO:Wk:=.fr (cC 27 [(2,.al),(3,.al),(4,.al),(5,.al),(6,.sym)])
abbrev poX:aY (List LV) (Unit):=(jk 4 (aq (ah (aU 0 0)) (aq (ah (aU 1 0)) (jk 21 ae))))
abbrev iFe:aY (Option Ev.Item) Fe:=kY 161 (jd .u64 5)
abbrev poH:aY Hp (Fe×List Int×Fe×Fe×Unit):=ag iFe (ag (gJ 52 .u8 32) (ag iFe (ag iFe ae)))
abbrev X0:aY Hp (Fe×Fe×Unit):=ag iFe (ag iFe ae)
abbrev aiL:List (FuncId×ao):= [(186,Fz),(183,aiE),(188,Cr)]
theorem Ky:∀p∈aiL,p.2.Ok Tryz.prog p.1:=aj Cq (aj aiG (aj FA aw))
abbrev Kz(i:Nat):Wk:=.bH i (List.replicate 5 .sym)
def poW:Exit→List Wk
 | .normal=> [apO,Kz 2,Kz 3,.auto]
 | .exit 0=> [.fr (cC 27 [(4,.al),(5,.al)]),.auto]
 |_=> []
theorem ayk(x r o:Fe)(e:List Int)(i:Int):cY Tryz.prog aiL [] ayj 0 [] poW ((bg poC poH).wr ((i,()),(x,e,r,o,())))=
 aW.ite (decide ((0:Int)≤i)) (aW.need ((0:Int)≤i64.wrap (i.tdiv (8:Int))∧i64.wrap (i.tdiv (8:Int))<(32:Int))
 (aW.need ((0:Int)≤i.tmod (8:Int)) (aW.ite (bd IntKind.u8 (shr IntKind.u8 ((List.take (32:Nat) (List.drop (0:Nat) e)).getD
 (i64.wrap (i.tdiv (8:Int))).toNat (0:Int)) (i.tmod (8:Int))) (1:Int)==(1:Int)) (aW.leaf Exit.normal ((bg poC poH).wr
 ((i64.wrap (i-(1:Int)),PUnit.unit),x,e,r,mulC (mulC o o) x,PUnit.unit))) (aW.leaf Exit.normal ((bg poC poH).wr ((i64.wrap
 (i-(1:Int)),PUnit.unit),x,e,r,mulC o o,PUnit.unit)))))) (aW.leaf (Exit.exit (0:Nat)) ((bg poX X0).wr (PUnit.unit,r,o,PUnit.unit))):=by kernel_rfl
theorem apP{e:List Int}(he:e.length=32){j:Nat}(hj:j<256):
  (bd .u8 (shr .u8 ((List.take 32 (List.drop 0 e)).getD (i64.wrap ((j:Int).tdiv 8)).toNat 0) ((j:Int).tmod 8)) 1==1)=Cb (kp e) j:=by
 have e1:i64.wrap ((j:Int).tdiv 8)=((j/8:Nat):Int):=fS j 8 (by omega);have e2:(j:Int).tmod 8=((j%8:Nat):Int):=uK j 8;rw[e1,e2,bI he,Int.toNat_natCast];unfold Cb;rw[yk e (show j/8<32 by omega)]
def poF(x:(Int×Unit)×Fe×List Int×Fe×Fe×Unit):aW:=
 .need (x.1.1=255∧x.2.2.1.length=32) (.leaf (.exit 0) ((bg poX X0).wr ((),(x.2.2.2.1,fG (gl (fun x=>mulC x x) mulC x.2.1 (kp x.2.2.1)) 256 x.2.2.2.2.1,()))))
theorem apQ(x):Ex Tryz.prog [] (.loop (a9 ayj 0)) ((bg poC poH).wr x) (poF x):=by
 obtain⟨⟨i,_⟩,x,e,r,o,_⟩:=x;refine Ex.need fun⟨h1,h2⟩=>?_;simp only at h1 h2;subst h1
 have key:=dP (fn:=ayj) (id:=0) (j:=0) (ws:=poW) (hp:= []) mixed Ky (aJ.nil _) 256 (fun k o=>(bg poC poH).wr ((255-(k:Int),()),(x,e,r,o,()))) (fun o=>(bg poX X0).wr ((),(r,o,()))) (gl (fun x=>mulC x x) mulC x (kp e)) (fun _ _=>True)
  (fun k o R hk _ hn hx=>?_) (fun _ _ _ _=>trivial) 0 o (by omega) trivial
 ·rw[Nat.sub_zero,mU]at key;exact key
 rw[ayk];refine⟨fun hb=>?_,fun hb=>?_⟩
 ·have jl:k<256:=by have:=of_decide_eq_true hb;omega
  have e0:(255-(k:Int))=((255-k:Nat):Int):=by omega
  have nh:=hn jl;have e3:i64.wrap ((255-(k:Int))-1)=255-((k+1:Nat):Int):=by rw[ar (by omega) (by omega)];omega
  have hw:i64.wrap ((255-(k:Int)).tdiv 8)=(((255-k)/8:Nat):Int):=by rw[e0];exact fS _ 8 (by omega)
  have ht:(255-(k:Int)).tmod 8=(((255-k)%8:Nat):Int):=by rw[e0];exact uK _ 8
  have Df:=apP h2 (j:=255-k) (by omega);rw[← e0]at Df;rw[Df,e3];refine⟨by rw[hw];omega,by rw[ht];omega,fun hc=>?_,fun hc=>?_⟩
  ·have:gl (fun x=>mulC x x) mulC x (kp e) k o=mulC (mulC o o) x:=(by unfold gl;rw[hc,bU];rfl);rw[this]at nh;exact nh
  ·have:gl (fun x=>mulC x x) mulC x (kp e) k o=mulC o o:=(by unfold gl;rw[hc,bU];rfl);rw[this]at nh;exact nh
 ·have:k=256:=by have:=of_decide_eq_false hb;omega
  exact hx this
def Py(x:Fe)(e:List Int)(o:Fe):Fe:=fG (gl (fun x=>mulC x x) mulC x (kp e)) 256 o
def aIi(x:(Int×Unit)×Fe×List Int×Fe×Fe×Unit):aW:=
 .need (x.1.1=255∧x.2.2.1.length=32) (.leaf (.exit 0) ((bg poX X0).wr ((),(x.2.2.2.1,Py x.2.1 x.2.2.1 x.2.2.2.2.1,()))))
abbrev aDX:dL:= [(0,dx (bg poC poH) 0 [apO,.auto,Kz 2,Kz 3] aIi)]
abbrev poA:aY (List LV) (Fe×List Int×Unit):=ag mi (ag cB ae)
abbrev gY(r:Fe×Bool):LV:=.cG [.agg ((jd .u64 5).wr r.1),.sc (.bool (.sym r.2))]
def uL(g:Fe→Fe):ao:=ao.cH [] sj ae fun x _=>.leaf none (mi.wr (g x.1)) []
def mq(g:Fe→Fe→Fe):ao:=ao.cH [] m9 ae fun x _=>.leaf none (mi.wr (g x.1 x.2.1)) []
def Md(g:Fe→Bool):ao:=ao.cH [] sj ae fun x _=>.leaf none (nB (g x.1)) []
def e2B(g:Fe→Fe→Bool):ao:=ao.cH [] m9 ae fun x _=>.leaf none (nB (g x.1 x.2.1)) []
def e1P(g:Fe→Fe×Bool):ao:=ao.cH [] sj ae fun x _=>.leaf none (gY (g x.1)) []
def e2P(g:Fe→Fe→Fe×Bool):ao:=ao.cH [] m9 ae fun x _=>.leaf none (gY (g x.1 x.2.1)) []
def FD(g:Int→Fe):ao:=ao.cH [] Pk ae fun x _=>.leaf none (mi.wr (g x.1)) []
def ePw(g:Fe→List Int→Fe):ao:=ao.cH [] poA ae fun x _=>.leaf (some (x.2.1.length=32)) (mi.wr (g x.1 x.2.1)) []
def eEx(g:Int→Int→List Int):ao:=ao.cH [] (ag (ah (aC .u8)) (ag (ah (aC .u8)) ae)) ae fun x _=>.leaf none (dQ .u8 32 (g x.1 x.2.1)) []
def FE(x:Fe)(e:List Int):Fe:=powC x (kp e)
def AD(lo hi:Int):List Int:=(cz lo hi).toList
theorem KA(x:Fe)(lo hi:Int):FE x (AD lo hi)=powC x (cz lo hi):=by unfold FE AD;rw[AA]
theorem AE(lo hi:Int):(AD lo hi).length=32:=Vec.eT _
abbrev aD0:ao:=ePw FE
theorem X1(p:Fe→List Int→Fe→Fe)(sm:Int→Fe)(x:Fe)(e:List Int):aN Tryz.prog [(186,FD sm),(183,aiE),(188,Cr)] [(0,dx (bg poC poH) 0 [apO,.auto,Kz 2,Kz 3] fun x=>.need (x.1.1=255∧x.2.2.1.length=32) (.leaf (.exit 0) ((bg poX X0).wr ((),(x.2.2.2.1,p x.2.1 x.2.2.1 x.2.2.2.2.1,())))))] f216 (poA.wr (x,e,())) [] kK=
  .need ((255:Int)=255∧e.length=32) (.leaf (mi.wr (p x e (sm 1))) []):=by kernel_rfl
theorem X2(x:Fe)(e:List Int):aN Tryz.prog aiL aDX f216 (poA.wr (x,e,())) [] kK=aN Tryz.prog [(186,FD bw),(183,aiE),(188,Cr)] [(0,dx (bg poC poH) 0 [apO,.auto,Kz 2,Kz 3] fun x=>.need (x.1.1=255∧x.2.2.1.length=32) (.leaf (.exit 0) ((bg poX X0).wr ((),(x.2.2.2.1,Py x.2.1 x.2.2.1 x.2.2.2.2.1,())))))] f216 (poA.wr (x,e,())) [] kK:=by kernel_rfl
theorem T9:aD0.Ok Tryz.prog 216:=by
 refine(ao.ba call216 fun x_ y_ Q H_=>?_).sym;obtain⟨x,e,_⟩:=x_;obtain⟨hn,hq⟩:=H_;have hn:e.length=32:=hn;refine(au mixed Ky func216 rfl (LT:=aDX) (ks:=kK) (aJ.bW (jc rfl (bQ (hp:= []) apQ) jh))).use (D:= []) ?_ hq;show(aN _ _ _ _ (poA.wr (x,e,())) [] _).sat _;rw[X2 x e,X1 Py bw x e];exact⟨⟨rfl,hn⟩,rfl,rfl⟩
theorem X3:Fz=FD bw:=by kernel_rfl
theorem lp:(FD bw).Ok Tryz.prog 186:=X3▸Cq
theorem apR:Cr=mq mulC:=by kernel_rfl
theorem j8:(mq mulC).Ok Tryz.prog 188:=apR▸FA
theorem apS:auv=mq kh:=by kernel_rfl
theorem KB:(mq kh).Ok Tryz.prog 187:=apS▸apK
theorem apT:aiv=mq lA:=by kernel_rfl
theorem KC:(mq lA).Ok Tryz.prog 185:=apT▸T5
theorem aym:aiE=uL (fun x=>mulC x x):=by kernel_rfl
theorem Ua:(uL (fun x=>mulC x x)).Ok Tryz.prog 183:=aym▸aiG
theorem apU:auw=uL lh:=by kernel_rfl
theorem AF:(uL lh).Ok Tryz.prog 139:=apU▸apL
theorem ayn:ayi=e2B O8:=by kernel_rfl
theorem apV:(e2B O8).Ok Tryz.prog 190:=ayn▸aiI
theorem apW:auz=Md pq:=by kernel_rfl
theorem KD:(Md pq).Ok Tryz.prog 154:=apW▸apM
theorem aiN:aiJ=Md dB:=by kernel_rfl
theorem Cs:(Md dB).Ok Tryz.prog 138:=aiN▸aiK
theorem apX:auA=eEx AD:=by kernel_rfl
theorem KE:(eEx AD).Ok Tryz.prog 217:=apX▸apN
abbrev aD1:ao:=uL kg
theorem X4(pow:Fe→List Int→Fe)(exp:Int→Int→List Int)(x:Fe):aN Tryz.prog [(216,ePw pow),(217,eEx exp)] [] f192 ((sj).wr (x,())) [] kK= .need ((exp 235 127).length=32) (.leaf (mi.wr (pow x (exp 235 127))) []):=by kernel_rfl
theorem X5:∀p_∈([(216,ePw FE),(217,eEx AD)]:List (FuncId×ao)),p_.2.Ok Tryz.prog p_.1:=(aj T9 (aj KE aw))
theorem FF:aD1.Ok Tryz.prog 192:=by
 refine(ao.ba call192 fun x_ y_ Q H_=>?_).sym;obtain⟨x,_⟩:=x_;have hq:=H_.2;refine(au (tab:= [(216,ePw FE),(217,eEx AD)]) mixed X5 func192 rfl (LT:= []) (ks:=kK) (aJ.nil _)).use (D:= []) ?_ hq;show(aN _ _ _ _ ((sj).wr (x,())) [] _).sat _;rw[X4 FE AD];rw[KA];exact⟨AE _ _,rfl,rfl⟩
theorem apY(pw:Fe→cZ→Fe)(ex:Int→Int→cZ)(ml:Fe→Fe→Fe)(sq ng:Fe→Fe)(sm:Int→Fe)(eq:Fe→Fe→Bool)(od:Fe→Bool)(x:Fe):
  z9 pw ex ml sq ng sm eq od x=bif eq (sq (pw x (ex 254 15))) x then(bif od (pw x (ex 254 15))then ng (pw x (ex 254 15))else pw x (ex 254 15),true)
   else bif eq (sq (ml (pw x (ex 254 15)) (pw (sm 2) (ex 251 31)))) x then(bif od (ml (pw x (ex 254 15)) (pw (sm 2) (ex 251 31)))then ng (ml (pw x (ex 254 15)) (pw (sm 2) (ex 251 31)))else ml (pw x (ex 254 15)) (pw (sm 2) (ex 251 31)),true)else(dE,false):=by
 have ayo:∀ (b:Bool) (u v:Fe),df b u v=bif b then u else v:=fun b u v=>bU b u v;unfold z9;simp only[ayo]
 cases h:eq (sq (pw x (ex 254 15))) x
 ·simp only[Bool.not_false,cond_true,cond_false]
  cases eq (sq (ml (pw x (ex 254 15)) (pw (sm 2) (ex 251 31)))) x<;>rfl
 ·simp only[Bool.not_true,cond_true,cond_false,h]
theorem aiO{t1 t2 o1 o2:Bool}{r r2 n1 n2:Fe}{p1 p2:Prop}(h1:p1)(h2:p2){q:Fe×Bool}(hq:q=bif t1 then(bif o1 then n1 else r,true)else bif t2 then(bif o2 then n2 else r2,true)else(dE,false)):
  (Ev.End.need p1 (.ite (!t1) (.need p2 (.ite (!t2) (.leaf (gY (dE,false)) []) (.ite o2 (.leaf (gY (n2,true)) []) (.leaf (gY (r2,true)) [])))) (.ite (!t1) (.leaf (gY (dE,false)) []) (.ite o1 (.leaf (gY (n1,true)) []) (.leaf (gY (r,true)) []))))).sat fun v dI=>v=gY q∧dI= []:=by
 subst hq;refine⟨h1,?_⟩
 cases t1
 ·refine⟨fun _=>⟨h2,?_⟩,fun h=>(by cases h)⟩
  cases t2
  ·exact⟨fun _=>⟨rfl,rfl⟩,fun h=>(by cases h)⟩
  ·refine⟨fun h=>(by cases h),fun _=>?_⟩
   cases o2
   ·exact⟨fun h=>(by cases h),fun _=>⟨rfl,rfl⟩⟩
   ·exact⟨fun _=>⟨rfl,rfl⟩,fun h=>(by cases h)⟩
 ·refine⟨fun h=>(by cases h),fun _=>⟨fun h=>(by cases h),fun _=>?_⟩⟩
  cases o1
  ·exact⟨fun h=>(by cases h),fun _=>⟨rfl,rfl⟩⟩
  ·exact⟨fun _=>⟨rfl,rfl⟩,fun h=>(by cases h)⟩
theorem apZ(x:Fe):m6 x=z9 powC cz mulC (fun x=>mulC x x) lh bw O8 pq x:=rfl
abbrev ayp:ao:=e1P m6
theorem Pz(pow:Fe→List Int→Fe)(exp:Int→Int→List Int)(mul:Fe→Fe→Fe)(sq neg:Fe→Fe)(eq:Fe→Fe→Bool)(qT:Fe→Bool)(sm:Int→Fe)(x:Fe):aN Tryz.prog [(216,ePw pow),(217,eEx exp),(188,mq mul),(183,uL sq),(139,uL neg),(190,e2B eq),(154,Md qT),(186,FD sm)] [] f213 ((sj).wr (x,())) [] kK= .need ((exp 254 15).length=32) (.ite (!(eq (sq (pow x (exp 254 15))) x)) (.need ((exp 251 31).length=32) (.ite (!(eq (sq (mul (pow x (exp 254 15)) (pow (sm 2) (exp 251 31)))) x)) (.leaf (gY (dE,false)) []) (.ite (qT (mul (pow x (exp 254 15)) (pow (sm 2) (exp 251 31)))) (.leaf (gY (neg (mul (pow x (exp 254 15)) (pow (sm 2) (exp 251 31))),true)) []) (.leaf (gY (mul (pow x (exp 254 15)) (pow (sm 2) (exp 251 31)),true)) [])))) (.ite (!(eq (sq (pow x (exp 254 15))) x)) (.leaf (gY (dE,false)) []) (.ite (qT (pow x (exp 254 15))) (.leaf (gY (neg (pow x (exp 254 15)),true)) []) (.leaf (gY (pow x (exp 254 15),true)) [])))):=by kernel_rfl
theorem PA:∀p_∈([(216,ePw FE),(217,eEx AD),(188,mq mulC),(183,uL (fun x=>mulC x x)),(139,uL lh),(190,e2B O8),(154,Md pq),(186,FD bw)]:List (FuncId×ao)),p_.2.Ok Tryz.prog p_.1:=(aj T9 (aj KE (aj j8 (aj Ua (aj AF (aj apV (aj KD (aj lp aw))))))))
theorem aiP:ayp.Ok Tryz.prog 213:=by
 refine(ao.ba call213 fun x_ y_ Q H_=>?_).sym;obtain⟨x,_⟩:=x_;have hq:=H_.2;refine(au (tab:= [(216,ePw FE),(217,eEx AD),(188,mq mulC),(183,uL (fun x=>mulC x x)),(139,uL lh),(190,e2B O8),(154,Md pq),(186,FD bw)]) mixed PA func213 rfl (LT:= []) (ks:=kK) (aJ.nil _)).use (D:= []) ?_ hq;show(aN _ _ _ _ ((sj).wr (x,())) [] _).sat _;rw[Pz FE AD mulC (fun x=>mulC x x) lh O8 pq bw];simp only[KA];exact aiO (AE _ _) (AE _ _) ((apZ x).trans (apY _ _ _ _ _ _ _ _ x))
theorem aiQ(u v:Fe):mc u v=(df (dB v) dE (m6 (mulC u (kg v))).1,bif dB v then dB u else(m6 (mulC u (kg v))).2):=by unfold mc;rfl
theorem X6{z zu:Bool}{s r:Fe×Bool}(hr:r=(df z dE s.1,bif z then zu else s.2)):(Ev.End.ite z (.leaf (gY (dE,zu)) []) (.leaf (gY s) [])).sat fun v dI=>v=gY r∧dI= []:=by
 subst hr;rw[bU]
 cases z
 ·exact⟨fun h=>(by cases h),fun _=>⟨rfl,rfl⟩⟩
 ·exact⟨fun _=>⟨rfl,rfl⟩,fun h=>(by cases h)⟩
abbrev ap0:ao:=e2P mc
theorem KF(mul:Fe→Fe→Fe)(inv:Fe→Fe)(G9:Fe→Bool)(sqrt:Fe→Fe×Bool)(u v:Fe):aN Tryz.prog [(188,mq mul),(192,uL inv),(138,Md G9),(213,e1P sqrt)] [] f184 ((m9).wr (u,v,())) [] kK= .ite (G9 v) (.leaf (gY (dE,G9 u)) []) (.leaf (gY (sqrt (mul u (inv v)))) []):=by kernel_rfl
theorem KG:∀p_∈([(188,mq mulC),(192,uL kg),(138,Md dB),(213,e1P m6)]:List (FuncId×ao)),p_.2.Ok Tryz.prog p_.1:=(aj j8 (aj FF (aj Cs (aj aiP aw))))
theorem X7:ap0.Ok Tryz.prog 184:=by
 refine(ao.ba call184 fun x_ y_ Q H_=>?_).sym;obtain⟨u,v,_⟩:=x_;have hq:=H_.2;refine(au (tab:= [(188,mq mulC),(192,uL kg),(138,Md dB),(213,e1P m6)]) mixed KG func184 rfl (LT:= []) (ks:=kK) (aJ.nil _)).use (D:= []) ?_ hq;show(aN _ _ _ _ ((m9).wr (u,v,())) [] _).sat _;rw[KF mulC kg dB m6];exact X6 (aiQ u v)
abbrev A2:aY LV Pt:=iD (ag jX (pc .u64 (pc .u64 (pc .u64 (jd .u64 5) 5) 5) 5))
abbrev X8:aY (List LV) (Pt×Unit):=ag A2 ae
abbrev ayq:aY (List LV) (Pt×Pt×Unit):=ag A2 (ag A2 ae)
def eFr(g:List Int→Fe):ao:=ao.cH [] ki ae fun x _=>.leaf none (mi.wr (g x.1)) []
def e0F(c:Fe):ao:=ao.cH [] ae ae fun _ _=>.leaf none (mi.wr c) []
def e0Q(c:Pt):ao:=ao.cH [] ae ae fun _ _=>.leaf none (A2.wr c) []
def eAf(g:Fe→Fe→Pt):ao:=ao.cH [] m9 ae fun x _=>.leaf none (A2.wr (g x.1 x.2.1)) []
def FG(g:Pt→Pt):ao:=ao.cH [] X8 ae fun x _=>.leaf none (A2.wr (g x.1)) []
def e2Q(g:Pt→Pt→Pt):ao:=ao.cH [] ayq ae fun x _=>.leaf none (A2.wr (g x.1 x.2.1)) []
def kt(b:List Int):Fe:=gy (kp b)
theorem aiR:Po=eFr kt:=by kernel_rfl
theorem Ct:(eFr kt).Ok Tryz.prog 135:=aiR▸Kt
theorem X9:j5=kt mZ.toList:=by unfold kt;rw[AA];rfl
abbrev ayu:ao:=e0F j5
theorem PB(j4:List Int→Fe):aN Tryz.prog [(135,eFr j4)] [] f189 ((ae).wr ()) [] kK= .leaf (mi.wr (j4 mZ.toList)) []:=by kernel_rfl
theorem PC:∀p_∈([(135,eFr kt)]:List (FuncId×ao)),p_.2.Ok Tryz.prog p_.1:=(aj Ct aw)
theorem KH:ayu.Ok Tryz.prog 189:=by
 refine(ao.ba call189 fun x_ y_ Q H_=>?_).sym;have hq:=H_.2;refine(au (tab:= [(135,eFr kt)]) mixed PC func189 rfl (LT:= []) (ks:=kK) (aJ.nil _)).use (D:= []) ?_ hq;show(aN _ _ _ _ ((ae).wr ()) [] _).sat _;rw[PB kt];rw[X9];exact⟨rfl,rfl⟩
abbrev aiS:ao:=eAf dq
theorem FH(mul:Fe→Fe→Fe)(sm:Int→Fe)(x y:Fe):aN Tryz.prog [(188,mq mul),(186,FD sm)] [] f140 ((m9).wr (x,y,())) [] kK= .leaf (A2.wr (true,x,y,sm 1,mul x y)) []:=by kernel_rfl
theorem FI:∀p_∈([(188,mq mulC),(186,FD bw)]:List (FuncId×ao)),p_.2.Ok Tryz.prog p_.1:=(aj j8 (aj lp aw))
theorem sk:aiS.Ok Tryz.prog 140:=by
 refine(ao.ba call140 fun x_ y_ Q H_=>?_).sym;obtain⟨x,y,_⟩:=x_;have hq:=H_.2;refine(au (tab:= [(188,mq mulC),(186,FD bw)]) mixed FI func140 rfl (LT:= []) (ks:=kK) (aJ.nil _)).use (D:= []) ?_ hq;show(aN _ _ _ _ ((m9).wr (x,y,())) [] _).sat _;rw[FH mulC bw];exact⟨rfl,rfl⟩
abbrev ayv:ao:=e0Q gm
theorem PD(af:Fe→Fe→Pt)(sm:Int→Fe):aN Tryz.prog [(140,eAf af),(186,FD sm)] [] f145 ((ae).wr ()) [] kK= .leaf (A2.wr (af dE (sm 1))) []:=by kernel_rfl
theorem PE:∀p_∈([(140,eAf dq),(186,FD bw)]:List (FuncId×ao)),p_.2.Ok Tryz.prog p_.1:=(aj sk (aj lp aw))
theorem KI:ayv.Ok Tryz.prog 145:=by
 refine(ao.ba call145 fun x_ y_ Q H_=>?_).sym;have hq:=H_.2;refine(au (tab:= [(140,eAf dq),(186,FD bw)]) mixed PE func145 rfl (LT:= []) (ks:=kK) (aJ.nil _)).use (D:= []) ?_ hq;show(aN _ _ _ _ ((ae).wr ()) [] _).sat _;rw[PD dq bw];exact⟨rfl,rfl⟩
theorem Ub(p:Pt):dw p=bif !p.1 then gm else p:=by unfold dw ahN;rw[iL]
theorem FJ{t:Bool}{V W X:LV}(h1:t=true→V=X)(h2:t=false→W=X):(Ev.End.ite t (.leaf V []) (.leaf W [])).sat fun v dI=>v=X∧dI= []:=⟨fun h=>⟨h1 h,rfl⟩,fun h=>⟨h2 h,rfl⟩⟩
abbrev aD2:ao:=FG dw
theorem Ya(z:Pt)(p:Pt):aN Tryz.prog [(145,e0Q z)] [] f151 ((X8).wr (p,())) [] kK= .ite (!p.1) (.leaf (A2.wr z) []) (.leaf (A2.wr p) []):=by kernel_rfl
theorem Yb:∀p_∈([(145,e0Q gm)]:List (FuncId×ao)),p_.2.Ok Tryz.prog p_.1:=(aj KI aw)
theorem FK:aD2.Ok Tryz.prog 151:=by
 refine(ao.ba call151 fun x_ y_ Q H_=>?_).sym;obtain⟨p,_⟩:=x_;have hq:=H_.2;refine(au (tab:= [(145,e0Q gm)]) mixed Yb func151 rfl (LT:= []) (ks:=kK) (aJ.nil _)).use (D:= []) ?_ hq;show(aN _ _ _ _ ((X8).wr (p,())) [] _).sat _;rw[Ya gm];exact FJ (fun h=>by rw[Ub,h];rfl) (fun h=>by rw[Ub,h];rfl)
abbrev ayw:ao:=e1P j6
theorem PF(mul add sub:Fe→Fe→Fe)(sq:Fe→Fe)(sm:Int→Fe)(ed:Fe)(ratio:Fe→Fe→Fe×Bool)(y:Fe):aN Tryz.prog [(188,mq mul),(187,mq add),(185,mq sub),(183,uL sq),(186,FD sm),(189,e0F ed),(184,e2P ratio)] [] f136 ((sj).wr (y,())) [] kK= .leaf (gY (ratio (sub (sq y) (sm 1)) (add (mul ed (sq y)) (sm 1)))) []:=by kernel_rfl
theorem PG:∀p_∈([(188,mq mulC),(187,mq kh),(185,mq lA),(183,uL (fun x=>mulC x x)),(186,FD bw),(189,e0F j5),(184,e2P mc)]:List (FuncId×ao)),p_.2.Ok Tryz.prog p_.1:=(aj j8 (aj KB (aj KC (aj Ua (aj lp (aj KH (aj X7 aw)))))))
theorem KJ:ayw.Ok Tryz.prog 136:=by
 refine(ao.ba call136 fun x_ y_ Q H_=>?_).sym;obtain⟨y,_⟩:=x_;have hq:=H_.2;refine(au (tab:= [(188,mq mulC),(187,mq kh),(185,mq lA),(183,uL (fun x=>mulC x x)),(186,FD bw),(189,e0F j5),(184,e2P mc)]) mixed PG func136 rfl (LT:= []) (ks:=kK) (aJ.nil _)).use (D:= []) ?_ hq;show(aN _ _ _ _ ((sj).wr (y,())) [] _).sat _;rw[PF mulC kh lA (fun x=>mulC x x) bw j5 mc];exact⟨rfl,rfl⟩
abbrev ayx:ao:=e0Q gX
theorem PH(mul:Fe→Fe→Fe)(sm:Int→Fe)(inv:Fe→Fe)(root:Fe→Fe×Bool)(af:Fe→Fe→Pt):aN Tryz.prog [(188,mq mul),(186,FD sm),(192,uL inv),(136,e1P root),(140,eAf af)] [] f144 ((ae).wr ()) [] kK= .leaf (A2.wr (af (root (mul (sm 4) (inv (sm 5)))).1 (mul (sm 4) (inv (sm 5))))) []:=by kernel_rfl
theorem PI:∀p_∈([(188,mq mulC),(186,FD bw),(192,uL kg),(136,e1P j6),(140,eAf dq)]:List (FuncId×ao)),p_.2.Ok Tryz.prog p_.1:=(aj j8 (aj lp (aj FF (aj KJ (aj sk aw)))))
theorem aiT:ayx.Ok Tryz.prog 144:=by
 refine(ao.ba call144 fun x_ y_ Q H_=>?_).sym;have hq:=H_.2;refine(au (tab:= [(188,mq mulC),(186,FD bw),(192,uL kg),(136,e1P j6),(140,eAf dq)]) mixed PI func144 rfl (LT:= []) (ks:=kK) (aJ.nil _)).use (D:= []) ?_ hq;show(aN _ _ _ _ ((ae).wr ()) [] _).sat _;rw[PH mulC bw kg j6 dq];exact⟨rfl,rfl⟩
def e4Q(g:Fe→Fe→Fe→Fe→Pt):ao:=ao.cH [] (ag mi (ag mi (ag mi (ag mi ae)))) ae fun x _=>.leaf none (A2.wr (g x.1 x.2.1 x.2.2.1 x.2.2.2.1)) []
abbrev ap1:ao:=e4Q nK
theorem KK(mul:Fe→Fe→Fe)(e f g h:Fe):aN Tryz.prog [(188,mq mul)] [] f193 (((ag mi (ag mi (ag mi (ag mi ae))))).wr (e,f,g,h,())) [] kK= .leaf (A2.wr (true,mul e f,mul g h,mul f g,mul e h)) []:=by kernel_rfl
theorem KL:∀p_∈([(188,mq mulC)]:List (FuncId×ao)),p_.2.Ok Tryz.prog p_.1:=(aj j8 aw)
theorem Yc:ap1.Ok Tryz.prog 193:=by
 refine(ao.ba call193 fun x_ y_ Q H_=>?_).sym;obtain⟨e,f,g,h,_⟩:=x_;have hq:=H_.2;refine(au (tab:= [(188,mq mulC)]) mixed KL func193 rfl (LT:= []) (ks:=kK) (aJ.nil _)).use (D:= []) ?_ hq;show(aN _ _ _ _ (((ag mi (ag mi (ag mi (ag mi ae))))).wr (e,f,g,h,())) [] _).sat _;rw[KK mulC];exact⟨rfl,rfl⟩
abbrev aD3:ao:=e2Q eD
theorem Yd(mul add sub:Fe→Fe→Fe)(ed:Fe)(own:Pt→Pt)(TL:Fe→Fe→Fe→Fe→Pt)(p q:Pt):aN Tryz.prog [(188,mq mul),(187,mq add),(185,mq sub),(189,e0F ed),(151,FG own),(193,e4Q TL)] [] f146 ((ayq).wr (p,q,())) [] kK= .leaf (A2.wr (addFn mul add sub ed own TL p q)) []:=by kernel_rfl
theorem Ye:∀p_∈([(188,mq mulC),(187,mq kh),(185,mq lA),(189,e0F j5),(151,FG dw),(193,e4Q nK)]:List (FuncId×ao)),p_.2.Ok Tryz.prog p_.1:=(aj j8 (aj KB (aj KC (aj KH (aj FK (aj Yc aw))))))
theorem FL:aD3.Ok Tryz.prog 146:=by
 refine(ao.ba call146 fun x_ y_ Q H_=>?_).sym;obtain⟨p,q,_⟩:=x_;have hq:=H_.2;refine(au (tab:= [(188,mq mulC),(187,mq kh),(185,mq lA),(189,e0F j5),(151,FG dw),(193,e4Q nK)]) mixed Ye func146 rfl (LT:= []) (ks:=kK) (aJ.nil _)).use (D:= []) ?_ hq;show(aN _ _ _ _ ((ayq).wr (p,q,())) [] _).sat _;rw[Yd mulC kh lA j5 dw nK];exact⟨rfl,rfl⟩
abbrev aiU:ao:=FG dT
theorem FN(add:Pt→Pt→Pt)(p:Pt):aN Tryz.prog [(146,e2Q add)] [] f147 ((X8).wr (p,())) [] kK= .leaf (A2.wr (add p p)) []:=by kernel_rfl
theorem FO:∀p_∈([(146,e2Q eD)]:List (FuncId×ao)),p_.2.Ok Tryz.prog p_.1:=(aj FL aw)
theorem AG:aiU.Ok Tryz.prog 147:=by
 refine(ao.ba call147 fun x_ y_ Q H_=>?_).sym;obtain⟨p,_⟩:=x_;have hq:=H_.2;refine(au (tab:= [(146,e2Q eD)]) mixed FO func147 rfl (LT:= []) (ks:=kK) (aJ.nil _)).use (D:= []) ?_ hq;show(aN _ _ _ _ ((X8).wr (p,())) [] _).sat _;rw[FN eD];exact⟨rfl,rfl⟩
abbrev aD4:ao:=FG m7
theorem Yf(neg:Fe→Fe)(own:Pt→Pt)(p:Pt):aN Tryz.prog [(139,uL neg),(151,FG own)] [] f101 ((X8).wr (p,())) [] kK= .leaf (A2.wr (negFn neg own p)) []:=by kernel_rfl
theorem Yg:∀p_∈([(139,uL lh),(151,FG dw)]:List (FuncId×ao)),p_.2.Ok Tryz.prog p_.1:=(aj AF (aj FK aw))
theorem ap2:aD4.Ok Tryz.prog 101:=by
 refine(ao.ba call101 fun x_ y_ Q H_=>?_).sym;obtain⟨p,_⟩:=x_;have hq:=H_.2;refine(au (tab:= [(139,uL lh),(151,FG dw)]) mixed Yg func101 rfl (LT:= []) (ks:=kK) (aJ.nil _)).use (D:= []) ?_ hq;show(aN _ _ _ _ ((X8).wr (p,())) [] _).sat _;rw[Yf lh dw];exact⟨rfl,rfl⟩
def ePl(g:Pt→Fe×Fe):ao:=ao.cH [] X8 ae fun x _=>.leaf none (.cG [.agg ((jd .u64 5).wr (g x.1).1),.agg ((jd .u64 5).wr (g x.1).2)]) []
abbrev ap3:ao:=ePl jF
theorem KM(mul:Fe→Fe→Fe)(inv:Fe→Fe)(own:Pt→Pt)(p:Pt):aN Tryz.prog [(188,mq mul),(192,uL inv),(151,FG own)] [] f152 ((X8).wr (p,())) [] kK= .leaf (.cG [.agg ((jd .u64 5).wr (mul (own p).2.1 (inv (own p).2.2.2.1))),.agg ((jd .u64 5).wr (mul (own p).2.2.1 (inv (own p).2.2.2.1)))]) []:=by kernel_rfl
theorem KN:∀p_∈([(188,mq mulC),(192,uL kg),(151,FG dw)]:List (FuncId×ao)),p_.2.Ok Tryz.prog p_.1:=(aj j8 (aj FF (aj FK aw)))
theorem Yh:ap3.Ok Tryz.prog 152:=by
 refine(ao.ba call152 fun x_ y_ Q H_=>?_).sym;obtain⟨p,_⟩:=x_;have hq:=H_.2;refine(au (tab:= [(188,mq mulC),(192,uL kg),(151,FG dw)]) mixed KN func152 rfl (LT:= []) (ks:=kK) (aJ.nil _)).use (D:= []) ?_ hq;show(aN _ _ _ _ ((X8).wr (p,())) [] _).sat _;rw[KM mulC kg dw];exact⟨rfl,rfl⟩
def eBy(g:Fe→List Int):ao:=ao.cH [] sj ae fun x _=>.leaf none (dQ .u8 32 (g x.1)) []
def eLB(g:List Int→Bool):ao:=ao.cH [] ki ae fun x _=>.leaf (some (x.1.length=32)) (nB (g x.1)) []
def eEn(g:Pt→List Int):ao:=ao.cH [] X8 ae fun x _=>.leaf none (dQ .u8 32 (g x.1)) []
abbrev Me(r:Pt×Bool):LV:=.cG [.agg ((ag jX (pc .u64 (pc .u64 (pc .u64 (jd .u64 5) 5) 5) 5)).wr r.1),.sc (.bool (.sym r.2))]
def eDe(g:List Int→Pt×Bool):ao:=ao.cH [] ki ae fun x _=>.leaf (some (x.1.length=32)) (Me (g x.1)) []
def nQ(x:Fe):List Int:=(eh x).toList
def wx(b:List Int):Bool:=jG (kp b)
def iQ(p:Pt):List Int:=(uq p).toList
def gp(b:List Int):Pt×Bool:=qs (kp b)
theorem Yi:uJ=eBy nQ:=by kernel_rfl
theorem PJ:(eBy nQ).Ok Tryz.prog 153:=Yi▸qE
theorem Yj:T8=eLB wx:=by kernel_rfl
theorem PK:(eLB wx).Ok Tryz.prog 137:=Yj▸XY
theorem Uc{f:Int→Int}(v:cZ):(Vec.nf f 31 v).toList=v.toList.set 31 (f (v.toList.getD 31 0)):=by
 have h:=FC (Vec.eT v) (k:=31) (by omega) f;rw[AA]at h;rw[← h,ib (by rw[List.length_set];exact Vec.eT v)]
theorem Cu(p:Pt):iQ p=bif pq (jF p).1 then(nQ (jF p).2).set 31 (bq .u8 ((nQ (jF p).2).getD 31 0) 128)else nQ (jF p).2:=by
 unfold iQ uq Aa nQ;simp only[bU];generalize eh (jF p).2=v
 cases pq (jF p).1
 ·rfl
 ·exact Uc v
abbrev aiV:ao:=eEn iQ
theorem FQ(pl:Pt→Fe×Fe)(Ud:Fe→List Int)(qT:Fe→Bool)(p:Pt):aN Tryz.prog [(152,ePl pl),(153,eBy Ud),(154,Md qT)] [] f102 ((X8).wr (p,())) [] kK= .ite (qT (pl p).1) (.leaf (dQ .u8 32 ((Ud (pl p).2).set 31 (bq .u8 ((Ud (pl p).2).getD 31 0) 128))) []) (.leaf (dQ .u8 32 (Ud (pl p).2)) []):=by kernel_rfl
theorem FR:∀p_∈([(152,ePl jF),(153,eBy nQ),(154,Md pq)]:List (FuncId×ao)),p_.2.Ok Tryz.prog p_.1:=(aj Yh (aj PJ (aj KD aw)))
theorem PL:aiV.Ok Tryz.prog 102:=by
 refine(ao.ba call102 fun x_ y_ Q H_=>?_).sym;obtain⟨p,_⟩:=x_;have hq:=H_.2;refine(au (tab:= [(152,ePl jF),(153,eBy nQ),(154,Md pq)]) mixed FR func102 rfl (LT:= []) (ks:=kK) (aJ.nil _)).use (D:= []) ?_ hq;show(aN _ _ _ _ ((X8).wr (p,())) [] _).sat _;rw[FQ jF nQ pq];exact FJ (fun h=>by rw[Cu,h];rfl) (fun h=>by rw[Cu,h];rfl)
theorem aiW(neg:Fe→Fe)(G9:Fe→Bool)(j4:cZ→Fe)(canon:cZ→Bool)(af:Fe→Fe→Pt)(root:Fe→Fe×Bool)(b:cZ):
  uf neg G9 j4 canon af root b=bif (root (j4 b)).2 then(bif canon b then(bif vX b then(bif G9 (root (j4 b)).1 then(fK,false)else(af (neg (root (j4 b)).1) (j4 b),true))else(af (root (j4 b)).1 (j4 b),true))else(fK,false))else(fK,false):=by
 unfold uf;simp only[bU,iL];generalize root (j4 b)=r;generalize j4 b=y;obtain⟨x,ok⟩:=r;simp only
 cases ok<;>cases canon b<;>cases vX b<;>cases G9 x<;>rfl
theorem Yk(b:List Int):gp b=bif (j6 (kt b)).2 then(bif wx b then(bif bd .u8 (b.getD 31 0) 128!=0 then(bif dB (j6 (kt b)).1 then(fK,false)else(dq (lh (j6 (kt b)).1) (kt b),true))else(dq (j6 (kt b)).1 (kt b),true))else(fK,false))else(fK,false):=aiW lh dB gy jG dq j6 (kp b)
theorem ap4{p:Prop}{ok canon qT G9:Bool}{P Q:Pt}(hp:p){r:Pt×Bool}(hr:r=bif ok then(bif canon then(bif qT then(bif G9 then(fK,false)else(P,true))else(Q,true))else(fK,false))else(fK,false)):
  (Ev.End.ite ((!ok)==false) (.need p (.ite ((!canon)==false) (.ite (qT==true) (.ite G9 (.leaf (Me (fK,false)) []) (.ite qT (.leaf (Me (P,true)) []) (.leaf (Me (Q,true)) []))) (.ite qT (.leaf (Me (P,true)) []) (.leaf (Me (Q,true)) []))) (.leaf (Me (fK,false)) []))) (.leaf (Me (fK,false)) [])).sat fun v dI=>v=Me r∧dI= []:=by
 subst hr
 cases ok
 ·exact⟨fun h=>(by cases h),fun _=>⟨rfl,rfl⟩⟩
 ·refine⟨fun _=>⟨hp,?_⟩,fun h=>(by cases h)⟩
  cases canon
  ·exact⟨fun h=>(by cases h),fun _=>⟨rfl,rfl⟩⟩
  ·refine⟨fun _=>?_,fun h=>(by cases h)⟩
   cases qT
   ·exact⟨fun h=>(by cases h),fun _=>⟨fun h=>(by cases h),fun _=>⟨rfl,rfl⟩⟩⟩
   ·refine⟨fun _=>?_,fun h=>(by cases h)⟩
    cases G9
    ·exact⟨fun h=>(by cases h),fun _=>⟨fun _=>⟨rfl,rfl⟩,fun h=>(by cases h)⟩⟩
    ·exact⟨fun _=>⟨rfl,rfl⟩,fun h=>(by cases h)⟩
abbrev aiX:ao:=eDe gp
theorem FT(j4:List Int→Fe)(root:Fe→Fe×Bool)(canon:List Int→Bool)(G9:Fe→Bool)(neg:Fe→Fe)(af:Fe→Fe→Pt)(b:List Int):aN Tryz.prog [(135,eFr j4),(136,e1P root),(137,eLB canon),(138,Md G9),(139,uL neg),(140,eAf af)] [] f97 ((ki).wr (b,())) [] kK= .ite ((!(root (j4 b)).2)==false) (.need (b.length=32) (.ite ((!canon b)==false) (.ite ((bd .u8 (b.getD 31 0) 128!=0)==true) (.ite (G9 (root (j4 b)).1) (.leaf (Me (fK,false)) []) (.ite (bd .u8 (b.getD 31 0) 128!=0) (.leaf (Me (af (neg (root (j4 b)).1) (j4 b),true)) []) (.leaf (Me (af (root (j4 b)).1 (j4 b),true)) []))) (.ite (bd .u8 (b.getD 31 0) 128!=0) (.leaf (Me (af (neg (root (j4 b)).1) (j4 b),true)) []) (.leaf (Me (af (root (j4 b)).1 (j4 b),true)) []))) (.leaf (Me (fK,false)) []))) (.leaf (Me (fK,false)) []):=by kernel_rfl
theorem FU:∀p_∈([(135,eFr kt),(136,e1P j6),(137,eLB wx),(138,Md dB),(139,uL lh),(140,eAf dq)]:List (FuncId×ao)),p_.2.Ok Tryz.prog p_.1:=(aj Ct (aj KJ (aj PK (aj Cs (aj AF (aj sk aw))))))
theorem PM:aiX.Ok Tryz.prog 97:=by
 refine(ao.ba call97 fun x_ y_ Q H_=>?_).sym;obtain⟨b,_⟩:=x_;obtain⟨hn,hq⟩:=H_;have hn:b.length=32:=hn;refine(au (tab:= [(135,eFr kt),(136,e1P j6),(137,eLB wx),(138,Md dB),(139,uL lh),(140,eAf dq)]) mixed FU func97 rfl (LT:= []) (ks:=kK) (aJ.nil _)).use (D:= []) ?_ hq;show(aN _ _ _ _ ((ki).wr (b,())) [] _).sat _;rw[FT kt j6 wx dB lh dq];exact ap4 hn (Yk b)
abbrev biA:aY (List LV) (List Int×Int×Unit):=ag cB (ag (ah (aC .i64)) ae)
def Yl(g:List Int→Int→Int):ao:=ao.cH [] biA ae fun x _=>.leaf (some (x.1.length=32∧0≤x.2.1∧x.2.1<256)) (nI (g x.1 x.2.1)) []
def lB(a:List Int)(i:Int):Int:=lP (kp a) i.toNat
def auF:ao:=ao.cH [] (biA) (ae) fun x_ y_=>(fun(a:List Int) (i:Int)=>.leaf (some (a.length=32∧0≤i∧i<256)) (nI (lB a i)) []) x_.1 x_.2.1
theorem Ym(a:List Int)(i:Int):aN Tryz.prog [] [] f148 ((biA).wr (a,i,())) ((ae).wr ()) [.fr [.sym],.auto]=
 End.ite (decide (i<(0:Int))==false) (End.ite (decide ((256:Int)≤i)) (End.leaf (LV.one (VV.sc (SV.int i64 (SI.sym (0:Int))))) [])
 (End.need ((0:Int)≤i64.wrap (i.tdiv (8:Int))∧i64.wrap (i.tdiv (8:Int))<(32:Int)) (End.need ((0:Int)≤i.tmod (8:Int))
 (End.leaf (LV.one (VV.sc (SV.int i64 (SI.sym (i64.wrap (bd IntKind.u8 (shr IntKind.u8 ((List.take (32:Nat) (List.drop (0:Nat)
 a)).getD (i64.wrap (i.tdiv (8:Int))).toNat (0:Int)) (i.tmod (8:Int))) (1:Int))))))) [])))) (End.leaf (LV.one (VV.sc (SV.int i64
 (SI.sym (0:Int))))) []):=by kernel_rfl
theorem ap5:auF.Ok Tryz.prog 148:=by
 refine(ao.ba call148 fun x_ y_ Q H_=>?_).sym;obtain⟨a,i,_⟩:=x_;obtain⟨hn,hq⟩:=H_;have hn:a.length=32∧0≤i∧i<256:=hn;refine(au mixed aw func148 rfl (LT:= []) (ks:= [.fr [.sym],.auto]) (aJ.nil _)).use (D:= []) ?_ hq;show(aN _ _ _ _ ((biA).wr (a,i,())) ((ae).wr ()) _).sat _;rw[Ym];obtain⟨ha,h0,h1⟩:=hn;obtain⟨k,rfl⟩:=Int.eq_ofNat_of_zero_le h0;have hk:k<256:=by omega
 have e1:i64.wrap ((k:Int).tdiv 8)=((k/8:Nat):Int):=fS k 8 (by omega);have e2:(k:Int).tmod 8=((k%8:Nat):Int):=uK k 8
 have e:lB a (k:Int)=i64.wrap (bd .u8 (shr .u8 (a.getD (k/8) 0) ((k%8:Nat):Int)) 1):=by
  unfold lB lP;rw[Int.toNat_natCast,yk a (show k/8<32 by omega)]
 rw[e1,e2,bI ha,Int.toNat_natCast,e];refine⟨fun _=>⟨fun h=>?_,fun _=>⟨by omega,by omega,rfl,rfl⟩⟩,fun h=>?_⟩
 ·have:=of_decide_eq_true h;omega
 ·exfalso;revert h;simp
abbrev iPt:aY (Option Ev.Item) Pt:=kY 163 (ag jX (pc .u64 (pc .u64 (pc .u64 (jd .u64 5) 5) 5) 5))
abbrev ap6:aY Hp (Pt×Pt×Unit):=ag iPt (ag iPt ae)
abbrev ap7(i:Nat):Wk:=.bH i (List.replicate 21 .sym)
abbrev aD9:List (FuncId×ao):= [(148,Yl lB),(147,FG dT),(146,e2Q eD)]
theorem ap8:auF=Yl lB:=by kernel_rfl
theorem KO:(Yl lB).Ok Tryz.prog 148:=ap8▸ap5
theorem aiY:∀p∈aD9,p.2.Ok Tryz.prog p.1:=aj KO (aj AG (aj FL aw))
theorem nR{α:Type}{f g:Nat→α→α}{n:Nat}(h:∀k,k<n→∀r,f k r=g k r)(a:α):∀m,m≤n→fG f m a=fG g m a
 |0,_=>rfl
 |m+1,hm=>by
  show f m (fG f m a)=g m (fG g m a);rw[nR h a m (by omega),h m (by omega)]
end Go.Proofs.YtcbjpiangpjbgaaGreat
end
