/- What the laws lean on, part 16: a reader of code, plain facts, and what each function gives; no conditions. -/
import Derived.Test.YtnbkagglkajbkaaGreatA15
set_option linter.unusedVariables false
set_option linter.unusedSimpArgs false
noncomputable section
namespace Go.Proofs.YtnbkagglkajbkaaGreat
open Go Go.Ev BJ Go.Proofs.Tryz
open Go.IntKind (i64 signed u16 u64 wrap)
set_option maxRecDepth 1000000
noncomputable section
variable (base zero:Pt) (encode:Pt→cR) (decode:cR→Pt×Bool) (abu:Pt→Pt→Pt) (equal:Pt→Pt→Bool) (alive:Bool)
end
end Go.Proofs.YtnbkagglkajbkaaGreat
namespace BJ
def F.ap6(a:F)(e:Nat):F:=⟨pm pp 256 a.val e%pp,Nat.mod_lt _ (by decide)⟩
theorem F.aj8(a:F){e:Nat}(he:e<2 ^ 256):F.pow a e=F.ap6 a e:=by
 apply Fin.ext
 show a.val ^ e%pp=pm pp 256 a.val e%pp;rw[XD pp 256 a.val e he,Nat.mod_mod]
def F.aBM(a:F):F:=F.ap6 a (pp-2)
theorem F.aj9(a:F):F.inv a=F.aBM a:=F.aj8 a (by decide)
def aka(a:F):F×Bool:=
 let r:=F.ap6 a ((pp+3)/8)
 let r1:=if r*r=a then r else r*F.ap6 2 ((pp-1)/4)
 if r1*r1=a then(if r1.val%2=1 then-r1 else r1,true)else(0,false)
theorem awS(a:F):rootOf a=aka a:=by
 unfold rootOf aka;rw[F.aj8 a (by decide),F.aj8 2 (by decide)]
def aBN(y:F):F×Bool:=if dd*(y*y)+1=0 then(0,decide (y*y-1=0))else aka ((y*y-1)*F.aBM (dd*(y*y)+1))
theorem aBO(y:F):lR y=aBN y:=by
 unfold lR ln aBN;rw[awS,F.aj9]
def NO:F:=46316835694926478169428394003475163141307993866256225615783033603165251855960
def XX:F:=15112221349535400772501151409588531511454012693041857206046113283949847762202
theorem akb:4*F.inv 5=NO:=by rw[F.aj9];decide+kernel
theorem akc:lR NO=(XX,true):=by rw[aBO];decide+kernel
theorem akd:Dv=Du XX NO:=by
 unfold Dv;rw[akb,akc]
end BJ
namespace Go.Proofs.YtnbkagglkajbkaaGreat
open Go Go.Ev BJ Go.Proofs.Tryz
open Go.IntKind (i64 signed u16 u64 wrap)
theorem XY:yi ic∧XO ic=Dv:=by
 obtain⟨h1,h2,h3⟩:=apZ;obtain⟨o1,o2⟩:=FJ h1 h2;exact⟨o1,o2.trans h3⟩
theorem XZ:yi gk∧XO gk=nW:=by
 obtain⟨h1,h2,h3⟩:=XP;obtain⟨o1,o2⟩:=FJ h1 h2;exact⟨o1,o2.trans h3⟩
end Go.Proofs.YtnbkagglkajbkaaGreat
namespace BJ
def kA(r a:F):F×Bool:=if r*r=a then(if r.val%2=1 then-r else r,true)else(0,false)
theorem FR(a:F):rootOf a=kA (if F.pow a ((pp+3)/8)*F.pow a ((pp+3)/8)=a then F.pow a ((pp+3)/8)else F.pow a ((pp+3)/8)*F.pow 2 ((pp-1)/4)) a:=rfl
end BJ
namespace Go.Proofs.YtnbkagglkajbkaaGreat
open Go Go.Ev BJ Go.Proofs.Tryz
open Go.IntKind (i64 signed u16 u64 wrap)
end Go.Proofs.YtnbkagglkajbkaaGreat
namespace Go.Proofs.YtnbkagglkajbkaaGreat
open Go Go.Ev BJ Go.Proofs.Tryz
open Go.IntKind (i64 signed u16 u64 wrap)
set_option maxRecDepth 100000
theorem iu{n:Int}(h0:0≤n)(h1:n<18446744073709551616):bt n=aZ (cG n):=by
 have hv:((cG n).val:Int)=n:=by rw[dZ,Int.emod_eq_of_lt h0 (by simp only[pp];omega)]
 unfold aZ oP bt;rw[hv]
 apply jS
 intro i hi;have e:(65536 ^ i:Nat)=2 ^ (16*i):=by rw[show(65536:Nat)=2 ^ 16 from rfl,← Nat.pow_mul]
 by_cases h4:i<4
 ·rw[if_pos h4];have e1:bH n ((16*i:Nat):Int)=n/(2 ^ (16*i):Nat):=c9 .u64 n (16*i) (by show 16*i≤64;omega);have e2:dJ (bH n ((16*i:Nat):Int)) 65535=bH n ((16*i:Nat):Int)%(2 ^ 16:Nat):=ry (m:=16) (by decide) _ 65535 (by decide);have e3:((2 ^ 16:Nat):Int)=65536:=by decide
  rw[e2,e1,e,e3,tD (by omega) (by omega)]
 ·rw[if_neg h4];have h:(65536 ^ 4:Nat)≤65536 ^ i:=Nat.pow_le_pow_right (by omega) (by omega);have h':(65536 ^ 4:Nat)=18446744073709551616:=by decide
  rw[h']at h;rw[Int.ediv_eq_zero_of_lt h0 (by omega)];rfl
theorem DH(a:F):oK (aZ a)=dR a:=by
 have hV:=tF a;unfold oK dR zl
 apply jS
 intro i hi;obtain⟨h1,h2⟩:=fV a;have hg:=Dx h1 (i:=i/2) (by omega);rw[h2]at hg;have hr:=rX h1 (i:=i/2) (by omega);have e:(65536 ^ (i/2):Nat)=256 ^ (2*(i/2)):=by rw[show(65536:Nat)=256 ^ 2 from rfl,← Nat.pow_mul]
 rw[e]at hg
 by_cases he:i%2=0
 ·rw[if_pos he];have e1:cg ((aZ a).get (i/2)) 255=(aZ a).get (i/2)%(2 ^ 8:Nat):=ov (m:=8) (by decide) _ 255 (by decide);have e2:((2 ^ 8:Nat):Int)=256:=by decide
  rw[e1,e2,wrap_u8,hg,show 2*(i/2)=i from by omega];omega
 ·rw[if_neg he];have e1:down ((aZ a).get (i/2)) 8=(aZ a).get (i/2)/(2 ^ 8:Nat):=c9 .i64 _ 8 (by decide);have e2:((2 ^ 8:Nat):Int)=256:=by decide
  have e3:(256 ^ i:Nat)=256 ^ (2*(i/2))*256:=by rw[← Nat.pow_succ];congr 1;omega
  rw[e1,e2,wrap_u8,hg,e3,Int.natCast_mul,← Int.ediv_ediv_of_nonneg (Int.natCast_nonneg _)];generalize (a.val:Int)/((256 ^ (2*(i/2)):Nat):Int)=q;have:(((256:Nat)):Int)=256:=rfl;rw[this];omega
theorem NP: {n:Nat}→ {v:Vec Int (n+1)}→xa v→wE v
 |0,_,_=>trivial
 |_+1,_,h=>⟨h.1,NP h.2⟩
def yp:cR→Fn:=ajK dK
theorem FT{b:cR}(h:m8 b):yp b=aZ (cG (bx b%57896044618658097711785492504343953926634992332820282019728792003956564819968)):=by
 have hV:=cH h;have hV2:=mA h;rw[apV]at hV2
 have hp:Jp b=oP 16 (bx b):=by
  unfold Jp oP
  apply jS
  intro i hi;have g1:=oL h (i:=2*i) (by omega);have g2:=oL h (i:=2*i+1) (by omega);have b1:=qO h (i:=2*i) (by omega);have b2:=qO h (i:=2*i+1) (by omega);rw[tD (x:=b.get (2*i)) (by omega) (by omega),tD (x:=b.get (2*i+1)) (by omega) (by omega),tD (x:=256*b.get (2*i+1)) (by omega) (by omega),tD (by omega) (by omega),g1,g2];have e:(65536 ^ i:Nat)=256 ^ (2*i):=by rw[show(65536:Nat)=256 ^ 2 from rfl,← Nat.pow_mul]
  rw[e,Nat.pow_succ,Int.natCast_mul,← Int.ediv_ediv_of_nonneg (Int.natCast_nonneg _)];generalize bx b/((256 ^ (2*i):Nat):Int)=q;have:(((256:Nat)):Int)=256:=rfl;rw[this];omega
 obtain⟨d1,d2⟩:=rW 16 (bx b) hV;rw[p16,Int.emod_eq_of_lt hV (by omega)]at d2;have hg:=Dx d1 (i:=15) (by decide);rw[d2]at hg;rw[abD]at hg;have hu:=JA (n:=15) (fun x=>cg x 32767) (oP 16 (bx b));rw[abD,d2]at hu
 have hb:=TT (n:=15) (B:=70368744177664) (fun x=>cg x 32767) (oP 16 (bx b)) (NP d1) (by decide) (by
  show-70368744177664≤cg (Vec.get (n:=16) (oP 16 (bx b)) 15) 32767∧cg (Vec.get (n:=16) (oP 16 (bx b)) 15) 32767≤70368744177664;rw[Jz];omega)
 have hv:bF (Vec.oa (n:=16) (fun x=>cg x 32767) 15 (oP 16 (bx b)))=bx b%57896044618658097711785492504343953926634992332820282019728792003956564819968:=by
  refine hu.trans ?_;show bx b+_*(cg (Vec.get (n:=16) (oP 16 (bx b)) 15) 32767-Vec.get (n:=16) (oP 16 (bx b)) 15)=_;rw[Jz,hg];omega
 show dK (Vec.oa (fun x=>cg x 32767) 15 (Jp b))=_;rw[hp,wG hb (by rw[hv];omega) (by rw[hv];omega),hv]
theorem abI{b:cR}(_h:m8 b):TK b=ia b:=by
 refine rU ?_;show aI .u8 (b.get 31) 127=c5 .u8 (b.get 31) 128;rw[tA];exact sY (m:=7) (by decide) _ 127 (by decide)
def iK(b:cR):Bool:=m7 (oK (yp (TK b))) (TK b)
theorem DI{b:cR}(h:m8 b):iK b=decide (bx b%fU<(pp:Int)):=by
 obtain⟨h1,h2⟩:=yf h;have dL:bx (ia b)<57896044618658097711785492504343953926634992332820282019728792003956564819968:=by rw[h2];omega
 unfold iK;rw[abI h,FT h1,DH,Int.emod_eq_of_lt (cH h1) dL,wx h1 dL,h2]
theorem NQ(a:F):sx (aZ a)=decide (a.val%2=1):=by
 obtain⟨h1,h2⟩:=fV a;have h3:(aZ a).1+65536*bF (aZ a).2=(a.val:Int):=h2;have h4:=h1.1;unfold sx;generalize (aZ a).1=x at*;generalize bF (aZ a).2=y at*;rw[Int.tmod_eq_emod_of_nonneg h4.1]
 by_cases h:a.val%2=1
 ·rw[decide_eq_true h,beq_iff_eq];omega
 ·rw[decide_eq_false h];refine Bool.eq_false_iff.2 fun e=>h ?_;rw[beq_iff_eq]at e;omega
theorem X0{e:cR}(h:m8 e){i:Nat}(hi:i<256):mU e i=mw e i:=by
 obtain⟨h1,h2⟩:=qO h (i:=i/8) (by omega);unfold mU mw;have e1:shr .u8 (e.get (i/8)) ((i%8:Nat):Int)=e.get (i/8)/(2 ^ (i%8):Nat):=c9 .u8 _ _ (by show i%8≤8;omega);have hp:(0:Int)<((2 ^ (i%8):Nat):Int):=by have:=Nat.pow_pos (n:=i%8) (show 0<2 by decide);omega
 have h3:0≤e.get (i/8)/((2 ^ (i%8):Nat):Int):=Int.ediv_nonneg h1 (by omega);have h4:e.get (i/8)/((2 ^ (i%8):Nat):Int)≤e.get (i/8):=Int.ediv_le_self _ h1;rw[e1,wrap_i64 (by omega) (by omega),ov (m:=1) (by decide) _ 1 (by decide),sY (m:=1) (by decide) _ 1 (by decide),wrap_i64 (by omega) (by omega)]
def mC(x:Fn)(e:cR):Fn:=ajL mU bt a8 x e
theorem DJ(a:F){e:cR}(he:m8 e):mC (aZ a) e=aZ (F.pow a (bx e).toNat):=by
 have hV:=cH he;have hV2:=mA he;obtain⟨N,hN⟩:=Int.eq_ofNat_of_zero_le hV
 have key:∀k,k≤256→gw (nT mU a8 (aZ a) e) k (bt 1)=aZ (F.pow a (N/2 ^ (256-k))):=by
  intro k
  induction k with
  |zero=>
   intro _;have ajV:(256 ^ 32:Nat)=2 ^ 256:=(by rw[show(256:Nat)=2 ^ 8 from rfl,← Nat.pow_mul]);have:N/2 ^ (256-0)=0:=Nat.div_eq_of_lt (by rw[hN]at hV2;rw[Nat.sub_zero,← ajV];omega);rw[this,F.pow_zero];show bt 1=_;rw[iu (by decide) (by decide),Al]
  |succ k ih=>
   intro hk;show nT mU a8 (aZ a) e k (gw (nT mU a8 (aZ a) e) k (bt 1))=_;rw[ih (by omega)];unfold nT;rw[eL,eL,X0 he (by omega),yk he (by omega),bG,hN,Int.toNat_natCast]
   have hdiv:N/2 ^ (256-k)=N/2 ^ (256-(k+1))/2:=by
    rw[Nat.div_div_eq_div_mul,← Nat.pow_succ];congr 2;omega
   rw[hdiv];have awP:255-k=256-(k+1):=(by omega);rw[awP];unfold abB;generalize N/2 ^ (256-(k+1))=M at*
   by_cases hb:M%2=1
   ·rw[decide_eq_true hb,cond_true];have:M=2*(M/2)+1:=by omega
    conv=>rhs;rw[this]
    rw[F.pow_succ,F.oM]
   ·rw[decide_eq_false hb,cond_false];have:M=2*(M/2):=by omega
    conv=>rhs;rw[this]
    rw[F.oM]
 have:=key 256 (by omega);rw[hN,Int.toNat_natCast];have e1:N/2 ^ (256-256)=N:=by simp
 rw[e1]at this;exact this
def c6(x:Fn):Fn:=mC x (cf 235 127)
theorem wJ(a:F):c6 (aZ a)=aZ (F.inv a):=by
 unfold c6;rw[DJ a (rT (by omega) (by omega)),XN];rfl
def jj:Fn→Fn×Bool:=wo bt a8 fc sx mC
theorem X1(b:Bool)(a c:F):cZ b (aZ a) (aZ c)=aZ (if b=true then a else c):=by
 rw[bG];cases b<;>rfl
theorem aBP(R a:F):(cZ (!(decide (R*R=a))) (aZ 0) (cZ (decide (R.val%2=1)) (aZ (-R)) (aZ R)),bif !(decide (R*R=a))then false else true)=(aZ (kA R a).1,(kA R a).2):=by
 unfold kA
 by_cases h:R*R=a
 ·rw[decide_eq_true h,if_pos h]
  by_cases h2:R.val%2=1
  ·rw[decide_eq_true h2,bG,bG];show(aZ (-R),true)=(aZ (if R.val%2=1 then-R else R),true);rw[if_pos h2]
  ·rw[decide_eq_false h2,bG,bG];show(aZ R,true)=(aZ (if R.val%2=1 then-R else R),true);rw[if_neg h2]
 ·rw[decide_eq_false h,if_neg h,bG];rfl
theorem t2F:cG 2=2:=by decide+kernel
theorem abJ(a:F):jj (aZ a)=(aZ (rootOf a).1,(rootOf a).2):=by
 have h1:=DJ a (rT (lo:=254) (hi:=15) (by omega) (by omega));have h2:=DJ 2 (rT (lo:=251) (hi:=31) (by omega) (by omega));rw[NG]at h1;rw[ajW]at h2;have h3:bt 2=aZ 2:=by rw[iu (by decide) (by decide),t2F]
 have e1:cZ (!(m7 (a8 (mC (aZ a) (cf 254 15)) (mC (aZ a) (cf 254 15))) (aZ a))) (a8 (mC (aZ a) (cf 254 15)) (mC (bt 2) (cf 251 31))) (mC (aZ a) (cf 254 15))=
   aZ (if F.pow a ((pp+3)/8)*F.pow a ((pp+3)/8)=a then F.pow a ((pp+3)/8)else F.pow a ((pp+3)/8)*F.pow 2 ((pp-1)/4)):=by
  rw[h1,h3,h2,eL,eL,DC,X1]
  by_cases h:F.pow a ((pp+3)/8)*F.pow a ((pp+3)/8)=a
  ·rw[decide_eq_true h,if_pos h];rfl
  ·rw[decide_eq_false h,if_neg h];rfl
 unfold jj wo;simp only[e1,rQ];rw[eL,DC,NQ,wI,qQ,aBP,← FR]
def j4:Fn→Fn→Fn×Bool:=Nw a8 c6 jj
theorem abK(u v:F):j4 (aZ u) (aZ v)=(cZ (m7 (aZ v) cw) cw (jj (a8 (aZ u) (c6 (aZ v)))).1,bif m7 (aZ v) cw then m7 (aZ u) cw else(jj (a8 (aZ u) (c6 (aZ v)))).2):=rfl
theorem abL(u v:F):jj (a8 (aZ u) (c6 (aZ v)))=(aZ (rootOf (u*F.inv v)).1,(rootOf (u*F.inv v)).2):=by
 rw[wJ,eL,abJ]
theorem abM(u v:F)(z:F×Bool):(cZ (m7 (aZ v) cw) cw (aZ z.1,z.2).1,bif m7 (aZ v) cw then m7 (aZ u) cw else(aZ z.1,z.2).2)=(cZ (decide (v=0)) (aZ 0) (aZ z.1),bif decide (v=0)then decide (u=0)else z.2):=by
 rw[qQ,DC,DC]
theorem NR(u v:F)(z:F×Bool):(cZ (decide (v=0)) (aZ 0) (aZ z.1),bif decide (v=0)then decide (u=0)else z.2)=(aZ (if v=0 then((0:F),decide (u=0))else z).1,(if v=0 then((0:F),decide (u=0))else z).2):=by
 by_cases h:v=0
 ·rw[decide_eq_true h,if_pos h,bG,cond_true,cond_true]
 ·rw[decide_eq_false h,if_neg h,bG,cond_false,cond_false]
theorem abN(u v:F):ln u v=if v=0 then((0:F),decide (u=0))else rootOf (u*F.inv v):=by unfold ln;rfl
theorem TU(u v:F):j4 (aZ u) (aZ v)=(aZ (ln u v).1,(ln u v).2):=by
 rw[abK,abL,abN];generalize rootOf (u*F.inv v)=z;rw[abM,NR]
def pn(p:E4):Pn:=(aZ p.1,aZ p.2.1,aZ p.2.2.1,aZ p.2.2.2)
theorem yq(b:Bool)(p q:E4):FG b (pn p) (pn q)=pn (if b=true then p else q):=by
 rw[Dn];cases b<;>rfl
def dx:Fn:=a8 (fc (bt 121665)) (c6 (bt 121666))
theorem ake: -(cG 121665)*F.inv (cG 121666)=dd:=by rw[F.aj9];decide+kernel
theorem yr:dx=aZ dd:=by
 unfold dx;rw[iu (by decide) (by decide),iu (by decide) (by decide),wI,wJ,eL,ake]
def gA:Pn:=TL bt
theorem awT:bt 1=aZ 1:=by rw[iu (by decide) (by decide),Al]
theorem NS:gA=pn nW:=by
 unfold gA TL pn nW Du;rw[awT,qQ];have:(0:F)*1=0:=by decide+kernel
 simp only[this]
def qT:Fn→Fn→Pn:=awM bt a8
theorem akf(x y:F):qT (aZ x) (aZ y)=pn (Du x y):=by
 unfold qT awM pn Du;rw[awT,eL]
def jl:Fn→Fn×Bool:=ajM bt a8 fW ji j4 dx
theorem NT(y:F):jl (aZ y)=(aZ (lR y).1,(lR y).2):=by
 unfold jl ajM;rw[awT,yr,eL,eL,DD,wH,TU];rfl
theorem t4F:cG 4=4:=by decide+kernel
theorem t5F:cG 5=5:=by decide+kernel
def mW:Pn:=Jq bt a8 c6 qT jl
theorem akg:mW=pn Dv:=by
 unfold mW Jq;rw[iu (by decide) (by decide),iu (by decide) (by decide),t4F,t5F,wJ,eL,NT];show qT (aZ (lR (4*F.inv 5)).1) (aZ (4*F.inv 5))=_;rw[akf];rfl
def qU:cR→Pn×Bool:=rR fc yp iK gA qT jl
theorem JE(c ok t:Bool)(b:cR)(X Y:F)(hc:iK b=c)(hf:yp b=aZ Y)(hx:jl (aZ Y)=(aZ X,ok))(ht:decide (b.get 31>127)=t):
  qU b=(if(ok&&c&& !(t&&decide (X=0)))=true then pn (Du (if t=true then-X else X) Y)else pn nW,ok&&c&& !(t&&decide (X=0))):=by
 unfold qU rR;simp only[hc,hf,hx,ht,rQ,Bool.cond_self];rw[qQ,DC,wI,X1,akf,NS,yq,yq];generalize decide (X=0)=z
 cases c<;>cases ok<;>cases t<;>cases z<;>rfl
theorem TV{b:cR}(h:m8 b):qU b=(pn (NH b).1,(NH b).2):=by
 rw[JE (iK b) (lR (cG (bx b%fU))).2 (decide (b.get 31>127)) b (lR (cG (bx b%fU))).1 (cG (bx b%fU)) rfl (FT h) (NT _) rfl,DI h];have ht:decide (b.get 31>127)=decide (128≤b.get 31):=by congr 1
 rw[ht];unfold NH;simp only[];generalize (lR (cG (bx b%fU))).2=ok at*;generalize (lR (cG (bx b%fU))).1=X at*
 have hg:(ok&&decide (bx b%fU<(pp:Int))&& !(decide (128≤b.get 31)&&decide (X=0)))=decide (ok=true∧bx b%fU<(pp:Int)∧¬(128≤b.get 31∧X=0)):=by
  cases ok
  ·simp
  ·by_cases h1:bx b%fU<(pp:Int)<;>by_cases h2:128≤b.get 31<;>by_cases h3:X=0<;>simp[h2,h3]
 rw[hg]
 by_cases h:ok=true∧bx b%fU<(pp:Int)∧¬(128≤b.get 31∧X=0)
 ·rw[decide_eq_true h,if_pos h,if_pos rfl]
  by_cases h2:128≤b.get 31
  ·rw[decide_eq_true h2,if_pos rfl,if_pos h2]
  ·rw[decide_eq_false h2,if_neg (by decide),if_neg h2]
 ·rw[decide_eq_false h,if_neg h,if_neg (by decide)]
def wK:Pn→cR:=yc a8 c6 sx oK
theorem TW(p:E4):wK (pn p)=apY p:=by
 unfold wK yc;show cZ (sx (a8 (aZ p.1) (c6 (aZ p.2.2.1)))) (Vec.oa (fun x=>IntKind.u8.wrap (x+128)) 31 (oK (a8 (aZ p.2.1) (c6 (aZ p.2.2.1))))) (oK (a8 (aZ p.2.1) (c6 (aZ p.2.2.1))))=_;rw[wJ,eL,eL,DH,NQ,Dw];have hb:=FK (p.2.1*F.inv p.2.2.1)
 have hu:Vec.oa (fun x=>IntKind.u8.wrap (x+128)) 31 (dR (p.2.1*F.inv p.2.2.1))=Jx (dR (p.2.1*F.inv p.2.2.1)):=by
  refine rU ?_;generalize Vec.get (dR (p.2.1*F.inv p.2.2.1)) 31=z at*;show IntKind.u8.wrap (z+128)=z+128;rw[wrap_u8];omega
 rw[hu];rfl
def cM:Pn→Pn→Fn→Pn:=Ak a8 fW ji
def mX(p q:Pn):Pn:=cM p q (fW dx dx)
theorem ap7(p q:E4):wy p q=(((p.2.1+p.1)*(q.2.1+q.1)-(p.2.1-p.1)*(q.2.1-q.1))*((p.2.2.1+p.2.2.1)*q.2.2.1-p.2.2.2*q.2.2.2*(dd+dd)),
  ((p.2.2.1+p.2.2.1)*q.2.2.1+p.2.2.2*q.2.2.2*(dd+dd))*((p.2.1+p.1)*(q.2.1+q.1)+(p.2.1-p.1)*(q.2.1-q.1)),
  ((p.2.2.1+p.2.2.1)*q.2.2.1-p.2.2.2*q.2.2.2*(dd+dd))*((p.2.2.1+p.2.2.1)*q.2.2.1+p.2.2.2*q.2.2.2*(dd+dd)),
  ((p.2.1+p.1)*(q.2.1+q.1)-(p.2.1-p.1)*(q.2.1-q.1))*((p.2.1+p.1)*(q.2.1+q.1)+(p.2.1-p.1)*(q.2.1-q.1))):=by
 unfold wy;simp only[];have e1:p.2.2.2*q.2.2.2*dd+p.2.2.2*q.2.2.2*dd=p.2.2.2*q.2.2.2*(dd+dd):=by generalize dd=d;grobner
 have e2:p.2.2.1*q.2.2.1+p.2.2.1*q.2.2.1=(p.2.2.1+p.2.2.1)*q.2.2.1:=by grobner
 rw[e1,e2]
theorem yu(p q:E4):cM (pn p) (pn q) (aZ (dd+dd))=pn (wy p q):=by
 rw[ap7];unfold cM Ak pn;simp only[eL,wH,DD]
theorem akh(p q:E4):mX (pn p) (pn q)=pn (wy p q):=by
 unfold mX;rw[yr,wH,yu]
def mY(p:Pn):Pn:=(fc p.1,p.2.1,p.2.2.1,fc p.2.2.2)
theorem aki(p:E4):mY (pn p)=pn (ajY p):=by
 unfold mY pn ajY;simp only[wI]
end Go.Proofs.YtnbkagglkajbkaaGreat
namespace BJ
theorem F.akj:(1:F)≠0:=by decide+kernel
theorem ap8{r a:F}(h:(kA r a).2=true):(kA r a).1*(kA r a).1=a:=by
 unfold kA at h ⊢
 by_cases h1:r*r=a
 ·rw[if_pos h1];show(if r.val%2=1 then-r else r)*(if r.val%2=1 then-r else r)=a
  by_cases h2:r.val%2=1
  ·rw[if_pos h2];grobner
  ·rw[if_neg h2];exact h1
 ·rw[if_neg h1]at h;cases h
theorem ap9{a:F}(h:(rootOf a).2=true):(rootOf a).1*(rootOf a).1=a:=by
 rw[FR]at h ⊢;exact ap8 h
theorem akk(y:F):dd*(y*y)+1≠0:=by
 intro h;have hy:y≠0:=by rintro rfl;exact F.akj (by grobner)
 have hi:=F.inv_mul hy;have h2:=at1
 apply wg (ii*F.inv y)
 generalize F.inv y=v at*
 grobner
theorem awU{y:F}(h:(lR y).2=true):tN (lR y).1 y:=by
 unfold lR ln at h ⊢;rw[if_neg (akk y)]at h ⊢;have h1:=ap9 h;have h2:=F.inv_mul (akk y);generalize (rootOf ((y*y-1)*F.inv (dd*(y*y)+1))).1=x at*;generalize F.inv (dd*(y*y)+1)=v at*;unfold tN
 grobner
def KE(p:E4)(P:Pt):Prop:=p.2.2.1≠0∧p.1=P.x*p.2.2.1∧p.2.1=P.y*p.2.2.1∧p.2.2.2=P.x*P.y*p.2.2.1
theorem An(P:Pt):KE (Du P.x P.y) P:=
 ⟨F.akj,(show P.x=P.x*1 by grobner),(show P.y=P.y*1 by grobner),(show P.x*P.y=P.x*P.y*1 by grobner)⟩
theorem DK:KE nW Pt.zero:=An Pt.zero
theorem aqa{x1 y1 Z1 x2 y2 Z2:F}{A B:F}(h1:tN x1 y1)(h2:tN x2 y2)(hz1:Z1≠0)(hz2:Z2≠0)
  (hA:A*(1+dd*x1*x2*y1*y2)=x1*y2+y1*x2) (hB:B*(1-dd*x1*x2*y1*y2)=y1*y2+x1*x2) {r:E4}
  (hr:wy (x1*Z1,y1*Z1,Z1,x1*y1*Z1) (x2*Z2,y2*Z2,Z2,x2*y2*Z2)=r):r.2.2.1≠0∧r.1=A*r.2.2.1∧r.2.1=B*r.2.2.1∧r.2.2.2=A*B*r.2.2.1:=by
 have d1:=gx h1 h2;have d2:=fv h1 h2;subst hr;unfold wy;simp only[];generalize hD:dd*x1*x2*y1*y2=D at*;have e1:y1*Z1*Z2+y1*Z1*Z2=y1*Z1*Z2+y1*Z1*Z2:=rfl;have eba:(y1*Z1+x1*Z1)*(y2*Z2+x2*Z2)-(y1*Z1-x1*Z1)*(y2*Z2-x2*Z2)=2*(Z1*Z2)*(A*(1+D)):=by rw[hA];grobner
 have ebA:(y1*Z1+x1*Z1)*(y2*Z2+x2*Z2)+(y1*Z1-x1*Z1)*(y2*Z2-x2*Z2)=2*(Z1*Z2)*(B*(1-D)):=by rw[hB];grobner
 have edc:Z1*Z2+Z1*Z2-(x1*y1*Z1*(x2*y2*Z2)*dd+x1*y1*Z1*(x2*y2*Z2)*dd)=2*(Z1*Z2)*(1-D):=by rw[← hD];grobner
 have edC:Z1*Z2+Z1*Z2+(x1*y1*Z1*(x2*y2*Z2)*dd+x1*y1*Z1*(x2*y2*Z2)*dd)=2*(Z1*Z2)*(1+D):=by rw[← hD];grobner
 rw[eba,ebA,edc,edC];have gJ:=F.fJ ajG (F.fJ hz1 hz2);refine⟨F.fJ (F.fJ gJ d2) (F.fJ gJ d1),?_,?_,?_⟩<;>grobner
theorem NU{p:E4}{P:Pt}(h:KE p P):p=(P.x*p.2.2.1,P.y*p.2.2.1,p.2.2.1,P.x*P.y*p.2.2.1):=by
 obtain⟨X,Y,Z,T⟩:=p;obtain⟨_,h1,h2,h3⟩:=h;simp only at h1 h2 h3;rw[h1,h2,h3]
theorem Ao{p q:E4}{P Q:Pt}(hp:KE p P)(hq:KE q Q):KE (wy p q) (P.add Q):=by
 have h:=aqa P.on Q.on hp.1 hq.1 (kr P.on Q.on) (kt P.on Q.on) (r:=wy p q) (by rw[← NU hp,← NU hq]);exact h
theorem X2{p:E4}{P:Pt}(hp:KE p P):KE (ajY p) P.neg:=by
 obtain⟨X,Y,Z,T⟩:=p;obtain⟨h0,h1,h2,h3⟩:=hp;simp only at h0 h1 h2 h3;refine⟨h0,?_,h2,?_⟩
 ·show-X= -P.x*Z
  grobner
 ·show-T= -P.x*P.y*Z
  grobner
theorem at9{p:E4}{P:Pt}(hp:KE p P):p.1*F.inv p.2.2.1=P.x:=by
 obtain⟨h0,h1,_⟩:=hp;have:=F.inv_mul h0;rw[h1];generalize F.inv p.2.2.1=v at*
 grobner
theorem aua{p:E4}{P:Pt}(hp:KE p P):p.2.1*F.inv p.2.2.1=P.y:=by
 obtain⟨h0,_,h2,_⟩:=hp;have:=F.inv_mul h0;rw[h2];generalize F.inv p.2.2.1=v at*
 grobner
theorem Pt.zero_add(p:Pt):Pt.zero.add p=p:=by rw[Pt.add_comm,Pt.add_zero]
def mZ:Nat→Pt→Pt
 |0,_=>Pt.zero
 |n+1,p=>(mZ n p).add p
theorem JF(m n:Nat)(p:Pt):mZ (m+n) p=(mZ m p).add (mZ n p):=by
 induction n with
 |zero=>
  show mZ m p=(mZ m p).add Pt.zero;rw[Pt.add_zero]
 |succ n ih=>rw[← Nat.add_assoc,mZ,mZ,ih,Pt.add_assoc]
theorem aBQ(a b c d:Pt):(a.add b).add (c.add d)=(a.add c).add (b.add d):=by
 rw[Pt.add_assoc,Pt.add_assoc,← Pt.add_assoc b,Pt.add_comm b c,Pt.add_assoc c]
theorem akl(n:Nat)(p q:Pt):mZ n (p.add q)=(mZ n p).add (mZ n q):=by
 induction n with
 |zero=>
  show Pt.zero=Pt.zero.add Pt.zero;rw[Pt.add_zero]
 |succ n ih=>rw[mZ,mZ,mZ,ih,aBQ]
theorem akm(n:Nat):mZ n Pt.zero=Pt.zero:=by
 induction n with
 |zero=>rfl
 |succ n ih=>rw[mZ,ih,Pt.add_zero]
theorem akn{a b c:Pt}(h:a.add b=a.add c):b=c:=by
 have:a.neg.add (a.add b)=a.neg.add (a.add c):=by rw[h]
 rwa [← Pt.add_assoc,← Pt.add_assoc,Pt.add_comm a.neg,Pt.add_neg,Pt.zero_add,Pt.zero_add]at this
theorem aqb(n:Nat)(p:Pt):mZ n p.neg=(mZ n p).neg:=by
 apply akn (a:=mZ n p)
 rw[← akl,Pt.add_neg,Pt.add_neg,akm]
end BJ
namespace Go.Proofs.YtnbkagglkajbkaaGreat
open Go Go.Ev Go.Proofs.Tryz
open Go.IntKind (i64 signed u16 u64 wrap)
set_option maxRecDepth 1000000
noncomputable section
variable (bit:cR→Nat→Int) (zero:Pn) (abt:Fn) (add:Fn→Fn→Fn) (Nv:Pn→Pn→Fn→Pn)
def r8(n:cR)(p:Pn)(d:Fn)(i:Int)(q:Pn):Pn:=FG (bit n i.toNat==1) (Nv (Nv q q d) p d) (Nv q q d)
def X3(n:cR)(p:Pn):Pn:=gw (fun k q=>r8 bit Nv n p (add abt abt) (255-(k:Int)) q) 256 zero
end
noncomputable section
variable (decode:cR→Pt×Bool) (base:Pt) (double:Pt→Pt)
end
noncomputable section
variable (decode:cR→Pt×Bool) (base:Pt) (double:Pt→Pt) (aqc:cR→Pn×Bool) (aIe:Pn) (aBR:Pn→Pn→Pn)
end
end Go.Proofs.YtnbkagglkajbkaaGreat
namespace Go.Proofs.YtnbkagglkajbkaaGreat
open Go Go.Ev BJ Go.Proofs.Tryz
open Go.IntKind (i64 signed u16 u64 wrap)
set_option maxRecDepth 1000000
def wM(a b:Fn):Bool:=jh a b 16
def DL:cR→Pn→Pn:=X3 mU gA dx fW cM
end Go.Proofs.YtnbkagglkajbkaaGreat
namespace Go.Ev
open Go
open Go.IntKind (i64 signed u16 u64 wrap)
end Go.Ev
namespace Go.Proofs.YtnbkagglkajbkaaGreat
open Go Go.Ev BJ Go.Proofs.Tryz
open Go.IntKind (i64 signed u16 u64 wrap)
set_option maxRecDepth 1000000
noncomputable section
variable (at2:cR→Pt×Pn) (zero:Pt) (add:Pt→Pt→Pt) (neg double:Pt→Pt) (equal:Pt→Pt→Bool) (encode:Pt→cR)
end
noncomputable section
variable (at2:cR→Pt×Pn) (decode:cR→Pt×Bool) (add:Pt→Pt→Pt) (neg double:Pt→Pt) (equal:Pt→Pt→Bool) (encode:Pt→cR) (aqc:cR→Pn×Bool) (aBR:Pn→Pn→Pn) (aIf:Pn→Pn) (aF7:Pn→Pn→Bool) (aDS:Pn→cR)
end
noncomputable section
variable (zero:Pt) (decode:cR→Pt×Bool) (neg double:Pt→Pt) (equal:Pt→Pt→Bool)
end
end Go.Proofs.YtnbkagglkajbkaaGreat
namespace Go.Proofs.YtnbkagglkajbkaaGreat
open Go Go.Ev BJ Go.Proofs.Tryz
open Go.IntKind (i64 signed u16 u64 wrap)
theorem awV(b:cR):∃P:BJ.Pt,KE (NH b).1 P:=by
 unfold NH;simp only[]
 by_cases h:(lR (cG (bx b%fU))).2=true∧bx b%fU<(pp:Int)∧¬(128≤b.get 31∧(lR (cG (bx b%fU))).1=0)
 ·rw[if_pos h];have ho:=awU h.1;generalize (lR (cG (bx b%fU))).1=X at*;generalize cG (bx b%fU)=Y at*
  by_cases h2:128≤b.get 31
  ·rw[if_pos h2];have ho':tN (-X) Y:=(by unfold tN at*;grobner);exact⟨⟨-X,Y,ho'⟩,An ⟨-X,Y,ho'⟩⟩
  ·rw[if_neg h2];exact⟨⟨X,Y,ho⟩,An ⟨X,Y,ho⟩⟩
 ·rw[if_neg h];exact⟨_,DK⟩
theorem aqd:tN XX NO:=by unfold tN;decide+kernel
def lS:BJ.Pt:=⟨XX,NO,aqd⟩
theorem NV:KE Dv lS:=by
 rw[akd];exact An lS
structure NW (p:Pt) (P:BJ.Pt):Prop where
 ok:yi p
 is:KE (XO p) P
theorem ako:NW gk BJ.Pt.zero:=⟨XZ.1,by rw[XZ.2];exact DK⟩
theorem NX:NW ic lS:=⟨XY.1,by rw[XY.2];exact NV⟩
theorem wN{p q:Pt}{P Q:BJ.Pt}(hp:NW p P)(hq:NW q Q):NW (er p q) (P.add Q):=by
 obtain⟨h1,_,h3⟩:=awQ hp.ok hq.ok;exact⟨h1,by rw[h3];exact Ao hp.is hq.is⟩
theorem TX{p:Pt}{P:BJ.Pt}(hp:NW p P):NW (dS p) (P.add P):=wN hp hp
theorem aqe{p:Pt}{P:BJ.Pt}(hp:NW p P):NW (nX p) P.neg:=by
 obtain⟨h1,_,h3⟩:=awR hp.ok;exact⟨h1,by rw[h3];exact X2 hp.is⟩
def aqf(P:BJ.Pt):cR:=if P.x.val%2=1 then Jx (dR P.y)else dR P.y
theorem aqg{p:Pt}{P:BJ.Pt}(hp:NW p P):wB p=aqf P:=by
 rw[abz hp.ok];unfold apY aqf;rw[at9 hp.is,aua hp.is]
end Go.Proofs.YtnbkagglkajbkaaGreat
namespace Go.Proofs.YtnbkagglkajbkaaGreat
open Go Go.Ev BJ Go.Proofs.Tryz
open Go.IntKind (i64 signed u16 u64 wrap)
theorem akp{V:Nat}(hV:V<2 ^ 256){p:E4}{P:BJ.Pt}(hp:KE p P):KE (aj2 V p) (mZ V P):=by
 have key:∀k,k≤256→KE (gw (tC V p) k nW) (mZ (V/2 ^ (256-k)) P):=by
  intro k
  induction k with
  |zero=>
   intro _;rw[Nat.sub_zero,Nat.div_eq_of_lt hV];exact DK
  |succ k ih=>
   intro hk;have h:=ih (by omega);show KE (tC V p k (gw (tC V p) k nW)) _
   have hdiv:V/2 ^ (256-k)=V/2 ^ (256-(k+1))/2:=by
    rw[Nat.div_div_eq_div_mul,← Nat.pow_succ];congr 2;omega
   rw[hdiv]at h;unfold tC abB;rw[show 255-k=256-(k+1)from by omega];generalize V/2 ^ (256-(k+1))=M at*;have h2:=Ao h h;rw[← JF]at h2
   by_cases hb:M%2=1
   ·rw[decide_eq_true hb,if_pos rfl];have h3:=Ao h2 hp
    have e:(mZ (M/2+M/2) P).add P=mZ M P:=by
     have:M=(M/2+M/2)+1:=by omega
     conv=>rhs;rw[this]
     rfl
    rw[e]at h3;exact h3
   ·rw[decide_eq_false hb,if_neg (by simp)];rw[show M/2+M/2=M from by omega]at h2;exact h2
 have:=key 256 (by omega);rw[Nat.sub_self,Nat.pow_zero,Nat.div_one]at this;exact this
theorem TY{n:cR}(h:m8 n):(bx n).toNat<2 ^ 256:=by
 have h1:=mA h;have h0:=cH h;have ajV:(256 ^ 32:Nat)=2 ^ 256:=by rw[show(256:Nat)=2 ^ 8 from rfl,← Nat.pow_mul]
 rw[ajV]at h1;omega
theorem akq{n:cR}(hn:m8 n)(p:E4):DL n (pn p)=pn (aj2 (bx n).toNat p):=by
 have hd:fW dx dx=aZ (dd+dd):=by rw[yr,wH]
 have key:∀k,k≤256→gw (fun k q=>r8 mU cM n (pn p) (fW dx dx) (255-(k:Int)) q) k gA=pn (gw (tC (bx n).toNat p) k nW):=by
  intro k
  induction k with
  |zero=>intro _;exact NS
  |succ k ih=>
   intro hk;simp only[gw];rw[ih (by omega)];unfold r8 tC;rw[hd,yu,yu,show(255-(k:Int)).toNat=255-k from by omega,X0 hn (by omega),yk hn (by omega),yq]
 exact key 256 (by omega)
end Go.Proofs.YtnbkagglkajbkaaGreat
namespace Go.Proofs.YtnbkagglkajbkaaGreat
open Go Go.Ev BJ Go.Proofs.Tryz
open Go.IntKind (i64 signed u16 u64 wrap)
set_option maxRecDepth 1000000
noncomputable section
variable (alive:Unit) (mult:cR→Pt→Pt) (aIg:cR→Pt) (base zero:Pt) (double neg:Pt→Pt) (equal:Pt→Pt→Bool) (aKw:cR→Pt) (add:Pt→Pt→Pt) (half:cR→cR) (plus:cR→cR→cR) (aKx:cR→Pt→cR→Pt)
end
end Go.Proofs.YtnbkagglkajbkaaGreat
namespace Go.Proofs.YtnbkagglkajbkaaGreat
open Go Go.Ev Go.Proofs.Tryz
open Go.IntKind (i64 signed u16 u64 wrap)
set_option maxRecDepth 1000000
noncomputable section
variable (bit:cR→Nat→Int) (zero base:Pt) (double:Pt→Pt) (abu:Pt→Pt→Pt)
def DM(z:Int): {n:Nat}→List (Vec Int n)→Vec Int n
 |0,_=>()
 |_+1,l=>((l.map (·.1)).getD z.toNat 0,DM z (l.map (·.2)))
def yw(z:Int)(l:List Pt):Pt:=((l.map (·.1)).getD z.toNat false,DM z (l.map (·.2.1)),DM z (l.map (·.2.2.1)),DM z (l.map (·.2.2.2.1)),DM z (l.map (·.2.2.2.2)))
def aqh(a b c d:Pt):Vec Pt 4:=(a,b,c,d,())
def aqi(a b:cR)(i:Int):Int:=w (bit a i.toNat+w (2*bit b i.toNat))
def sa(a b:cR)(l:Vec Pt 4)(i:Int)(r:Pt):Pt:=Nu (decide (aqi bit a b i>0)) (abu (double r) (yw (aqi bit a b i) l.toList)) (double r)
def aub(a:cR)(p:Pt)(b:cR):Pt:=gw (fun k r=>sa bit double abu a b (aqh zero p base (abu p base)) (255-(k:Int)) r) 256 zero
end
end Go.Proofs.YtnbkagglkajbkaaGreat
namespace Go.Proofs.YtnbkagglkajbkaaGreat
open Go Go.Ev BJ Go.Proofs.Tryz
open Go.IntKind (i64 signed u16 u64 wrap)
theorem akr{e:cR}(_k:Nat):mw e _k=0∨mw e _k=1:=by
 unfold mw;rw[sY (m:=1) (by decide) _ 1 (by decide)];have h:=Int.emod_nonneg (shr .u8 (e.get (_k/8)) ((_k%8:Nat):Int)) (b:=((2 ^ 1:Nat):Int)) (by decide);have h2:=Int.emod_lt_of_pos (shr .u8 (e.get (_k/8)) ((_k%8:Nat):Int)) (b:=((2 ^ 1:Nat):Int)) (by decide);generalize (shr .u8 (e.get (_k/8)) ((_k%8:Nat):Int))%((2 ^ 1:Nat):Int)=x at*;have h3:((2 ^ 1:Nat):Int)=2:=by decide
 rw[h3]at h2;rw[wrap_i64 (by omega) (by omega)];omega
def aks:cR→Pt→cR→Pt:=aub mw gk ic dS er
theorem nY(z:Nat):∀ {n:Nat} (l:List (Vec Int n)) (v:Vec Int n),l[z]? =some v→DM (z:Int) l=v
 |0,_,_,_=>rfl
 |n+1,l,v,h=>by
  have h1:(l.map (·.1))[z]? =some v.1:=by rw[List.getElem?_map,h];rfl
  have h2:(l.map (·.2))[z]? =some v.2:=by rw[List.getElem?_map,h];rfl
  show((l.map (·.1)).getD ((z:Int)).toNat 0,DM (z:Int) (l.map (·.2)))=v;rw[nY z _ _ h2,Int.toNat_natCast,List.getD_eq_getElem?_getD,h1];rfl
theorem tG(z:Nat)(l:List Pt)(v:Pt)(h:l[z]? =some v):yw (z:Int) l=v:=by
 have hm:∀ {α:Type} (f:Pt→α),(l.map f)[z]? =some (f v):=fun f=>by rw[List.getElem?_map,h];rfl
 unfold yw;rw[Int.toNat_natCast,List.getD_eq_getElem?_getD,hm,nY z _ _ (hm _),nY z _ _ (hm _),nY z _ _ (hm _),nY z _ _ (hm _)];rfl
theorem NY(V:Nat)(k:Nat)(hk:k<256)(e:cR)(he:m8 e)(hV:V=(bx e).toNat):mw e (255-(k:Int)).toNat=((V/2 ^ (256-(k+1))%2:Nat):Int):=by
 have h1:=yk he (i:=(255-(k:Int)).toNat) (by omega);have e1:(255-(k:Int)).toNat=256-(k+1):=by omega
 rw[e1]at h1 ⊢;unfold abB at h1;rw[← hV]at h1;generalize V/2 ^ (256-(k+1))=M at*;rcases akr (e:=e) (256-(k+1))with h|h
 ·rw[h]at h1 ⊢;have:¬M%2=1:=fun h'=>by rw[decide_eq_true h']at h1;cases h1
  omega
 ·rw[h]at h1 ⊢
  have:M%2=1:=by
   refine Classical.byContradiction fun h'=>?_;rw[decide_eq_false h']at h1;cases h1
  omega
theorem wO(n:Nat)(P:BJ.Pt):(mZ (n+1) P)=(mZ n P).add P:=rfl
theorem NZ(a b c d:BJ.Pt):((a.add b).add (c.add d))=(a.add c).add (b.add d):=aBQ a b c d
theorem aqj{a b:cR}{p:Pt}{P:BJ.Pt}(ha:m8 a)(hb:m8 b)(hp:NW p P):NW (aks a p b) ((mZ (bx a).toNat P).add (mZ (bx b).toNat lS)):=by
 have key:∀k,k≤256→NW (gw (fun k r=>sa mw dS er a b (aqh gk p ic (er p ic)) (255-(k:Int)) r) k gk) ((mZ ((bx a).toNat/2 ^ (256-k)) P).add (mZ ((bx b).toNat/2 ^ (256-k)) lS)):=by
  intro k
  induction k with
  |zero=>
   intro _;rw[Nat.sub_zero,Nat.div_eq_of_lt (TY ha),Nat.div_eq_of_lt (TY hb)]
   have e:(mZ 0 P).add (mZ 0 lS)=BJ.Pt.zero:=by
    show BJ.Pt.zero.add BJ.Pt.zero=_;rw[BJ.Pt.add_zero]
   rw[e];exact ako
  |succ k ih=>
   intro hk;have h:=ih (by omega);simp only[gw];generalize gw (fun k r=>sa mw dS er a b (aqh gk p ic (er p ic)) (255-(k:Int)) r) k gk=r at*
   have hdiv:∀V:Nat,V/2 ^ (256-k)=V/2 ^ (256-(k+1))/2:=fun V=>by
    rw[Nat.div_div_eq_div_mul,← Nat.pow_succ];congr 2;omega
   rw[hdiv,hdiv]at h;have b1:=NY _ k (by omega) a ha rfl;have b2:=NY _ k (by omega) b hb rfl;unfold sa aqi;rw[b1,b2];generalize (bx a).toNat/2 ^ (256-(k+1))=A at*;generalize (bx b).toNat/2 ^ (256-(k+1))=B at*;have hd:=TX h;rw[NZ,← JF,← JF]at hd;have hA:A%2=0∨A%2=1:=(by omega);have hB:B%2=0∨B%2=1:=(by omega);rcases hA with hA|hA<;>rcases hB with hB|hB<;>rw[hA,hB]
   ·have e1:A/2+A/2=A:=(by omega);have e2:B/2+B/2=B:=(by omega);have e3:w (((0:Nat):Int)+w (2*((0:Nat):Int)))=0:=(by decide);rw[e1,e2]at hd;rw[e3,jg];exact hd
   ·have e1:A/2+A/2=A:=(by omega);have e2:B=B/2+B/2+1:=(by omega);have e3:w (((0:Nat):Int)+w (2*((1:Nat):Int)))=((2:Nat):Int):=(by decide);have hs:=wN hd NX;rw[e1,BJ.Pt.add_assoc]at hs;rw[e3,jg,tG 2 _ ic rfl];have e4:mZ B lS=(mZ (B/2+B/2) lS).add lS:=(by rw[← wO,← e2]);rw[e4];exact hs
   ·have e1:A=A/2+A/2+1:=(by omega);have e2:B/2+B/2=B:=(by omega);have e3:w (((1:Nat):Int)+w (2*((0:Nat):Int)))=((1:Nat):Int):=(by decide);have hs:=wN hd hp;have e5:∀x y z:BJ.Pt,(x.add y).add z=(x.add z).add y:=fun x y z=>(by rw[BJ.Pt.add_assoc,BJ.Pt.add_comm y z,← BJ.Pt.add_assoc]);rw[e2,e5]at hs;rw[e3,jg,tG 1 _ p rfl];have e4:mZ A P=(mZ (A/2+A/2) P).add P:=(by rw[← wO,← e1]);rw[e4];exact hs
   ·have e1:A=A/2+A/2+1:=(by omega);have e2:B=B/2+B/2+1:=(by omega);have e3:w (((1:Nat):Int)+w (2*((1:Nat):Int)))=((3:Nat):Int):=(by decide);have hs:=wN hd (wN hp NX);rw[NZ]at hs;rw[e3,jg,tG 3 _ (er p ic) rfl];have e4:mZ A P=(mZ (A/2+A/2) P).add P:=(by rw[← wO,← e1]);have e5:mZ B lS=(mZ (B/2+B/2) lS).add lS:=(by rw[← wO,← e2]);rw[e4,e5];exact hs
 have:=key 256 (by omega);rw[Nat.sub_self,Nat.pow_zero,Nat.div_one,Nat.div_one]at this;exact this
end Go.Proofs.YtnbkagglkajbkaaGreat
end
noncomputable section
namespace Go.Proofs.YtnbkagglkajbkaaGreat
open Go Go.Ev BJ Go.Proofs.Tryz
open Go.IntKind (i64 signed u16 u64 wrap)
set_option maxRecDepth 1000000
abbrev m5:aM LV Fe:=zh (ju .u64 5)
abbrev cB:aM LV (List Int):=uA .u8 32
abbrev aqk(b:cR):LV:=dO .u8 32 b.toList
abbrev TZ:aM (List LV) (Int×Unit):=ae (ah (aA .u64)) ag
abbrev tH:aM (List LV) (Fe×Unit):=ae m5 ag
abbrev nZ:aM (List LV) (Fe×Fe×Unit):=ae m5 (ae m5 ag)
abbrev kL:aM (List LV) (List Int×Unit):=ae cB ag
abbrev kK:List Wk:= [.fr [.sym],.auto]
abbrev kR:List Wk:= [.fr [.sym],.gK 0 0 32 .u8,.auto]
def wP:an:=an.cl [] (tH) (ag) fun x_ y_=>(fun(x:Fe)=>.leaf none (m5.wr (cD x)) []) x_.1
theorem N0(x:Fe):aG Tryz.prog [] [] f270 ((tH).wr (x,())) ((ag).wr ()) [.fr [.sym],.auto]= .leaf (m5.wr (cD x)) ([]):=by kernel_rfl
theorem sd:wP.Ok Tryz.prog 270:=by
 refine(an.aN call270 fun x_ y_ Q H_=>?_).sym;obtain⟨x,_⟩:=x_;have hq:=H_.2;refine(ar mixed ax func270 rfl (LT:= []) (ks:= [.fr [.sym],.auto]) (aH.nil _)).use (D:= []) ?_ hq;show(aG _ _ _ _ ((tH).wr (x,())) ((ag).wr ()) _).sat _;rw[N0];exact⟨rfl,rfl⟩
def JG:an:=an.cl [] (TZ) (ag) fun x_ y_=>(fun(n:Int)=>.leaf none (m5.wr (a6 n)) []) x_.1
theorem N1(n:Int):aG Tryz.prog [] [] f194 ((TZ).wr (n,())) ((ag).wr ()) [.fr [.sym],.auto]= .leaf (m5.wr (a6 n)) ([]):=by kernel_rfl
theorem FU:JG.Ok Tryz.prog 194:=by
 refine(an.aN call194 fun x_ y_ Q H_=>?_).sym;obtain⟨n,_⟩:=x_;have hq:=H_.2;refine(ar mixed ax func194 rfl (LT:= []) (ks:= [.fr [.sym],.auto]) (aH.nil _)).use (D:= []) ?_ hq;show(aG _ _ _ _ ((TZ).wr (n,())) ((ag).wr ()) _).sat _;rw[N1];exact⟨rfl,rfl⟩
def auc:an:=an.cl [] (nZ) (ag) fun x_ y_=>(fun(x y:Fe)=>.leaf none (m5.wr (kJ x y)) []) x_.1 x_.2.1
theorem abO(x y:Fe):aG Tryz.prog [(270,wP)] [] f266 ((nZ).wr (x,y,())) ((ag).wr ()) [.fr [.sym],.auto]= .leaf (m5.wr (kJ x y)) ([]):=by kernel_rfl
theorem aql:auc.Ok Tryz.prog 266:=by
 refine(an.aN call266 fun x_ y_ Q H_=>?_).sym;obtain⟨x,y,_⟩:=x_;have hq:=H_.2;refine(ar mixed ((aj sd ax)) func266 rfl (LT:= []) (ks:= [.fr [.sym],.auto]) (aH.nil _)).use (D:= []) ?_ hq;show(aG _ _ _ _ ((nZ).wr (x,y,())) ((ag).wr ()) _).sat _;rw[abO];exact⟨rfl,rfl⟩
def akt:an:=an.cl [] (nZ) (ag) fun x_ y_=>(fun(x y:Fe)=>.leaf none (m5.wr (l6 x y)) []) x_.1 x_.2.1
theorem abP(x y:Fe):aG Tryz.prog [(270,wP)] [] f265 ((nZ).wr (x,y,())) ((ag).wr ()) [.fr [.sym],.auto]= .leaf (m5.wr (l6 x y)) ([]):=by kernel_rfl
theorem X4:akt.Ok Tryz.prog 265:=by
 refine(an.aN call265 fun x_ y_ Q H_=>?_).sym;obtain⟨x,y,_⟩:=x_;have hq:=H_.2;refine(ar mixed ((aj sd ax)) func265 rfl (LT:= []) (ks:= [.fr [.sym],.auto]) (aH.nil _)).use (D:= []) ?_ hq;show(aG _ _ _ _ ((nZ).wr (x,y,())) ((ag).wr ()) _).sat _;rw[abP];exact⟨rfl,rfl⟩
def aud:an:=an.cl [] (tH) (ag) fun x_ y_=>(fun(x:Fe)=>.leaf none (m5.wr (lQ x)) []) x_.1
theorem abQ(x:Fe):aG Tryz.prog [(265,akt)] [] f298 ((tH).wr (x,())) ((ag).wr ()) [.fr [.sym],.auto]= .leaf (m5.wr (lQ x)) ([]):=by kernel_rfl
theorem aqm:aud.Ok Tryz.prog 298:=by
 refine(an.aN call298 fun x_ y_ Q H_=>?_).sym;obtain⟨x,_⟩:=x_;have hq:=H_.2;refine(ar mixed ((aj X4 ax)) func298 rfl (LT:= []) (ks:= [.fr [.sym],.auto]) (aH.nil _)).use (D:= []) ?_ hq;show(aG _ _ _ _ ((tH).wr (x,())) ((ag).wr ()) _).sat _;rw[abQ];exact⟨rfl,rfl⟩
def awW:an:=an.cl [] ((ae (ah (aA .u64)) (ae (ah (aA .u64)) ag))) (ag) fun x_ y_=>(fun(x y:Int)=>.leaf none (.cj [.sc (.int .u64 (.sym (bV x y).1)),.sc (.int .u64 (.sym (bV x y).2))]) []) x_.1 x_.2.1
theorem T0(x y:Int):aG Tryz.prog [] [] f200 (((ae (ah (aA .u64)) (ae (ah (aA .u64)) ag))).wr (x,y,())) ((ag).wr ()) [.fr [.sym],.auto]= .leaf (.cj [.sc (.int .u64 (.sym (bV x y).1)),.sc (.int .u64 (.sym (bV x y).2))]) ([]):=by kernel_rfl
theorem aku:awW.Ok Tryz.prog 200:=by
 refine(an.aN call200 fun x_ y_ Q H_=>?_).sym;obtain⟨x,y,_⟩:=x_;have hq:=H_.2;refine(ar mixed ax func200 rfl (LT:= []) (ks:= [.fr [.sym],.auto]) (aH.nil _)).use (D:= []) ?_ hq;show(aG _ _ _ _ (((ae (ah (aA .u64)) (ae (ah (aA .u64)) ag))).wr (x,y,())) ((ag).wr ()) _).sat _;rw[T0];exact⟨rfl,rfl⟩
def T1:an:=an.cl [] (kL) (ag) fun x_ y_=>(fun(b:List Int)=>.leaf none (m5.wr (gy (kP b))) []) x_.1
theorem T2(b:List Int):aG Tryz.prog [] [] f295 ((kL).wr (b,())) ((ag).wr ()) [.fr [.sym],.auto]= .leaf (m5.wr (gy (kP b))) ([]):=by kernel_rfl
theorem N2:T1.Ok Tryz.prog 295:=by
 refine(an.aN call295 fun x_ y_ Q H_=>?_).sym;obtain⟨b,_⟩:=x_;have hq:=H_.2;refine(ar mixed ax func295 rfl (LT:= []) (ks:= [.fr [.sym],.auto]) (aH.nil _)).use (D:= []) ?_ hq;show(aG _ _ _ _ ((kL).wr (b,())) ((ag).wr ()) _).sat _;rw[T2];exact⟨rfl,rfl⟩
def X5:an:=an.cl [] (tH) (ag) fun x_ y_=>(fun(x:Fe)=>.leaf none (m5.wr (aj3 x)) []) x_.1
theorem N3(x:Fe):aG Tryz.prog [(270,wP)] [] f199 ((tH).wr (x,())) ((ag).wr ()) [.fr [.sym],.auto]= .leaf (m5.wr (aj3 x)) ([]):=by kernel_rfl
theorem abR:X5.Ok Tryz.prog 199:=by
 refine(an.aN call199 fun x_ y_ Q H_=>?_).sym;obtain⟨x,_⟩:=x_;have hq:=H_.2;refine(ar mixed ((aj sd ax)) func199 rfl (LT:= []) (ks:= [.fr [.sym],.auto]) (aH.nil _)).use (D:= []) ?_ hq;show(aG _ _ _ _ ((tH).wr (x,())) ((ag).wr ()) _).sat _;rw[N3];exact⟨rfl,rfl⟩
def wQ:an:=an.cl [] (tH) (ag) fun x_ y_=>(fun(x:Fe)=>.leaf none (aqk (ee x)) []) x_.1
theorem N4(x:Fe):aG Tryz.prog [(199,X5)] [] f136 ((tH).wr (x,())) ((ag).wr ()) kR= .leaf (aqk (ee x)) ([]):=by kernel_rfl
theorem se:wQ.Ok Tryz.prog 136:=by
 refine(an.aN call136 fun x_ y_ Q H_=>?_).sym;obtain⟨x,_⟩:=x_;have hq:=H_.2;refine(ar mixed ((aj abR ax)) func136 rfl (LT:= []) (ks:=kR) (aH.nil _)).use (D:= []) ?_ hq;show(aG _ _ _ _ ((tH).wr (x,())) ((ag).wr ()) _).sat _;rw[N4];exact⟨rfl,rfl⟩
abbrev awX:an:=(nR bU).sym
theorem N5:awX.Ok Tryz.prog 201:=(TB func201 (by kernel_rfl) (by kernel_rfl) (by kernel_rfl) (by kernel_rfl) rfl).sym
def aue(m:Int→Int→Int×Int):an:=an.cl [] (ae (ah (aA .u64)) (ae (ah (aA .u64)) ag)) ag fun x _=>.leaf none (.cj [.sc (.int .u64 (.sym (m x.1 x.2.1).1)),.sc (.int .u64 (.sym (m x.1 x.2.1).2))]) []
abbrev qV(o:Nat):aM (List LV) (Int×Int×Unit):=ai (ah (aC 0 o)) (ae (ah (aA .u64)) (ae (ah (aA .u64)) ag))
abbrev qW:aM Hp (Vec Int 10×Unit):=ae (dH 341 (ju .u64 10)) ag
noncomputable section
variable (m:Int→Int→Int×Int) (a:Int→Int→Int→Int×Int)
def mD(k:Nat)(x y:Int)(v:Vec Int 10):Int×Int:=a (v.get (2*k+1)) (m x y).2 0
def qX(k:Nat)(x y:Int)(v:Vec Int 10):Vec Int 10:=Vec.oa (fun _=>(mD m a k x y v).1) (2*k+1) (Vec.oa (fun _=>(a (v.get (2*k)) (m x y).1 (mD m a k x y v).2).1) (2*k) v)
def sK(k:Nat):an:=an.cl [] (qV (2*k)) qW fun x h=>.leaf (some (0≤(mD m a k x.1 x.2.1 h.1).2∧(mD m a k x.1 x.2.1 h.1).2≤1)) (.cj []) [(0,.aW ((ju .u64 10).wr (qX m a k x.1 x.2.1 h.1)) 341)]
abbrev oS:List (FuncId×an):= [(200,aue m),(201,(nR a).sym)]
abbrev sL:List Wk:= [.aW 0 (List.replicate 10 .sym),.auto]
theorem T3(x y:Int)(v:Vec Int 10):aG Tryz.prog (oS m a) [] f269 ((qV 0).wr (x,y,())) (qW.wr (v,())) sL=
  .need (0≤(0:Int)∧(0:Int)≤1) (.need (0≤(mD m a 0 x y v).2∧(mD m a 0 x y v).2≤1) (.leaf (.cj []) [some (.aW ((ju .u64 10).wr (qX m a 0 x y v)) 341)])):=by kernel_rfl
theorem T4(x y:Int)(v:Vec Int 10):aG Tryz.prog (oS m a) [] f269 ((qV 2).wr (x,y,())) (qW.wr (v,())) sL=
  .need (0≤(0:Int)∧(0:Int)≤1) (.need (0≤(mD m a 1 x y v).2∧(mD m a 1 x y v).2≤1) (.leaf (.cj []) [some (.aW ((ju .u64 10).wr (qX m a 1 x y v)) 341)])):=by kernel_rfl
theorem T5(x y:Int)(v:Vec Int 10):aG Tryz.prog (oS m a) [] f269 ((qV 4).wr (x,y,())) (qW.wr (v,())) sL=
  .need (0≤(0:Int)∧(0:Int)≤1) (.need (0≤(mD m a 2 x y v).2∧(mD m a 2 x y v).2≤1) (.leaf (.cj []) [some (.aW ((ju .u64 10).wr (qX m a 2 x y v)) 341)])):=by kernel_rfl
theorem T6(x y:Int)(v:Vec Int 10):aG Tryz.prog (oS m a) [] f269 ((qV 6).wr (x,y,())) (qW.wr (v,())) sL=
  .need (0≤(0:Int)∧(0:Int)≤1) (.need (0≤(mD m a 3 x y v).2∧(mD m a 3 x y v).2≤1) (.leaf (.cj []) [some (.aW ((ju .u64 10).wr (qX m a 3 x y v)) 341)])):=by kernel_rfl
theorem T7(x y:Int)(v:Vec Int 10):aG Tryz.prog (oS m a) [] f269 ((qV 8).wr (x,y,())) (qW.wr (v,())) sL=
  .need (0≤(0:Int)∧(0:Int)≤1) (.need (0≤(mD m a 4 x y v).2∧(mD m a 4 x y v).2≤1) (.leaf (.cj []) [some (.aW ((ju .u64 10).wr (qX m a 4 x y v)) 341)])):=by kernel_rfl
variable (hm:∀p∈oS m a,p.2.Ok Tryz.prog p.1)
include hm
theorem akv:(sK m a 0).Ok Tryz.prog 269:=by
 refine(an.aN call269 fun x_ y_ Q H_=>?_).sym;obtain⟨x,y,_⟩:=x_;obtain⟨v,_⟩:=y_;obtain⟨hn,hq⟩:=H_;refine(ar mixed hm func269 rfl (LT:= []) (ks:=sL) (aH.nil _)).use (D:= [(0,.aW ((ju .u64 10).wr (qX m a 0 x y v)) 341)]) ?_ hq;show(aG _ _ _ _ ((qV 0).wr (x,y,())) (qW.wr (v,())) _).sat _;rw[T3];exact⟨by decide,hn,rfl,rfl⟩
theorem akw:(sK m a 1).Ok Tryz.prog 269:=by
 refine(an.aN call269 fun x_ y_ Q H_=>?_).sym;obtain⟨x,y,_⟩:=x_;obtain⟨v,_⟩:=y_;obtain⟨hn,hq⟩:=H_;refine(ar mixed hm func269 rfl (LT:= []) (ks:=sL) (aH.nil _)).use (D:= [(0,.aW ((ju .u64 10).wr (qX m a 1 x y v)) 341)]) ?_ hq;show(aG _ _ _ _ ((qV 2).wr (x,y,())) (qW.wr (v,())) _).sat _;rw[T4];exact⟨by decide,hn,rfl,rfl⟩
theorem akx:(sK m a 2).Ok Tryz.prog 269:=by
 refine(an.aN call269 fun x_ y_ Q H_=>?_).sym;obtain⟨x,y,_⟩:=x_;obtain⟨v,_⟩:=y_;obtain⟨hn,hq⟩:=H_;refine(ar mixed hm func269 rfl (LT:= []) (ks:=sL) (aH.nil _)).use (D:= [(0,.aW ((ju .u64 10).wr (qX m a 2 x y v)) 341)]) ?_ hq;show(aG _ _ _ _ ((qV 4).wr (x,y,())) (qW.wr (v,())) _).sat _;rw[T5];exact⟨by decide,hn,rfl,rfl⟩
theorem aky:(sK m a 3).Ok Tryz.prog 269:=by
 refine(an.aN call269 fun x_ y_ Q H_=>?_).sym;obtain⟨x,y,_⟩:=x_;obtain⟨v,_⟩:=y_;obtain⟨hn,hq⟩:=H_;refine(ar mixed hm func269 rfl (LT:= []) (ks:=sL) (aH.nil _)).use (D:= [(0,.aW ((ju .u64 10).wr (qX m a 3 x y v)) 341)]) ?_ hq;show(aG _ _ _ _ ((qV 6).wr (x,y,())) (qW.wr (v,())) _).sat _;rw[T6];exact⟨by decide,hn,rfl,rfl⟩
theorem akz:(sK m a 4).Ok Tryz.prog 269:=by
 refine(an.aN call269 fun x_ y_ Q H_=>?_).sym;obtain⟨x,y,_⟩:=x_;obtain⟨v,_⟩:=y_;obtain⟨hn,hq⟩:=H_;refine(ar mixed hm func269 rfl (LT:= []) (ks:=sL) (aH.nil _)).use (D:= [(0,.aW ((ju .u64 10).wr (qX m a 4 x y v)) 341)]) ?_ hq;show(aG _ _ _ _ ((qV 8).wr (x,y,())) (qW.wr (v,())) _).sat _;rw[T7];exact⟨by decide,hn,rfl,rfl⟩
omit hm
def X6:an:=(sK m a 0).or ((sK m a 1).or ((sK m a 2).or ((sK m a 3).or (sK m a 4))))
def akA(l:List Prop)(e:Ev.End):Ev.End:=l.foldr Ev.End.need e
theorem DN{R:LV→Hp→Prop}:∀ {l:List Prop} {e:Ev.End},(∀p∈l,p)→e.sat R→(akA l e).sat R
 | [],_,_,h=>h
 |p::l,e,hl,h=>⟨hl p (by simp),DN (fun q hq=>hl q (by simp[hq])) h⟩
theorem abS(x y:Fe):aG Tryz.prog [(269,X6 m a),(270,wP)] [] f193 (nZ.wr (x,y,())) [] kK=
  akA (Dk m a x y) (Ev.End.leaf (m5.wr (tx m a cD x y)) []):=by kernel_rfl
end
theorem akB:(aue bV).Ok Tryz.prog 200:=aku
theorem lT:∀p∈oS bV bU,p.2.Ok Tryz.prog p.1:=aj akB (aj N5 ax)
theorem T8:(X6 bV bU).Ok Tryz.prog 269:=(akv bV bU lT).or ((akw bV bU lT).or ((akx bV bU lT).or ((aky bV bU lT).or (akz bV bU lT))))
theorem abT(x y:Fe):∀p∈Dk bV bU x y,p:=wC x y fS _ fun k=>by
 have:([(0,0),(0,0),(0,0),(0,0),(0,0)]:List (Int×Int)).getD k (0,0)=(0,0):=by
  match k with
  |0=>rfl
  |1=>rfl
  |2=>rfl
  |3=>rfl
  |4=>rfl
  |k+5=>rfl
 rw[this];exact⟨by decide,by decide⟩
def FV:an:=an.cl [] nZ ag fun x _=>.leaf none (m5.wr (mulC x.1 x.2.1)) []
theorem JH:FV.Ok Tryz.prog 193:=by
 refine(an.aN call193 fun x_ y_ Q H_=>?_).sym;obtain⟨x,y,_⟩:=x_;have hq:=H_.2;refine(ar mixed (aj T8 (aj sd ax)) func193 rfl (LT:= []) (ks:=kK) (aH.nil _)).use (D:= []) ?_ hq;show(aG _ _ _ _ (nZ.wr (x,y,())) [] _).sat _;rw[abS];exact DN (abT x y) ⟨rfl,rfl⟩
def akC:an:=an.cl [] (tH) (ag) fun x_ y_=>(fun(x:Fe)=>.leaf none (m5.wr (mulC x x)) []) x_.1
theorem akD(x:Fe):aG Tryz.prog [(193,FV)] [] f273 ((tH).wr (x,())) ((ag).wr ()) [.fr [.sym],.auto]= .leaf (m5.wr (mulC x x)) ([]):=by kernel_rfl
theorem akE:akC.Ok Tryz.prog 273:=by
 refine(an.aN call273 fun x_ y_ Q H_=>?_).sym;obtain⟨x,_⟩:=x_;have hq:=H_.2;refine(ar mixed ((aj JH ax)) func273 rfl (LT:= []) (ks:= [.fr [.sym],.auto]) (aH.nil _)).use (D:= []) ?_ hq;show(aG _ _ _ _ ((tH).wr (x,())) ((ag).wr ()) _).sat _;rw[akD];exact⟨rfl,rfl⟩
theorem JI(u v:cR):decide (u.toList=v.toList)=m7 u v:=by
 cases h:m7 u v with
 |true=>rw[(lj u v).1 h];simp
 |false=>exact decide_eq_false fun e=>by rw[(lj u v).2 (Vec.toList_inj e)]at h;cases h
def awY:an:=an.cl [] (nZ) (ag) fun x_ y_=>(fun(x y:Fe)=>.leaf none (nB (TP x y)) []) x_.1 x_.2.1
theorem akF(x y:Fe):aG Tryz.prog [(136,wQ)] [] f321 ((nZ).wr (x,y,())) ((ag).wr ()) [.fr [.sym],.auto]= .leaf (nB (decide ((ee x).toList=(ee y).toList))) []:=by kernel_rfl
theorem akG:awY.Ok Tryz.prog 321:=by
 refine(an.aN call321 fun x_ y_ Q H_=>?_).sym;obtain⟨x,y,_⟩:=x_;have hq:=H_.2;refine(ar mixed ((aj se ax)) func321 rfl (LT:= []) (ks:= [.fr [.sym],.auto]) (aH.nil _)).use (D:= []) ?_ hq;show(aG _ _ _ _ ((nZ).wr (x,y,())) ((ag).wr ()) _).sat _;rw[akF];rw[JI];exact⟨rfl,rfl⟩
def akH:an:=an.cl [] (tH) (ag) fun x_ y_=>(fun(x:Fe)=>.leaf none (nB (dp x)) []) x_.1
theorem T9(x:Fe):aG Tryz.prog [(321,awY)] [] f297 ((tH).wr (x,())) ((ag).wr ()) [.fr [.sym],.auto]= .leaf (nB (dp x)) ([]):=by kernel_rfl
theorem akI:akH.Ok Tryz.prog 297:=by
 refine(an.aN call297 fun x_ y_ Q H_=>?_).sym;obtain⟨x,_⟩:=x_;have hq:=H_.2;refine(ar mixed ((aj akG ax)) func297 rfl (LT:= []) (ks:= [.fr [.sym],.auto]) (aH.nil _)).use (D:= []) ?_ hq;show(aG _ _ _ _ ((tH).wr (x,())) ((ag).wr ()) _).sat _;rw[T9];exact⟨rfl,rfl⟩
def auf:an:=an.cl [] (tH) (ag) fun x_ y_=>(fun(x:Fe)=>.leaf none (nB (qP x)) []) x_.1
theorem abU(x:Fe):aG Tryz.prog [(136,wQ)] [] f137 ((tH).wr (x,())) ((ag).wr ()) [.fr [.sym],.auto]= .leaf (nB (qP x)) ([]):=by kernel_rfl
theorem aqn:auf.Ok Tryz.prog 137:=by
 refine(an.aN call137 fun x_ y_ Q H_=>?_).sym;obtain⟨x,_⟩:=x_;have hq:=H_.2;refine(ar mixed ((aj se ax)) func137 rfl (LT:= []) (ks:= [.fr [.sym],.auto]) (aH.nil _)).use (D:= []) ?_ hq;show(aG _ _ _ _ ((tH).wr (x,())) ((ag).wr ()) _).sat _;rw[abU];exact⟨rfl,rfl⟩
theorem iv{l:List Int}(h:l.length=32):(kP l).toList=l:=by
 have e:(kP l).toList=(List.range 32).map fun i=>l.getD i 0:=rfl;rw[e,Lp h]
theorem DO(u:cR):kP u.toList=u:=Vec.toList_inj (iv (Vec.eW u))
theorem DP{f:Int→Int}: {n:Nat}→(k:Nat)→(v:Vec Int n)→(Vec.oa f k v).toList=v.toList.modify k f
 |0,k,_=>by simp[Vec.oa,Vec.toList]
 |n+1,0,v=>by simp[Vec.oa,Vec.toList]
 |n+1,k+1,v=>by simp[Vec.oa,Vec.toList,DP k v.2]
theorem JJ{l:List Int}(h:l.length=32){k:Nat}(hk:k<32)(f:Int→Int):kP (l.set k (f (l.getD k 0)))=Vec.oa f k (kP l):=by
 apply Vec.toList_inj
 rw[DP,iv h,iv (by simpa using h),List.getD_eq_getElem?_getD,List.getElem?_eq_getElem (by omega:k<l.length),Option.getD_some]
 apply List.ext_getElem?
 intro i;simp only[List.getElem?_modify,List.getElem?_set]
 by_cases e:k=i
 ·subst e;simp[h,hk]
 ·simp[e]
theorem Ap(l:List Int):∀ {k:Nat},k<32→(kP l).get k=l.getD k 0:=by
 have key:∀ (n:Nat) (g:Nat→Int) (k:Nat),k<n→(Vec.ofFn n g).get k=g k:=by
  intro n
  induction n with
  |zero=>intro g k hk;omega
  |succ n ih=>
   intro g k hk
   cases k with
   |zero=>rfl
   |succ k=>exact ih (fun i=>g (i+1)) k (by omega)
 intro k hk;exact key 32 (fun i=>l.getD i 0) k hk
theorem wR(k m:Nat):(k:Int).tmod (m:Int)=((k%m:Nat):Int):=by rw[Int.tmod_eq_emod_of_nonneg (by omega),← Int.natCast_emod]
def X7:an:=an.cl [] (kL) (ag) fun x_ y_=>(fun(b:List Int)=>.leaf (some (b.length=32)) (nB (jV (kP b))) []) x_.1
theorem N6(b:List Int):aG Tryz.prog [(136,wQ),(295,T1)] [] f296 ((kL).wr (b,())) ((ag).wr ()) [.fr [.sym],.auto]= .leaf (nB (decide ((ee (gy (kP (b.set 31 (c5 .u8 (b.getD 31 0) 128))))).toList=b.set 31 (c5 .u8 (b.getD 31 0) 128)))) []:=by kernel_rfl
theorem abV:X7.Ok Tryz.prog 296:=by
 refine(an.aN call296 fun x_ y_ Q H_=>?_).sym;obtain⟨b,_⟩:=x_;obtain⟨hn,hq⟩:=H_;have hn:b.length=32:=hn;refine(ar mixed ((aj se (aj N2 ax))) func296 rfl (LT:= []) (ks:= [.fr [.sym],.auto]) (aH.nil _)).use (D:= []) ?_ hq;show(aG _ _ _ _ ((kL).wr (b,())) ((ag).wr ()) _).sat _;rw[N6];have e:=JJ hn (k:=31) (by omega) (fun x=>c5 .u8 x 128);rw[show b.set 31 (c5 .u8 (b.getD 31 0) 128)=(kP (b.set 31 (c5 .u8 (b.getD 31 0) 128))).toList from(iv (by simpa using hn)).symm,JI,DO,e];exact⟨rfl,rfl⟩
def aug:an:=an.cl [] ((ae (ah (aA .u8)) (ae (ah (aA .u8)) ag))) (ag) fun x_ y_=>(fun(lo hi:Int)=>.leaf none (aqk (cf lo hi)) []) x_.1 x_.2.1
theorem abW(lo hi:Int):aG Tryz.prog [] [] f272 (((ae (ah (aA .u8)) (ae (ah (aA .u8)) ag))).wr (lo,hi,())) ((ag).wr ()) kR= .leaf (aqk (cf lo hi)) ([]):=by kernel_rfl
theorem aqo:aug.Ok Tryz.prog 272:=by
 refine(an.aN call272 fun x_ y_ Q H_=>?_).sym;obtain⟨lo,hi,_⟩:=x_;have hq:=H_.2;refine(ar mixed ax func272 rfl (LT:= []) (ks:=kR) (aH.nil _)).use (D:= []) ?_ hq;show(aG _ _ _ _ (((ae (ah (aA .u8)) (ae (ah (aA .u8)) ag))).wr (lo,hi,())) ((ag).wr ()) _).sat _;rw[abW];exact⟨rfl,rfl⟩
abbrev awZ:Func:=f271
abbrev poC:aM (List LV) (Int×Unit):=(jk 2 (ai (ah (aC 0 0)) (ai (ah (aC 1 0)) (ai (ah (aC 2 0)) (ai (ah (aC 3 0)) (ae (ah (aA .i64)) (jk 20 ag)))))))
abbrev aqp:Wk:=.fr (cu 27 [(2,.al),(3,.al),(4,.al),(5,.al),(6,.sym)])
abbrev poX:aM (List LV) (Unit):=(jk 4 (ai (ah (aC 0 0)) (ai (ah (aC 1 0)) (jk 21 ag))))
abbrev iFe:aM (Option Ev.Item) Fe:=dH 153 (ju .u64 5)
abbrev poH:aM Hp (Fe×List Int×Fe×Fe×Unit):=ae iFe (ae (gL 22 .u8 32) (ae iFe (ae iFe ag)))
abbrev abX:aM Hp (Fe×Fe×Unit):=ae iFe (ae iFe ag)
abbrev akJ:List (FuncId×an):= [(194,JG),(273,akC),(193,FV)]
theorem N7:∀p∈akJ,p.2.Ok Tryz.prog p.1:=aj FU (aj akE (aj JH ax))
abbrev N8(i:Nat):Wk:=.aW i (List.replicate 5 .sym)
def poW:Exit→List Wk
 | .normal=> [aqp,N8 2,N8 3,.auto]
 | .exit 0=> [.fr (cu 27 [(4,.al),(5,.al)]),.auto]
 |_=> []
theorem aw0(x r o:Fe)(e:List Int)(i:Int):cO Tryz.prog akJ [] awZ 0 [] poW ((aS poC poH).wr ((i,()),(x,e,r,o,())))=
 aK.ite (decide ((0:Int)≤i)) (aK.need ((0:Int)≤i64.wrap (i.tdiv (8:Int))∧i64.wrap (i.tdiv (8:Int))<(32:Int))
 (aK.need ((0:Int)≤i.tmod (8:Int)) (aK.ite (aI IntKind.u8 (shr IntKind.u8 ((List.take (32:Nat) (List.drop (0:Nat) e)).getD
 (i64.wrap (i.tdiv (8:Int))).toNat (0:Int)) (i.tmod (8:Int))) (1:Int)==(1:Int)) (aK.leaf Exit.normal ((aS poC poH).wr
 ((i64.wrap (i-(1:Int)),PUnit.unit),x,e,r,mulC (mulC o o) x,PUnit.unit))) (aK.leaf Exit.normal ((aS poC poH).wr ((i64.wrap
 (i-(1:Int)),PUnit.unit),x,e,r,mulC o o,PUnit.unit)))))) (aK.leaf (Exit.exit (0:Nat)) ((aS poX abX).wr (PUnit.unit,r,o,PUnit.unit))):=by kernel_rfl
theorem aqq{e:List Int}(he:e.length=32){j:Nat}(hj:j<256):
  (aI .u8 (shr .u8 ((List.take 32 (List.drop 0 e)).getD (i64.wrap ((j:Int).tdiv 8)).toNat 0) ((j:Int).tmod 8)) 1==1)=FF (kP e) j:=by
 have e1:i64.wrap ((j:Int).tdiv 8)=((j/8:Nat):Int):=fP j 8 (by omega);have e2:(j:Int).tmod 8=((j%8:Nat):Int):=wR j 8;rw[e1,e2,aY he,Int.toNat_natCast];unfold FF;rw[Ap e (show j/8<32 by omega)]
def poF(x:(Int×Unit)×Fe×List Int×Fe×Fe×Unit):aK:=
 .need (x.1.1=255∧x.2.2.1.length=32) (.leaf (.exit 0) ((aS poX abX).wr ((),(x.2.2.2.1,gw (gh (fun x=>mulC x x) mulC x.2.1 (kP x.2.2.1)) 256 x.2.2.2.2.1,()))))
theorem aqr(x):Ex Tryz.prog [] (.loop (aO awZ 0)) ((aS poC poH).wr x) (poF x):=by
 obtain⟨⟨i,_⟩,x,e,r,o,_⟩:=x;refine Ex.need fun⟨h1,h2⟩=>?_;simp only at h1 h2;subst h1
 have key:=dN (fn:=awZ) (id:=0) (j:=0) (ws:=poW) (hp:= []) mixed N7 (aH.nil _) 256 (fun k o=>(aS poC poH).wr ((255-(k:Int),()),(x,e,r,o,()))) (fun o=>(aS poX abX).wr ((),(r,o,()))) (gh (fun x=>mulC x x) mulC x (kP e)) (fun _ _=>True)
  (fun k o R hk _ hn hx=>?_) (fun _ _ _ _=>trivial) 0 o (by omega) trivial
 ·rw[Nat.sub_zero,nP]at key;exact key
 rw[aw0];refine⟨fun hb=>?_,fun hb=>?_⟩
 ·have jz:k<256:=by have:=of_decide_eq_true hb;omega
  have e0:(255-(k:Int))=((255-k:Nat):Int):=by omega
  have ob:=hn jz;have e3:i64.wrap ((255-(k:Int))-1)=255-((k+1:Nat):Int):=by rw[ao (by omega) (by omega)];omega
  have hw:i64.wrap ((255-(k:Int)).tdiv 8)=(((255-k)/8:Nat):Int):=by rw[e0];exact fP _ 8 (by omega)
  have ht:(255-(k:Int)).tmod 8=(((255-k)%8:Nat):Int):=by rw[e0];exact wR _ 8
  have GN:=aqq h2 (j:=255-k) (by omega);rw[← e0]at GN;rw[GN,e3];refine⟨by rw[hw];omega,by rw[ht];omega,fun hc=>?_,fun hc=>?_⟩
  ·have:gh (fun x=>mulC x x) mulC x (kP e) k o=mulC (mulC o o) x:=(by unfold gh;rw[hc,bG];rfl);rw[this]at ob;exact ob
  ·have:gh (fun x=>mulC x x) mulC x (kP e) k o=mulC o o:=(by unfold gh;rw[hc,bG];rfl);rw[this]at ob;exact ob
 ·have:k=256:=by have:=of_decide_eq_false hb;omega
  exact hx this
def Ua(x:Fe)(e:List Int)(o:Fe):Fe:=gw (gh (fun x=>mulC x x) mulC x (kP e)) 256 o
def aF8(x:(Int×Unit)×Fe×List Int×Fe×Fe×Unit):aK:=
 .need (x.1.1=255∧x.2.2.1.length=32) (.leaf (.exit 0) ((aS poX abX).wr ((),(x.2.2.2.1,Ua x.2.1 x.2.2.1 x.2.2.2.2.1,()))))
abbrev aBT:dG:= [(0,dc (aS poC poH) 0 [aqp,.auto,N8 2,N8 3] aF8)]
abbrev poA:aM (List LV) (Fe×List Int×Unit):=ae m5 (ae cB ag)
abbrev ie(r:Fe×Bool):LV:=.cj [.agg ((ju .u64 5).wr r.1),.sc (.bool (.sym r.2))]
def wS(g:Fe→Fe):an:=an.cl [] tH ag fun x _=>.leaf none (m5.wr (g x.1)) []
def m9(g:Fe→Fe→Fe):an:=an.cl [] nZ ag fun x _=>.leaf none (m5.wr (g x.1 x.2.1)) []
def PG(g:Fe→Bool):an:=an.cl [] tH ag fun x _=>.leaf none (nB (g x.1)) []
def e2B(g:Fe→Fe→Bool):an:=an.cl [] nZ ag fun x _=>.leaf none (nB (g x.1 x.2.1)) []
def e1P(g:Fe→Fe×Bool):an:=an.cl [] tH ag fun x _=>.leaf none (ie (g x.1)) []
def e2P(g:Fe→Fe→Fe×Bool):an:=an.cl [] nZ ag fun x _=>.leaf none (ie (g x.1 x.2.1)) []
def JK(g:Int→Fe):an:=an.cl [] TZ ag fun x _=>.leaf none (m5.wr (g x.1)) []
def ePw(g:Fe→List Int→Fe):an:=an.cl [] poA ag fun x _=>.leaf (some (x.2.1.length=32)) (m5.wr (g x.1 x.2.1)) []
def eEx(g:Int→Int→List Int):an:=an.cl [] (ae (ah (aA .u8)) (ae (ah (aA .u8)) ag)) ag fun x _=>.leaf none (dO .u8 32 (g x.1 x.2.1)) []
def JL(x:Fe)(e:List Int):Fe:=powC x (kP e)
def DQ(lo hi:Int):List Int:=(cf lo hi).toList
theorem N9(x:Fe)(lo hi:Int):JL x (DQ lo hi)=powC x (cf lo hi):=by unfold JL DQ;rw[DO]
theorem DR(lo hi:Int):(DQ lo hi).length=32:=Vec.eW _
abbrev aBW:an:=ePw JL
theorem abY(p:Fe→List Int→Fe→Fe)(sm:Int→Fe)(x:Fe)(e:List Int):aG Tryz.prog [(194,JK sm),(273,akC),(193,FV)] [(0,dc (aS poC poH) 0 [aqp,.auto,N8 2,N8 3] fun x=>.need (x.1.1=255∧x.2.2.1.length=32) (.leaf (.exit 0) ((aS poX abX).wr ((),(x.2.2.2.1,p x.2.1 x.2.2.1 x.2.2.2.2.1,())))))] f271 (poA.wr (x,e,())) [] kK=
  .need ((255:Int)=255∧e.length=32) (.leaf (m5.wr (p x e (sm 1))) []):=by kernel_rfl
theorem abZ(x:Fe)(e:List Int):aG Tryz.prog akJ aBT f271 (poA.wr (x,e,())) [] kK=aG Tryz.prog [(194,JK a6),(273,akC),(193,FV)] [(0,dc (aS poC poH) 0 [aqp,.auto,N8 2,N8 3] fun x=>.need (x.1.1=255∧x.2.2.1.length=32) (.leaf (.exit 0) ((aS poX abX).wr ((),(x.2.2.2.1,Ua x.2.1 x.2.2.1 x.2.2.2.2.1,())))))] f271 (poA.wr (x,e,())) [] kK:=by kernel_rfl
theorem X8:aBW.Ok Tryz.prog 271:=by
 refine(an.aN call271 fun x_ y_ Q H_=>?_).sym;obtain⟨x,e,_⟩:=x_;obtain⟨hn,hq⟩:=H_;have hn:e.length=32:=hn;refine(ar mixed N7 func271 rfl (LT:=aBT) (ks:=kK) (aH.bK (js rfl (bD (hp:= []) aqr) jt))).use (D:= []) ?_ hq;show(aG _ _ _ _ (poA.wr (x,e,())) [] _).sat _;rw[abZ x e,abY Ua a6 x e];exact⟨⟨rfl,hn⟩,rfl,rfl⟩
theorem ab0:JG=JK a6:=by kernel_rfl
theorem lU:(JK a6).Ok Tryz.prog 194:=ab0▸FU
theorem aqs:FV=m9 mulC:=by kernel_rfl
theorem kB:(m9 mulC).Ok Tryz.prog 193:=aqs▸JH
theorem aqt:auc=m9 kJ:=by kernel_rfl
theorem Oa:(m9 kJ).Ok Tryz.prog 266:=aqt▸aql
theorem aqu:akt=m9 l6:=by kernel_rfl
theorem Ob:(m9 l6).Ok Tryz.prog 265:=aqu▸X4
theorem aw2:akC=wS (fun x=>mulC x x):=by kernel_rfl
theorem X9:(wS (fun x=>mulC x x)).Ok Tryz.prog 273:=aw2▸akE
theorem aqv:aud=wS lQ:=by kernel_rfl
theorem DS:(wS lQ).Ok Tryz.prog 298:=aqv▸aqm
theorem aw3:awY=e2B TP:=by kernel_rfl
theorem aqw:(e2B TP).Ok Tryz.prog 321:=aw3▸akG
theorem aqx:auf=PG qP:=by kernel_rfl
theorem Oc:(PG qP).Ok Tryz.prog 137:=aqx▸aqn
theorem akL:akH=PG dp:=by kernel_rfl
theorem FW:(PG dp).Ok Tryz.prog 297:=akL▸akI
theorem aqy:aug=eEx DQ:=by kernel_rfl
theorem Od:(eEx DQ).Ok Tryz.prog 272:=aqy▸aqo
abbrev aBX:an:=wS kI
theorem ab1(pow:Fe→List Int→Fe)(exp:Int→Int→List Int)(x:Fe):aG Tryz.prog [(271,ePw pow),(272,eEx exp)] [] f195 ((tH).wr (x,())) [] kK= .need ((exp 235 127).length=32) (.leaf (m5.wr (pow x (exp 235 127))) []):=by kernel_rfl
theorem ab2:∀p_∈([(271,ePw JL),(272,eEx DQ)]:List (FuncId×an)),p_.2.Ok Tryz.prog p_.1:=(aj X8 (aj Od ax))
theorem JM:aBX.Ok Tryz.prog 195:=by
 refine(an.aN call195 fun x_ y_ Q H_=>?_).sym;obtain⟨x,_⟩:=x_;have hq:=H_.2;refine(ar (tab:= [(271,ePw JL),(272,eEx DQ)]) mixed ab2 func195 rfl (LT:= []) (ks:=kK) (aH.nil _)).use (D:= []) ?_ hq;show(aG _ _ _ _ ((tH).wr (x,())) [] _).sat _;rw[ab1 JL DQ];rw[N9];exact⟨DR _ _,rfl,rfl⟩
theorem aqz(pw:Fe→cR→Fe)(ex:Int→Int→cR)(ml:Fe→Fe→Fe)(sq ng:Fe→Fe)(sm:Int→Fe)(eq:Fe→Fe→Bool)(od:Fe→Bool)(x:Fe):
  Dl pw ex ml sq ng sm eq od x=bif eq (sq (pw x (ex 254 15))) x then(bif od (pw x (ex 254 15))then ng (pw x (ex 254 15))else pw x (ex 254 15),true)
   else bif eq (sq (ml (pw x (ex 254 15)) (pw (sm 2) (ex 251 31)))) x then(bif od (ml (pw x (ex 254 15)) (pw (sm 2) (ex 251 31)))then ng (ml (pw x (ex 254 15)) (pw (sm 2) (ex 251 31)))else ml (pw x (ex 254 15)) (pw (sm 2) (ex 251 31)),true)else(dw,false):=by
 have aw4:∀ (b:Bool) (u v:Fe),cZ b u v=bif b then u else v:=fun b u v=>bG b u v;unfold Dl;simp only[aw4]
 cases h:eq (sq (pw x (ex 254 15))) x
 ·simp only[Bool.not_false,cond_true,cond_false]
  cases eq (sq (ml (pw x (ex 254 15)) (pw (sm 2) (ex 251 31)))) x<;>rfl
 ·simp only[Bool.not_true,cond_true,cond_false,h]
theorem akM{t1 t2 o1 o2:Bool}{r r2 n1 n2:Fe}{p1 p2:Prop}(h1:p1)(h2:p2){q:Fe×Bool}(hq:q=bif t1 then(bif o1 then n1 else r,true)else bif t2 then(bif o2 then n2 else r2,true)else(dw,false)):
  (Ev.End.need p1 (.ite (!t1) (.need p2 (.ite (!t2) (.leaf (ie (dw,false)) []) (.ite o2 (.leaf (ie (n2,true)) []) (.leaf (ie (r2,true)) [])))) (.ite (!t1) (.leaf (ie (dw,false)) []) (.ite o1 (.leaf (ie (n1,true)) []) (.leaf (ie (r,true)) []))))).sat fun v dB=>v=ie q∧dB= []:=by
 subst hq;refine⟨h1,?_⟩
 cases t1
 ·refine⟨fun _=>⟨h2,?_⟩,fun h=>(by cases h)⟩
  cases t2
  ·exact⟨fun _=>⟨rfl,rfl⟩,fun h=>(by cases h)⟩
  ·refine⟨fun h=>(by cases h),fun _=>?_⟩
   cases o2
   ·exact⟨fun h=>(by cases h),fun _=>⟨rfl,rfl⟩⟩
   ·exact⟨fun _=>⟨rfl,rfl⟩,fun h=>(by cases h)⟩
 ·refine⟨fun h=>(by cases h),fun _=>⟨fun h=>(by cases h),fun _=>?_⟩⟩
  cases o1
  ·exact⟨fun h=>(by cases h),fun _=>⟨rfl,rfl⟩⟩
  ·exact⟨fun _=>⟨rfl,rfl⟩,fun h=>(by cases h)⟩
theorem aqA(x:Fe):nV x=Dl powC cf mulC (fun x=>mulC x x) lQ a6 TP qP x:=rfl
abbrev aw5:an:=e1P nV
theorem Ub(pow:Fe→List Int→Fe)(exp:Int→Int→List Int)(mul:Fe→Fe→Fe)(sq neg:Fe→Fe)(eq:Fe→Fe→Bool)(su:Fe→Bool)(sm:Int→Fe)(x:Fe):aG Tryz.prog [(271,ePw pow),(272,eEx exp),(193,m9 mul),(273,wS sq),(298,wS neg),(321,e2B eq),(137,PG su),(194,JK sm)] [] f311 ((tH).wr (x,())) [] kK= .need ((exp 254 15).length=32) (.ite (!(eq (sq (pow x (exp 254 15))) x)) (.need ((exp 251 31).length=32) (.ite (!(eq (sq (mul (pow x (exp 254 15)) (pow (sm 2) (exp 251 31)))) x)) (.leaf (ie (dw,false)) []) (.ite (su (mul (pow x (exp 254 15)) (pow (sm 2) (exp 251 31)))) (.leaf (ie (neg (mul (pow x (exp 254 15)) (pow (sm 2) (exp 251 31))),true)) []) (.leaf (ie (mul (pow x (exp 254 15)) (pow (sm 2) (exp 251 31)),true)) [])))) (.ite (!(eq (sq (pow x (exp 254 15))) x)) (.leaf (ie (dw,false)) []) (.ite (su (pow x (exp 254 15))) (.leaf (ie (neg (pow x (exp 254 15)),true)) []) (.leaf (ie (pow x (exp 254 15),true)) [])))):=by kernel_rfl
theorem Uc:∀p_∈([(271,ePw JL),(272,eEx DQ),(193,m9 mulC),(273,wS (fun x=>mulC x x)),(298,wS lQ),(321,e2B TP),(137,PG qP),(194,JK a6)]:List (FuncId×an)),p_.2.Ok Tryz.prog p_.1:=(aj X8 (aj Od (aj kB (aj X9 (aj DS (aj aqw (aj Oc (aj lU ax))))))))
theorem akN:aw5.Ok Tryz.prog 311:=by
 refine(an.aN call311 fun x_ y_ Q H_=>?_).sym;obtain⟨x,_⟩:=x_;have hq:=H_.2;refine(ar (tab:= [(271,ePw JL),(272,eEx DQ),(193,m9 mulC),(273,wS (fun x=>mulC x x)),(298,wS lQ),(321,e2B TP),(137,PG qP),(194,JK a6)]) mixed Uc func311 rfl (LT:= []) (ks:=kK) (aH.nil _)).use (D:= []) ?_ hq;show(aG _ _ _ _ ((tH).wr (x,())) [] _).sat _;rw[Ub JL DQ mulC (fun x=>mulC x x) lQ TP qP a6];simp only[N9];exact akM (DR _ _) (DR _ _) ((aqA x).trans (aqz _ _ _ _ _ _ _ _ x))
theorem akO(u v:Fe):mV u v=(cZ (dp v) dw (nV (mulC u (kI v))).1,bif dp v then dp u else(nV (mulC u (kI v))).2):=by unfold mV;rfl
theorem ab3{z zu:Bool}{s r:Fe×Bool}(hr:r=(cZ z dw s.1,bif z then zu else s.2)):(Ev.End.ite z (.leaf (ie (dw,zu)) []) (.leaf (ie s) [])).sat fun v dB=>v=ie r∧dB= []:=by
 subst hr;rw[bG]
 cases z
 ·exact⟨fun h=>(by cases h),fun _=>⟨rfl,rfl⟩⟩
 ·exact⟨fun _=>⟨rfl,rfl⟩,fun h=>(by cases h)⟩
abbrev aqB:an:=e2P mV
theorem Oe(mul:Fe→Fe→Fe)(inv:Fe→Fe)(KF:Fe→Bool)(sqrt:Fe→Fe×Bool)(u v:Fe):aG Tryz.prog [(193,m9 mul),(195,wS inv),(297,PG KF),(311,e1P sqrt)] [] f274 ((nZ).wr (u,v,())) [] kK= .ite (KF v) (.leaf (ie (dw,KF u)) []) (.leaf (ie (sqrt (mul u (inv v)))) []):=by kernel_rfl
theorem Of:∀p_∈([(193,m9 mulC),(195,wS kI),(297,PG dp),(311,e1P nV)]:List (FuncId×an)),p_.2.Ok Tryz.prog p_.1:=(aj kB (aj JM (aj FW (aj akN ax))))
theorem ab4:aqB.Ok Tryz.prog 274:=by
 refine(an.aN call274 fun x_ y_ Q H_=>?_).sym;obtain⟨u,v,_⟩:=x_;have hq:=H_.2;refine(ar (tab:= [(193,m9 mulC),(195,wS kI),(297,PG dp),(311,e1P nV)]) mixed Of func274 rfl (LT:= []) (ks:=kK) (aH.nil _)).use (D:= []) ?_ hq;show(aG _ _ _ _ ((nZ).wr (u,v,())) [] _).sat _;rw[Oe mulC kI dp nV];exact ab3 (akO u v)
abbrev Eh:aM LV Pt:=zh (ae yX (qH .u64 (qH .u64 (qH .u64 (ju .u64 5) 5) 5) 5))
abbrev ptA:aM (List LV) (Pt×Unit):=ae Eh ag
abbrev aw6:aM (List LV) (Pt×Pt×Unit):=ae Eh (ae Eh ag)
def eFr(g:List Int→Fe):an:=an.cl [] kL ag fun x _=>.leaf none (m5.wr (g x.1)) []
def e0F(c:Fe):an:=an.cl [] ag ag fun _ _=>.leaf none (m5.wr c) []
def e0Q(c:Pt):an:=an.cl [] ag ag fun _ _=>.leaf none (Eh.wr c) []
def eAf(g:Fe→Fe→Pt):an:=an.cl [] nZ ag fun x _=>.leaf none (Eh.wr (g x.1 x.2.1)) []
def JN(g:Pt→Pt):an:=an.cl [] ptA ag fun x _=>.leaf none (Eh.wr (g x.1)) []
def e2Q(g:Pt→Pt→Pt):an:=an.cl [] aw6 ag fun x _=>.leaf none (Eh.wr (g x.1 x.2.1)) []
def kT(b:List Int):Fe:=gy (kP b)
theorem akP:T1=eFr kT:=by kernel_rfl
theorem FY:(eFr kT).Ok Tryz.prog 295:=akP▸N2
theorem ab6:kx=kT nS.toList:=by unfold kT;rw[DO];rfl
abbrev axa:an:=e0F kx
theorem Ud(ku:List Int→Fe):aG Tryz.prog [(295,eFr ku)] [] f267 ((ag).wr ()) [] kK= .leaf (m5.wr (ku nS.toList)) []:=by kernel_rfl
theorem Ue:∀p_∈([(295,eFr kT)]:List (FuncId×an)),p_.2.Ok Tryz.prog p_.1:=(aj FY ax)
theorem Og:axa.Ok Tryz.prog 267:=by
 refine(an.aN call267 fun x_ y_ Q H_=>?_).sym;have hq:=H_.2;refine(ar (tab:= [(295,eFr kT)]) mixed Ue func267 rfl (LT:= []) (ks:=kK) (aH.nil _)).use (D:= []) ?_ hq;show(aG _ _ _ _ ((ag).wr ()) [] _).sat _;rw[Ud kT];rw[ab6];exact⟨rfl,rfl⟩
abbrev akQ:an:=eAf da
theorem JO(mul:Fe→Fe→Fe)(sm:Int→Fe)(x y:Fe):aG Tryz.prog [(193,m9 mul),(194,JK sm)] [] f197 ((nZ).wr (x,y,())) [] kK= .leaf (Eh.wr (true,x,y,sm 1,mul x y)) []:=by kernel_rfl
theorem JP:∀p_∈([(193,m9 mulC),(194,JK a6)]:List (FuncId×an)),p_.2.Ok Tryz.prog p_.1:=(aj kB (aj lU ax))
theorem tI:akQ.Ok Tryz.prog 197:=by
 refine(an.aN call197 fun x_ y_ Q H_=>?_).sym;obtain⟨x,y,_⟩:=x_;have hq:=H_.2;refine(ar (tab:= [(193,m9 mulC),(194,JK a6)]) mixed JP func197 rfl (LT:= []) (ks:=kK) (aH.nil _)).use (D:= []) ?_ hq;show(aG _ _ _ _ ((nZ).wr (x,y,())) [] _).sat _;rw[JO mulC a6];exact⟨rfl,rfl⟩
abbrev axb:an:=e0Q gk
theorem Uf(af:Fe→Fe→Pt)(sm:Int→Fe):aG Tryz.prog [(197,eAf af),(194,JK sm)] [] f189 ((ag).wr ()) [] kK= .leaf (Eh.wr (af dw (sm 1))) []:=by kernel_rfl
theorem Ug:∀p_∈([(197,eAf da),(194,JK a6)]:List (FuncId×an)),p_.2.Ok Tryz.prog p_.1:=(aj tI (aj lU ax))
theorem Oh:axb.Ok Tryz.prog 189:=by
 refine(an.aN call189 fun x_ y_ Q H_=>?_).sym;have hq:=H_.2;refine(ar (tab:= [(197,eAf da),(194,JK a6)]) mixed Ug func189 rfl (LT:= []) (ks:=kK) (aH.nil _)).use (D:= []) ?_ hq;show(aG _ _ _ _ ((ag).wr ()) [] _).sat _;rw[Uf da a6];exact⟨rfl,rfl⟩
theorem Ya(p:Pt):eT p=bif !p.1 then gk else p:=by unfold eT ajJ;rw[jg]
theorem JQ{t:Bool}{V W X:LV}(h1:t=true→V=X)(h2:t=false→W=X):(Ev.End.ite t (.leaf V []) (.leaf W [])).sat fun v dB=>v=X∧dB= []:=⟨fun h=>⟨h1 h,rfl⟩,fun h=>⟨h2 h,rfl⟩⟩
abbrev aBY:an:=JN eT
theorem ab7(z:Pt)(p:Pt):aG Tryz.prog [(189,e0Q z)] [] f198 ((ptA).wr (p,())) [] kK= .ite (!p.1) (.leaf (Eh.wr z) []) (.leaf (Eh.wr p) []):=by kernel_rfl
theorem ab8:∀p_∈([(189,e0Q gk)]:List (FuncId×an)),p_.2.Ok Tryz.prog p_.1:=(aj Oh ax)
theorem JR:aBY.Ok Tryz.prog 198:=by
 refine(an.aN call198 fun x_ y_ Q H_=>?_).sym;obtain⟨p,_⟩:=x_;have hq:=H_.2;refine(ar (tab:= [(189,e0Q gk)]) mixed ab8 func198 rfl (LT:= []) (ks:=kK) (aH.nil _)).use (D:= []) ?_ hq;show(aG _ _ _ _ ((ptA).wr (p,())) [] _).sat _;rw[ab7 gk];exact JQ (fun h=>by rw[Ya,h];rfl) (fun h=>by rw[Ya,h];rfl)
abbrev axc:an:=e1P ky
theorem Uh(mul add sub:Fe→Fe→Fe)(sq:Fe→Fe)(sm:Int→Fe)(ed:Fe)(ratio:Fe→Fe→Fe×Bool)(y:Fe):aG Tryz.prog [(193,m9 mul),(266,m9 add),(265,m9 sub),(273,wS sq),(194,JK sm),(267,e0F ed),(274,e2P ratio)] [] f196 ((tH).wr (y,())) [] kK= .leaf (ie (ratio (sub (sq y) (sm 1)) (add (mul ed (sq y)) (sm 1)))) []:=by kernel_rfl
theorem Ui:∀p_∈([(193,m9 mulC),(266,m9 kJ),(265,m9 l6),(273,wS (fun x=>mulC x x)),(194,JK a6),(267,e0F kx),(274,e2P mV)]:List (FuncId×an)),p_.2.Ok Tryz.prog p_.1:=(aj kB (aj Oa (aj Ob (aj X9 (aj lU (aj Og (aj ab4 ax)))))))
theorem Oi:axc.Ok Tryz.prog 196:=by
 refine(an.aN call196 fun x_ y_ Q H_=>?_).sym;obtain⟨y,_⟩:=x_;have hq:=H_.2;refine(ar (tab:= [(193,m9 mulC),(266,m9 kJ),(265,m9 l6),(273,wS (fun x=>mulC x x)),(194,JK a6),(267,e0F kx),(274,e2P mV)]) mixed Ui func196 rfl (LT:= []) (ks:=kK) (aH.nil _)).use (D:= []) ?_ hq;show(aG _ _ _ _ ((tH).wr (y,())) [] _).sat _;rw[Uh mulC kJ l6 (fun x=>mulC x x) a6 kx mV];exact⟨rfl,rfl⟩
abbrev axd:an:=e0Q ic
theorem Uj(mul:Fe→Fe→Fe)(sm:Int→Fe)(inv:Fe→Fe)(root:Fe→Fe×Bool)(af:Fe→Fe→Pt):aG Tryz.prog [(193,m9 mul),(194,JK sm),(195,wS inv),(196,e1P root),(197,eAf af)] [] f134 ((ag).wr ()) [] kK= .leaf (Eh.wr (af (root (mul (sm 4) (inv (sm 5)))).1 (mul (sm 4) (inv (sm 5))))) []:=by kernel_rfl
theorem Uk:∀p_∈([(193,m9 mulC),(194,JK a6),(195,wS kI),(196,e1P ky),(197,eAf da)]:List (FuncId×an)),p_.2.Ok Tryz.prog p_.1:=(aj kB (aj lU (aj JM (aj Oi (aj tI ax)))))
theorem akR:axd.Ok Tryz.prog 134:=by
 refine(an.aN call134 fun x_ y_ Q H_=>?_).sym;have hq:=H_.2;refine(ar (tab:= [(193,m9 mulC),(194,JK a6),(195,wS kI),(196,e1P ky),(197,eAf da)]) mixed Uk func134 rfl (LT:= []) (ks:=kK) (aH.nil _)).use (D:= []) ?_ hq;show(aG _ _ _ _ ((ag).wr ()) [] _).sat _;rw[Uj mulC a6 kI ky da];exact⟨rfl,rfl⟩
def e4Q(g:Fe→Fe→Fe→Fe→Pt):an:=an.cl [] (ae m5 (ae m5 (ae m5 (ae m5 ag)))) ag fun x _=>.leaf none (Eh.wr (g x.1 x.2.1 x.2.2.1 x.2.2.2.1)) []
abbrev aqC:an:=e4Q oN
theorem Oj(mul:Fe→Fe→Fe)(e f g h:Fe):aG Tryz.prog [(193,m9 mul)] [] f268 (((ae m5 (ae m5 (ae m5 (ae m5 ag))))).wr (e,f,g,h,())) [] kK= .leaf (Eh.wr (true,mul e f,mul g h,mul f g,mul e h)) []:=by kernel_rfl
theorem Ol:∀p_∈([(193,m9 mulC)]:List (FuncId×an)),p_.2.Ok Tryz.prog p_.1:=(aj kB ax)
theorem ab9:aqC.Ok Tryz.prog 268:=by
 refine(an.aN call268 fun x_ y_ Q H_=>?_).sym;obtain⟨e,f,g,h,_⟩:=x_;have hq:=H_.2;refine(ar (tab:= [(193,m9 mulC)]) mixed Ol func268 rfl (LT:= []) (ks:=kK) (aH.nil _)).use (D:= []) ?_ hq;show(aG _ _ _ _ (((ae m5 (ae m5 (ae m5 (ae m5 ag))))).wr (e,f,g,h,())) [] _).sat _;rw[Oj mulC];exact⟨rfl,rfl⟩
abbrev aBZ:an:=e2Q er
theorem aca(mul add sub:Fe→Fe→Fe)(ed:Fe)(own:Pt→Pt)(XH:Fe→Fe→Fe→Fe→Pt)(p q:Pt):aG Tryz.prog [(193,m9 mul),(266,m9 add),(265,m9 sub),(267,e0F ed),(198,JN own),(268,e4Q XH)] [] f192 ((aw6).wr (p,q,())) [] kK= .leaf (Eh.wr (addFn mul add sub ed own XH p q)) []:=by kernel_rfl
theorem acb:∀p_∈([(193,m9 mulC),(266,m9 kJ),(265,m9 l6),(267,e0F kx),(198,JN eT),(268,e4Q oN)]:List (FuncId×an)),p_.2.Ok Tryz.prog p_.1:=(aj kB (aj Oa (aj Ob (aj Og (aj JR (aj ab9 ax))))))
theorem JS:aBZ.Ok Tryz.prog 192:=by
 refine(an.aN call192 fun x_ y_ Q H_=>?_).sym;obtain⟨p,q,_⟩:=x_;have hq:=H_.2;refine(ar (tab:= [(193,m9 mulC),(266,m9 kJ),(265,m9 l6),(267,e0F kx),(198,JN eT),(268,e4Q oN)]) mixed acb func192 rfl (LT:= []) (ks:=kK) (aH.nil _)).use (D:= []) ?_ hq;show(aG _ _ _ _ ((aw6).wr (p,q,())) [] _).sat _;rw[aca mulC kJ l6 kx eT oN];exact⟨rfl,rfl⟩
abbrev akS:an:=JN dS
theorem JT(add:Pt→Pt→Pt)(p:Pt):aG Tryz.prog [(192,e2Q add)] [] f190 ((ptA).wr (p,())) [] kK= .leaf (Eh.wr (add p p)) []:=by kernel_rfl
theorem JU:∀p_∈([(192,e2Q er)]:List (FuncId×an)),p_.2.Ok Tryz.prog p_.1:=(aj JS ax)
theorem DT:akS.Ok Tryz.prog 190:=by
 refine(an.aN call190 fun x_ y_ Q H_=>?_).sym;obtain⟨p,_⟩:=x_;have hq:=H_.2;refine(ar (tab:= [(192,e2Q er)]) mixed JU func190 rfl (LT:= []) (ks:=kK) (aH.nil _)).use (D:= []) ?_ hq;show(aG _ _ _ _ ((ptA).wr (p,())) [] _).sat _;rw[JT er];exact⟨rfl,rfl⟩
abbrev aB0:an:=JN nX
theorem acd(neg:Fe→Fe)(own:Pt→Pt)(p:Pt):aG Tryz.prog [(298,wS neg),(198,JN own)] [] f241 ((ptA).wr (p,())) [] kK= .leaf (Eh.wr (negFn neg own p)) []:=by kernel_rfl
theorem ace:∀p_∈([(298,wS lQ),(198,JN eT)]:List (FuncId×an)),p_.2.Ok Tryz.prog p_.1:=(aj DS (aj JR ax))
theorem aqD:aB0.Ok Tryz.prog 241:=by
 refine(an.aN call241 fun x_ y_ Q H_=>?_).sym;obtain⟨p,_⟩:=x_;have hq:=H_.2;refine(ar (tab:= [(298,wS lQ),(198,JN eT)]) mixed ace func241 rfl (LT:= []) (ks:=kK) (aH.nil _)).use (D:= []) ?_ hq;show(aG _ _ _ _ ((ptA).wr (p,())) [] _).sat _;rw[acd lQ eT];exact⟨rfl,rfl⟩
def ePl(g:Pt→Fe×Fe):an:=an.cl [] ptA ag fun x _=>.leaf none (.cj [.agg ((ju .u64 5).wr (g x.1).1),.agg ((ju .u64 5).wr (g x.1).2)]) []
abbrev aqE:an:=ePl jU
theorem Om(mul:Fe→Fe→Fe)(inv:Fe→Fe)(own:Pt→Pt)(p:Pt):aG Tryz.prog [(193,m9 mul),(195,wS inv),(198,JN own)] [] f135 ((ptA).wr (p,())) [] kK= .leaf (.cj [.agg ((ju .u64 5).wr (mul (own p).2.1 (inv (own p).2.2.2.1))),.agg ((ju .u64 5).wr (mul (own p).2.2.1 (inv (own p).2.2.2.1)))]) []:=by kernel_rfl
theorem On:∀p_∈([(193,m9 mulC),(195,wS kI),(198,JN eT)]:List (FuncId×an)),p_.2.Ok Tryz.prog p_.1:=(aj kB (aj JM (aj JR ax)))
theorem acf:aqE.Ok Tryz.prog 135:=by
 refine(an.aN call135 fun x_ y_ Q H_=>?_).sym;obtain⟨p,_⟩:=x_;have hq:=H_.2;refine(ar (tab:= [(193,m9 mulC),(195,wS kI),(198,JN eT)]) mixed On func135 rfl (LT:= []) (ks:=kK) (aH.nil _)).use (D:= []) ?_ hq;show(aG _ _ _ _ ((ptA).wr (p,())) [] _).sat _;rw[Om mulC kI eT];exact⟨rfl,rfl⟩
def eBy(g:Fe→List Int):an:=an.cl [] tH ag fun x _=>.leaf none (dO .u8 32 (g x.1)) []
def eLB(g:List Int→Bool):an:=an.cl [] kL ag fun x _=>.leaf (some (x.1.length=32)) (nB (g x.1)) []
def eEn(g:Pt→List Int):an:=an.cl [] ptA ag fun x _=>.leaf none (dO .u8 32 (g x.1)) []
abbrev PH(r:Pt×Bool):LV:=.cj [.agg ((ae yX (qH .u64 (qH .u64 (qH .u64 (ju .u64 5) 5) 5) 5)).wr r.1),.sc (.bool (.sym r.2))]
def eDe(g:List Int→Pt×Bool):an:=an.cl [] kL ag fun x _=>.leaf (some (x.1.length=32)) (PH (g x.1)) []
def oT(x:Fe):List Int:=(ee x).toList
def yx(b:List Int):Bool:=jV (kP b)
def jm(p:Pt):List Int:=(wB p).toList
def gm(b:List Int):Pt×Bool:=rV (kP b)
theorem acg:wQ=eBy oT:=by kernel_rfl
theorem Ul:(eBy oT).Ok Tryz.prog 136:=acg▸se
theorem ach:X7=eLB yx:=by kernel_rfl
theorem Um:(eLB yx).Ok Tryz.prog 296:=ach▸abV
theorem Yb{f:Int→Int}(v:cR):(Vec.oa f 31 v).toList=v.toList.set 31 (f (v.toList.getD 31 0)):=by
 have h:=JJ (Vec.eW v) (k:=31) (by omega) f;rw[DO]at h;rw[← h,iv (by rw[List.length_set];exact Vec.eW v)]
theorem FZ(p:Pt):jm p=bif qP (jU p).1 then(oT (jU p).2).set 31 (bn .u8 ((oT (jU p).2).getD 31 0) 128)else oT (jU p).2:=by
 unfold jm wB Dm oT;simp only[bG];generalize ee (jU p).2=v
 cases qP (jU p).1
 ·rfl
 ·exact Yb v
abbrev akT:an:=eEn jm
theorem JV(pl:Pt→Fe×Fe)(Yc:Fe→List Int)(su:Fe→Bool)(p:Pt):aG Tryz.prog [(135,ePl pl),(136,eBy Yc),(137,PG su)] [] f81 ((ptA).wr (p,())) [] kK= .ite (su (pl p).1) (.leaf (dO .u8 32 ((Yc (pl p).2).set 31 (bn .u8 ((Yc (pl p).2).getD 31 0) 128))) []) (.leaf (dO .u8 32 (Yc (pl p).2)) []):=by kernel_rfl
theorem JW:∀p_∈([(135,ePl jU),(136,eBy oT),(137,PG qP)]:List (FuncId×an)),p_.2.Ok Tryz.prog p_.1:=(aj acf (aj Ul (aj Oc ax)))
theorem Un:akT.Ok Tryz.prog 81:=by
 refine(an.aN call81 fun x_ y_ Q H_=>?_).sym;obtain⟨p,_⟩:=x_;have hq:=H_.2;refine(ar (tab:= [(135,ePl jU),(136,eBy oT),(137,PG qP)]) mixed JW func81 rfl (LT:= []) (ks:=kK) (aH.nil _)).use (D:= []) ?_ hq;show(aG _ _ _ _ ((ptA).wr (p,())) [] _).sat _;rw[JV jU oT qP];exact JQ (fun h=>by rw[FZ,h];rfl) (fun h=>by rw[FZ,h];rfl)
theorem akU(neg:Fe→Fe)(KF:Fe→Bool)(ku:cR→Fe)(canon:cR→Bool)(af:Fe→Fe→Pt)(root:Fe→Fe×Bool)(b:cR):
  wj neg KF ku canon af root b=bif (root (ku b)).2 then(bif canon b then(bif yb b then(bif KF (root (ku b)).1 then(fK,false)else(af (neg (root (ku b)).1) (ku b),true))else(af (root (ku b)).1 (ku b),true))else(fK,false))else(fK,false):=by
 unfold wj;simp only[bG,jg];generalize root (ku b)=r;generalize ku b=y;obtain⟨x,ok⟩:=r;simp only
 cases ok<;>cases canon b<;>cases yb b<;>cases KF x<;>rfl
theorem aci(b:List Int):gm b=bif (ky (kT b)).2 then(bif yx b then(bif aI .u8 (b.getD 31 0) 128!=0 then(bif dp (ky (kT b)).1 then(fK,false)else(da (lQ (ky (kT b)).1) (kT b),true))else(da (ky (kT b)).1 (kT b),true))else(fK,false))else(fK,false):=akU lQ dp gy jV da ky (kP b)
theorem aqF{p:Prop}{ok canon su KF:Bool}{P Q:Pt}(hp:p){r:Pt×Bool}(hr:r=bif ok then(bif canon then(bif su then(bif KF then(fK,false)else(P,true))else(Q,true))else(fK,false))else(fK,false)):
  (Ev.End.ite ((!ok)==false) (.need p (.ite ((!canon)==false) (.ite (su==true) (.ite KF (.leaf (PH (fK,false)) []) (.ite su (.leaf (PH (P,true)) []) (.leaf (PH (Q,true)) []))) (.ite su (.leaf (PH (P,true)) []) (.leaf (PH (Q,true)) []))) (.leaf (PH (fK,false)) []))) (.leaf (PH (fK,false)) [])).sat fun v dB=>v=PH r∧dB= []:=by
 subst hr
 cases ok
 ·exact⟨fun h=>(by cases h),fun _=>⟨rfl,rfl⟩⟩
 ·refine⟨fun _=>⟨hp,?_⟩,fun h=>(by cases h)⟩
  cases canon
  ·exact⟨fun h=>(by cases h),fun _=>⟨rfl,rfl⟩⟩
  ·refine⟨fun _=>?_,fun h=>(by cases h)⟩
   cases su
   ·exact⟨fun h=>(by cases h),fun _=>⟨fun h=>(by cases h),fun _=>⟨rfl,rfl⟩⟩⟩
   ·refine⟨fun _=>?_,fun h=>(by cases h)⟩
    cases KF
    ·exact⟨fun h=>(by cases h),fun _=>⟨fun _=>⟨rfl,rfl⟩,fun h=>(by cases h)⟩⟩
    ·exact⟨fun _=>⟨rfl,rfl⟩,fun h=>(by cases h)⟩
abbrev akV:an:=eDe gm
theorem JX(ku:List Int→Fe)(root:Fe→Fe×Bool)(canon:List Int→Bool)(KF:Fe→Bool)(neg:Fe→Fe)(af:Fe→Fe→Pt)(b:List Int):aG Tryz.prog [(295,eFr ku),(196,e1P root),(296,eLB canon),(297,PG KF),(298,wS neg),(197,eAf af)] [] f238 ((kL).wr (b,())) [] kK= .ite ((!(root (ku b)).2)==false) (.need (b.length=32) (.ite ((!canon b)==false) (.ite ((aI .u8 (b.getD 31 0) 128!=0)==true) (.ite (KF (root (ku b)).1) (.leaf (PH (fK,false)) []) (.ite (aI .u8 (b.getD 31 0) 128!=0) (.leaf (PH (af (neg (root (ku b)).1) (ku b),true)) []) (.leaf (PH (af (root (ku b)).1 (ku b),true)) []))) (.ite (aI .u8 (b.getD 31 0) 128!=0) (.leaf (PH (af (neg (root (ku b)).1) (ku b),true)) []) (.leaf (PH (af (root (ku b)).1 (ku b),true)) []))) (.leaf (PH (fK,false)) []))) (.leaf (PH (fK,false)) []):=by kernel_rfl
theorem JY:∀p_∈([(295,eFr kT),(196,e1P ky),(296,eLB yx),(297,PG dp),(298,wS lQ),(197,eAf da)]:List (FuncId×an)),p_.2.Ok Tryz.prog p_.1:=(aj FY (aj Oi (aj Um (aj FW (aj DS (aj tI ax))))))
theorem Uo:akV.Ok Tryz.prog 238:=by
 refine(an.aN call238 fun x_ y_ Q H_=>?_).sym;obtain⟨b,_⟩:=x_;obtain⟨hn,hq⟩:=H_;have hn:b.length=32:=hn;refine(ar (tab:= [(295,eFr kT),(196,e1P ky),(296,eLB yx),(297,PG dp),(298,wS lQ),(197,eAf da)]) mixed JY func238 rfl (LT:= []) (ks:=kK) (aH.nil _)).use (D:= []) ?_ hq;show(aG _ _ _ _ ((kL).wr (b,())) [] _).sat _;rw[JX kT ky yx dp lQ da];exact aqF hn (aci b)
abbrev biA:aM (List LV) (List Int×Int×Unit):=ae cB (ae (ah (aA .i64)) ag)
def eBi(g:List Int→Int→Int):an:=an.cl [] biA ag fun x _=>.leaf (some (x.1.length=32∧0≤x.2.1∧x.2.1<256)) (nI (g x.1 x.2.1)) []
def l7(a:List Int)(i:Int):Int:=mw (kP a) i.toNat
def aul:an:=an.cl [] (biA) (ag) fun x_ y_=>(fun(a:List Int) (i:Int)=>.leaf (some (a.length=32∧0≤i∧i<256)) (nI (l7 a i)) []) x_.1 x_.2.1
theorem ack(a:List Int)(i:Int):aG Tryz.prog [] [] f191 ((biA).wr (a,i,())) ((ag).wr ()) [.fr [.sym],.auto]=
 End.ite (decide (i<(0:Int))==false) (End.ite (decide ((256:Int)≤i)) (End.leaf (LV.one (VV.sc (SV.int i64 (SI.sym (0:Int))))) [])
 (End.need ((0:Int)≤i64.wrap (i.tdiv (8:Int))∧i64.wrap (i.tdiv (8:Int))<(32:Int)) (End.need ((0:Int)≤i.tmod (8:Int))
 (End.leaf (LV.one (VV.sc (SV.int i64 (SI.sym (i64.wrap (aI IntKind.u8 (shr IntKind.u8 ((List.take (32:Nat) (List.drop (0:Nat)
 a)).getD (i64.wrap (i.tdiv (8:Int))).toNat (0:Int)) (i.tmod (8:Int))) (1:Int))))))) [])))) (End.leaf (LV.one (VV.sc (SV.int i64
 (SI.sym (0:Int))))) []):=by kernel_rfl
theorem aqG:aul.Ok Tryz.prog 191:=by
 refine(an.aN call191 fun x_ y_ Q H_=>?_).sym;obtain⟨a,i,_⟩:=x_;obtain⟨hn,hq⟩:=H_;have hn:a.length=32∧0≤i∧i<256:=hn;refine(ar mixed ax func191 rfl (LT:= []) (ks:= [.fr [.sym],.auto]) (aH.nil _)).use (D:= []) ?_ hq;show(aG _ _ _ _ ((biA).wr (a,i,())) ((ag).wr ()) _).sat _;rw[ack];obtain⟨ha,h0,h1⟩:=hn;obtain⟨k,rfl⟩:=Int.eq_ofNat_of_zero_le h0;have hk:k<256:=by omega
 have e1:i64.wrap ((k:Int).tdiv 8)=((k/8:Nat):Int):=fP k 8 (by omega);have e2:(k:Int).tmod 8=((k%8:Nat):Int):=wR k 8
 have e:l7 a (k:Int)=i64.wrap (aI .u8 (shr .u8 (a.getD (k/8) 0) ((k%8:Nat):Int)) 1):=by
  unfold l7 mw;rw[Int.toNat_natCast,Ap a (show k/8<32 by omega)]
 rw[e1,e2,aY ha,Int.toNat_natCast,e];refine⟨fun _=>⟨fun h=>?_,fun _=>⟨by omega,by omega,rfl,rfl⟩⟩,fun h=>?_⟩
 ·have:=of_decide_eq_true h;omega
 ·exfalso;revert h;simp
abbrev iPt:aM (Option Ev.Item) Pt:=dH 155 (ae yX (qH .u64 (qH .u64 (qH .u64 (ju .u64 5) 5) 5) 5))
abbrev aqH:aM Hp (Pt×Pt×Unit):=ae iPt (ae iPt ag)
abbrev aqI(i:Nat):Wk:=.aW i (List.replicate 21 .sym)
abbrev aB5:List (FuncId×an):= [(191,eBi l7),(190,JN dS),(192,e2Q er)]
theorem aqJ:aul=eBi l7:=by kernel_rfl
theorem Oo:(eBi l7).Ok Tryz.prog 191:=aqJ▸aqG
theorem akW:∀p∈aB5,p.2.Ok Tryz.prog p.1:=aj Oo (aj DT (aj JS ax))
theorem oU{α:Type}{f g:Nat→α→α}{n:Nat}(h:∀k,k<n→∀r,f k r=g k r)(a:α):∀m,m≤n→gw f m a=gw g m a
 |0,_=>rfl
 |m+1,hm=>by
  show f m (gw f m a)=g m (gw g m a);rw[oU h a m (by omega),h m (by omega)]
end Go.Proofs.YtnbkagglkajbkaaGreat
end
