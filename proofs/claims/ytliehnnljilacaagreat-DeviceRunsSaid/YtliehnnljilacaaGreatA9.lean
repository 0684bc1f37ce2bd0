/- What the laws lean on, part 9: a reader of code, plain facts, and what each function gives; no conditions. -/
import Derived.Test.YtliehnnljilacaaGreatA8
noncomputable section
open Go.IntKind (i64 signed u16 u32 u64 wrap wrap_u32)
set_option linter.unusedVariables false
set_option linter.unusedSimpArgs false
noncomputable section
namespace Go.Proofs.YtliehnnljilacaaGreat
open Go Go.Ev Go.Proofs.Tryz
set_option maxRecDepth 100000
abbrev Fe:=Vec Int 5
abbrev iP:=Vec Int 32
def n8(n:Int):Int:=u64.wrap n
def jE(a b:Int):Int:=dz .u64 a b
def ic(a b:Int):Int:=shr .u64 a b
def PD:Int:=2251799813685247
def oB(x:Fe):Fe:=(n8 (jE x.1 PD+n8 (ic x.2.2.2.2.1 51*19)),n8 (jE x.2.1 PD+ic x.1 51),n8 (jE x.2.2.1 PD+ic x.2.1 51),n8 (jE x.2.2.2.1 PD+ic x.2.2.1 51),n8 (jE x.2.2.2.2.1 PD+ic x.2.2.2.1 51),())
def dL(n:Int):Fe:=(jE n PD,ic n 51,0,0,0,())
def aNE(carry:Fe→Fe)(x y:Fe):Fe:=carry (Vec.zip (fun a b=>n8 (a+b)) x y)
def aNF(carry:Fe→Fe)(x y:Fe):Fe:=carry (Vec.zip (fun a b=>n8 (a-b)) (Vec.zip (fun a b=>n8 (a+b)) x (4503599627370458,4503599627370494,4503599627370494,4503599627370494,4503599627370494,())) y)
def gY:Fe:=(0,0,0,0,0,())
def eqV: {n:Nat}→Vec Int n→Vec Int n→Bool
 |0,_,_=>true
 |_+1,v,u=>(v.1==u.1)&&eqV v.2 u.2
theorem Jc: {n:Nat}→(v u:Vec Int n)→(eqV v u=true↔v=u)
 |0,_,_=>⟨fun _=>rfl,fun _=>rfl⟩
 |n+1,v,u=>by
  simp only[eqV,Bool.and_eq_true,beq_iff_eq,Jc v.2 u.2];exact⟨fun h=>Prod.ext h.1 h.2,fun h=>by rw[h];exact⟨rfl,rfl⟩⟩
def aNG(bytes:Fe→iP)(x:Fe):Bool:=dz .u8 (bytes x).1 1==1
def XJ(carry:Fe→Fe)(x:Fe):Fe:=let y:=carry x
 let c:=ic (n8 (y.1+19)) 51
 let c:=ic (n8 (y.2.1+c)) 51
 let c:=ic (n8 (y.2.2.1+c)) 51
 let c:=ic (n8 (y.2.2.2.1+c)) 51
 let c:=ic (n8 (y.2.2.2.2.1+c)) 51
 let c:=n8 (c*19)
 let c0:=n8 (c+y.1)
 let c1:=n8 (ic c0 51+y.2.1)
 let c2:=n8 (ic c1 51+y.2.2.1)
 let c3:=n8 (ic c2 51+y.2.2.2.1)
 let c4:=n8 (ic c3 51+y.2.2.2.2.1)
 (jE c0 PD,jE c1 PD,jE c2 PD,jE c3 PD,jE c4 PD,())
end Go.Proofs.YtliehnnljilacaaGreat
namespace Go.Proofs.YtliehnnljilacaaGreat
open Go Go.Ev Go.Proofs.Tryz
set_option maxRecDepth 1000000
def aFl(y:Fe):iP:=Vec.ofFn 32 fun j=>(List.range (if j=31 then 7 else 8)).foldl (fun acc i=>cV .u8 acc (shl .u8 (IntKind.u8.wrap (jE (ic (y.get ((8*j+i)/51)) (((8*j+i)%51:Nat):Int)) 1)) (i:Int))) 0
def word(b:iP)(j:Nat):Int:=(List.range 8).foldl (fun acc i=>cV .u64 acc (shl .u64 (n8 (b.get (8*j+i))) (8*i:Nat))) 0
def sD(b:iP):Fe:=(jE (word b 0) PD,jE (cV .u64 (ic (word b 0) 51) (shl .u64 (word b 1) 13)) PD,jE (cV .u64 (ic (word b 1) 38) (shl .u64 (word b 2) 26)) PD,jE (cV .u64 (ic (word b 2) 25) (shl .u64 (word b 3) 39)) PD,jE (ic (word b 3) 12) PD,())
def Vec.R0{α:Type}(f:α→α): {n:Nat}→Nat→Vec α n→Vec α n
 |0,_,_=>()
 |_+1,0,v=>(f v.1,v.2)
 |_+1,i+1,v=>(v.1,Vec.R0 f i v.2)
def PE(b:iP):iP:=Vec.R0 (fun x=>eL .u8 x 128) 31 b
def gS(x y:Int):Int×Int:=let x0:=jE x 4294967295
 let x1:=ic x 32
 let y0:=jE y 4294967295
 let y1:=ic y 32
 let t:=n8 (n8 (x1*y0)+ic (n8 (x0*y0)) 32)
 let w1:=n8 (jE t 4294967295+n8 (x0*y1))
 (n8 (n8 (n8 (x1*y1)+ic t 32)+ic w1 32),n8 (x*y))
noncomputable section
variable (m64:Int→Int→Int×Int) (a64:Int→Int→Int→Int×Int)
def uY(x y:Fe):List (Nat×Nat)→List (Int×Int)→List (Int×Int)×List Prop
 | [],r=>(r,[])
 |(i,j)::l,r=>
  let a:=if i+j<5 then x.get i else n8 (x.get i*19)
  let p:=r.getD ((i+j)%5) (0,0)
  let m:=m64 a (y.get j)
  let s:=a64 p.2 m.2 0
  let t:=a64 p.1 m.1 s.2
  let z:=uY x y l (r.set ((i+j)%5) (t.1,s.1))
  (z.1,(0≤s.2∧s.2≤1)::z.2)
def DR:List (Nat×Nat):= [(0,0),(0,1),(0,2),(0,3),(0,4),(1,0),(1,1),(1,2),(1,3),(1,4),(2,0),(2,1),(2,2),(2,3),(2,4),(3,0),(3,1),(3,2),(3,3),(3,4),(4,0),(4,1),(4,2),(4,3),(4,4)]
def PF(x y:Fe):List Prop:=(uY m64 a64 x y DR [(0,0),(0,0),(0,0),(0,0),(0,0)]).2
def ahe(carry:Fe→Fe)(x y:Fe):Fe:=let r:=(uY m64 a64 x y DR [(0,0),(0,0),(0,0),(0,0),(0,0)]).1
 let lo (i:Nat):=jE (r.getD i (0,0)).2 PD
 let c (i:Nat):=cV .u64 (shl .u64 (r.getD i (0,0)).1 13) (ic (r.getD i (0,0)).2 51)
 carry (n8 (n8 (0+lo 0)+n8 (c 4*19)),n8 (n8 (0+c 0)+lo 1),n8 (n8 (0+c 1)+lo 2),n8 (n8 (0+c 2)+lo 3),n8 (n8 (0+c 3)+lo 4),())
end
end Go.Proofs.YtliehnnljilacaaGreat
namespace Go.Proofs.YtliehnnljilacaaGreat
open Go Go.Ev Go.Proofs.Tryz
set_option maxRecDepth 1000000
def DS(lo hi:Int):iP:=Vec.ofFn 32 fun j=>if j=0 then lo else if j=31 then hi else 255
def oc(b:Bool): {n:Nat}→Vec Int n→Vec Int n→Vec Int n
 |0,_,_=>()
 |_+1,v,u=>(bif b then v.1 else u.1,oc b v.2 u.2)
theorem kE: {n:Nat}→(b:Bool)→(v u:Vec Int n)→oc b v u=bif b then v else u
 |0,b,v,u=>by cases b<;>rfl
 |n+1,b,v,u=>by
  show((bif b then v.1 else u.1),oc b v.2 u.2)=_;rw[kE b v.2 u.2];cases b<;>rfl
def ahf(e:iP)(i:Nat):Bool:=dz .u8 (shr .u8 (e.get (i/8)) ((i%8:Nat):Int)) 1==1
noncomputable section
variable (small:Int→Fe) (sE:Fe→Fe) (mul:Fe→Fe→Fe)
def oC(x:Fe)(e:iP)(k:Nat)(r:Fe):Fe:=oc (ahf e (255-k)) (mul (sE r) x) (sE r)
def aNH(x:Fe)(e:iP):Fe:=sB (oC sE mul x e) 256 (small 1)
end
noncomputable section
variable (pow:Fe→iP→Fe) (exp:Int→Int→iP) (mul:Fe→Fe→Fe) (sE neg:Fe→Fe) (small:Int→Fe) (equal:Fe→Fe→Bool) (PG isZero:Fe→Bool) (invert:Fe→Fe)
def Jd(x:Fe):Fe×Bool:=let r:=pow x (exp 254 15)
 let r1:=oc (!(equal (sE r) x)) (mul r (pow (small 2) (exp 251 31))) r
 let bad:= !(equal (sE r1) (oc (!(equal (sE r) x)) x x))
 (oc bad gY (oc (PG r1) (neg r1) r1),bif bad then false else true)
end
end Go.Proofs.YtliehnnljilacaaGreat
namespace Go.Proofs.YtliehnnljilacaaGreat
open Go Go.Ev Go.Proofs.Tryz
set_option maxRecDepth 1000000
abbrev Pt:=Bool×Fe×Fe×Fe×Fe
def G7(b:Bool)(p q:Pt):Pt:=(bif b then p.1 else q.1,oc b p.2.1 q.2.1,oc b p.2.2.1 q.2.2.1,oc b p.2.2.2.1 q.2.2.2.1,oc b p.2.2.2.2 q.2.2.2.2)
theorem wN(b:Bool)(p q:Pt):G7 b p q=bif b then p else q:=by
 unfold G7;rw[kE,kE,kE,kE];cases b<;>rfl
noncomputable section
variable (mul add sub:Fe→Fe→Fe) (sE neg invert:Fe→Fe) (small:Int→Fe) (isZero PG:Fe→Bool) (sqrt:Fe→Fe×Bool) (ratio:Fe→Fe→Fe×Bool) (zk:iP→Fe) (bytes:Fe→iP)
 (G8:iP→Bool) (equal:Fe→Fe→Bool) (aFm:Fe) (zero:Pt) (own:Pt→Pt) (aFn:Fe→Fe→Pt) (root:Fe→Fe×Bool) (place:Pt→Fe×Fe) (XK:Fe→Fe→Fe→Fe→Pt) (PH:Pt→Pt→Pt)
def zl:iP:=(0xa3,0x78,0x59,0x13,0xca,0x4d,0xeb,0x75,0xab,0xd8,0x41,0x41,0x4d,0x0a,0x70,0x00,0x98,0xe8,0x79,0x77,0x79,0x40,0xc7,0x8c,0x73,0xfe,0x6f,0x2b,0xee,0x6c,0x03,0x52,())
def ahg(x y:Fe):Pt:=(true,x,y,small 1,mul x y)
def aAg(p:Pt):Pt:=G7 (!p.1) zero p
def jt:Pt:=(false,gY,gY,gY,gY)
def Je(b:iP):Bool:=dz .u8 (b.get 31) 128!=0
def DT(b:iP):Pt×Bool:=let y:=zk b
 let x:=(root y).1
 let ok:=(root y).2
 let b1:=(!ok)==false
 let b2:=(!(G8 b))==false
 let b3:=Je b==true
 let j (v:Fe):Fe:=oc b1 (oc b2 (oc b3 v v) v) v
 let jb (v:Bool):Bool:=bif b1 then(bif b2 then(bif b3 then v else v)else v)else v
 let bad:=bif b1 then(bif b2 then(bif b3 then isZero x else false)else true)else true
 let o:=jb (Je b)
 (G7 bad jt (aFn (oc o (neg (j x)) (j x)) (oc o (j y) (j y))),bif bad then false else true)
def aso(p:Pt):Fe×Fe:=(mul (own p).2.1 (invert (own p).2.2.2.1),mul (own p).2.2.1 (invert (own p).2.2.2.1))
def PI(p:Pt):iP:=let b:=bytes (place p).2
 oc (PG (place p).1) (Vec.R0 (fun x=>cV .u8 x 128) 31 b) b
def asp(e f g h:Fe):Pt:=(true,mul e f,mul g h,mul f g,mul e h)
def addFn(p0 q0:Pt):Pt:=let p:=own p0
 let q:=own q0
 let a:=mul (sub p.2.2.1 p.2.1) (sub q.2.2.1 q.2.1)
 let b:=mul (add p.2.2.1 p.2.1) (add q.2.2.1 q.2.1)
 let c:=mul (mul p.2.2.2.2 q.2.2.2.2) aFm
 let c:=add c c
 let d:=mul p.2.2.2.1 q.2.2.2.1
 let d:=add d d
 XK (sub b a) (sub d c) (add d c) (add b a)
def negFn(p:Pt):Pt:=((own p).1,neg (own p).2.1,(own p).2.2.1,(own p).2.2.2.1,neg (own p).2.2.2.2)
end
end Go.Proofs.YtliehnnljilacaaGreat
namespace Go.Ev
open Go
end Go.Ev
namespace Go.Proofs.YtliehnnljilacaaGreat
open Go Go.Ev Go.Proofs.Tryz
set_option maxRecDepth 1000000
def wO(b:iP)(k:Nat):Int:=i64.wrap (dz .u8 (shr .u8 (b.get (k/8)) ((k%8:Nat):Int)) 1)
noncomputable section
variable (bit:iP→Nat→Int) (zero base:Pt) (double:Pt→Pt) (PH:Pt→Pt→Pt)
def DU(n:iP)(p:Pt)(k:Nat)(r:Pt):Pt:=G7 (bit n (255-k)==1) (PH (double r) p) (double r)
def ahh(n:iP)(p:Pt):Pt:=sB (DU bit double PH n p) 256 zero
end
end Go.Proofs.YtliehnnljilacaaGreat
namespace Go.Proofs.YtliehnnljilacaaGreat
open Go Go.Ev Go.Proofs.Tryz
set_option maxRecDepth 1000000
def w(n:Int):Int:=i64.wrap n
noncomputable section
variable (a1N:Fn) (below:Fn→Fn→Bool) (norm:Fn→Fn)
end
end Go.Proofs.YtliehnnljilacaaGreat
namespace Go.Proofs.YtliehnnljilacaaGreat
open Go Go.Ev Go.Proofs.Tryz
set_option maxRecDepth 1000000
abbrev Pn:=Fn×Fn×Fn×Fn
noncomputable section
variable (bit:iP→Nat→Int) (small:Int→Fn) (mul add sub:Fn→Fn→Fn) (neg invert:Fn→Fn) (PG:Fn→Bool) (pow:Fn→iP→Fn) (sqrt:Fn→Fn×Bool) (ratio:Fn→Fn→Fn×Bool) (aFm:Fn)
 (zk:iP→Fn) (bytes:Fn→iP) (G8:iP→Bool) (zero:Pn) (ofp:Fn→Fn→Pn) (xOf:Fn→Fn×Bool) (aNI:Pn→Pn→Fn→Pn)
end
end Go.Proofs.YtliehnnljilacaaGreat
namespace BJ
end BJ
namespace Go.Proofs.YtliehnnljilacaaGreat
open Go Go.Ev BJ Go.Proofs.Tryz
def U64(n:Int):Prop:=0≤n∧n<18446744073709551616
end Go.Proofs.YtliehnnljilacaaGreat
namespace Go.Proofs.YtliehnnljilacaaGreat
open Go Go.Ev BJ Go.Proofs.Tryz
theorem G9{x y c:Int}(hx:0≤x)(hy:0≤y)(hc:0≤c):gr x y c=((x+y+c)%18446744073709551616,(x+y+c)/18446744073709551616):=by
 obtain⟨a,rfl⟩:=Int.eq_ofNat_of_zero_le hx;obtain⟨b,rfl⟩:=Int.eq_ofNat_of_zero_le hy;obtain⟨d,rfl⟩:=Int.eq_ofNat_of_zero_le hc;simp only[gr,Int.toNat_natCast];refine Prod.ext ?_ ?_
 ·show(((a+b+d)%2 ^ 64:Nat):Int)=_;omega
 ·show(((a+b+d)/2 ^ 64:Nat):Int)=_;omega
def zo(x:Fe)(i j:Nat):Int:=if i+j<5 then x.get i else n8 (x.get i*19)
end Go.Proofs.YtliehnnljilacaaGreat
namespace Go.Proofs.YtliehnnljilacaaGreat
open Go Go.Ev BJ Go.Proofs.Tryz
end Go.Proofs.YtliehnnljilacaaGreat
namespace Go.Proofs.YtliehnnljilacaaGreat
open Go Go.Ev BJ Go.Proofs.Tryz
def jP(x:Fe):iP:=aFl (XJ oB x)
end Go.Proofs.YtliehnnljilacaaGreat
end
noncomputable section
namespace Go.Proofs.YtliehnnljilacaaGreat
open Go Go.Ev BJ Go.Proofs.Tryz
set_option maxRecDepth 1000000
end Go.Proofs.YtliehnnljilacaaGreat
namespace BJ
end BJ
namespace Go.Proofs.YtliehnnljilacaaGreat
open Go Go.Ev BJ Go.Proofs.Tryz
abbrev mulC:Fe→Fe→Fe:=ahe gS gr oB
def powC(x:Fe)(e:iP):Fe:=aNH dL (fun x=>mulC x x) mulC x e
def sF(x:Fe):Fe:=powC x (DS 235 127)
def AI:Fe→Fe→Fe:=aNE oB
def zp:Fe→Fe→Fe:=aNF oB
def qC(x:Fe):Fe:=zp gY x
def eqC(x y:Fe):Bool:=eqV (jP x) (jP y)
def uZ:Fe→Bool:=aNG jP
def fW(x:Fe):Bool:=eqC x gY
def wP:Fe→Fe×Bool:=Jd powC DS mulC (fun x=>mulC x x) qC dL eqC uZ
def u0:Fe→Fe→Fe×Bool:=fun u v=>(oc (fW v) gY (wP (mulC u (sF v))).1,bif fW v then fW u else(wP (mulC u (sF v))).2)
end Go.Proofs.YtliehnnljilacaaGreat
namespace Go.Proofs.YtliehnnljilacaaGreat
open Go Go.Ev BJ Go.Proofs.Tryz
end Go.Proofs.YtliehnnljilacaaGreat
namespace BJ
end BJ
namespace Go.Proofs.YtliehnnljilacaaGreat
open Go Go.Ev BJ Go.Proofs.Tryz
def uz:Fe:=sD zl
def gV:Fe→Fe→Pt:=ahg mulC dL
def kh:Pt:=gV gY (dL 1)
def l9:Pt→Pt:=aAg kh
def DV:Fe→Fe→Fe→Fe→Pt:=asp mulC
def fP:Pt→Pt→Pt:=addFn mulC AI zp uz l9 DV
def DW:Pt→Pt:=negFn qC l9
end Go.Proofs.YtliehnnljilacaaGreat
namespace Go.Proofs.YtliehnnljilacaaGreat
open Go Go.Ev BJ Go.Proofs.Tryz
def oD:Fe→Fe×Bool:=fun y=>u0 (zp (mulC y y) (dL 1)) (AI (mulC uz (mulC y y)) (dL 1))
def pV:Pt:=gV (oD (mulC (dL 4) (sF (dL 5)))).1 (mulC (dL 4) (sF (dL 5)))
def nD:Pt→Fe×Fe:=aso mulC sF l9
def XL:Pt→iP:=PI uZ jP nD
def qD(b:iP):Bool:=eqV (jP (sD (PE b))) (PE b)
def asr:iP→Pt×Bool:=DT qC fW sD qD gV oD
def dW(p:Pt):Pt:=fP p p
def XM:iP→Pt→Pt:=ahh wO kh dW fP
end Go.Proofs.YtliehnnljilacaaGreat
namespace Go.Proofs.YtliehnnljilacaaGreat
open Go Go.Ev BJ Go.Proofs.Tryz
theorem wQ(x y:Fe):∀ (l:List (Nat×Nat)) (r:List (Int×Int)),(∀k,0≤(r.getD k (0,0)).2∧(r.getD k (0,0)).2<18446744073709551616)→∀p∈(uY gS gr x y l r).2,p
 | [],r,_,p,hp=>by simp[uY]at hp
 |(i,j)::l,r,hr,p,hp=>by
  have De:(uY gS gr x y ((i,j)::l) r).2=(0≤(gr (r.getD ((i+j)%5) (0,0)).2 (gS (zo x i j) (y.get j)).2 0).2∧(gr (r.getD ((i+j)%5) (0,0)).2 (gS (zo x i j) (y.get j)).2 0).2≤1)::
   (uY gS gr x y l (r.set ((i+j)%5) ((gr (r.getD ((i+j)%5) (0,0)).1 (gS (zo x i j) (y.get j)).1 (gr (r.getD ((i+j)%5) (0,0)).2 (gS (zo x i j) (y.get j)).2 0).2).1,(gr (r.getD ((i+j)%5) (0,0)).2 (gS (zo x i j) (y.get j)).2 0).1))).2:=rfl
  rw[De]at hp;have h0:=hr ((i+j)%5);generalize (r.getD ((i+j)%5) (0,0))=q at*;have hm:0≤(gS (zo x i j) (y.get j)).2∧(gS (zo x i j) (y.get j)).2<18446744073709551616:=by
   show 0≤n8 (zo x i j*y.get j)∧n8 (zo x i j*y.get j)<18446744073709551616;unfold n8;rw[tr];omega
  have hs:=G9 h0.1 hm.1 (c:=0) (by omega);rcases List.mem_cons.1 hp with rfl|hp
  ·rw[hs];show 0≤(q.2+(gS (zo x i j) (y.get j)).2+0)/18446744073709551616∧(q.2+(gS (zo x i j) (y.get j)).2+0)/18446744073709551616≤1;omega
  ·refine wQ x y l _ (fun k=>?_) p hp;have rM:∀ (v:Int×Int) (a k:Nat),(r.set a v).getD k (0,0)=r.getD k (0,0)∨(r.set a v).getD k (0,0)=v:=by
    intro v a k;simp only[List.getD_eq_getElem?_getD,List.getElem?_set];split
    ·split
     ·exact .inr rfl
     ·rename_i e h;subst e;left;rw[List.getElem?_eq_none (by omega)]
    ·exact .inl rfl
   rcases rM _ ((i+j)%5) k with e|e
   ·rw[e];exact hr k
   ·rw[e,hs];show 0≤(q.2+(gS (zo x i j) (y.get j)).2+0)%18446744073709551616∧(q.2+(gS (zo x i j) (y.get j)).2+0)%18446744073709551616<18446744073709551616;omega
def ahi:Fe→Fe:=XJ oB
end Go.Proofs.YtliehnnljilacaaGreat
namespace Go.Proofs.YtliehnnljilacaaGreat
open Go Go.Ev BJ Go.Proofs.Tryz
end Go.Proofs.YtliehnnljilacaaGreat
namespace Go.Proofs.YtliehnnljilacaaGreat
open Go Go.Ev BJ Go.Proofs.Tryz
end Go.Proofs.YtliehnnljilacaaGreat
namespace Go.Proofs.YtliehnnljilacaaGreat
open Go Go.Ev BJ Go.Proofs.Tryz
set_option maxRecDepth 100000
def aNJ(f:Nat→Int):Nat→Int
 |0=>0
 |n+1=>aNJ f n+f n
def conv(f g:Nat→Int)(n j:Nat):Int:=aNJ (fun i=>if i≤j∧j-i<16 then f i*g (j-i)else 0) n
noncomputable section
variable (base zero:Pt) (encode:Pt→iP) (decode:iP→Pt×Bool) (PH:Pt→Pt→Pt) (equal:Pt→Pt→Bool) (alive:Bool)
end
end Go.Proofs.YtliehnnljilacaaGreat
namespace BJ
end BJ
namespace Go.Proofs.YtliehnnljilacaaGreat
open Go Go.Ev BJ Go.Proofs.Tryz
end Go.Proofs.YtliehnnljilacaaGreat
namespace BJ
end BJ
namespace Go.Proofs.YtliehnnljilacaaGreat
open Go Go.Ev BJ Go.Proofs.Tryz
end Go.Proofs.YtliehnnljilacaaGreat
namespace Go.Proofs.YtliehnnljilacaaGreat
open Go Go.Ev BJ Go.Proofs.Tryz
set_option maxRecDepth 100000
end Go.Proofs.YtliehnnljilacaaGreat
namespace BJ
end BJ
namespace Go.Proofs.YtliehnnljilacaaGreat
open Go Go.Ev Go.Proofs.Tryz
set_option maxRecDepth 1000000
noncomputable section
variable (bit:iP→Nat→Int) (zero:Pn) (aFm:Fn) (add:Fn→Fn→Fn) (aNI:Pn→Pn→Fn→Pn)
end
noncomputable section
variable (decode:iP→Pt×Bool) (base:Pt) (double:Pt→Pt)
end
noncomputable section
variable (decode:iP→Pt×Bool) (base:Pt) (double:Pt→Pt) (ass:iP→Pn×Bool) (a1O:Pn) (aNK:Pn→Pn→Pn)
end
end Go.Proofs.YtliehnnljilacaaGreat
namespace Go.Proofs.YtliehnnljilacaaGreat
open Go Go.Ev BJ Go.Proofs.Tryz
set_option maxRecDepth 1000000
end Go.Proofs.YtliehnnljilacaaGreat
namespace Go.Ev
open Go
end Go.Ev
namespace Go.Proofs.YtliehnnljilacaaGreat
open Go Go.Ev BJ Go.Proofs.Tryz
set_option maxRecDepth 1000000
noncomputable section
variable (at2:iP→Pt×Pn) (zero:Pt) (add:Pt→Pt→Pt) (neg double:Pt→Pt) (equal:Pt→Pt→Bool) (encode:Pt→iP)
end
noncomputable section
variable (at2:iP→Pt×Pn) (decode:iP→Pt×Bool) (add:Pt→Pt→Pt) (neg double:Pt→Pt) (equal:Pt→Pt→Bool) (encode:Pt→iP) (ass:iP→Pn×Bool) (aNK:Pn→Pn→Pn) (a1P:Pn→Pn) (aYm:Pn→Pn→Bool) (aWq:Pn→iP)
end
noncomputable section
variable (zero:Pt) (decode:iP→Pt×Bool) (neg double:Pt→Pt) (equal:Pt→Pt→Bool)
end
end Go.Proofs.YtliehnnljilacaaGreat
namespace Go.Proofs.YtliehnnljilacaaGreat
open Go Go.Ev BJ Go.Proofs.Tryz
end Go.Proofs.YtliehnnljilacaaGreat
namespace Go.Proofs.YtliehnnljilacaaGreat
open Go Go.Ev BJ Go.Proofs.Tryz
end Go.Proofs.YtliehnnljilacaaGreat
namespace Go.Proofs.YtliehnnljilacaaGreat
open Go Go.Ev BJ Go.Proofs.Tryz
set_option maxRecDepth 1000000
noncomputable section
variable (alive:Unit) (mult:iP→Pt→Pt) (a1Q:iP→Pt) (base zero:Pt) (double neg:Pt→Pt) (equal:Pt→Pt→Bool) (a3q:iP→Pt) (add:Pt→Pt→Pt) (half:iP→iP) (plus:iP→iP→iP) (a3r:iP→Pt→iP→Pt)
end
end Go.Proofs.YtliehnnljilacaaGreat
namespace Go.Proofs.YtliehnnljilacaaGreat
open Go Go.Ev Go.Proofs.Tryz
set_option maxRecDepth 1000000
noncomputable section
variable (bit:iP→Nat→Int) (zero base:Pt) (double:Pt→Pt) (PH:Pt→Pt→Pt)
def PJ(z:Int): {n:Nat}→List (Vec Int n)→Vec Int n
 |0,_=>()
 |_+1,l=>((l.map (·.1)).getD z.toNat 0,PJ z (l.map (·.2)))
def Jf(z:Int)(l:List Pt):Pt:=((l.map (·.1)).getD z.toNat false,PJ z (l.map (·.2.1)),PJ z (l.map (·.2.2.1)),PJ z (l.map (·.2.2.2.1)),PJ z (l.map (·.2.2.2.2)))
def aNL(a b c d:Pt):Vec Pt 4:=(a,b,c,d,())
def aFo(a b:iP)(i:Int):Int:=w (bit a i.toNat+w (2*bit b i.toNat))
def Jg(a b:iP)(l:Vec Pt 4)(i:Int)(r:Pt):Pt:=G7 (decide (aFo bit a b i>0)) (PH (double r) (Jf (aFo bit a b i) l.toList)) (double r)
def aAh(a:iP)(p:Pt)(b:iP):Pt:=sB (fun k r=>Jg bit double PH a b (aNL zero p base (PH p base)) (255-(k:Int)) r) 256 zero
end
end Go.Proofs.YtliehnnljilacaaGreat
namespace Go.Proofs.YtliehnnljilacaaGreat
open Go Go.Ev BJ Go.Proofs.Tryz
theorem aFp{e:iP}(_k:Nat):wO e _k=0∨wO e _k=1:=by
 unfold wO;rw[aEs (m:=1) (by decide) _ 1 (by decide)];have h:=Int.emod_nonneg (shr .u8 (e.get (_k/8)) ((_k%8:Nat):Int)) (b:=((2 ^ 1:Nat):Int)) (by decide);have h2:=Int.emod_lt_of_pos (shr .u8 (e.get (_k/8)) ((_k%8:Nat):Int)) (b:=((2 ^ 1:Nat):Int)) (by decide);generalize (shr .u8 (e.get (_k/8)) ((_k%8:Nat):Int))%((2 ^ 1:Nat):Int)=x at*;have h3:((2 ^ 1:Nat):Int)=2:=by decide
 rw[h3]at h2;rw[wrap_i64 (by omega) (by omega)];omega
def ast:iP→Pt→iP→Pt:=aAh wO kh pV dW fP
end Go.Proofs.YtliehnnljilacaaGreat
end
namespace Go.Proofs.YtliehnnljilacaaGreat
open Go Go.Ev BJ Go.Proofs.Tryz
set_option maxRecDepth 1000000
abbrev oW:cl LV Fe:=jf (nC .u64 5)
abbrev cB:cl LV ab:=SA .u8 32
abbrev asu(b:iP):LV:=lD .u8 32 b.toList
abbrev asv:cl (List LV) (Int×Unit):=bD (bO (bX .u64)) bG
abbrev u1:cl (List LV) (Fe×Unit):=bD oW bG
abbrev pW:cl (List LV) (Fe×Fe×Unit):=bD oW (bD oW bG)
abbrev mW:cl (List LV) (ab×Unit):=bD cB bG
abbrev kK:List Wk:= [.fr [.sym],.bS]
abbrev kR:List Wk:= [.fr [.sym],.mS 0 0 32 .u8,.bS]
def wR:bT:=bT.fw [] u1 bG fun x_ y_=>(fun(x:Fe)=>.bN none (oW.wr (oB x)) []) x_.1
theorem PK(x:Fe):cY aA [] [] f125 (u1.wr (x,())) (bG.wr ()) [.fr [.sym],.bS]= .bN (oW.wr (oB x)) ([]):=by kernel_rfl
theorem tA:wR.Ok aA 125:=by
 refine(bT.df call125 fun x_ y_ Q H_=>?_).sym;obtain⟨x,_⟩:=x_;have hq:=H_.2;refine(cg bJ bU func125 rfl (LT:= []) (ks:=aq) (cn.nil _)).use (D:= []) ?_ hq;show(cY _ _ _ _ (u1.wr (x,())) (bG.wr ()) _).sat _;rw[PK];exact⟨rfl,rfl⟩
def Jh:bT:=bT.fw [] asv bG fun x_ y_=>(fun(n:Int)=>.bN none (oW.wr (dL n)) []) x_.1
theorem PL(n:Int):cY aA [] [] f83 (asv.wr (n,())) (bG.wr ()) [.fr [.sym],.bS]= .bN (oW.wr (dL n)) ([]):=by kernel_rfl
theorem Ha:Jh.Ok aA 83:=by
 refine(bT.df call83 fun x_ y_ Q H_=>?_).sym;obtain⟨n,_⟩:=x_;have hq:=H_.2;refine(cg bJ bU func83 rfl (LT:= []) (ks:=aq) (cn.nil _)).use (D:= []) ?_ hq;show(cY _ _ _ _ (asv.wr (n,())) (bG.wr ()) _).sat _;rw[PL];exact⟨rfl,rfl⟩
def aAi:bT:=bT.fw [] pW bG fun x_ y_=>(fun(x y:Fe)=>.bN none (oW.wr (AI x y)) []) x_.1 x_.2.1
theorem acK(x y:Fe):cY aA [(125,wR)] [] f121 (pW.wr (x,y,())) (bG.wr ()) [.fr [.sym],.bS]= .bN (oW.wr (AI x y)) ([]):=by kernel_rfl
theorem asw:aAi.Ok aA 121:=by
 refine(bT.df call121 fun x_ y_ Q H_=>?_).sym;obtain⟨x,y,_⟩:=x_;have hq:=H_.2;refine(cg bJ ((bI tA bU)) func121 rfl (LT:= []) (ks:=aq) (cn.nil _)).use (D:= []) ?_ hq;show(cY _ _ _ _ (pW.wr (x,y,())) (bG.wr ()) _).sat _;rw[acK];exact⟨rfl,rfl⟩
def ahj:bT:=bT.fw [] pW bG fun x_ y_=>(fun(x y:Fe)=>.bN none (oW.wr (zp x y)) []) x_.1 x_.2.1
theorem acL(x y:Fe):cY aA [(125,wR)] [] f120 (pW.wr (x,y,())) (bG.wr ()) [.fr [.sym],.bS]= .bN (oW.wr (zp x y)) ([]):=by kernel_rfl
theorem XN:ahj.Ok aA 120:=by
 refine(bT.df call120 fun x_ y_ Q H_=>?_).sym;obtain⟨x,y,_⟩:=x_;have hq:=H_.2;refine(cg bJ ((bI tA bU)) func120 rfl (LT:= []) (ks:=aq) (cn.nil _)).use (D:= []) ?_ hq;show(cY _ _ _ _ (pW.wr (x,y,())) (bG.wr ()) _).sat _;rw[acL];exact⟨rfl,rfl⟩
def aAj:bT:=bT.fw [] u1 bG fun x_ y_=>(fun(x:Fe)=>.bN none (oW.wr (qC x)) []) x_.1
theorem acM(x:Fe):cY aA [(120,ahj)] [] f203 (u1.wr (x,())) (bG.wr ()) [.fr [.sym],.bS]= .bN (oW.wr (qC x)) ([]):=by kernel_rfl
theorem asx:aAj.Ok aA 203:=by
 refine(bT.df call203 fun x_ y_ Q H_=>?_).sym;obtain⟨x,_⟩:=x_;have hq:=H_.2;refine(cg bJ ((bI XN bU)) func203 rfl (LT:= []) (ks:=aq) (cn.nil _)).use (D:= []) ?_ hq;show(cY _ _ _ _ (u1.wr (x,())) (bG.wr ()) _).sat _;rw[acM];exact⟨rfl,rfl⟩
def aFq:bT:=bT.fw [] ((bD (bO (bX .u64)) (bD (bO (bX .u64)) bG))) bG fun x_ y_=>(fun(x y:Int)=>.bN none (.dB [.sc (.int .u64 (.sym (gS x y).1)),.sc (.int .u64 (.sym (gS x y).2))]) []) x_.1 x_.2.1
theorem Ti(x y:Int):cY aA [] [] f164 (((bD (bO (bX .u64)) (bD (bO (bX .u64)) bG))).wr (x,y,())) (bG.wr ()) [.fr [.sym],.bS]= .bN (.dB [.sc (.int .u64 (.sym (gS x y).1)),.sc (.int .u64 (.sym (gS x y).2))]) ([]):=by kernel_rfl
theorem ahk:aFq.Ok aA 164:=by
 refine(bT.df call164 fun x_ y_ Q H_=>?_).sym;obtain⟨x,y,_⟩:=x_;have hq:=H_.2;refine(cg bJ bU func164 rfl (LT:= []) (ks:=aq) (cn.nil _)).use (D:= []) ?_ hq;show(cY _ _ _ _ (((bD (bO (bX .u64)) (bD (bO (bX .u64)) bG))).wr (x,y,())) (bG.wr ()) _).sat _;rw[Ti];exact⟨rfl,rfl⟩
def Tj:bT:=bT.fw [] mW bG fun x_ y_=>(fun(b:ab)=>.bN none (oW.wr (sD (sC b))) []) x_.1
theorem Tk(b:ab):cY aA [] [] f163 (mW.wr (b,())) (bG.wr ()) [.fr [.sym],.bS]= .bN (oW.wr (sD (sC b))) ([]):=by kernel_rfl
theorem PM:Tj.Ok aA 163:=by
 refine(bT.df call163 fun x_ y_ Q H_=>?_).sym;obtain⟨b,_⟩:=x_;have hq:=H_.2;refine(cg bJ bU func163 rfl (LT:= []) (ks:=aq) (cn.nil _)).use (D:= []) ?_ hq;show(cY _ _ _ _ (mW.wr (b,())) (bG.wr ()) _).sat _;rw[Tk];exact⟨rfl,rfl⟩
def XO:bT:=bT.fw [] u1 bG fun x_ y_=>(fun(x:Fe)=>.bN none (oW.wr (ahi x)) []) x_.1
theorem PN(x:Fe):cY aA [(125,wR)] [] f88 (u1.wr (x,())) (bG.wr ()) [.fr [.sym],.bS]= .bN (oW.wr (ahi x)) ([]):=by kernel_rfl
theorem acN:XO.Ok aA 88:=by
 refine(bT.df call88 fun x_ y_ Q H_=>?_).sym;obtain⟨x,_⟩:=x_;have hq:=H_.2;refine(cg bJ ((bI tA bU)) func88 rfl (LT:= []) (ks:=aq) (cn.nil _)).use (D:= []) ?_ hq;show(cY _ _ _ _ (u1.wr (x,())) (bG.wr ()) _).sat _;rw[PN];exact⟨rfl,rfl⟩
def wS:bT:=bT.fw [] u1 bG fun x_ y_=>(fun(x:Fe)=>.bN none (asu (jP x)) []) x_.1
theorem PO(x:Fe):cY aA [(88,XO)] [] f56 (u1.wr (x,())) (bG.wr ()) kR= .bN (asu (jP x)) ([]):=by kernel_rfl
theorem tC:wS.Ok aA 56:=by
 refine(bT.df call56 fun x_ y_ Q H_=>?_).sym;obtain⟨x,_⟩:=x_;have hq:=H_.2;refine(cg bJ ((bI acN bU)) func56 rfl (LT:= []) (ks:=kR) (cn.nil _)).use (D:= []) ?_ hq;show(cY _ _ _ _ (u1.wr (x,())) (bG.wr ()) _).sat _;rw[PO];exact⟨rfl,rfl⟩
abbrev aFr:bT:=(pU gr).sym
theorem PQ:aFr.Ok aA 165:=(Tf func165 (by kernel_rfl) (by kernel_rfl) (by kernel_rfl) (by kernel_rfl) rfl).sym
def aAk(m:Int→Int→Int×Int):bT:=bT.fw [] (bD (bO (bX .u64)) (bD (bO (bX .u64)) bG)) bG fun x _=>.bN none (.dB [.sc (.int .u64 (.sym (m x.1 x.2.1).1)),.sc (.int .u64 (.sym (m x.1 x.2.1).2))]) []
abbrev sG(o:Nat):cl (List LV) (Int×Int×Unit):=bR (bO (cr 0 o)) (bD (bO (bX .u64)) (bD (bO (bX .u64)) bG))
abbrev sH:cl Hp (Vec Int 10×Unit):=bD (ob 200 (nC .u64 10)) bG
noncomputable section
variable (m:Int→Int→Int×Int) (a:Int→Int→Int→Int×Int)
def oE(k:Nat)(x y:Int)(v:Vec Int 10):Int×Int:=a (v.get (2*k+1)) (m x y).2 0
def sI(k:Nat)(x y:Int)(v:Vec Int 10):Vec Int 10:=Vec.R0 (fun _=>(oE m a k x y v).1) (2*k+1) (Vec.R0 (fun _=>(a (v.get (2*k)) (m x y).1 (oE m a k x y v).2).1) (2*k) v)
def uA(k:Nat):bT:=bT.fw [] (sG (2*k)) sH fun x h=>.bN (some (0≤(oE m a k x.1 x.2.1 h.1).2∧(oE m a k x.1 x.2.1 h.1).2≤1)) (.dB []) [(0,.cK ((nC .u64 10).wr (sI m a k x.1 x.2.1 h.1)) 200)]
abbrev qE:List (FuncId×bT):= [(164,aAk m),(165,(pU a).sym)]
abbrev uB:List Wk:= [.cK 0 (List.replicate 10 .sym),.bS]
theorem Tl(x y:Int)(v:Vec Int 10):cY aA (qE m a) [] f124 ((sG 0).wr (x,y,())) (sH.wr (v,())) uB=.need (0≤(0:Int)∧(0:Int)≤1) (.need (0≤(oE m a 0 x y v).2∧(oE m a 0 x y v).2≤1) (.bN (.dB []) [some (.cK ((nC .u64 10).wr (sI m a 0 x y v)) 200)])):=by kernel_rfl
theorem Tm(x y:Int)(v:Vec Int 10):cY aA (qE m a) [] f124 ((sG 2).wr (x,y,())) (sH.wr (v,())) uB=.need (0≤(0:Int)∧(0:Int)≤1) (.need (0≤(oE m a 1 x y v).2∧(oE m a 1 x y v).2≤1) (.bN (.dB []) [some (.cK ((nC .u64 10).wr (sI m a 1 x y v)) 200)])):=by kernel_rfl
theorem Tn(x y:Int)(v:Vec Int 10):cY aA (qE m a) [] f124 ((sG 4).wr (x,y,())) (sH.wr (v,())) uB=.need (0≤(0:Int)∧(0:Int)≤1) (.need (0≤(oE m a 2 x y v).2∧(oE m a 2 x y v).2≤1) (.bN (.dB []) [some (.cK ((nC .u64 10).wr (sI m a 2 x y v)) 200)])):=by kernel_rfl
theorem To(x y:Int)(v:Vec Int 10):cY aA (qE m a) [] f124 ((sG 6).wr (x,y,())) (sH.wr (v,())) uB=.need (0≤(0:Int)∧(0:Int)≤1) (.need (0≤(oE m a 3 x y v).2∧(oE m a 3 x y v).2≤1) (.bN (.dB []) [some (.cK ((nC .u64 10).wr (sI m a 3 x y v)) 200)])):=by kernel_rfl
theorem Tp(x y:Int)(v:Vec Int 10):cY aA (qE m a) [] f124 ((sG 8).wr (x,y,())) (sH.wr (v,())) uB=.need (0≤(0:Int)∧(0:Int)≤1) (.need (0≤(oE m a 4 x y v).2∧(oE m a 4 x y v).2≤1) (.bN (.dB []) [some (.cK ((nC .u64 10).wr (sI m a 4 x y v)) 200)])):=by kernel_rfl
variable (hm:∀p∈qE m a,p.2.Ok aA p.1)
include hm
theorem ahl:(uA m a 0).Ok aA 124:=by
 refine(bT.df call124 fun x_ y_ Q H_=>?_).sym;obtain⟨x,y,_⟩:=x_;obtain⟨v,_⟩:=y_;obtain⟨hn,hq⟩:=H_;refine(cg bJ hm func124 rfl (LT:= []) (ks:=uB) (cn.nil _)).use (D:= [(0,.cK ((nC .u64 10).wr (sI m a 0 x y v)) 200)]) ?_ hq;show(cY _ _ _ _ ((sG 0).wr (x,y,())) (sH.wr (v,())) _).sat _;rw[Tl];exact⟨by decide,hn,rfl,rfl⟩
theorem ahm:(uA m a 1).Ok aA 124:=by
 refine(bT.df call124 fun x_ y_ Q H_=>?_).sym;obtain⟨x,y,_⟩:=x_;obtain⟨v,_⟩:=y_;obtain⟨hn,hq⟩:=H_;refine(cg bJ hm func124 rfl (LT:= []) (ks:=uB) (cn.nil _)).use (D:= [(0,.cK ((nC .u64 10).wr (sI m a 1 x y v)) 200)]) ?_ hq;show(cY _ _ _ _ ((sG 2).wr (x,y,())) (sH.wr (v,())) _).sat _;rw[Tm];exact⟨by decide,hn,rfl,rfl⟩
theorem ahn:(uA m a 2).Ok aA 124:=by
 refine(bT.df call124 fun x_ y_ Q H_=>?_).sym;obtain⟨x,y,_⟩:=x_;obtain⟨v,_⟩:=y_;obtain⟨hn,hq⟩:=H_;refine(cg bJ hm func124 rfl (LT:= []) (ks:=uB) (cn.nil _)).use (D:= [(0,.cK ((nC .u64 10).wr (sI m a 2 x y v)) 200)]) ?_ hq;show(cY _ _ _ _ ((sG 4).wr (x,y,())) (sH.wr (v,())) _).sat _;rw[Tn];exact⟨by decide,hn,rfl,rfl⟩
theorem aho:(uA m a 3).Ok aA 124:=by
 refine(bT.df call124 fun x_ y_ Q H_=>?_).sym;obtain⟨x,y,_⟩:=x_;obtain⟨v,_⟩:=y_;obtain⟨hn,hq⟩:=H_;refine(cg bJ hm func124 rfl (LT:= []) (ks:=uB) (cn.nil _)).use (D:= [(0,.cK ((nC .u64 10).wr (sI m a 3 x y v)) 200)]) ?_ hq;show(cY _ _ _ _ ((sG 6).wr (x,y,())) (sH.wr (v,())) _).sat _;rw[To];exact⟨by decide,hn,rfl,rfl⟩
theorem ahp:(uA m a 4).Ok aA 124:=by
 refine(bT.df call124 fun x_ y_ Q H_=>?_).sym;obtain⟨x,y,_⟩:=x_;obtain⟨v,_⟩:=y_;obtain⟨hn,hq⟩:=H_;refine(cg bJ hm func124 rfl (LT:= []) (ks:=uB) (cn.nil _)).use (D:= [(0,.cK ((nC .u64 10).wr (sI m a 4 x y v)) 200)]) ?_ hq;show(cY _ _ _ _ ((sG 8).wr (x,y,())) (sH.wr (v,())) _).sat _;rw[Tp];exact⟨by decide,hn,rfl,rfl⟩
omit hm
def XP:bT:=(uA m a 0).or ((uA m a 1).or ((uA m a 2).or ((uA m a 3).or (uA m a 4))))
def ahq(l:List Prop)(e:Ev.End):Ev.End:=l.foldr Ev.End.need e
theorem DX{R:LV→Hp→Prop}:∀ {l:List Prop} {e:Ev.End},(∀p∈l,p)→e.sat R→(ahq l e).sat R
 | [],_,_,h=>h
 |p::l,e,hl,h=>⟨hl p (by simp),DX (fun q hq=>hl q (by simp[hq])) h⟩
theorem acO(x y:Fe):cY aA [(124,XP m a),(125,wR)] [] f82 (pW.wr (x,y,())) [] kK=ahq (PF m a x y) (Ev.End.bN (oW.wr (ahe m a oB x y)) []):=by kernel_rfl
end
theorem ahr:(aAk gS).Ok aA 164:=ahk
theorem nE:∀p∈qE gS gr,p.2.Ok aA p.1:=bI ahr (bI PQ bU)
theorem Tq:(XP gS gr).Ok aA 124:=(ahl gS gr nE).or ((ahm gS gr nE).or ((ahn gS gr nE).or ((aho gS gr nE).or (ahp gS gr nE))))
theorem acP(x y:Fe):∀p∈PF gS gr x y,p:=wQ x y DR _ fun k=>by
 have:([(0,0),(0,0),(0,0),(0,0),(0,0)]:List (Int×Int)).getD k (0,0)=(0,0):=by
  match k with
  |0=>rfl
  |1=>rfl
  |2=>rfl
  |3=>rfl
  |4=>rfl
  |k+5=>rfl
 rw[this];exact⟨by decide,by decide⟩
def Hb:bT:=bT.fw [] pW bG fun x _=>.bN none (oW.wr (mulC x.1 x.2.1)) []
theorem Ji:Hb.Ok aA 82:=by
 refine(bT.df call82 fun x_ y_ Q H_=>?_).sym;obtain⟨x,y,_⟩:=x_;have hq:=H_.2;refine(cg bJ (bI Tq (bI tA bU)) func82 rfl (LT:= []) (ks:=kK) (cn.nil _)).use (D:= []) ?_ hq;show(cY _ _ _ _ (pW.wr (x,y,())) [] _).sat _;rw[acO];exact DX (acP x y) ⟨rfl,rfl⟩
def ahs:bT:=bT.fw [] u1 bG fun x_ y_=>(fun(x:Fe)=>.bN none (oW.wr (mulC x x)) []) x_.1
theorem aht(x:Fe):cY aA [(82,Hb)] [] f128 (u1.wr (x,())) (bG.wr ()) [.fr [.sym],.bS]= .bN (oW.wr (mulC x x)) ([]):=by kernel_rfl
theorem ahu:ahs.Ok aA 128:=by
 refine(bT.df call128 fun x_ y_ Q H_=>?_).sym;obtain⟨x,_⟩:=x_;have hq:=H_.2;refine(cg bJ ((bI Ji bU)) func128 rfl (LT:= []) (ks:=aq) (cn.nil _)).use (D:= []) ?_ hq;show(cY _ _ _ _ (u1.wr (x,())) (bG.wr ()) _).sat _;rw[aht];exact⟨rfl,rfl⟩
theorem XQ(u v:iP):decide (u.toList=v.toList)=eqV u v:=by
 cases h:eqV u v with
 |true=>rw[(Jc u v).1 h];simp
 |false=>exact decide_eq_false fun e=>by rw[(Jc u v).2 (Vec.toList_inj e)]at h;cases h
def aFs:bT:=bT.fw [] pW bG fun x_ y_=>(fun(x y:Fe)=>.bN none (nB (eqC x y)) []) x_.1 x_.2.1
theorem ahv(x y:Fe):cY aA [(56,wS)] [] f202 (pW.wr (x,y,())) (bG.wr ()) [.fr [.sym],.bS]= .bN (nB (decide ((jP x).toList=(jP y).toList))) []:=by kernel_rfl
theorem ahw:aFs.Ok aA 202:=by
 refine(bT.df call202 fun x_ y_ Q H_=>?_).sym;obtain⟨x,y,_⟩:=x_;have hq:=H_.2;refine(cg bJ ((bI tC bU)) func202 rfl (LT:= []) (ks:=aq) (cn.nil _)).use (D:= []) ?_ hq;show(cY _ _ _ _ (pW.wr (x,y,())) (bG.wr ()) _).sat _;rw[ahv];rw[XQ];exact⟨rfl,rfl⟩
def ahx:bT:=bT.fw [] u1 bG fun x_ y_=>(fun(x:Fe)=>.bN none (nB (fW x)) []) x_.1
theorem Ts(x:Fe):cY aA [(202,aFs)] [] f166 (u1.wr (x,())) (bG.wr ()) [.fr [.sym],.bS]= .bN (nB (fW x)) ([]):=by kernel_rfl
theorem ahy:ahx.Ok aA 166:=by
 refine(bT.df call166 fun x_ y_ Q H_=>?_).sym;obtain⟨x,_⟩:=x_;have hq:=H_.2;refine(cg bJ ((bI ahw bU)) func166 rfl (LT:= []) (ks:=aq) (cn.nil _)).use (D:= []) ?_ hq;show(cY _ _ _ _ (u1.wr (x,())) (bG.wr ()) _).sat _;rw[Ts];exact⟨rfl,rfl⟩
def aAl:bT:=bT.fw [] u1 bG fun x_ y_=>(fun(x:Fe)=>.bN none (nB (uZ x)) []) x_.1
theorem acQ(x:Fe):cY aA [(56,wS)] [] f57 (u1.wr (x,())) (bG.wr ()) [.fr [.sym],.bS]= .bN (nB (uZ x)) ([]):=by kernel_rfl
theorem asy:aAl.Ok aA 57:=by
 refine(bT.df call57 fun x_ y_ Q H_=>?_).sym;obtain⟨x,_⟩:=x_;have hq:=H_.2;refine(cg bJ ((bI tC bU)) func57 rfl (LT:= []) (ks:=aq) (cn.nil _)).use (D:= []) ?_ hq;show(cY _ _ _ _ (u1.wr (x,())) (bG.wr ()) _).sat _;rw[acQ];exact⟨rfl,rfl⟩
theorem nF{l:ab}(h:l.length=32):(sC l).toList=l:=by
 have e:(sC l).toList=(List.range 32).map fun i=>l.getD i 0:=rfl;rw[e,afR h]
theorem Jj(u:iP):sC u.toList=u:=Vec.toList_inj (nF (Vec.iL u))
theorem DY{f:Int→Int}: {n:Nat}→(k:Nat)→(v:Vec Int n)→(Vec.R0 f k v).toList=v.toList.modify k f
 |0,k,_=>by simp[Vec.R0,Vec.toList]
 |n+1,0,v=>by simp[Vec.R0,Vec.toList]
 |n+1,k+1,v=>by simp[Vec.R0,Vec.toList,DY k v.2]
theorem XR{l:ab}(h:l.length=32){k:Nat}(hk:k<32)(f:Int→Int):sC (l.set k (f (l.getD k 0)))=Vec.R0 f k (sC l):=by
 apply Vec.toList_inj;rw[DY,nF h,nF (by simpa using h),List.getD_eq_getElem?_getD,List.getElem?_eq_getElem (by omega:k<l.length),Option.getD_some];apply List.ext_getElem?;intro i;simp only[List.getElem?_modify,List.getElem?_set];by_cases e:k=i
 ·subst e;simp[h,hk]
 ·simp[e]
theorem XS(l:ab):∀ {k:Nat},k<32→(sC l).get k=l.getD k 0:=by
 have key:∀ (n:Nat) (g:Nat→Int) (k:Nat),k<n→(Vec.ofFn n g).get k=g k:=by
  intro n;induction n with
  |zero=>intro g k hk;omega
  |succ n ih=>
   intro g k hk;cases k with
   |zero=>rfl
   |succ k=>exact ih (fun i=>g (i+1)) k (by omega)
 intro k hk;exact key 32 (fun i=>l.getD i 0) k hk
theorem DZ(k m:Nat):(k:Int).tmod (m:Int)=((k%m:Nat):Int):=by rw[Int.tmod_eq_emod_of_nonneg (by omega),← Int.natCast_emod]
def XT:bT:=bT.fw [] mW bG fun x_ y_=>(fun(b:ab)=>.bN (some (b.length=32)) (nB (qD (sC b))) []) x_.1
theorem PR(b:ab):cY aA [(56,wS),(163,Tj)] [] f209 (mW.wr (b,())) (bG.wr ()) [.fr [.sym],.bS]= .bN (nB (decide ((jP (sD (sC (b.set 31 (eL .u8 (b.getD 31 0) 128))))).toList=b.set 31 (eL .u8 (b.getD 31 0) 128)))) []:=by kernel_rfl
theorem acR:XT.Ok aA 209:=by
 refine(bT.df call209 fun x_ y_ Q H_=>?_).sym;obtain⟨b,_⟩:=x_;obtain⟨hn,hq⟩:=H_;have hn:b.length=32:=hn;refine(cg bJ ((bI tC (bI PM bU))) func209 rfl (LT:= []) (ks:=aq) (cn.nil _)).use (D:= []) ?_ hq;show(cY _ _ _ _ (mW.wr (b,())) (bG.wr ()) _).sat _;rw[PR];have e:=XR hn (k:=31) (by omega) (fun x=>eL .u8 x 128);rw[show b.set 31 (eL .u8 (b.getD 31 0) 128)=(sC (b.set 31 (eL .u8 (b.getD 31 0) 128))).toList from(nF (by simpa using hn)).symm,XQ,Jj,e];exact⟨rfl,rfl⟩
def aAm:bT:=bT.fw [] ((bD (bO (bX .u8)) (bD (bO (bX .u8)) bG))) bG fun x_ y_=>(fun(lo hi:Int)=>.bN none (asu (DS lo hi)) []) x_.1 x_.2.1
theorem acS(lo hi:Int):cY aA [] [] f127 (((bD (bO (bX .u8)) (bD (bO (bX .u8)) bG))).wr (lo,hi,())) (bG.wr ()) kR= .bN (asu (DS lo hi)) ([]):=by kernel_rfl
theorem asz:aAm.Ok aA 127:=by
 refine(bT.df call127 fun x_ y_ Q H_=>?_).sym;obtain⟨lo,hi,_⟩:=x_;have hq:=H_.2;refine(cg bJ bU func127 rfl (LT:= []) (ks:=kR) (cn.nil _)).use (D:= []) ?_ hq;show(cY _ _ _ _ (((bD (bO (bX .u8)) (bD (bO (bX .u8)) bG))).wr (lo,hi,())) (bG.wr ()) _).sat _;rw[acS];exact⟨rfl,rfl⟩
abbrev aFt:Func:=f126
abbrev poC:cl (List LV) (Int×Unit):=jk 2 (bR (bO (cr 0 0)) (bR (bO (cr 1 0)) (bR (bO (cr 2 0)) (bR (bO (cr 3 0)) (bD (bO (bX .i64)) (jk 20 bG))))))
abbrev asA:Wk:=.fr (eH 27 [(2,.bV),(3,.bV),(4,.bV),(5,.bV),(6,.sym)])
abbrev poX:cl (List LV) (Unit):=jk 4 (bR (bO (cr 0 0)) (bR (bO (cr 1 0)) (jk 21 bG)))
abbrev iFe:cl (Option bE) Fe:=ob 83 (nC .u64 5)
abbrev poH:cl Hp (Fe×ab×Fe×Fe×Unit):=bD iFe (bD (rG 22 .u8 32) (bD iFe (bD iFe bG)))
abbrev acT:cl Hp (Fe×Fe×Unit):=bD iFe (bD iFe bG)
abbrev ahz:List (FuncId×bT):= [(83,Jh),(128,ahs),(82,Hb)]
theorem PS:∀p∈ahz,p.2.Ok aA p.1:=bI Ha (bI ahu (bI Ji bU))
abbrev PT(i:Nat):Wk:=.cK i (List.replicate 5 .sym)
def poW:Exit→List Wk
 | .normal=> [asA,PT 2,PT 3,.bS]
 | .exit 0=> [.fr (eH 27 [(4,.bV),(5,.bV)]),.bS]
 |_=> []
theorem aFu(x r o:Fe)(e:ab)(i:Int):ma aA ahz [] aFt 0 [] poW ((dy poC poH).wr ((i,()),(x,e,r,o,())))=cT.ite (decide ((0:Int)≤i)) (cT.need ((0:Int)≤i64.wrap (i.tdiv 8)∧i64.wrap (i.tdiv 8)<(32:Int)) (cT.need ((0:Int)≤i.tmod 8) (cT.ite (dz IntKind.u8 (shr IntKind.u8 ((List.take 32 (List.drop 0 e)).getD (i64.wrap (i.tdiv 8)).toNat (0:Int)) (i.tmod 8)) (1:Int)==(1:Int)) (cT.bN Exit.normal ((dy poC poH).wr ((i64.wrap (i-1),PUnit.unit),x,e,r,mulC (mulC o o) x,PUnit.unit))) (cT.bN Exit.normal ((dy poC poH).wr ((i64.wrap (i-1),PUnit.unit),x,e,r,mulC o o,PUnit.unit)))))) (cT.bN (Exit.exit 0) ((dy poX acT).wr (PUnit.unit,r,o,PUnit.unit))):=by kernel_rfl
theorem asB{e:ab}(he:e.length=32){j:Nat}(hj:j<256):(dz .u8 (shr .u8 ((List.take 32 (List.drop 0 e)).getD (i64.wrap ((j:Int).tdiv 8)).toNat 0) ((j:Int).tmod 8)) 1==1)=ahf (sC e) j:=by
 have e1:i64.wrap ((j:Int).tdiv 8)=((j/8:Nat):Int):=nw j 8 (by omega);have e2:(j:Int).tmod 8=((j%8:Nat):Int):=DZ j 8;rw[e1,e2,eM he,Int.toNat_natCast];unfold ahf;rw[XS e (show j/8<32 by omega)]
def poF(x:(Int×Unit)×Fe×ab×Fe×Fe×Unit):cT:=.need (x.1.1=255∧x.2.2.1.length=32) (.bN (.exit 0) ((dy poX acT).wr ((),(x.2.2.2.1,sB (oC (fun x=>mulC x x) mulC x.2.1 (sC x.2.2.1)) 256 x.2.2.2.2.1,()))))
theorem asC(x):Ex aA [] (.loop (cG aFt 0)) ((dy poC poH).wr x) (poF x):=by
 obtain⟨⟨i,_⟩,x,e,r,o,_⟩:=x;refine Ex.need fun⟨h1,h2⟩=>?_;simp only at h1 h2;subst h1
 have key:=kB (fn:=aFt) (id:=0) (j:=0) (ws:=poW) (hp:= []) bJ PS (cn.nil _) 256 (fun k o=>(dy poC poH).wr ((255-(k:Int),()),(x,e,r,o,()))) (fun o=>(dy poX acT).wr ((),(r,o,()))) (oC (fun x=>mulC x x) mulC x (sC e)) (fun _ _=>True)
  (fun k o R hk _ hn hx=>?_) (fun _ _ _ _=>trivial) 0 o (by omega) trivial
 ·rw[Nat.sub_zero,tz]at key;exact key
 rw[aFu];refine⟨fun hb=>?_,fun hb=>?_⟩
 ·have px:k<256:=by have:=of_decide_eq_true hb;omega
  have e0:(255-(k:Int))=((255-k:Nat):Int):=by omega
  have yP:=hn px;have e3:i64.wrap ((255-(k:Int))-1)=255-((k+1:Nat):Int):=by rw[bM (by omega) (by omega)];omega
  have hw:i64.wrap ((255-(k:Int)).tdiv 8)=(((255-k)/8:Nat):Int):=by rw[e0];exact nw _ 8 (by omega)
  have ht:(255-(k:Int)).tmod 8=(((255-k)%8:Nat):Int):=by rw[e0];exact DZ _ 8
  have arh:=asB h2 (j:=255-k) (by omega);rw[← e0]at arh;rw[arh,e3];refine⟨by rw[hw];omega,by rw[ht];omega,fun hc=>?_,fun hc=>?_⟩
  ·have:oC (fun x=>mulC x x) mulC x (sC e) k o=mulC (mulC o o) x:=(by unfold oC;rw[hc,kE];rfl);rw[this]at yP;exact yP
  ·have:oC (fun x=>mulC x x) mulC x (sC e) k o=mulC o o:=(by unfold oC;rw[hc,kE];rfl);rw[this]at yP;exact yP
 ·have:k=256:=by have:=of_decide_eq_false hb;omega
  exact hx this
def Tt(x:Fe)(e:ab)(o:Fe):Fe:=sB (oC (fun x=>mulC x x) mulC x (sC e)) 256 o
def aYn(x:(Int×Unit)×Fe×ab×Fe×Fe×Unit):cT:=.need (x.1.1=255∧x.2.2.1.length=32) (.bN (.exit 0) ((dy poX acT).wr ((),(x.2.2.2.1,Tt x.2.1 x.2.2.1 x.2.2.2.2.1,()))))
abbrev aNN:gW:= [(0,iF (dy poC poH) 0 [asA,.bS,PT 2,PT 3] aYn)]
abbrev poA:cl (List LV) (Fe×ab×Unit):=bD oW (bD cB bG)
abbrev jF(r:Fe×Bool):LV:=.dB [.agg ((nC .u64 5).wr r.1),.sc (.bool (.sym r.2))]
def wT(g:Fe→Fe):bT:=bT.fw [] u1 bG fun x _=>.bN none (oW.wr (g x.1)) []
def pn(g:Fe→Fe→Fe):bT:=bT.fw [] pW bG fun x _=>.bN none (oW.wr (g x.1 x.2.1)) []
def RV(g:Fe→Bool):bT:=bT.fw [] u1 bG fun x _=>.bN none (nB (g x.1)) []
def e2B(g:Fe→Fe→Bool):bT:=bT.fw [] pW bG fun x _=>.bN none (nB (g x.1 x.2.1)) []
def e1P(g:Fe→Fe×Bool):bT:=bT.fw [] u1 bG fun x _=>.bN none (jF (g x.1)) []
def e2P(g:Fe→Fe→Fe×Bool):bT:=bT.fw [] pW bG fun x _=>.bN none (jF (g x.1 x.2.1)) []
def Jk(g:Int→Fe):bT:=bT.fw [] asv bG fun x _=>.bN none (oW.wr (g x.1)) []
def ePw(g:Fe→ab→Fe):bT:=bT.fw [] poA bG fun x _=>.bN (some (x.2.1.length=32)) (oW.wr (g x.1 x.2.1)) []
def eEx(g:Int→Int→ab):bT:=bT.fw [] (bD (bO (bX .u8)) (bD (bO (bX .u8)) bG)) bG fun x _=>.bN none (lD .u8 32 (g x.1 x.2.1)) []
def Jl(x:Fe)(e:ab):Fe:=powC x (sC e)
def D0(lo hi:Int):ab:=(DS lo hi).toList
theorem PU(x:Fe)(lo hi:Int):Jl x (D0 lo hi)=powC x (DS lo hi):=by unfold Jl D0;rw[Jj]
theorem D1(lo hi:Int):(D0 lo hi).length=32:=Vec.iL _
abbrev aNQ:bT:=ePw Jl
theorem acU(p:Fe→ab→Fe→Fe)(sm:Int→Fe)(x:Fe)(e:ab):cY aA [(83,Jk sm),(128,ahs),(82,Hb)] [(0,iF (dy poC poH) 0 [asA,.bS,PT 2,PT 3] fun x=>.need (x.1.1=255∧x.2.2.1.length=32) (.bN (.exit 0) ((dy poX acT).wr ((),(x.2.2.2.1,p x.2.1 x.2.2.1 x.2.2.2.2.1,())))))] f126 (poA.wr (x,e,())) [] kK=.need ((255:Int)=255∧e.length=32) (.bN (oW.wr (p x e (sm 1))) []):=by kernel_rfl
theorem acV(x:Fe)(e:ab):cY aA ahz aNN f126 (poA.wr (x,e,())) [] kK=cY aA [(83,Jk dL),(128,ahs),(82,Hb)] [(0,iF (dy poC poH) 0 [asA,.bS,PT 2,PT 3] fun x=>.need (x.1.1=255∧x.2.2.1.length=32) (.bN (.exit 0) ((dy poX acT).wr ((),(x.2.2.2.1,Tt x.2.1 x.2.2.1 x.2.2.2.2.1,())))))] f126 (poA.wr (x,e,())) [] kK:=by kernel_rfl
theorem XU:aNQ.Ok aA 126:=by
 refine(bT.df call126 fun x_ y_ Q H_=>?_).sym;obtain⟨x,e,_⟩:=x_;obtain⟨hn,hq⟩:=H_;have hn:e.length=32:=hn;refine(cg bJ PS func126 rfl (LT:=aNN) (ks:=kK) (cn.dO (mI rfl (fI (hp:= []) asC) mT))).use (D:= []) ?_ hq;show(cY _ _ _ _ (poA.wr (x,e,())) [] _).sat _;rw[acV x e,acU Tt dL x e];exact⟨⟨rfl,hn⟩,rfl,rfl⟩
theorem acW:Jh=Jk dL:=by kernel_rfl
theorem nG:(Jk dL).Ok aA 83:=acW▸Ha
theorem asD:Hb=pn mulC:=by kernel_rfl
theorem mf:(pn mulC).Ok aA 82:=asD▸Ji
theorem asE:aAi=pn AI:=by kernel_rfl
theorem PV:(pn AI).Ok aA 121:=asE▸asw
theorem asF:ahj=pn zp:=by kernel_rfl
theorem PW:(pn zp).Ok aA 120:=asF▸XN
theorem aFw:ahs=wT (fun x=>mulC x x):=by kernel_rfl
theorem XV:(wT (fun x=>mulC x x)).Ok aA 128:=aFw▸ahu
theorem asG:aAj=wT qC:=by kernel_rfl
theorem D2:(wT qC).Ok aA 203:=asG▸asx
theorem aFx:aFs=e2B eqC:=by kernel_rfl
theorem asH:(e2B eqC).Ok aA 202:=aFx▸ahw
theorem asI:aAl=RV uZ:=by kernel_rfl
theorem PX:(RV uZ).Ok aA 57:=asI▸asy
theorem ahB:ahx=RV fW:=by kernel_rfl
theorem Hc:(RV fW).Ok aA 166:=ahB▸ahy
theorem asJ:aAm=eEx D0:=by kernel_rfl
theorem PY:(eEx D0).Ok aA 127:=asJ▸asz
abbrev aNR:bT:=wT sF
theorem acX(pow:Fe→ab→Fe)(exp:Int→Int→ab)(x:Fe):cY aA [(126,ePw pow),(127,eEx exp)] [] f84 (u1.wr (x,())) [] kK= .need ((exp 235 127).length=32) (.bN (oW.wr (pow x (exp 235 127))) []):=by kernel_rfl
theorem acY:∀p_∈([(126,ePw Jl),(127,eEx D0)]:List (FuncId×bT)),p_.2.Ok aA p_.1:=(bI XU (bI PY bU))
theorem Jm:aNR.Ok aA 84:=by
 refine(bT.df call84 fun x_ y_ Q H_=>?_).sym;obtain⟨x,_⟩:=x_;have hq:=H_.2;refine(cg (tab:= [(126,ePw Jl),(127,eEx D0)]) bJ acY func84 rfl (LT:= []) (ks:=kK) (cn.nil _)).use (D:= []) ?_ hq;show(cY _ _ _ _ (u1.wr (x,())) [] _).sat _;rw[acX Jl D0];rw[PU];exact⟨D1 _ _,rfl,rfl⟩
theorem asK(pw:Fe→iP→Fe)(ex:Int→Int→iP)(ml:Fe→Fe→Fe)(sq ng:Fe→Fe)(sm:Int→Fe)(eq:Fe→Fe→Bool)(od:Fe→Bool)(x:Fe):Jd pw ex ml sq ng sm eq od x=bif eq (sq (pw x (ex 254 15))) x then(bif od (pw x (ex 254 15))then ng (pw x (ex 254 15))else pw x (ex 254 15),true) else bif eq (sq (ml (pw x (ex 254 15)) (pw (sm 2) (ex 251 31)))) x then(bif od (ml (pw x (ex 254 15)) (pw (sm 2) (ex 251 31)))then ng (ml (pw x (ex 254 15)) (pw (sm 2) (ex 251 31)))else ml (pw x (ex 254 15)) (pw (sm 2) (ex 251 31)),true)else(gY,false):=by
 have aYo:∀ (b:Bool) (u v:Fe),oc b u v=bif b then u else v:=fun b u v=>kE b u v;unfold Jd;simp only[aYo];cases h:eq (sq (pw x (ex 254 15))) x
 ·simp only[Bool.not_false,cond_true,cond_false];cases eq (sq (ml (pw x (ex 254 15)) (pw (sm 2) (ex 251 31)))) x<;>rfl
 ·simp only[Bool.not_true,cond_true,cond_false,h]
theorem ahC{t1 t2 o1 o2:Bool}{r r2 n1 n2:Fe}{p1 p2:Prop}(h1:p1)(h2:p2){q:Fe×Bool}(hq:q=bif t1 then(bif o1 then n1 else r,true)else bif t2 then(bif o2 then n2 else r2,true)else(gY,false)):(Ev.End.need p1 (.ite (!t1) (.need p2 (.ite (!t2) (.bN (jF (gY,false)) []) (.ite o2 (.bN (jF (n2,true)) []) (.bN (jF (r2,true)) [])))) (.ite (!t1) (.bN (jF (gY,false)) []) (.ite o1 (.bN (jF (n1,true)) []) (.bN (jF (r,true)) []))))).sat fun v dZ=>v=jF q∧dZ= []:=by
 subst hq;refine⟨h1,?_⟩;cases t1
 ·refine⟨fun _=>⟨h2,?_⟩,fun h=>(by cases h)⟩;cases t2
  ·exact⟨fun _=>⟨rfl,rfl⟩,fun h=>(by cases h)⟩
  ·refine⟨fun h=>(by cases h),fun _=>?_⟩;cases o2
   ·exact⟨fun h=>(by cases h),fun _=>⟨rfl,rfl⟩⟩
   ·exact⟨fun _=>⟨rfl,rfl⟩,fun h=>(by cases h)⟩
 ·refine⟨fun h=>(by cases h),fun _=>⟨fun h=>(by cases h),fun _=>?_⟩⟩;cases o1
  ·exact⟨fun h=>(by cases h),fun _=>⟨rfl,rfl⟩⟩
  ·exact⟨fun _=>⟨rfl,rfl⟩,fun h=>(by cases h)⟩
theorem asL(x:Fe):wP x=Jd powC DS mulC (fun x=>mulC x x) qC dL eqC uZ x:=rfl
abbrev aFy:bT:=e1P wP
theorem Tu(pow:Fe→ab→Fe)(exp:Int→Int→ab)(mul:Fe→Fe→Fe)(sq neg:Fe→Fe)(eq:Fe→Fe→Bool)(PG:Fe→Bool)(sm:Int→Fe)(x:Fe):cY aA [(126,ePw pow),(127,eEx exp),(82,pn mul),(128,wT sq),(203,wT neg),(202,e2B eq),(57,RV PG),(83,Jk sm)] [] f167 (u1.wr (x,())) [] kK= .need ((exp 254 15).length=32) (.ite (!(eq (sq (pow x (exp 254 15))) x)) (.need ((exp 251 31).length=32) (.ite (!(eq (sq (mul (pow x (exp 254 15)) (pow (sm 2) (exp 251 31)))) x)) (.bN (jF (gY,false)) []) (.ite (PG (mul (pow x (exp 254 15)) (pow (sm 2) (exp 251 31)))) (.bN (jF (neg (mul (pow x (exp 254 15)) (pow (sm 2) (exp 251 31))),true)) []) (.bN (jF (mul (pow x (exp 254 15)) (pow (sm 2) (exp 251 31)),true)) [])))) (.ite (!(eq (sq (pow x (exp 254 15))) x)) (.bN (jF (gY,false)) []) (.ite (PG (pow x (exp 254 15))) (.bN (jF (neg (pow x (exp 254 15)),true)) []) (.bN (jF (pow x (exp 254 15),true)) [])))):=by kernel_rfl
theorem Tv:∀p_∈([(126,ePw Jl),(127,eEx D0),(82,pn mulC),(128,wT (fun x=>mulC x x)),(203,wT qC),(202,e2B eqC),(57,RV uZ),(83,Jk dL)]:List (FuncId×bT)),p_.2.Ok aA p_.1:=(bI XU (bI PY (bI mf (bI XV (bI D2 (bI asH (bI PX (bI nG bU))))))))
theorem ahD:aFy.Ok aA 167:=by
 refine(bT.df call167 fun x_ y_ Q H_=>?_).sym;obtain⟨x,_⟩:=x_;have hq:=H_.2;refine(cg (tab:= [(126,ePw Jl),(127,eEx D0),(82,pn mulC),(128,wT (fun x=>mulC x x)),(203,wT qC),(202,e2B eqC),(57,RV uZ),(83,Jk dL)]) bJ Tv func167 rfl (LT:= []) (ks:=kK) (cn.nil _)).use (D:= []) ?_ hq;show(cY _ _ _ _ (u1.wr (x,())) [] _).sat _;rw[Tu Jl D0 mulC (fun x=>mulC x x) qC eqC uZ dL];simp only[PU];exact ahC (D1 _ _) (D1 _ _) ((asL x).trans (asK _ _ _ _ _ _ _ _ x))
theorem ahE(u v:Fe):u0 u v=(oc (fW v) gY (wP (mulC u (sF v))).1,bif fW v then fW u else(wP (mulC u (sF v))).2):=by unfold u0;rfl
theorem acZ{z zu:Bool}{s r:Fe×Bool}(hr:r=(oc z gY s.1,bif z then zu else s.2)):(Ev.End.ite z (.bN (jF (gY,zu)) []) (.bN (jF s) [])).sat fun v dZ=>v=jF r∧dZ= []:=by
 subst hr;rw[kE];cases z
 ·exact⟨fun h=>(by cases h),fun _=>⟨rfl,rfl⟩⟩
 ·exact⟨fun _=>⟨rfl,rfl⟩,fun h=>(by cases h)⟩
abbrev asM:bT:=e2P u0
theorem PZ(mul:Fe→Fe→Fe)(inv:Fe→Fe)(XW:Fe→Bool)(sqrt:Fe→Fe×Bool)(u v:Fe):cY aA [(82,pn mul),(84,wT inv),(166,RV XW),(167,e1P sqrt)] [] f129 (pW.wr (u,v,())) [] kK= .ite (XW v) (.bN (jF (gY,XW u)) []) (.bN (jF (sqrt (mul u (inv v)))) []):=by kernel_rfl
theorem P0:∀p_∈([(82,pn mulC),(84,wT sF),(166,RV fW),(167,e1P wP)]:List (FuncId×bT)),p_.2.Ok aA p_.1:=(bI mf (bI Jm (bI Hc (bI ahD bU))))
theorem ac0:asM.Ok aA 129:=by
 refine(bT.df call129 fun x_ y_ Q H_=>?_).sym;obtain⟨u,v,_⟩:=x_;have hq:=H_.2;refine(cg (tab:= [(82,pn mulC),(84,wT sF),(166,RV fW),(167,e1P wP)]) bJ P0 func129 rfl (LT:= []) (ks:=kK) (cn.nil _)).use (D:= []) ?_ hq;show(cY _ _ _ _ (pW.wr (u,v,())) [] _).sat _;rw[PZ mulC sF fW wP];exact acZ (ahE u v)
abbrev wU:cl LV Pt:=jf (bD ou (wM .u64 (wM .u64 (wM .u64 (nC .u64 5) 5) 5) 5))
abbrev ptA:cl (List LV) (Pt×Unit):=bD wU bG
abbrev aFz:cl (List LV) (Pt×Pt×Unit):=bD wU (bD wU bG)
def eFr(g:ab→Fe):bT:=bT.fw [] mW bG fun x _=>.bN none (oW.wr (g x.1)) []
def e0F(c:Fe):bT:=bT.fw [] bG bG fun _ _=>.bN none (oW.wr c) []
def e0Q(c:Pt):bT:=bT.fw [] bG bG fun _ _=>.bN none (wU.wr c) []
def eAf(g:Fe→Fe→Pt):bT:=bT.fw [] pW bG fun x _=>.bN none (wU.wr (g x.1 x.2.1)) []
def D3(g:Pt→Pt):bT:=bT.fw [] ptA bG fun x _=>.bN none (wU.wr (g x.1)) []
def e2Q(g:Pt→Pt→Pt):bT:=bT.fw [] aFz bG fun x _=>.bN none (wU.wr (g x.1 x.2.1)) []
def mJ(b:ab):Fe:=sD (sC b)
theorem ahG:Tj=eFr mJ:=by kernel_rfl
theorem Hd:(eFr mJ).Ok aA 163:=ahG▸PM
theorem ac3:uz=mJ zl.toList:=by unfold mJ;rw[Jj];rfl
abbrev aFB:bT:=e0F uz
theorem Tw(zk:ab→Fe):cY aA [(163,eFr zk)] [] f122 (bG.wr ()) [] kK= .bN (oW.wr (zk zl.toList)) []:=by kernel_rfl
theorem Tx:∀p_∈([(163,eFr mJ)]:List (FuncId×bT)),p_.2.Ok aA p_.1:=(bI Hd bU)
theorem P1:aFB.Ok aA 122:=by
 refine(bT.df call122 fun x_ y_ Q H_=>?_).sym;have hq:=H_.2;refine(cg (tab:= [(163,eFr mJ)]) bJ Tx func122 rfl (LT:= []) (ks:=kK) (cn.nil _)).use (D:= []) ?_ hq;show(cY _ _ _ _ (bG.wr ()) [] _).sat _;rw[Tw mJ];rw[ac3];exact⟨rfl,rfl⟩
abbrev ahH:bT:=eAf gV
theorem Jo(mul:Fe→Fe→Fe)(sm:Int→Fe)(x y:Fe):cY aA [(82,pn mul),(83,Jk sm)] [] f86 (pW.wr (x,y,())) [] kK= .bN (wU.wr (true,x,y,sm 1,mul x y)) []:=by kernel_rfl
theorem Jp:∀p_∈([(82,pn mulC),(83,Jk dL)]:List (FuncId×bT)),p_.2.Ok aA p_.1:=(bI mf (bI nG bU))
theorem u2:ahH.Ok aA 86:=by
 refine(bT.df call86 fun x_ y_ Q H_=>?_).sym;obtain⟨x,y,_⟩:=x_;have hq:=H_.2;refine(cg (tab:= [(82,pn mulC),(83,Jk dL)]) bJ Jp func86 rfl (LT:= []) (ks:=kK) (cn.nil _)).use (D:= []) ?_ hq;show(cY _ _ _ _ (pW.wr (x,y,())) [] _).sat _;rw[Jo mulC dL];exact⟨rfl,rfl⟩
abbrev aFC:bT:=e0Q kh
theorem Tz(af:Fe→Fe→Pt)(sm:Int→Fe):cY aA [(86,eAf af),(83,Jk sm)] [] f78 (bG.wr ()) [] kK= .bN (wU.wr (af gY (sm 1))) []:=by kernel_rfl
theorem TA:∀p_∈([(86,eAf gV),(83,Jk dL)]:List (FuncId×bT)),p_.2.Ok aA p_.1:=(bI u2 (bI nG bU))
theorem D4:aFC.Ok aA 78:=by
 refine(bT.df call78 fun x_ y_ Q H_=>?_).sym;have hq:=H_.2;refine(cg (tab:= [(86,eAf gV),(83,Jk dL)]) bJ TA func78 rfl (LT:= []) (ks:=kK) (cn.nil _)).use (D:= []) ?_ hq;show(cY _ _ _ _ (bG.wr ()) [] _).sat _;rw[Tz gV dL];exact⟨rfl,rfl⟩
theorem XX(p:Pt):l9 p=bif !p.1 then kh else p:=by unfold l9 aAg;rw[wN]
theorem XY{t:Bool}{V W X:LV}(h1:t=true→V=X)(h2:t=false→W=X):(Ev.End.ite t (.bN V []) (.bN W [])).sat fun v dZ=>v=X∧dZ= []:=⟨fun h=>⟨h1 h,rfl⟩,fun h=>⟨h2 h,rfl⟩⟩
abbrev aNS:bT:=D3 l9
theorem ac4(z p:Pt):cY aA [(78,e0Q z)] [] f87 (ptA.wr (p,())) [] kK= .ite (!p.1) (.bN (wU.wr z) []) (.bN (wU.wr p) []):=by kernel_rfl
theorem ac5:∀p_∈([(78,e0Q kh)]:List (FuncId×bT)),p_.2.Ok aA p_.1:=(bI D4 bU)
theorem Jq:aNS.Ok aA 87:=by
 refine(bT.df call87 fun x_ y_ Q H_=>?_).sym;obtain⟨p,_⟩:=x_;have hq:=H_.2;refine(cg (tab:= [(78,e0Q kh)]) bJ ac5 func87 rfl (LT:= []) (ks:=kK) (cn.nil _)).use (D:= []) ?_ hq;show(cY _ _ _ _ (ptA.wr (p,())) [] _).sat _;rw[ac4 kh];exact XY (fun h=>by rw[XX,h];rfl) (fun h=>by rw[XX,h];rfl)
abbrev aFD:bT:=e1P oD
theorem TB(mul add sub:Fe→Fe→Fe)(sq:Fe→Fe)(sm:Int→Fe)(ed:Fe)(ratio:Fe→Fe→Fe×Bool)(y:Fe):cY aA [(82,pn mul),(121,pn add),(120,pn sub),(128,wT sq),(83,Jk sm),(122,e0F ed),(129,e2P ratio)] [] f85 (u1.wr (y,())) [] kK= .bN (jF (ratio (sub (sq y) (sm 1)) (add (mul ed (sq y)) (sm 1)))) []:=by kernel_rfl
theorem TC:∀p_∈([(82,pn mulC),(121,pn AI),(120,pn zp),(128,wT (fun x=>mulC x x)),(83,Jk dL),(122,e0F uz),(129,e2P u0)]:List (FuncId×bT)),p_.2.Ok aA p_.1:=(bI mf (bI PV (bI PW (bI XV (bI nG (bI P1 (bI ac0 bU)))))))
theorem P2:aFD.Ok aA 85:=by
 refine(bT.df call85 fun x_ y_ Q H_=>?_).sym;obtain⟨y,_⟩:=x_;have hq:=H_.2;refine(cg (tab:= [(82,pn mulC),(121,pn AI),(120,pn zp),(128,wT (fun x=>mulC x x)),(83,Jk dL),(122,e0F uz),(129,e2P u0)]) bJ TC func85 rfl (LT:= []) (ks:=kK) (cn.nil _)).use (D:= []) ?_ hq;show(cY _ _ _ _ (u1.wr (y,())) [] _).sat _;rw[TB mulC AI zp (fun x=>mulC x x) dL uz u0];exact⟨rfl,rfl⟩
abbrev aFE:bT:=e0Q pV
theorem TD(mul:Fe→Fe→Fe)(sm:Int→Fe)(inv:Fe→Fe)(root:Fe→Fe×Bool)(af:Fe→Fe→Pt):cY aA [(82,pn mul),(83,Jk sm),(84,wT inv),(85,e1P root),(86,eAf af)] [] f54 (bG.wr ()) [] kK= .bN (wU.wr (af (root (mul (sm 4) (inv (sm 5)))).1 (mul (sm 4) (inv (sm 5))))) []:=by kernel_rfl
theorem TE:∀p_∈([(82,pn mulC),(83,Jk dL),(84,wT sF),(85,e1P oD),(86,eAf gV)]:List (FuncId×bT)),p_.2.Ok aA p_.1:=(bI mf (bI nG (bI Jm (bI P2 (bI u2 bU)))))
theorem P3:aFE.Ok aA 54:=by
 refine(bT.df call54 fun x_ y_ Q H_=>?_).sym;have hq:=H_.2;refine(cg (tab:= [(82,pn mulC),(83,Jk dL),(84,wT sF),(85,e1P oD),(86,eAf gV)]) bJ TE func54 rfl (LT:= []) (ks:=kK) (cn.nil _)).use (D:= []) ?_ hq;show(cY _ _ _ _ (bG.wr ()) [] _).sat _;rw[TD mulC dL sF oD gV];exact⟨rfl,rfl⟩
def e4Q(g:Fe→Fe→Fe→Fe→Pt):bT:=bT.fw [] (bD oW (bD oW (bD oW (bD oW bG)))) bG fun x _=>.bN none (wU.wr (g x.1 x.2.1 x.2.2.1 x.2.2.2.1)) []
abbrev asN:bT:=e4Q DV
theorem P4(mul:Fe→Fe→Fe)(e f g h:Fe):cY aA [(82,pn mul)] [] f123 (((bD oW (bD oW (bD oW (bD oW bG))))).wr (e,f,g,h,())) [] kK= .bN (wU.wr (true,mul e f,mul g h,mul f g,mul e h)) []:=by kernel_rfl
theorem P5:∀p_∈([(82,pn mulC)]:List (FuncId×bT)),p_.2.Ok aA p_.1:=(bI mf bU)
theorem ac6:asN.Ok aA 123:=by
 refine(bT.df call123 fun x_ y_ Q H_=>?_).sym;obtain⟨e,f,g,h,_⟩:=x_;have hq:=H_.2;refine(cg (tab:= [(82,pn mulC)]) bJ P5 func123 rfl (LT:= []) (ks:=kK) (cn.nil _)).use (D:= []) ?_ hq;show(cY _ _ _ _ (((bD oW (bD oW (bD oW (bD oW bG))))).wr (e,f,g,h,())) [] _).sat _;rw[P4 mulC];exact⟨rfl,rfl⟩
abbrev aNT:bT:=e2Q fP
theorem ac7(mul add sub:Fe→Fe→Fe)(ed:Fe)(own:Pt→Pt)(XK:Fe→Fe→Fe→Fe→Pt)(p q:Pt):cY aA [(82,pn mul),(121,pn add),(120,pn sub),(122,e0F ed),(87,D3 own),(123,e4Q XK)] [] f81 (aFz.wr (p,q,())) [] kK= .bN (wU.wr (addFn mul add sub ed own XK p q)) []:=by kernel_rfl
theorem ac8:∀p_∈([(82,pn mulC),(121,pn AI),(120,pn zp),(122,e0F uz),(87,D3 l9),(123,e4Q DV)]:List (FuncId×bT)),p_.2.Ok aA p_.1:=(bI mf (bI PV (bI PW (bI P1 (bI Jq (bI ac6 bU))))))
theorem A7:aNT.Ok aA 81:=by
 refine(bT.df call81 fun x_ y_ Q H_=>?_).sym;obtain⟨p,q,_⟩:=x_;have hq:=H_.2;refine(cg (tab:= [(82,pn mulC),(121,pn AI),(120,pn zp),(122,e0F uz),(87,D3 l9),(123,e4Q DV)]) bJ ac8 func81 rfl (LT:= []) (ks:=kK) (cn.nil _)).use (D:= []) ?_ hq;show(cY _ _ _ _ (aFz.wr (p,q,())) [] _).sat _;rw[ac7 mulC AI zp uz l9 DV];exact⟨rfl,rfl⟩
abbrev ahI:bT:=D3 dW
theorem Jr(add:Pt→Pt→Pt)(p:Pt):cY aA [(81,e2Q add)] [] f79 (ptA.wr (p,())) [] kK= .bN (wU.wr (add p p)) []:=by kernel_rfl
theorem Js:∀p_∈([(81,e2Q fP)]:List (FuncId×bT)),p_.2.Ok aA p_.1:=(bI A7 bU)
theorem u3:ahI.Ok aA 79:=by
 refine(bT.df call79 fun x_ y_ Q H_=>?_).sym;obtain⟨p,_⟩:=x_;have hq:=H_.2;refine(cg (tab:= [(81,e2Q fP)]) bJ Js func79 rfl (LT:= []) (ks:=kK) (cn.nil _)).use (D:= []) ?_ hq;show(cY _ _ _ _ (ptA.wr (p,())) [] _).sat _;rw[Jr fP];exact⟨rfl,rfl⟩
abbrev aNU:bT:=D3 DW
theorem ac9(neg:Fe→Fe)(own:Pt→Pt)(p:Pt):cY aA [(203,wT neg),(87,D3 own)] [] f179 (ptA.wr (p,())) [] kK= .bN (wU.wr (negFn neg own p)) []:=by kernel_rfl
theorem ada:∀p_∈([(203,wT qC),(87,D3 l9)]:List (FuncId×bT)),p_.2.Ok aA p_.1:=(bI D2 (bI Jq bU))
theorem asO:aNU.Ok aA 179:=by
 refine(bT.df call179 fun x_ y_ Q H_=>?_).sym;obtain⟨p,_⟩:=x_;have hq:=H_.2;refine(cg (tab:= [(203,wT qC),(87,D3 l9)]) bJ ada func179 rfl (LT:= []) (ks:=kK) (cn.nil _)).use (D:= []) ?_ hq;show(cY _ _ _ _ (ptA.wr (p,())) [] _).sat _;rw[ac9 qC l9];exact⟨rfl,rfl⟩
def ePl(g:Pt→Fe×Fe):bT:=bT.fw [] ptA bG fun x _=>.bN none (.dB [.agg ((nC .u64 5).wr (g x.1).1),.agg ((nC .u64 5).wr (g x.1).2)]) []
abbrev asP:bT:=ePl nD
theorem P6(mul:Fe→Fe→Fe)(inv:Fe→Fe)(own:Pt→Pt)(p:Pt):cY aA [(82,pn mul),(84,wT inv),(87,D3 own)] [] f55 (ptA.wr (p,())) [] kK= .bN (.dB [.agg ((nC .u64 5).wr (mul (own p).2.1 (inv (own p).2.2.2.1))),.agg ((nC .u64 5).wr (mul (own p).2.2.1 (inv (own p).2.2.2.1)))]) []:=by kernel_rfl
theorem P7:∀p_∈([(82,pn mulC),(84,wT sF),(87,D3 l9)]:List (FuncId×bT)),p_.2.Ok aA p_.1:=(bI mf (bI Jm (bI Jq bU)))
theorem adb:asP.Ok aA 55:=by
 refine(bT.df call55 fun x_ y_ Q H_=>?_).sym;obtain⟨p,_⟩:=x_;have hq:=H_.2;refine(cg (tab:= [(82,pn mulC),(84,wT sF),(87,D3 l9)]) bJ P7 func55 rfl (LT:= []) (ks:=kK) (cn.nil _)).use (D:= []) ?_ hq;show(cY _ _ _ _ (ptA.wr (p,())) [] _).sat _;rw[P6 mulC sF l9];exact⟨rfl,rfl⟩
def eBy(g:Fe→ab):bT:=bT.fw [] u1 bG fun x _=>.bN none (lD .u8 32 (g x.1)) []
def eLB(g:ab→Bool):bT:=bT.fw [] mW bG fun x _=>.bN (some (x.1.length=32)) (nB (g x.1)) []
def eEn(g:Pt→ab):bT:=bT.fw [] ptA bG fun x _=>.bN none (lD .u8 32 (g x.1)) []
abbrev RW(r:Pt×Bool):LV:=.dB [.agg ((bD ou (wM .u64 (wM .u64 (wM .u64 (nC .u64 5) 5) 5) 5)).wr r.1),.sc (.bool (.sym r.2))]
def eDe(g:ab→Pt×Bool):bT:=bT.fw [] mW bG fun x _=>.bN (some (x.1.length=32)) (RW (g x.1)) []
def qF(x:Fe):ab:=(jP x).toList
def zq(b:ab):Bool:=qD (sC b)
def iX(p:Pt):ab:=(XL p).toList
def kF(b:ab):Pt×Bool:=asr (sC b)
theorem ade:wS=eBy qF:=by kernel_rfl
theorem TF:(eBy qF).Ok aA 56:=ade▸tC
theorem adf:XT=eLB zq:=by kernel_rfl
theorem TG:(eLB zq).Ok aA 209:=adf▸acR
theorem asQ{f:Int→Int}(v:iP):(Vec.R0 f 31 v).toList=v.toList.set 31 (f (v.toList.getD 31 0)):=by
 have h:=XR (Vec.iL v) (k:=31) (by omega) f;rw[Jj]at h;rw[← h,nF (by rw[List.length_set];exact Vec.iL v)]
theorem He(p:Pt):iX p=bif uZ (nD p).1 then(qF (nD p).2).set 31 (cV .u8 ((qF (nD p).2).getD 31 0) 128)else qF (nD p).2:=by
 unfold iX XL PI qF;simp only[kE];generalize jP (nD p).2=v;cases uZ (nD p).1
 ·rfl
 ·exact asQ v
abbrev ahJ:bT:=eEn iX
theorem Jt(pl:Pt→Fe×Fe)(byt:Fe→ab)(PG:Fe→Bool)(p:Pt):cY aA [(55,ePl pl),(56,eBy byt),(57,RV PG)] [] f37 (ptA.wr (p,())) [] kK= .ite (PG (pl p).1) (.bN (lD .u8 32 ((byt (pl p).2).set 31 (cV .u8 ((byt (pl p).2).getD 31 0) 128))) []) (.bN (lD .u8 32 (byt (pl p).2)) []):=by kernel_rfl
theorem Ju:∀p_∈([(55,ePl nD),(56,eBy qF),(57,RV uZ)]:List (FuncId×bT)),p_.2.Ok aA p_.1:=(bI adb (bI TF (bI PX bU)))
theorem D5:ahJ.Ok aA 37:=by
 refine(bT.df call37 fun x_ y_ Q H_=>?_).sym;obtain⟨p,_⟩:=x_;have hq:=H_.2;refine(cg (tab:= [(55,ePl nD),(56,eBy qF),(57,RV uZ)]) bJ Ju func37 rfl (LT:= []) (ks:=kK) (cn.nil _)).use (D:= []) ?_ hq;show(cY _ _ _ _ (ptA.wr (p,())) [] _).sat _;rw[Jt nD qF uZ];exact XY (fun h=>by rw[He,h];rfl) (fun h=>by rw[He,h];rfl)
theorem ahK(neg:Fe→Fe)(XW:Fe→Bool)(zk:iP→Fe)(canon:iP→Bool)(af:Fe→Fe→Pt)(root:Fe→Fe×Bool)(b:iP):DT neg XW zk canon af root b=bif (root (zk b)).2 then(bif canon b then(bif Je b then(bif XW (root (zk b)).1 then(jt,false)else(af (neg (root (zk b)).1) (zk b),true))else(af (root (zk b)).1 (zk b),true))else(jt,false))else(jt,false):=by
 unfold DT;simp only[kE,wN];generalize root (zk b)=r;generalize zk b=y;obtain⟨x,ok⟩:=r;simp only;cases ok<;>cases canon b<;>cases Je b<;>cases XW x<;>rfl
theorem adg(b:ab):kF b=bif (oD (mJ b)).2 then(bif zq b then(bif dz .u8 (b.getD 31 0) 128!=0 then(bif fW (oD (mJ b)).1 then(jt,false)else(gV (qC (oD (mJ b)).1) (mJ b),true))else(gV (oD (mJ b)).1 (mJ b),true))else(jt,false))else(jt,false):=ahK qC fW sD qD gV oD (sC b)
theorem asS{p:Prop}{ok canon PG XW:Bool}{P Q:Pt}(hp:p){r:Pt×Bool}(hr:r=bif ok then(bif canon then(bif PG then(bif XW then(jt,false)else(P,true))else(Q,true))else(jt,false))else(jt,false)):(Ev.End.ite ((!ok)==false) (.need p (.ite ((!canon)==false) (.ite (PG==true) (.ite XW (.bN (RW (jt,false)) []) (.ite PG (.bN (RW (P,true)) []) (.bN (RW (Q,true)) []))) (.ite PG (.bN (RW (P,true)) []) (.bN (RW (Q,true)) []))) (.bN (RW (jt,false)) []))) (.bN (RW (jt,false)) [])).sat fun v dZ=>v=RW r∧dZ= []:=by
 subst hr;cases ok
 ·exact⟨fun h=>(by cases h),fun _=>⟨rfl,rfl⟩⟩
 ·refine⟨fun _=>⟨hp,?_⟩,fun h=>(by cases h)⟩;cases canon
  ·exact⟨fun h=>(by cases h),fun _=>⟨rfl,rfl⟩⟩
  ·refine⟨fun _=>?_,fun h=>(by cases h)⟩;cases PG
   ·exact⟨fun h=>(by cases h),fun _=>⟨fun h=>(by cases h),fun _=>⟨rfl,rfl⟩⟩⟩
   ·refine⟨fun _=>?_,fun h=>(by cases h)⟩;cases XW
    ·exact⟨fun h=>(by cases h),fun _=>⟨fun _=>⟨rfl,rfl⟩,fun h=>(by cases h)⟩⟩
    ·exact⟨fun _=>⟨rfl,rfl⟩,fun h=>(by cases h)⟩
abbrev ahL:bT:=eDe kF
theorem Jv(zk:ab→Fe)(root:Fe→Fe×Bool)(canon:ab→Bool)(XW:Fe→Bool)(neg:Fe→Fe)(af:Fe→Fe→Pt)(b:ab):cY aA [(163,eFr zk),(85,e1P root),(209,eLB canon),(166,RV XW),(203,wT neg),(86,eAf af)] [] f175 (mW.wr (b,())) [] kK= .ite ((!(root (zk b)).2)==false) (.need (b.length=32) (.ite ((!canon b)==false) (.ite ((dz .u8 (b.getD 31 0) 128!=0)==true) (.ite (XW (root (zk b)).1) (.bN (RW (jt,false)) []) (.ite (dz .u8 (b.getD 31 0) 128!=0) (.bN (RW (af (neg (root (zk b)).1) (zk b),true)) []) (.bN (RW (af (root (zk b)).1 (zk b),true)) []))) (.ite (dz .u8 (b.getD 31 0) 128!=0) (.bN (RW (af (neg (root (zk b)).1) (zk b),true)) []) (.bN (RW (af (root (zk b)).1 (zk b),true)) []))) (.bN (RW (jt,false)) []))) (.bN (RW (jt,false)) []):=by kernel_rfl
theorem Jw:∀p_∈([(163,eFr mJ),(85,e1P oD),(209,eLB zq),(166,RV fW),(203,wT qC),(86,eAf gV)]:List (FuncId×bT)),p_.2.Ok aA p_.1:=(bI Hd (bI P2 (bI TG (bI Hc (bI D2 (bI u2 bU))))))
theorem TH:ahL.Ok aA 175:=by
 refine(bT.df call175 fun x_ y_ Q H_=>?_).sym;obtain⟨b,_⟩:=x_;obtain⟨hn,hq⟩:=H_;have hn:b.length=32:=hn;refine(cg (tab:= [(163,eFr mJ),(85,e1P oD),(209,eLB zq),(166,RV fW),(203,wT qC),(86,eAf gV)]) bJ Jw func175 rfl (LT:= []) (ks:=kK) (cn.nil _)).use (D:= []) ?_ hq;show(cY _ _ _ _ (mW.wr (b,())) [] _).sat _;rw[Jv mJ oD zq fW qC gV];exact asS hn (adg b)
abbrev biA:cl (List LV) (ab×Int×Unit):=bD cB (bD (bO (bX .i64)) bG)
def eBi(g:ab→Int→Int):bT:=bT.fw [] biA bG fun x _=>.bN (some (x.1.length=32∧0≤x.2.1∧x.2.1<256)) (nI (g x.1 x.2.1)) []
def ju(a:ab)(i:Int):Int:=wO (sC a) i.toNat
def aAs:bT:=bT.fw [] biA bG fun x_ y_=>(fun(a:ab) (i:Int)=>.bN (some (a.length=32∧0≤i∧i<256)) (nI (ju a i)) []) x_.1 x_.2.1
theorem adh(a:ab)(i:Int):cY aA [] [] f80 (biA.wr (a,i,())) (bG.wr ()) [.fr [.sym],.bS]=End.ite (decide (i<(0:Int))==false) (End.ite (decide ((256:Int)≤i)) (End.bN (LV.one (VV.sc (SV.int i64 (SI.sym 0)))) []) (End.need ((0:Int)≤i64.wrap (i.tdiv 8)∧i64.wrap (i.tdiv 8)<(32:Int)) (End.need ((0:Int)≤i.tmod 8) (End.bN (LV.one (VV.sc (SV.int i64 (SI.sym (i64.wrap (dz IntKind.u8 (shr IntKind.u8 ((List.take 32 (List.drop 0 a)).getD (i64.wrap (i.tdiv 8)).toNat (0:Int)) (i.tmod 8)) (1:Int))))))) [])))) (End.bN (LV.one (VV.sc (SV.int i64 (SI.sym 0)))) []):=by kernel_rfl
theorem asU:aAs.Ok aA 80:=by
 refine(bT.df call80 fun x_ y_ Q H_=>?_).sym;obtain⟨a,i,_⟩:=x_;obtain⟨hn,hq⟩:=H_;have hn:a.length=32∧0≤i∧i<256:=hn;refine(cg bJ bU func80 rfl (LT:= []) (ks:=aq) (cn.nil _)).use (D:= []) ?_ hq;show(cY _ _ _ _ (biA.wr (a,i,())) (bG.wr ()) _).sat _;rw[adh];obtain⟨ha,h0,h1⟩:=hn;obtain⟨k,rfl⟩:=Int.eq_ofNat_of_zero_le h0;have hk:k<256:=by omega
 have e1:i64.wrap ((k:Int).tdiv 8)=((k/8:Nat):Int):=nw k 8 (by omega);have e2:(k:Int).tmod 8=((k%8:Nat):Int):=DZ k 8;have e:ju a (k:Int)=i64.wrap (dz .u8 (shr .u8 (a.getD (k/8) 0) ((k%8:Nat):Int)) 1):=by
  unfold ju wO;rw[Int.toNat_natCast,XS a (show k/8<32 by omega)]
 rw[e1,e2,eM ha,Int.toNat_natCast,e];refine⟨fun _=>⟨fun h=>?_,fun _=>⟨by omega,by omega,rfl,rfl⟩⟩,fun h=>?_⟩
 ·have:=of_decide_eq_true h;omega
 ·exfalso;revert h;simp
abbrev TI:Func:=f53
abbrev muC:cl (List LV) (Int×Unit):=jk 2 (bR (bO (cr 0 0)) (bR (bO (cr 1 0)) (bR (bO (cr 2 0)) (bR (bO (cr 3 0)) (bD (bO (bX .i64)) (jk 15 bG))))))
abbrev aNY:Wk:=.fr (eH 22 [(2,.bV),(3,.bV),(4,.bV),(5,.bV),(6,.sym)])
abbrev muX:cl (List LV) (Unit):=jk 4 (bR (bO (cr 0 0)) (bR (bO (cr 1 0)) (jk 16 bG)))
abbrev iPt:cl (Option bE) Pt:=ob 85 (bD ou (wM .u64 (wM .u64 (wM .u64 (nC .u64 5) 5) 5) 5))
abbrev muH:cl Hp (ab×Pt×Pt×Pt×Unit):=bD (rG 22 .u8 32) (bD iPt (bD iPt (bD iPt bG)))
abbrev P8:cl Hp (Pt×Pt×Unit):=bD iPt (bD iPt bG)
abbrev P9(i:Nat):Wk:=.cK i (List.replicate 21 .sym)
def muW:Exit→List Wk
 | .normal=> [aNY,P9 2,P9 3,.bS]
 | .exit 0=> [.fr (eH 22 [(4,.bV),(5,.bV)]),.bS]
 |_=> []
theorem aFI(bit:ab→Int→Int)(Jx:Pt→Pt)(add:Pt→Pt→Pt)(n:ab)(p r o:Pt)(i:Int):ma aA [(80,eBi bit),(79,D3 Jx),(81,e2Q add)] [] TI 0 [] muW ((dy muC muH).wr ((i,()),(n,p,r,o,())))=cT.ite (decide ((0:Int)≤i)) (cT.need (n.length=32∧(0:Int)≤i∧i<(256:Int)) (cT.ite (bit n i==(1:Int)) (cT.bN Exit.normal ((dy muC muH).wr ((i64.wrap (i-1),PUnit.unit),n,p,r,add (Jx o) p,PUnit.unit))) (cT.bN Exit.normal ((dy muC muH).wr ((i64.wrap (i-1),PUnit.unit),n,p,r,Jx o,PUnit.unit))))) (cT.bN (Exit.exit 0) ((dy muX P8).wr (PUnit.unit,r,o,PUnit.unit))):=by kernel_rfl
abbrev aNZ:List (FuncId×bT):= [(80,eBi ju),(79,D3 dW),(81,e2Q fP)]
theorem asV:aAs=eBi ju:=by kernel_rfl
theorem D6:(eBi ju).Ok aA 80:=asV▸asU
theorem Qa:∀p∈aNZ,p.2.Ok aA p.1:=bI D6 (bI u3 (bI A7 bU))
def Gj(bit:ab→Int→Int)(Jx:Pt→Pt)(add:Pt→Pt→Pt)(n:ab)(p:Pt)(k:Nat)(r:Pt):Pt:=bif bit n (255-(k:Int))==1 then add (Jx r) p else Jx r
theorem asW(x:(Int×Unit)×ab×Pt×Pt×Pt×Unit):Ex aA [] (.loop (cG TI 0)) ((dy muC muH).wr x) (.need (x.1.1=255∧x.2.1.length=32) (.bN (.exit 0) ((dy muX P8).wr ((),(x.2.2.2.1,sB (Gj ju dW fP x.2.1 x.2.2.1) 256 x.2.2.2.2.1,()))))):=by
 obtain⟨⟨i,_⟩,n,p,r,o,_⟩:=x;refine Ex.need fun⟨h1,h2⟩=>?_;simp only at h1 h2;subst h1
 have key:=kB (fn:=TI) (id:=0) (j:=0) (ws:=muW) (hp:= []) bJ Qa (cn.nil _) 256 (fun k o=>(dy muC muH).wr ((255-(k:Int),()),(n,p,r,o,()))) (fun o=>(dy muX P8).wr ((),(r,o,()))) (Gj ju dW fP n p) (fun _ _=>True)
  (fun k o R hk _ hn hx=>?_) (fun _ _ _ _=>trivial) 0 o (by omega) trivial
 ·rw[Nat.sub_zero,tz]at key;exact key
 rw[aFI];refine⟨fun hb=>?_,fun hb=>?_⟩
 ·have px:k<256:=by have:=of_decide_eq_true hb;omega
  have yP:=hn px;have e3:i64.wrap ((255-(k:Int))-1)=255-((k+1:Nat):Int):=by rw[bM (by omega) (by omega)];omega
  rw[e3];refine⟨⟨h2,by omega,by omega⟩,fun hc=>?_,fun hc=>?_⟩
  ·have:Gj ju dW fP n p k o=fP (dW o) p:=(by unfold Gj;rw[hc];rfl);rw[this]at yP;exact yP
  ·have:Gj ju dW fP n p k o=dW o:=(by unfold Gj;rw[hc];rfl);rw[this]at yP;exact yP
 ·have:k=256:=by have:=of_decide_eq_false hb;omega
  exact hx this
abbrev mpA:cl (List LV) (ab×Pt×Unit):=bD cB (bD wU bG)
def eMu(g:ab→Pt→Pt):bT:=bT.fw [] mpA bG fun x _=>.bN (some (x.1.length=32)) (wU.wr (g x.1 x.2.1)) []
def aFJ(w:ab→Pt→Pt→Pt)(x:(Int×Unit)×ab×Pt×Pt×Pt×Unit):cT:=.need (x.1.1=255∧x.2.1.length=32) (.bN (.exit 0) ((dy muX P8).wr ((),(x.2.2.2.1,w x.2.1 x.2.2.1 x.2.2.2.2.1,()))))
abbrev aFK(w:ab→Pt→Pt→Pt):gW:= [(0,iF (dy muC muH) 0 [aNY,.bS,P9 2,P9 3] (aFJ w))]
theorem TJ(z:Pt)(w:ab→Pt→Pt→Pt)(bit:ab→Int→Int)(Jx:Pt→Pt)(add:Pt→Pt→Pt)(n:ab)(p:Pt):cY aA [(80,eBi bit),(79,D3 Jx),(81,e2Q add),(78,e0Q z)] (aFK w) TI (mpA.wr (n,p,())) [] kK=.need ((255:Int)=255∧n.length=32) (.bN (wU.wr (w n p z)) []):=by kernel_rfl
theorem Qb:∃f:ab→Pt→Pt,∀n p,f n p=XM (sC n) p:=⟨fun n p=>XM (sC n) p,fun _ _=>rfl⟩
def D7:ab→Pt→Pt:=Classical.choose Qb
theorem ahM(n:ab)(p:Pt):D7 n p=XM (sC n) p:=Classical.choose_spec Qb n p
def D8(n:ab)(p z:Pt):Pt:=sB (Gj ju dW fP n p) 256 z
abbrev aFL:bT:=eMu D7
theorem asX(n:ab)(p:Pt)(k:Nat)(hk:k<256)(r:Pt):Gj ju dW fP n p k r=DU wO dW fP (sC n) p k r:=by
 unfold Gj DU ju;rw[wN,show(255-(k:Int)).toNat=255-k from by omega]
theorem u4{α:Type}{f g:Nat→α→α}{n:Nat}(h:∀k,k<n→∀r,f k r=g k r)(a:α):∀m,m≤n→sB f m a=sB g m a
 |0,_=>rfl
 |m+1,hm=>by
  show f m (sB f m a)=g m (sB g m a);rw[u4 h a m (by omega),h m (by omega)]
theorem asY(n:ab)(p:Pt):D8 n p kh=D7 n p:=by
 rw[ahM];unfold D8 XM ahh;exact u4 (fun k hk r=>asX n p k hk r) kh 256 (Nat.le_refl _)
theorem asZ:∀p∈([(80,eBi ju),(79,D3 dW),(81,e2Q fP),(78,e0Q kh)]:List (FuncId×bT)),p.2.Ok aA p.1:=bI D6 (bI u3 (bI A7 (bI D4 bU)))
theorem ahN{n:ab}{V W:Pt}(hn:n.length=32)(h:V=W):(Ev.End.need ((255:Int)=255∧n.length=32) (.bN (wU.wr V) [])).sat fun v dZ=>v=wU.wr W∧dZ= []:=by
 subst h;exact⟨⟨rfl,hn⟩,rfl,rfl⟩
theorem adi(n:ab)(p z:Pt):D8 n p z=sB (Gj ju dW fP n p) 256 z:=rfl
theorem ahO(x:(Int×Unit)×ab×Pt×Pt×Pt×Unit):Ex aA [] (.loop (cG TI 0)) ((dy muC muH).wr x) (aFJ D8 x):=by
 unfold aFJ;rw[adi];exact asW x
theorem aFM:cn aA [] (aFK D8) (fV TI):=cn.dO (mI rfl (fI (hp:= []) ahO) mT)
theorem ahP:aFL.Ok aA 53:=by
 refine(bT.df call53 fun x_ y_ Q H_=>?_).sym;obtain⟨n,p,_⟩:=x_;obtain⟨hn,hq⟩:=H_;have hn:n.length=32:=hn
 have hc:my aA 53 (mpA.wr (n,p,())) [] (cY aA [(80,eBi ju),(79,D3 dW),(81,e2Q fP),(78,e0Q kh)] (aFK D8) TI (mpA.wr (n,p,())) [] kK):=
  cg bJ asZ func53 rfl aFM
 rw[TJ kh D8 ju dW fP]at hc;exact hc.use (D:= []) (ahN hn (asY n p)) hq
def eMb(g:ab→Pt):bT:=bT.fw [] mW bG fun x _=>.bN (some (x.1.length=32)) (wU.wr (g x.1)) []
def D9(n:ab):Pt:=D7 n pV
abbrev aFN:bT:=eMb D9
theorem TK(mu:ab→Pt→Pt)(b:Pt)(n:ab):cY aA [(53,eMu mu),(54,e0Q b)] [] f36 (mW.wr (n,())) [] kK= .need (n.length=32) (.bN (wU.wr (mu n b)) []):=by kernel_rfl
theorem TM:∀p_∈([(53,eMu D7),(54,e0Q pV)]:List (FuncId×bT)),p_.2.Ok aA p_.1:=(bI ahP (bI P3 bU))
theorem ahQ:aFN.Ok aA 36:=by
 refine(bT.df call36 fun x_ y_ Q H_=>?_).sym;obtain⟨n,_⟩:=x_;obtain⟨hn,hq⟩:=H_;have hn:n.length=32:=hn;refine(cg (tab:= [(53,eMu D7),(54,e0Q pV)]) bJ TM func36 rfl (LT:= []) (ks:=kK) (cn.nil _)).use (D:= []) ?_ hq;show(cY _ _ _ _ (mW.wr (n,())) [] _).sat _;rw[TK D7 pV];exact⟨hn,rfl,rfl⟩
abbrev TN:Func:=f177
abbrev twC:cl (List LV) (Int×Unit):=jk 3 (bR (bO (cr 0 0)) (jk 1 (bR (bO (cr 1 0)) (bR (bO (cr 2 0)) (jk 1 (bR (bO (cr 3 0)) (bR (bO (cr 4 0)) (bD (bO (bX .i64)) (jk 32 bG)))))))))
abbrev aN0:Wk:=.fr (eH 43 [(3,.bV),(5,.bV),(6,.bV),(8,.bV),(9,.bV),(10,.sym)])
abbrev twX:cl (List LV) (Unit):=jk 6 (bR (bO (cr 0 0)) (jk 2 (bR (bO (cr 1 0)) (jk 33 bG))))
abbrev aYp:Wk:=.fr (eH 43 [(6,.bV),(9,.bV)])
abbrev ptC{Y:Type}(r:cl (List SV) Y):cl (List SV) (Pt×Y):=(bD ou (wM .u64 (wM .u64 (wM .u64 (wM .u64 r 5) 5) 5) 5)).jr (fun x=>((x.1,x.2.1,x.2.2.1,x.2.2.2.1,x.2.2.2.2.1),x.2.2.2.2.2)) (fun y=>(y.1.1,y.1.2.1,y.1.2.2.1,y.1.2.2.2.1,y.1.2.2.2.2,y.2)) (fun _=>rfl)
abbrev aYq:cl (List SV) (Pt×Pt×Pt×Pt×Unit):=ptC (ptC (ptC (ptC bG)))
abbrev twH:cl Hp (ab×ab×Pt×(Pt×Pt×Pt×Pt×Unit)×Pt×Unit):=bD (rG 22 .u8 32) (bD (rG 22 .u8 32) (bD iPt (bD (ob 286 aYq) (bD iPt bG))))
def twW:Exit→List Wk
 | .normal=> [aN0,P9 2,.cK 3 (List.replicate 84 .sym),P9 4,.bS]
 | .exit 0=> [aYp,.bS]
 |_=> []
abbrev twI(bit:ab→Int→Int)(a b:ab)(i:Int):Int:=i64.wrap (bit a i+i64.wrap (2*bit b i))
theorem aFQ(bit:ab→Int→Int)(Jx:Pt→Pt)(add:Pt→Pt→Pt)(a b:ab)(r p0 p1 p2 p3 o:Pt)(i:Int):ma aA [(80,eBi bit),(79,D3 Jx),(81,e2Q add)] [] TN 0 [] twW ((dy twC twH).wr ((i,()),(a,b,r,(p0,p1,p2,p3,()),o,())))=.ite (decide (0≤i)) (.need (a.length=32∧0≤i∧i<256) (.need (b.length=32∧0≤i∧i<256) (.ite (decide (0<twI bit a b i)) (.need (0≤twI bit a b i∧twI bit a b i<4) (.bN .normal ((dy twC twH).wr ((i64.wrap (i-1),()),(a,b,r,(p0,p1,p2,p3,()),add (Jx o) (Jf (twI bit a b i) [p0,p1,p2,p3]),()))))) (.bN .normal ((dy twC twH).wr ((i64.wrap (i-1),()),(a,b,r,(p0,p1,p2,p3,()),Jx o,()))))))) (.bN (.exit 0) ((dy twX P8).wr ((),(r,o,())))):=by kernel_rfl
def twG(bit:ab→Int→Int)(Jx:Pt→Pt)(add:Pt→Pt→Pt)(a b:ab)(l:List Pt)(k:Nat)(r:Pt):Pt:=bif decide (0<twI bit a b (255-(k:Int)))then add (Jx r) (Jf (twI bit a b (255-(k:Int))) l)else Jx r
abbrev twT:Type:=(Int×Unit)×ab×ab×Pt×(Pt×Pt×Pt×Pt×Unit)×Pt×Unit
def aFR(w:ab→ab→Pt→Pt→Pt→Pt→Pt→Pt)(x:twT):cT:=.need (x.1.1=255∧x.2.1.length=32∧x.2.2.1.length=32) (.bN (.exit 0) ((dy twX P8).wr ((),(x.2.2.2.1,w x.2.1 x.2.2.1 x.2.2.2.2.1.1 x.2.2.2.2.1.2.1 x.2.2.2.2.1.2.2.1 x.2.2.2.2.1.2.2.2.1 x.2.2.2.2.2.1,()))))
theorem XZ{a:ab}{i:Int}:ju a i=0∨ju a i=1:=aFp _
theorem adj(a b:ab)(i:Int):0≤twI ju a b i∧twI ju a b i<4:=by
 rcases XZ (a:=a) (i:=i)with h|h<;>rcases XZ (a:=b) (i:=i)with h'|h'<;>unfold twI<;>rw[h,h']<;>decide
theorem as0(x:twT):Ex aA [] (.loop (cG TN 0)) ((dy twC twH).wr x) (.need (x.1.1=255∧x.2.1.length=32∧x.2.2.1.length=32) (.bN (.exit 0) ((dy twX P8).wr ((),(x.2.2.2.1,sB (twG ju dW fP x.2.1 x.2.2.1 [x.2.2.2.2.1.1,x.2.2.2.2.1.2.1,x.2.2.2.2.1.2.2.1,x.2.2.2.2.1.2.2.2.1]) 256 x.2.2.2.2.2.1,()))))):=by
 obtain⟨⟨i,_⟩,a,b,r,⟨p0,p1,p2,p3,_⟩,o,_⟩:=x;refine Ex.need fun⟨h1,h2,h3⟩=>?_;simp only at h1 h2 h3;subst h1
 have key:=kB (fn:=TN) (id:=0) (j:=0) (ws:=twW) (hp:= []) bJ Qa (cn.nil _) 256 (fun k o=>(dy twC twH).wr ((255-(k:Int),()),(a,b,r,(p0,p1,p2,p3,()),o,()))) (fun o=>(dy twX P8).wr ((),(r,o,()))) (twG ju dW fP a b [p0,p1,p2,p3]) (fun _ _=>True)
  (fun k o R hk _ hn hx=>?_) (fun _ _ _ _=>trivial) 0 o (by omega) trivial
 ·rw[Nat.sub_zero,tz]at key;exact key
 rw[aFQ];refine⟨fun hb=>?_,fun hb=>?_⟩
 ·have px:k<256:=by have:=of_decide_eq_true hb;omega
  have yP:=hn px;have e3:i64.wrap ((255-(k:Int))-1)=255-((k+1:Nat):Int):=by rw[bM (by omega) (by omega)];omega
  rw[e3];refine⟨⟨h2,by omega,by omega⟩,⟨h3,by omega,by omega⟩,fun hc=>⟨adj _ _ _,?_⟩,fun hc=>?_⟩
  ·have:twG ju dW fP a b [p0,p1,p2,p3] k o=fP (dW o) (Jf (twI ju a b (255-(k:Int))) [p0,p1,p2,p3]):=(by unfold twG;rw[hc];rfl);rw[this]at yP;exact yP
  ·have:twG ju dW fP a b [p0,p1,p2,p3] k o=dW o:=(by unfold twG;rw[hc];rfl);rw[this]at yP;exact yP
 ·have:k=256:=by have:=of_decide_eq_false hb;omega
  exact hx this
abbrev aFS(w:ab→ab→Pt→Pt→Pt→Pt→Pt→Pt):gW:= [(0,iF (dy twC twH) 0 [aN0,.bS,P9 2,.cK 3 (List.replicate 84 .sym),P9 4] (aFR w))]
abbrev twA:cl (List LV) (ab×Pt×ab×Unit):=bD cB (bD wU (bD cB bG))
def eTw(g:ab→Pt→ab→Pt):bT:=bT.fw [] twA bG fun x _=>.bN (some (x.1.length=32∧x.2.2.1.length=32)) (wU.wr (g x.1 x.2.1 x.2.2.1)) []
abbrev ahS(z b:Pt)(bit:ab→Int→Int)(Jx:Pt→Pt)(add:Pt→Pt→Pt):List (FuncId×bT):= [(80,eBi bit),(79,D3 Jx),(81,e2Q add),(78,e0Q z),(54,e0Q b)]
theorem adk(z b:Pt)(w:ab→ab→Pt→Pt→Pt→Pt→Pt→Pt)(bit:ab→Int→Int)(Jx:Pt→Pt)(add:Pt→Pt→Pt)(n m:ab)(p:Pt):cY aA (ahS z b bit Jx add) (aFS w) TN (twA.wr (n,p,m,())) [] kK=.need ((255:Int)=255∧n.length=32∧m.length=32) (.bN (wU.wr (w n m z p b (add p b) z)) []):=by kernel_rfl
theorem X0:∃f:ab→Pt→ab→Pt,∀n p m,f n p m=ast (sC n) p (sC m):=⟨fun n p m=>ast (sC n) p (sC m),fun _ _ _=>rfl⟩
def Jy:ab→Pt→ab→Pt:=Classical.choose X0
theorem as1(n:ab)(p:Pt)(m:ab):Jy n p m=ast (sC n) p (sC m):=Classical.choose_spec X0 n p m
def TO(a b:ab)(p0 p1 p2 p3 o:Pt):Pt:=sB (twG ju dW fP a b [p0,p1,p2,p3]) 256 o
theorem aFT(a b:ab)(l:Vec Pt 4)(k:Nat)(hk:k<256)(r:Pt):twG ju dW fP a b l.toList k r=Jg wO dW fP (sC a) (sC b) l (255-(k:Int)) r:=by
 unfold twG Jg aFo twI ju;rw[wN];rfl
theorem as2(n m:ab)(p:Pt):TO n m kh p pV (fP p pV) kh=Jy n p m:=by
 rw[as1];unfold TO ast aAh;exact u4 (fun k hk r=>aFT n m (aNL kh p pV (fP p pV)) k hk r) kh 256 (Nat.le_refl _)
theorem ahT{n m:ab}{V W:Pt}(hn:n.length=32)(hm:m.length=32)(h:V=W):(Ev.End.need ((255:Int)=255∧n.length=32∧m.length=32) (.bN (wU.wr V) [])).sat fun v dZ=>v=wU.wr W∧dZ= []:=by
 subst h;exact⟨⟨rfl,hn,hm⟩,rfl,rfl⟩
theorem ahU(a b:ab)(p0 p1 p2 p3 o:Pt):TO a b p0 p1 p2 p3 o=sB (twG ju dW fP a b [p0,p1,p2,p3]) 256 o:=rfl
theorem ahV(x:twT):Ex aA [] (.loop (cG TN 0)) ((dy twC twH).wr x) (aFR TO x):=by
 unfold aFR;rw[ahU];exact as0 x
theorem aFU:cn aA [] (aFS TO) (fV TN):=cn.dO (mI rfl (fI (hp:= []) ahV) mT)
theorem aFV:∀p∈ahS kh pV ju dW fP,p.2.Ok aA p.1:=bI D6 (bI u3 (bI A7 (bI D4 (bI P3 bU))))
abbrev aN2:bT:=eTw Jy
theorem as3:aN2.Ok aA 177:=by
 refine(bT.df call177 fun x_ y_ Q H_=>?_).sym;obtain⟨n,p,m,_⟩:=x_;obtain⟨hn,hq⟩:=H_;have hn:n.length=32∧m.length=32:=hn
 have hc:my aA 177 (twA.wr (n,p,m,())) [] (cY aA (ahS kh pV ju dW fP) (aFS TO) TN (twA.wr (n,p,m,())) [] kK):=
  cg bJ aFV func177 rfl aFU
 rw[adk kh pV TO ju dW fP]at hc;exact hc.use (D:= []) (ahT hn.1 hn.2 (as2 n m p)) hq
end Go.Proofs.YtliehnnljilacaaGreat
namespace Go.Ev
open Go
def vd(B:Int):ab→Int
 | []=>0
 |x::l=>x+B*vd B l
def dg(B:Int):Nat→Int→ab
 |0,_=> []
 |n+1,x=>x%B::dg B n (x/B)
def kG(B:Int)(l:ab):Prop:=∀z∈l,0≤z∧z<B
noncomputable section
variable {B:Int}
theorem kG.tail{x:Int}{l:ab}(h:kG B (x::l)):kG B l:=fun z hz=>h z (List.mem_cons_of_mem _ hz)
theorem kG.head{x:Int}{l:ab}(h:kG B (x::l)):0≤x∧x<B:=h x (by simp)
theorem kG.take{l:ab}(h:kG B l)(n:Nat):kG B (l.take n):=fun z hz=>h z (List.mem_of_mem_take hz)
theorem kG.drop{l:ab}(h:kG B l)(n:Nat):kG B (l.drop n):=fun z hz=>h z (List.mem_of_mem_drop hz)
theorem kG.append{l m:ab}(h:kG B l)(h':kG B m):kG B (l++m):=fun z hz=>by
 rcases List.mem_append.1 hz with k|k
 ·exact h z k
 ·exact h' z k
theorem kG.set{l:ab}(h:kG B l){i:Nat}{x:Int}(hx:0≤x∧x<B):kG B (l.set i x):=fun z hz=>by
 rcases List.mem_or_eq_of_mem_set hz with k|k
 ·exact h z k
 ·subst k;exact hx
theorem kG.Hf(hB:0<B)(n:Nat):kG B (List.replicate n 0):=fun z hz=>by
 rw[List.eq_of_mem_replicate hz];omega
theorem kG.getD{l:ab}(hB:0<B)(h:kG B l)(i:Nat):0≤l.getD i 0∧l.getD i 0<B:=by
 rw[List.getD_eq_getElem?_getD];rcases Nat.lt_or_ge i l.length with h1|h1
 ·rw[List.getElem?_eq_getElem h1];exact h _ (List.getElem_mem h1)
 ·rw[List.getElem?_eq_none h1];exact⟨by simp,by simpa using hB⟩
theorem fQ:∀ (n:Nat) (x:Int),(dg B n x).length=n
 |0,_=>rfl
 |n+1,x=>by simp[dg,fQ n]
theorem wV(hB:0<B):∀ (n:Nat) (x:Int),kG B (dg B n x)
 |0,_=>fun z hz=>by cases hz
 |n+1,x=>fun z hz=>by
  rcases List.mem_cons.1 hz with rfl|hz
  ·exact⟨Int.emod_nonneg _ (by omega),Int.emod_lt_of_pos _ hB⟩
  ·exact wV hB n _ z hz
theorem ahW(hB:0<B)(n:Nat):0<B ^ n:=Int.pow_pos hB
theorem jg(hB:0<B):∀ {l:ab},kG B l→0≤vd B l
 | [],_=>by simp[vd]
 |x::l,h=>by
  have h1:=jg hB h.tail;have h2:=h.head;have:=Int.mul_nonneg (Int.le_of_lt hB) h1;simp only[vd];omega
theorem wW(hB:0<B):∀ {l:ab},kG B l→vd B l<B ^ l.length
 | [],_=>by simp[vd]
 |x::l,h=>by
  have h1:=wW hB h.tail;have h2:=h.head;simp only[vd,List.length_cons];have h3:B*(vd B l+1)≤B*B ^ l.length:=Int.mul_le_mul_of_nonneg_left (by omega) (by omega);rw[Int.mul_add,Int.mul_one]at h3;rw[Int.pow_succ,Int.mul_comm (B ^ l.length)];omega
theorem Hg(hB:0<B){x y:Int}(h:0≤x∧x<B):(x+B*y)/B=y∧(x+B*y)%B=x:=by
 rw[Int.add_mul_ediv_left _ _ (by omega),Int.add_mul_emod_self_left,Int.ediv_eq_zero_of_lt h.1 h.2,Int.emod_eq_of_lt h.1 h.2];exact⟨by omega,rfl⟩
theorem X1(hB:0<B):∀ {l:ab},kG B l→dg B l.length (vd B l)=l
 | [],_=>rfl
 |x::l,h=>by
  obtain⟨h1,h2⟩:=Hg hB (y:=vd B l) h.head;show(x+B*vd B l)%B::dg B l.length ((x+B*vd B l)/B)=x::l;rw[h1,h2,X1 hB h.tail]
theorem Ea(hB:0<B){P:Int}(hP:0<P)(x:Int):x%B+B*(x/B%P)=x%(B*P):=by
 have h1:=Int.emod_nonneg x (show B≠0 by omega);have h2:=Int.emod_lt_of_pos x hB;have h3:=Int.emod_nonneg (x/B) (show P≠0 by omega);have h4:=Int.emod_lt_of_pos (x/B) hP;have e1:=Int.emod_add_mul_ediv x B;have e2:=Int.emod_add_mul_ediv (x/B) P;have e:x=x%B+B*(x/B%P)+(B*P)*(x/B/P):=by
  rw[Int.mul_assoc,Int.add_assoc,← Int.mul_add,e2,e1]
 have iZ:x%B+B*(x/B%P)<B*P:=by
  have:=Int.mul_le_mul_of_nonneg_left (show x/B%P+1≤P by omega) (show 0≤B by omega);rw[Int.mul_add,Int.mul_one]at this;omega
 have hnn:0≤x%B+B*(x/B%P):=by
  have:=Int.mul_nonneg (show 0≤B by omega) h3;omega
 have key:x%(B*P)=(x%B+B*(x/B%P))%(B*P):=by
  conv=>lhs;rw[e]
  rw[Int.add_mul_emod_self_left]
 rw[key,Int.emod_eq_of_lt hnn iZ]
theorem wX(hB:0<B):∀ (n:Nat) (x:Int),vd B (dg B n x)=x%B ^ n
 |0,x=>by simp[dg,vd,Int.emod_one]
 |n+1,x=>by
  show x%B+B*vd B (dg B n (x/B))=_;rw[wX hB n,Ea hB (ahW hB n),Int.pow_succ,Int.mul_comm (B ^ n)]
theorem aFW(hB:0<B){l m:ab}(hl:kG B l)(hm:kG B m)(hn:l.length=m.length)(h:vd B l=vd B m):l=m:=by
 rw[← X1 hB hl,← X1 hB hm,hn,h]
theorem Qc(hB:0<B){l:ab}{n:Nat}{x:Int}(hl:kG B l)(hn:l.length=n)(h:vd B l=x%B ^ n):l=dg B n x:=aFW hB hl (wV hB n x) (by rw[fQ,hn]) (by rw[wX hB,h])
theorem wY(hB:0<B):∀ {n:Nat} {x:Int} {k:Nat},k<n→(dg B n x).getD k 0=x/B ^ k%B
 |0,_,k,h=>absurd h (by omega)
 |n+1,x,0,_=>by simp[dg]
 |n+1,x,k+1,h=>by
  show(x%B::dg B n (x/B)).getD (k+1) 0=_;rw[List.getD_cons_succ,wY hB (by omega:k<n),Int.ediv_ediv_of_nonneg (by omega),Int.pow_succ,Int.mul_comm (B ^ k)]
theorem as4(hB:0<B){l:ab}(h:kG B l){k:Nat}(hk:k<l.length):l.getD k 0=vd B l/B ^ k%B:=by
 conv=>lhs;rw[← X1 hB h]
 exact wY hB hk
theorem Hh:∀ (l m:ab),vd B (l++m)=vd B l+B ^ l.length*vd B m
 | [],m=>by simp[vd]
 |x::l,m=>by
  show x+B*vd B (l++m)=x+B*vd B l+B ^ (l.length+1)*vd B m;rw[Hh l m,Int.mul_add,Int.pow_succ,Int.mul_assoc,Int.mul_left_comm B,Int.add_assoc]
theorem TP:∀ {l:ab} {k:Nat} {x:Int},k<l.length→vd B (l.set k x)=vd B l+(x-l.getD k 0)*B ^ k
 | [],k,_,h=>absurd h (by simp)
 |y::l,0,x,_=>by
  simp only[List.set_cons_zero,vd,List.getD_cons_zero,Int.pow_zero];omega
 |y::l,k+1,x,h=>by
  simp only[List.set_cons_succ,vd,List.getD_cons_succ];rw[TP (by simpa using h),Int.mul_add,Int.pow_succ,Int.mul_comm B ((x-l.getD k 0)*B ^ k),Int.mul_assoc,Int.add_assoc]
theorem ahX(n:Nat):vd B (List.replicate n 0)=0:=by
 induction n with
 |zero=>rfl
 |succ n ih=>rw[List.replicate_succ];simp[vd,ih]
theorem jh{l:ab}{k:Nat}(hk:k<l.length):vd B (l.take (k+1))=vd B (l.take k)+l.getD k 0*B ^ k:=by
 rw[List.take_add_one,List.getElem?_eq_getElem hk,Hh,List.length_take,Nat.min_eq_left (by omega),List.getD_eq_getElem?_getD,List.getElem?_eq_getElem hk];simp[vd,Int.mul_comm]
theorem X2(hB:0<B)(n:Nat):dg B n 0=List.replicate n 0:=(Qc hB (kG.Hf hB n) (by simp) (by rw[ahX];simp)).symm
end
theorem Gk{x:Int}(A C:Int)(hA:0<A)(hC:0<C)(D:Int)(hDp:0<D)(hdiv:A*D∣C):x%C/A%D=x/A%D:=by
 obtain⟨q,rfl⟩:=hdiv;have hq:0<q:=by
  rcases Int.lt_or_le 0 q with h|h
  ·exact h
  ·have:=Int.mul_nonneg (Int.le_of_lt (Int.mul_pos hA hDp)) (show 0≤ -q by omega);rw[Int.mul_neg]at this;omega
 have e:=Ea (B:=A) (P:=D*q) hA (Int.mul_pos hDp hq) x;rw[← Int.mul_assoc]at e;rw[← e];have h1:=Int.emod_nonneg x (show A≠0 by omega);have h2:=Int.emod_lt_of_pos x hA;rw[(Hg hA ⟨h1,h2⟩).1,Int.emod_emod_of_dvd _ (Int.dvd_mul_right D q)]
theorem adl(V:Int)(k:Nat):V/2 ^ k=2*(V/2 ^ (k+1))+V/2 ^ k%2:=by
 have e:V/2 ^ (k+1)=V/2 ^ k/2:=by rw[Int.pow_succ,Int.ediv_ediv_of_nonneg (by exact Int.le_of_lt (Int.pow_pos (by decide)))]
 rw[e];omega
theorem ahY{L r b:Int}(hL:0<L)(hr:0≤r∧r<L)(hb:0≤b∧b<2):(2*r+b)%L=if 2*r+b<L then 2*r+b else 2*r+b-L:=by
 split
 ·exact Int.emod_eq_of_lt (by omega) (by assumption)
 ·have e:2*r+b=(2*r+b-L)+L*1:=by omega
  conv=>lhs;rw[e]
  rw[Int.add_mul_emod_self_left,Int.emod_eq_of_lt (by omega) (by omega)]
theorem as5(L V b:Int):(2*V+b)%L=(2*(V%L)+b)%L:=by
 have e:=Int.emod_add_mul_ediv V L;have:2*V+b=2*(V%L)+b+L*(2*(V/L)):=by
  conv=>lhs;rw[← e]
  rw[Int.mul_add,Int.mul_left_comm];omega
 rw[this,Int.add_mul_emod_self_left]
end Go.Ev
