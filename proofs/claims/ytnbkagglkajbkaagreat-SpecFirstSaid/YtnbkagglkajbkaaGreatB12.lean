/- What the laws lean on, part 12: a reader of code, plain facts, and what each function gives; no conditions. -/
import Derived.Test.YtnbkagglkajbkaaGreatB11
set_option linter.unusedVariables false
set_option linter.unusedSimpArgs false
noncomputable section
namespace Go.Proofs.YtnbkagglkajbkaaGreat
open Go Go.Ev Go.Proofs.Tryz
open Go.IntKind (i64 signed u16 u64 wrap)
set_option maxRecDepth 100000
abbrev Fe:=Vec Int 5
abbrev dG:=Vec Int 32
def eA(n:Int):Int:=u64.wrap n
def dP(a b:Int):Int:=bg .u64 a b
def bI(a b:Int):Int:=shr .u64 a b
def DI:Int:=2251799813685247
def cx(x:Fe):Fe:=
 (eA (dP x.1 DI+eA (bI x.2.2.2.2.1 51*19)),
  eA (dP x.2.1 DI+bI x.1 51),
  eA (dP x.2.2.1 DI+bI x.2.1 51),
  eA (dP x.2.2.2.1 DI+bI x.2.2.1 51),
  eA (dP x.2.2.2.2.1 DI+bI x.2.2.2.1 51),())
def aX(n:Int):Fe:=(dP n DI,bI n 51,0,0,0,())
def SS(carry:Fe→Fe)(x y:Fe):Fe:=carry (Vec.zip (fun a b=>eA (a+b)) x y)
def Km(carry:Fe→Fe)(x y:Fe):Fe:=carry (Vec.zip (fun a b=>eA (a-b)) (Vec.zip (fun a b=>eA (a+b)) x (4503599627370458,4503599627370494,4503599627370494,4503599627370494,4503599627370494,())) y)
def dn:Fe:=(0,0,0,0,0,())
def eqV: {n:Nat}→Vec Int n→Vec Int n→Bool
 |0,_,_=>true
 |_+1,v,u=>(v.1==u.1)&&eqV v.2 u.2
theorem n5: {n:Nat}→(v u:Vec Int n)→(eqV v u=true↔v=u)
 |0,_,_=>⟨fun _=>rfl,fun _=>rfl⟩
 |n+1,v,u=>by
  simp only[eqV,Bool.and_eq_true,beq_iff_eq,n5 v.2 u.2];exact⟨fun h=>Prod.ext h.1 h.2,fun h=>by rw[h];exact⟨rfl,rfl⟩⟩
def acv(bytes:Fe→dG)(x:Fe):Bool:=bg .u8 (bytes x).1 1==1
def uY(carry:Fe→Fe)(x:Fe):Fe:=
 let y:=carry x
 let c:=bI (eA (y.1+19)) 51
 let c:=bI (eA (y.2.1+c)) 51
 let c:=bI (eA (y.2.2.1+c)) 51
 let c:=bI (eA (y.2.2.2.1+c)) 51
 let c:=bI (eA (y.2.2.2.2.1+c)) 51
 let c:=eA (c*19)
 let c0:=eA (c+y.1)
 let c1:=eA (bI c0 51+y.2.1)
 let c2:=eA (bI c1 51+y.2.2.1)
 let c3:=eA (bI c2 51+y.2.2.2.1)
 let c4:=eA (bI c3 51+y.2.2.2.2.1)
 (dP c0 DI,dP c1 DI,dP c2 DI,dP c3 DI,dP c4 DI,())
end Go.Proofs.YtnbkagglkajbkaaGreat
namespace Go.Proofs.YtnbkagglkajbkaaGreat
open Go Go.Ev Go.Proofs.Tryz
open Go.IntKind (i64 signed u16 u64 wrap)
set_option maxRecDepth 1000000
def Pf(y:Fe):dG:=Vec.ofFn 32 fun j=>(List.range (if j=31 then 7 else 8)).foldl
 (fun acc i=>bp .u8 acc (shl .u8 (IntKind.u8.wrap (dP (bI (y.get ((8*j+i)/51)) (((8*j+i)%51:Nat):Int)) 1)) (i:Int))) 0
def word(b:dG)(j:Nat):Int:=(List.range 8).foldl (fun acc i=>bp .u64 acc (shl .u64 (eA (b.get (8*j+i))) (8*i:Nat))) 0
def gp(b:dG):Fe:=
 (dP (word b 0) DI,dP (bp .u64 (bI (word b 0) 51) (shl .u64 (word b 1) 13)) DI,dP (bp .u64 (bI (word b 1) 38) (shl .u64 (word b 2) 26)) DI,
  dP (bp .u64 (bI (word b 2) 25) (shl .u64 (word b 3) 39)) DI,dP (bI (word b 3) 12) DI,())
def Vec.xZ{α:Type}(f:α→α): {n:Nat}→Nat→Vec α n→Vec α n
 |0,_,_=>()
 |_+1,0,v=>(f v.1,v.2)
 |_+1,i+1,v=>(v.1,Vec.xZ f i v.2)
def jS(b:dG):dG:=Vec.xZ (fun x=>bT .u8 x 128) 31 b
def bn(x y:Int):Int×Int:=
 let x0:=dP x 4294967295
 let x1:=bI x 32
 let y0:=dP y 4294967295
 let y1:=bI y 32
 let t:=eA (eA (x1*y0)+bI (eA (x0*y0)) 32)
 let w1:=eA (dP t 4294967295+eA (x0*y1))
 (eA (eA (eA (x1*y1)+bI t 32)+bI w1 32),eA (x*y))
def uZ:List Prop→Option Prop
 | []=>none
 |p::l=>avl p (uZ l)
noncomputable section
variable (m64:Int→Int→Int×Int) (a64:Int→Int→Int→Int×Int)
def gP(x y:Fe):List (Nat×Nat)→List (Int×Int)→List (Int×Int)×List Prop
 | [],r=>(r,[])
 |(i,j)::l,r=>
  let a:=if i+j<5 then x.get i else eA (x.get i*19)
  let p:=r.getD ((i+j)%5) (0,0)
  let m:=m64 a (y.get j)
  let s:=a64 p.2 m.2 0
  let t:=a64 p.1 m.1 s.2
  let z:=gP x y l (r.set ((i+j)%5) (t.1,s.1))
  (z.1,(0≤s.2∧s.2≤1)::z.2)
def fK:List (Nat×Nat):= [(0,0),(0,1),(0,2),(0,3),(0,4),(1,0),(1,1),(1,2),(1,3),(1,4),(2,0),(2,1),(2,2),(2,3),(2,4),(3,0),(3,1),(3,2),(3,3),(3,4),(4,0),(4,1),(4,2),(4,3),(4,4)]
def Bm(x y:Fe):List Prop:=(gP m64 a64 x y fK [(0,0),(0,0),(0,0),(0,0),(0,0)]).2
def sG(carry:Fe→Fe)(x y:Fe):Fe:=
 let r:=(gP m64 a64 x y fK [(0,0),(0,0),(0,0),(0,0),(0,0)]).1
 let lo (i:Nat):=dP (r.getD i (0,0)).2 DI
 let c (i:Nat):=bp .u64 (shl .u64 (r.getD i (0,0)).1 13) (bI (r.getD i (0,0)).2 51)
 carry (eA (eA (0+lo 0)+eA (c 4*19)),eA (eA (0+c 0)+lo 1),eA (eA (0+c 1)+lo 2),eA (eA (0+c 2)+lo 3),eA (eA (0+c 3)+lo 4),())
end
end Go.Proofs.YtnbkagglkajbkaaGreat
namespace Go.Proofs.YtnbkagglkajbkaaGreat
open Go Go.Ev Go.Proofs.Tryz
open Go.IntKind (i64 signed u16 u64 wrap)
set_option maxRecDepth 1000000
def jd(lo hi:Int):dG:=Vec.ofFn 32 fun j=>if j=0 then lo else if j=31 then hi else 255
def iU(b:Bool): {n:Nat}→Vec Int n→Vec Int n→Vec Int n
 |0,_,_=>()
 |_+1,v,u=>(bif b then v.1 else u.1,iU b v.2 u.2)
theorem eB: {n:Nat}→(b:Bool)→(v u:Vec Int n)→iU b v u=bif b then v else u
 |0,b,v,u=>by cases b<;>rfl
 |n+1,b,v,u=>by
  show((bif b then v.1 else u.1),iU b v.2 u.2)=_;rw[eB b v.2 u.2]
  cases b<;>rfl
theorem DJ{n:Nat}(b:Bool)(v:Vec Int n):iU b v v=v:=by rw[eB];cases b<;>rfl
def DK(e:dG)(i:Nat):Bool:=bg .u8 (shr .u8 (e.get (i/8)) ((i%8:Nat):Int)) 1==1
noncomputable section
variable (small:Int→Fe) (pV:Fe→Fe) (mul:Fe→Fe→Fe)
def fY(x:Fe)(e:dG)(k:Nat)(r:Fe):Fe:=iU (DK e (255-k)) (mul (pV r) x) (pV r)
def alj(x:Fe)(e:dG):Fe:=gC (fY pV mul x e) 256 (small 1)
end
noncomputable section
variable (pow:Fe→dG→Fe) (exp:Int→Int→dG) (mul:Fe→Fe→Fe) (pV neg:Fe→Fe) (small:Int→Fe) (equal:Fe→Fe→Bool) (Kn isZero:Fe→Bool) (invert:Fe→Fe)
def Bn(x:Fe):Fe×Bool:=
 let r:=pow x (exp 254 15)
 let r1:=iU (!(equal (pV r) x)) (mul r (pow (small 2) (exp 251 31))) r
 let bad:= !(equal (pV r1) (iU (!(equal (pV r) x)) x x))
 (iU bad dn (iU (Kn r1) (neg r1) r1),bif bad then false else true)
end
end Go.Proofs.YtnbkagglkajbkaaGreat
namespace Go.Proofs.YtnbkagglkajbkaaGreat
open Go Go.Ev Go.Proofs.Tryz
open Go.IntKind (i64 signed u16 u64 wrap)
set_option maxRecDepth 1000000
abbrev Pt:=Bool×Fe×Fe×Fe×Fe
def DL(b:Bool)(p q:Pt):Pt:=(bif b then p.1 else q.1,iU b p.2.1 q.2.1,iU b p.2.2.1 q.2.2.1,iU b p.2.2.2.1 q.2.2.2.1,iU b p.2.2.2.2 q.2.2.2.2)
theorem gq(b:Bool)(p q:Pt):DL b p q=bif b then p else q:=by
 unfold DL;rw[eB,eB,eB,eB];cases b<;>rfl
noncomputable section
variable (mul add sub:Fe→Fe→Fe) (pV neg invert:Fe→Fe) (small:Int→Fe) (isZero Kn:Fe→Bool) (sqrt:Fe→Fe×Bool) (ratio:Fe→Fe→Fe×Bool) (w6:dG→Fe) (bytes:Fe→dG)
 (DM:dG→Bool) (equal:Fe→Fe→Bool) (anT:Fe) (zero:Pt) (own:Pt→Pt) (anU:Fe→Fe→Pt) (root:Fe→Fe×Bool) (place:Pt→Fe×Fe) (SU:Fe→Fe→Fe→Fe→Pt) (Ko:Pt→Pt→Pt)
def nk:dG:=(0xa3,0x78,0x59,0x13,0xca,0x4d,0xeb,0x75,0xab,0xd8,0x41,0x41,0x4d,0x0a,0x70,0x00,0x98,0xe8,0x79,0x77,0x79,0x40,0xc7,0x8c,0x73,0xfe,0x6f,0x2b,0xee,0x6c,0x03,0x52,())
def acw(x y:Fe):Pt:=(true,x,y,small 1,mul x y)
def acx(p:Pt):Pt:=DL (!p.1) zero p
def fy:Pt:=(false,dn,dn,dn,dn)
def w7(b:dG):Bool:=bg .u8 (b.get 31) 128!=0
def u0(b:dG):Pt×Bool:=
 let y:=w6 b
 let x:=(root y).1
 let ok:=(root y).2
 let b1:=(!ok)==false
 let b2:=(!(DM b))==false
 let b3:=w7 b==true
 let j (v:Fe):Fe:=iU b1 (iU b2 (iU b3 v v) v) v
 let jb (v:Bool):Bool:=bif b1 then(bif b2 then(bif b3 then v else v)else v)else v
 let bad:=bif b1 then(bif b2 then(bif b3 then isZero x else false)else true)else true
 let o:=jb (w7 b)
 (DL bad fy (anU (iU o (neg (j x)) (j x)) (iU o (j y) (j y))),bif bad then false else true)
def ahV(p:Pt):Fe×Fe:=(mul (own p).2.1 (invert (own p).2.2.2.1),mul (own p).2.2.1 (invert (own p).2.2.2.1))
def Bo(p:Pt):dG:=
 let b:=bytes (place p).2
 iU (Kn (place p).1) (Vec.xZ (fun x=>bp .u8 x 128) 31 b) b
def ahW(e f g h:Fe):Pt:=(true,mul e f,mul g h,mul f g,mul e h)
def addFn(p0 q0:Pt):Pt:=
 let p:=own p0
 let q:=own q0
 let a:=mul (sub p.2.2.1 p.2.1) (sub q.2.2.1 q.2.1)
 let b:=mul (add p.2.2.1 p.2.1) (add q.2.2.1 q.2.1)
 let c:=mul (mul p.2.2.2.2 q.2.2.2.2) anT
 let c:=add c c
 let d:=mul p.2.2.2.1 q.2.2.2.1
 let d:=add d d
 SU (sub b a) (sub d c) (add d c) (add b a)
def negFn(p:Pt):Pt:=((own p).1,neg (own p).2.1,(own p).2.2.1,(own p).2.2.2.1,neg (own p).2.2.2.2)
end
end Go.Proofs.YtnbkagglkajbkaaGreat
namespace Go.Ev
open Go
open Go.IntKind (i64 signed u16 u64 wrap)
end Go.Ev
namespace Go.Proofs.YtnbkagglkajbkaaGreat
open Go Go.Ev Go.Proofs.Tryz
open Go.IntKind (i64 signed u16 u64 wrap)
set_option maxRecDepth 1000000
def iN(b:dG)(k:Nat):Int:=i64.wrap (bg .u8 (shr .u8 (b.get (k/8)) ((k%8:Nat):Int)) 1)
noncomputable section
variable (bit:dG→Nat→Int) (zero base:Pt) (double:Pt→Pt) (Ko:Pt→Pt→Pt)
def iO(n:dG)(p:Pt)(k:Nat)(r:Pt):Pt:=DL (bit n (255-k)==1) (Ko (double r) p) (double r)
def acy(n:dG)(p:Pt):Pt:=gC (iO bit double Ko n p) 256 zero
end
end Go.Proofs.YtnbkagglkajbkaaGreat
namespace Go.Proofs.YtnbkagglkajbkaaGreat
open Go Go.Ev Go.Proofs.Tryz
open Go.IntKind (i64 signed u16 u64 wrap)
set_option maxRecDepth 1000000
def w(n:Int):Int:=i64.wrap n
noncomputable section
variable (ez:Fn) (below:Fn→Fn→Bool) (norm:Fn→Fn)
end
end Go.Proofs.YtnbkagglkajbkaaGreat
namespace Go.Proofs.YtnbkagglkajbkaaGreat
open Go Go.Ev Go.Proofs.Tryz
open Go.IntKind (i64 signed u16 u64 wrap)
set_option maxRecDepth 1000000
abbrev Pn:=Fn×Fn×Fn×Fn
noncomputable section
variable (bit:dG→Nat→Int) (small:Int→Fn) (mul add sub:Fn→Fn→Fn) (neg invert:Fn→Fn) (Kn:Fn→Bool) (pow:Fn→dG→Fn) (sqrt:Fn→Fn×Bool) (ratio:Fn→Fn→Fn×Bool) (anT:Fn)
 (w6:dG→Fn) (bytes:Fn→dG) (DM:dG→Bool) (zero:Pn) (ofp:Fn→Fn→Pn) (xOf:Fn→Fn×Bool) (arD:Pn→Pn→Fn→Pn)
end
end Go.Proofs.YtnbkagglkajbkaaGreat
namespace BJ
def c6(n:Int):F:=⟨(n%(pp:Int)).toNat,by
 have h1:0≤n%(pp:Int):=Int.emod_nonneg _ (by decide);have h2:n%(pp:Int)<(pp:Int):=Int.emod_lt_of_pos _ (by decide);omega⟩
theorem eL(n:Int):((c6 n).val:Int)=n%(pp:Int):=Int.toNat_of_nonneg (Int.emod_nonneg _ (by decide))
theorem xW{a b:F}(h:(a.val:Int)=b.val):a=b:=Fin.ext (Int.ofNat_inj.1 h)
theorem ahX{a b:Int}:c6 a=c6 b↔a%(pp:Int)=b%(pp:Int):=by
 constructor
 ·intro h;rw[← eL,← eL,h]
 ·intro h;exact xW (by rw[eL,eL,h])
theorem lV(a b:Int):c6 (a+b)=c6 a+c6 b:=by
 apply xW
 rw[eL,Fin.val_add,Int.natCast_emod,Int.natCast_add,eL,eL,← Int.add_emod]
theorem rl(a b:Int):c6 (a*b)=c6 a*c6 b:=by
 apply xW
 rw[eL,Fin.val_mul,Int.natCast_emod,Int.natCast_mul,eL,eL,← Int.mul_emod]
theorem acz:c6 0=0:=by apply xW;rw[eL];decide
theorem SW:c6 1=1:=by apply xW;rw[eL];decide
theorem ahY(a b:Int):c6 (a-b)=c6 a-c6 b:=by
 have h:c6 (a-b)+c6 b=c6 a:=by rw[← lV];congr 1;omega
 grobner
theorem GF(a k:Int):c6 (a+k*(pp:Int))=c6 a:=ahX.2 (Int.add_mul_emod_self_right _ _ _)
end BJ
namespace Go.Proofs.YtnbkagglkajbkaaGreat
open Go Go.Ev BJ Go.Proofs.Tryz
open Go.IntKind (i64 signed u16 u64 wrap)
def DN(a b c d e:Int):Fe:=(a,b,c,d,e,())
def vV(n:Int):Prop:=0≤n∧n<18446744073709551616
def Kp(n:Int):Prop:=0≤n∧n<2251799813947392
def U5(x:Fe):Prop:=vV x.1∧vV x.2.1∧vV x.2.2.1∧vV x.2.2.2.1∧vV x.2.2.2.2.1
def fR(x:Fe):Prop:=Kp x.1∧Kp x.2.1∧Kp x.2.2.1∧Kp x.2.2.2.1∧Kp x.2.2.2.2.1
def fL(x:Fe):Int:=x.1+x.2.1*2251799813685248+x.2.2.1*5070602400912917605986812821504+x.2.2.2.1*11417981541647679048466287755595961091061972992+x.2.2.2.2.1*25711008708143844408671393477458601640355247900524685364822016
def fe(x:Fe):F:=c6 (fL x)
theorem u7(x:Int):dP x DI=x%2251799813685248:=by
 have:=tK (m:=51) (by decide) x DI (by decide);simpa [dP]using this
theorem GG(x:Int):bI x 51=x/2251799813685248:=by
 have:=ft .u64 x 51 (by decide);simpa [bI]using this
theorem Wf{x:Fe}(h:U5 x):fR (cx x)∧∃k,fL (cx x)=fL x+k*(pp:Int):=by
 obtain⟨x0,x1,x2,x3,x4,u⟩:=x;obtain⟨h0,h1,h2,h3,h4⟩:=h;simp only[vV]at h0 h1 h2 h3 h4
 have e:cx (x0,x1,x2,x3,x4,u)=DN (x0%2251799813685248+x4/2251799813685248*19) (x1%2251799813685248+x0/2251799813685248) (x2%2251799813685248+x1/2251799813685248)
   (x3%2251799813685248+x2/2251799813685248) (x4%2251799813685248+x3/2251799813685248):=by
  simp only[cx,u7,GG,eA];rw[wrap_u64 (n:=x4/2251799813685248*19) (by omega) (by omega)];rw[wrap_u64 (by omega) (by omega),wrap_u64 (by omega) (by omega),wrap_u64 (by omega) (by omega),wrap_u64 (by omega) (by omega),wrap_u64 (by omega) (by omega)];rfl
 rw[e];refine⟨?_,-(x4/2251799813685248),?_⟩
 ·simp only[fR,Kp,DN];omega
 ·simp only[fL,pp,DN];omega
theorem u9{x:Fe}(h:U5 x):fR (cx x)∧fe (cx x)=fe x:=by
 obtain⟨h1,k,h2⟩:=Wf h;exact⟨h1,by unfold fe;rw[h2,GF]⟩
theorem anV{x y:Fe}(hx:fR x)(hy:fR y):fR (SS cx x y)∧fe (SS cx x y)=fe x+fe y:=by
 obtain⟨x0,x1,x2,x3,x4,u⟩:=x;obtain⟨y0,y1,y2,y3,y4,v⟩:=y;simp only[fR,Kp]at hx hy
 have e:Vec.zip (n:=5) (fun a b=>eA (a+b)) (x0,x1,x2,x3,x4,u) (y0,y1,y2,y3,y4,v)=DN (x0+y0) (x1+y1) (x2+y2) (x3+y3) (x4+y4):=by
  show(eA (x0+y0),eA (x1+y1),eA (x2+y2),eA (x3+y3),eA (x4+y4),())=_;simp only[eA];rw[wrap_u64 (by omega) (by omega),wrap_u64 (by omega) (by omega),wrap_u64 (by omega) (by omega),wrap_u64 (by omega) (by omega),wrap_u64 (by omega) (by omega)];rfl
 unfold SS;rw[e];obtain⟨h1,h2⟩:=u9 (x:=DN (x0+y0) (x1+y1) (x2+y2) (x3+y3) (x4+y4)) (by simp only[U5,vV,DN];omega);refine⟨h1,?_⟩;rw[h2];unfold fe;rw[← lV]
 congr 1
 simp only[fL,DN];omega
theorem acA{x y:Fe}(hx:fR x)(hy:fR y):fR (Km cx x y)∧fe (Km cx x y)=fe x-fe y:=by
 obtain⟨x0,x1,x2,x3,x4,u⟩:=x;obtain⟨y0,y1,y2,y3,y4,v⟩:=y;simp only[fR,Kp]at hx hy
 have e:Vec.zip (n:=5) (fun a b=>eA (a-b)) (Vec.zip (n:=5) (fun a b=>eA (a+b)) (x0,x1,x2,x3,x4,u) (4503599627370458,4503599627370494,4503599627370494,4503599627370494,4503599627370494,())) (y0,y1,y2,y3,y4,v)=
   DN (x0+4503599627370458-y0) (x1+4503599627370494-y1) (x2+4503599627370494-y2) (x3+4503599627370494-y3) (x4+4503599627370494-y4):=by
  show(eA (eA (x0+4503599627370458)-y0),eA (eA (x1+4503599627370494)-y1),eA (eA (x2+4503599627370494)-y2),eA (eA (x3+4503599627370494)-y3),eA (eA (x4+4503599627370494)-y4),())=_;simp only[eA];rw[wrap_u64 (n:=x0+4503599627370458) (by omega) (by omega),wrap_u64 (n:=x1+4503599627370494) (by omega) (by omega),wrap_u64 (n:=x2+4503599627370494) (by omega) (by omega),wrap_u64 (n:=x3+4503599627370494) (by omega) (by omega),wrap_u64 (n:=x4+4503599627370494) (by omega) (by omega)];rw[wrap_u64 (by omega) (by omega),wrap_u64 (by omega) (by omega),wrap_u64 (by omega) (by omega),wrap_u64 (by omega) (by omega),wrap_u64 (by omega) (by omega)];rfl
 unfold Km;rw[e];obtain⟨h1,h2⟩:=u9 (x:=DN (x0+4503599627370458-y0) (x1+4503599627370494-y1) (x2+4503599627370494-y2) (x3+4503599627370494-y3) (x4+4503599627370494-y4)) (by simp only[U5,vV,DN];omega);refine⟨h1,?_⟩;rw[h2];unfold fe;rw[← ahY,← GF (fL (x0,x1,x2,x3,x4,u)-_) 2]
 congr 1
 simp only[fL,pp,DN];omega
theorem jC:fR dn∧fe dn=0:=by
 refine⟨by simp[fR,Kp,dn],?_⟩;rw[← acz];rfl
theorem DO{a b:Int}(ha:vV a)(hb:vV b):bn a b=(a*b/18446744073709551616,a*b%18446744073709551616):=by
 simp only[vV]at ha hb
 have e0:∀x,dP x 4294967295=x%4294967296:=fun x=>by
  have:=tK (m:=32) (by decide) x 4294967295 (by decide);simpa [dP]using this
 have e1:∀x,bI x 32=x/4294967296:=fun x=>by
  have:=ft .u64 x 32 (by decide);simpa [bI]using this
 obtain⟨a0,a1,ha0,ha1,rfl⟩:∃a0 a1:Int,a%4294967296=a0∧a/4294967296=a1∧a=a1*4294967296+a0:=⟨_,_,rfl,rfl,by omega⟩;obtain⟨b0,b1,MF,hb1,rfl⟩:∃b0 b1:Int,b%4294967296=b0∧b/4294967296=b1∧b=b1*4294967296+b0:=⟨_,_,rfl,rfl,by omega⟩
 have sY:∀ {p q:Int},0≤p→p≤4294967295→0≤q→q≤4294967295→0≤p*q∧p*q≤18446744065119617025:=fun {p q} h1 h2 h3 h4=>
  ⟨Int.mul_nonneg h1 h3,Int.le_trans (Int.mul_le_mul h2 h4 h3 (by decide)) (by decide)⟩
 have Mv:=sY (p:=a0) (q:=b0) (by omega) (by omega) (by omega) (by omega);have h01:=sY (p:=a0) (q:=b1) (by omega) (by omega) (by omega) (by omega);have h10:=sY (p:=a1) (q:=b0) (by omega) (by omega) (by omega) (by omega);have h11:=sY (p:=a1) (q:=b1) (by omega) (by omega) (by omega) (by omega);have hab:(a1*4294967296+a0)*(b1*4294967296+b0)=a1*b1*18446744073709551616+(a1*b0+a0*b1)*4294967296+a0*b0:=by grind
 simp only[bn,e0,e1,ha0,ha1,MF,hb1,eA];rw[hab];generalize a0*b0=p00 at*;generalize a0*b1=p01 at*;generalize a1*b0=p10 at*;generalize a1*b1=p11 at*;rw[wrap_u64 (n:=p00) (by omega) (by omega),wrap_u64 (n:=p10) (by omega) (by omega),wrap_u64 (n:=p01) (by omega) (by omega),wrap_u64 (n:=p11) (by omega) (by omega)];rw[wrap_u64 (n:=p10+p00/4294967296) (by omega) (by omega)];rw[wrap_u64 (n:=(p10+p00/4294967296)%4294967296+p01) (by omega) (by omega)];rw[wrap_u64 (n:=p11+(p10+p00/4294967296)/4294967296) (by omega) (by omega)];rw[kG,kG];refine Prod.ext ?_ ?_
 ·show _=_/_;omega
 ·show _=_%_;omega
end Go.Proofs.YtnbkagglkajbkaaGreat
namespace Go.Proofs.YtnbkagglkajbkaaGreat
open Go Go.Ev BJ Go.Proofs.Tryz
open Go.IntKind (i64 signed u16 u64 wrap)
theorem kI{x y c:Int}(hx:0≤x)(hy:0≤y)(hc:0≤c):bt x y c=((x+y+c)%18446744073709551616,(x+y+c)/18446744073709551616):=by
 obtain⟨a,rfl⟩:=Int.eq_ofNat_of_zero_le hx;obtain⟨b,rfl⟩:=Int.eq_ofNat_of_zero_le hy;obtain⟨d,rfl⟩:=Int.eq_ofNat_of_zero_le hc;simp only[bt,Int.toNat_natCast];refine Prod.ext ?_ ?_
 ·show(((a+b+d)%2 ^ 64:Nat):Int)=_;omega
 ·show(((a+b+d)/2 ^ 64:Nat):Int)=_;omega
def OkP(p:Int×Int):Prop:=0≤p.2∧p.2<18446744073709551616∧0≤p.1
def pv(p:Int×Int):Int:=p.1*18446744073709551616+p.2
def fA(x:Fe)(i j:Nat):Int:=if i+j<5 then x.get i else eA (x.get i*19)
def pW(x y:Fe)(k:Nat):List (Nat×Nat)→Int
 | []=>0
 |(i,j)::l=>(if(i+j)%5=k then fA x i j*y.get j else 0)+pW x y k l
theorem DP{x y:Fe}(hc:∀i j,i<5→j<5→0≤fA x i j∧fA x i j<72057594037927936)(hy:∀j,j<5→0≤y.get j∧y.get j<4503599627370496):
  ∀ (l:List (Nat×Nat)) (r:List (Int×Int)) (B:Int),(∀p∈l,p.1<5∧p.2<5)→r.length=5→(∀k,k<5→OkP (r.getD k (0,0))∧pv (r.getD k (0,0))≤B)→
   B+l.length*324518553658426726783156020576256<340282366920938463463374607431768211456→
   (∀k,k<5→OkP ((gP bn bt x y l r).1.getD k (0,0))∧pv ((gP bn bt x y l r).1.getD k (0,0))=pv (r.getD k (0,0))+pW x y k l)∧
   ∀p∈(gP bn bt x y l r).2,p
 | [],r,B,_,hl,hr,_=>⟨fun k hk=>⟨(hr k hk).1,by simp[gP,pW]⟩,fun p hp=>by simp[gP]at hp⟩
 |(i,j)::l,r,B,hm,hl,hr,hB=>by
  obtain⟨hi,hj⟩:=hm (i,j) (by simp);obtain⟨c0,c1⟩:=hc i j hi hj;obtain⟨y0,y1⟩:=hy j hj;have hkk:(i+j)%5<5:=Nat.mod_lt _ (by decide);obtain⟨⟨p0,p1,p2⟩,p3⟩:=hr _ hkk
  have hpr:0≤fA x i j*y.get j∧fA x i j*y.get j≤324518553658426726783156020576256:=⟨Int.mul_nonneg c0 y0,by
   have:=Int.mul_le_mul (a:=fA x i j) (b:=y.get j) (c:=72057594037927936) (d:=4503599627370496) (by omega) (by omega) (by omega) (by omega);omega⟩
  have hcB:0≤(l.length:Int):=by omega
  simp only[List.length_cons,Int.natCast_add]at hB;have hmul:=DO (a:=fA x i j) (b:=y.get j) ⟨c0,by omega⟩ ⟨y0,by omega⟩;generalize hab:fA x i j*y.get j=ab at hpr hmul;generalize hpe:r.getD ((i+j)%5) (0,0)=p at p0 p1 p2 p3;unfold pv at p3
  have hs:bt p.2 (bn (fA x i j) (y.get j)).2 0=((p.2+ab%18446744073709551616+0)%18446744073709551616,(p.2+ab%18446744073709551616+0)/18446744073709551616):=by
   rw[hmul];exact kI p0 (by show 0≤ab%18446744073709551616;omega) (by omega)
  have ht:bt p.1 (bn (fA x i j) (y.get j)).1 (bt p.2 (bn (fA x i j) (y.get j)).2 0).2=((p.1+ab/18446744073709551616+(p.2+ab%18446744073709551616+0)/18446744073709551616)%18446744073709551616,
    (p.1+ab/18446744073709551616+(p.2+ab%18446744073709551616+0)/18446744073709551616)/18446744073709551616):=by
   rw[hs,hmul];exact kI p2 (by show 0≤ab/18446744073709551616;omega) (by show 0≤(p.2+ab%18446744073709551616+0)/18446744073709551616;omega)
  have Ir:gP bn bt x y ((i,j)::l) r=((gP bn bt x y l (r.set ((i+j)%5) ((bt p.1 (bn (fA x i j) (y.get j)).1 (bt p.2 (bn (fA x i j) (y.get j)).2 0).2).1,(bt p.2 (bn (fA x i j) (y.get j)).2 0).1))).1,
    (0≤(bt p.2 (bn (fA x i j) (y.get j)).2 0).2∧(bt p.2 (bn (fA x i j) (y.get j)).2 0).2≤1)::(gP bn bt x y l (r.set ((i+j)%5) ((bt p.1 (bn (fA x i j) (y.get j)).1 (bt p.2 (bn (fA x i j) (y.get j)).2 0).2).1,(bt p.2 (bn (fA x i j) (y.get j)).2 0).1))).2):=by
   rw[← hpe];rfl
  rw[Ir,ht,hs]
  have mG:∀ (v:Int×Int) k,k<5→(r.set ((i+j)%5) v).getD k (0,0)=if(i+j)%5=k then v else r.getD k (0,0):=by
   intro v k hk;simp only[List.getD_eq_getElem?_getD,List.getElem?_set]
   split
   ·rename_i e;subst e;simp[hl,hkk]
   ·rfl
  obtain⟨h1,h2⟩:=DP hc hy l (r.set ((i+j)%5) ((p.1+ab/18446744073709551616+(p.2+ab%18446744073709551616+0)/18446744073709551616)%18446744073709551616,(p.2+ab%18446744073709551616+0)%18446744073709551616))
   (B+324518553658426726783156020576256) (fun p hp=>hm p (by simp[hp])) (by simpa using hl) (fun k hk=>by
    rw[mG _ k hk]
    split
    ·refine⟨⟨?_,?_,?_⟩,?_⟩
     ·show 0≤(p.2+ab%18446744073709551616+0)%18446744073709551616;omega
     ·show(p.2+ab%18446744073709551616+0)%18446744073709551616<_;omega
     ·show 0≤(p.1+ab/18446744073709551616+(p.2+ab%18446744073709551616+0)/18446744073709551616)%18446744073709551616;omega
     ·show(p.1+ab/18446744073709551616+(p.2+ab%18446744073709551616+0)/18446744073709551616)%18446744073709551616*18446744073709551616+(p.2+ab%18446744073709551616+0)%18446744073709551616≤_;omega
    ·exact⟨(hr k hk).1,by have:=(hr k hk).2;omega⟩) (by omega)
  refine⟨fun k hk=>?_,?_⟩
  ·obtain⟨h3,h4⟩:=h1 k hk;refine⟨h3,?_⟩;show pv _=_+((if(i+j)%5=k then fA x i j*y.get j else 0)+pW x y k l);rw[h4,mG _ k hk]
   split
   ·rename_i e;rw[← e,hpe,hab];simp only[pv];omega
   ·omega
  ·intro q hq;rcases List.mem_cons.1 hq with rfl|hq
   ·show 0≤(p.2+ab%18446744073709551616+0)/18446744073709551616∧(p.2+ab%18446744073709551616+0)/18446744073709551616≤1;omega
   ·exact h2 q hq
theorem rM:∀ {l:List Prop},(∀p∈l,p)→eZ (uZ l)
 | [],_=>trivial
 |p::l,h=>by
  have h1:=h p (by simp);have h2:=rM (l:=l) fun q hq=>h q (by simp[hq]);unfold uZ
  cases hc:uZ l with
  |none=>exact h1
  |some q=>rw[hc]at h2;exact⟨h1,h2⟩
theorem arG(x0 x1 x2 x3 x4:Int)(u:Vec Int 0):Vec.get (n:=5) (x0,x1,x2,x3,x4,u) 0=x0∧Vec.get (n:=5) (x0,x1,x2,x3,x4,u) 1=x1∧Vec.get (n:=5) (x0,x1,x2,x3,x4,u) 2=x2∧
  Vec.get (n:=5) (x0,x1,x2,x3,x4,u) 3=x3∧Vec.get (n:=5) (x0,x1,x2,x3,x4,u) 4=x4:=⟨rfl,rfl,rfl,rfl,rfl⟩
theorem Kq{x:Fe}{Q:Int→Prop}(h0:Q x.1)(h1:Q x.2.1)(h2:Q x.2.2.1)(h3:Q x.2.2.2.1)(h4:Q x.2.2.2.2.1):∀i,i<5→Q (x.get i)
 |0,_=>h0
 |1,_=>h1
 |2,_=>h2
 |3,_=>h3
 |4,_=>h4
 |n+5,h=>absurd h (by omega)
theorem Kr{x y:Fe}(hx:fR x)(hy:fR y):eZ (uZ (Bm bn bt x y))∧
  ∀k,k<5→∃p,(gP bn bt x y fK [(0,0),(0,0),(0,0),(0,0),(0,0)]).1.getD k (0,0)=p∧OkP p∧pv p=pW x y k fK:=by
 have hgx:∀i,i<5→Kp (x.get i):=Kq hx.1 hx.2.1 hx.2.2.1 hx.2.2.2.1 hx.2.2.2.2;have hgy:∀i,i<5→Kp (y.get i):=Kq hy.1 hy.2.1 hy.2.2.1 hy.2.2.2.1 hy.2.2.2.2
 obtain⟨h1,h2⟩:=DP (x:=x) (y:=y) (fun i j hi hj=>by
   obtain⟨a,b⟩:=hgx i hi;unfold fA
   split
   ·omega
   ·unfold eA;rw[wrap_u64 (by omega) (by omega)];omega) (fun j hj=>by obtain⟨a,b⟩:=hgy j hj;omega)
  fK [(0,0),(0,0),(0,0),(0,0),(0,0)] 0 (by decide) rfl (fun k hk=>by
   have:([(0,0),(0,0),(0,0),(0,0),(0,0)]:List (Int×Int)).getD k (0,0)=(0,0):=by
    match k,hk with
    |0,_=>rfl
    |1,_=>rfl
    |2,_=>rfl
    |3,_=>rfl
    |4,_=>rfl
   rw[this];exact⟨⟨by decide,by decide,by decide⟩,by decide⟩) (by decide)
 refine⟨rM h2,fun k hk=>⟨_,rfl,(h1 k hk).1,?_⟩⟩;rw[(h1 k hk).2]
 have:([(0,0),(0,0),(0,0),(0,0),(0,0)]:List (Int×Int)).getD k (0,0)=(0,0):=by
  match k,hk with
  |0,_=>rfl
  |1,_=>rfl
  |2,_=>rfl
  |3,_=>rfl
  |4,_=>rfl
 rw[this];simp[pv]
theorem pX{p:Int×Int}(h:OkP p){R:Int}(hR:pv p=R)(eV:R<20769187434139310514121985316880384):
  dP p.2 DI=R%2251799813685248∧bp .u64 (shl .u64 p.1 13) (bI p.2 51)=R/2251799813685248:=by
 obtain⟨a,b⟩:=p;obtain⟨h0,h1,h2⟩:=h;simp only[pv]at*;rw[u7,GG]
 have e:shl .u64 a 13=a*8192:=by
  have:=g6 .u64 a 13 (by decide);rw[show((13:Nat):Int)=13 from rfl]at this;rw[this];exact wrap_u64 (by omega) (by omega)
 rw[e,nK (m:=13) (by omega) (by omega) (by omega) (by omega) (by omega)];constructor<;>omega
theorem ahZ(x0 x1 x2 x3 x4 y0 y1 y2 y3 y4:Int)(u v:Vec Int 0)(hx:fR (x0,x1,x2,x3,x4,u))(k:Nat)(hk:k<5):
  pW (x0,x1,x2,x3,x4,u) (y0,y1,y2,y3,y4,v) k fK=
   [x0*y0+x1*19*y4+x2*19*y3+x3*19*y2+x4*19*y1,x0*y1+x1*y0+x2*19*y4+x3*19*y3+x4*19*y2,x0*y2+x1*y1+x2*y0+x3*19*y4+x4*19*y3,
    x0*y3+x1*y2+x2*y1+x3*y0+x4*19*y4,x0*y4+x1*y3+x2*y2+x3*y1+x4*y0].getD k 0:=by
 simp only[fR,Kp]at hx;have w1:eA (x1*19)=x1*19:=wrap_u64 (by omega) (by omega);have w2:eA (x2*19)=x2*19:=wrap_u64 (by omega) (by omega);have w3:eA (x3*19)=x3*19:=wrap_u64 (by omega) (by omega);have w4:eA (x4*19)=x4*19:=wrap_u64 (by omega) (by omega);obtain⟨g0,g1,g2,g3,g4⟩:=arG x0 x1 x2 x3 x4 u;obtain⟨f0,f1,f2,f3,f4⟩:=arG y0 y1 y2 y3 y4 v
 match k,hk with
 |0,_=>simp[pW,fK,fA,g0,g1,g2,g3,g4,f0,f1,f2,f3,f4,w1,w2,w3,w4];omega
 |1,_=>simp[pW,fK,fA,g0,g1,g2,g3,g4,f0,f1,f2,f3,f4,w2,w3,w4];omega
 |2,_=>simp[pW,fK,fA,g0,g1,g2,g3,g4,f0,f1,f2,f3,f4,w3,w4];omega
 |3,_=>simp[pW,fK,fA,g0,g1,g2,g3,g4,f0,f1,f2,f3,f4,w4];omega
 |4,_=>simp[pW,fK,fA,g0,g1,g2,g3,g4,f0,f1,f2,f3,f4];omega
theorem acB(x0 x1 x2 x3 x4 y0 y1 y2 y3 y4 t:F)(ht:t*t*t*t*t=19):
  (x0*y0+x1*19*y4+x2*19*y3+x3*19*y2+x4*19*y1)+(x0*y1+x1*y0+x2*19*y4+x3*19*y3+x4*19*y2)*t+(x0*y2+x1*y1+x2*y0+x3*19*y4+x4*19*y3)*(t*t)+
   (x0*y3+x1*y2+x2*y1+x3*y0+x4*19*y4)*(t*t*t)+(x0*y4+x1*y3+x2*y2+x3*y1+x4*y0)*(t*t*t*t)=
  (x0+x1*t+x2*(t*t)+x3*(t*t*t)+x4*(t*t*t*t))*(y0+y1*t+y2*(t*t)+y3*(t*t*t)+y4*(t*t*t*t)):=by
 grobner
end Go.Proofs.YtnbkagglkajbkaaGreat
namespace Go.Proofs.YtnbkagglkajbkaaGreat
open Go Go.Ev BJ Go.Proofs.Tryz
open Go.IntKind (i64 signed u16 u64 wrap)
def tt:F:=c6 2251799813685248
theorem tt5:tt*tt*tt*tt*tt=19:=by decide+kernel
theorem tt2:c6 5070602400912917605986812821504=tt*tt:=by decide+kernel
theorem tt3:c6 11417981541647679048466287755595961091061972992=tt*tt*tt:=by decide+kernel
theorem tt4:c6 25711008708143844408671393477458601640355247900524685364822016=tt*tt*tt*tt:=by decide+kernel
theorem t19:c6 19=19:=by decide+kernel
theorem Bp(x0 x1 x2 x3 x4:Int):c6 (x0+x1*2251799813685248+x2*5070602400912917605986812821504+x3*11417981541647679048466287755595961091061972992+x4*25711008708143844408671393477458601640355247900524685364822016)=
  c6 x0+c6 x1*tt+c6 x2*(tt*tt)+c6 x3*(tt*tt*tt)+c6 x4*(tt*tt*tt*tt):=by
 simp only[lV,rl,tt2,tt3,tt4];rfl
theorem ah0{R0 R1 R2 R3 R4:Int}(n0:0≤R0∧R0≤1000000000000000000000000000000000)(n1:0≤R1∧R1≤1000000000000000000000000000000000)(n2:0≤R2∧R2≤1000000000000000000000000000000000)
  (n3:0≤R3∧R3≤1000000000000000000000000000000000) (n4:0≤R4∧R4≤26000000000000000000000000000000):
  ((eA (eA (0+R0%2251799813685248)+eA (R4/2251799813685248*19)),eA (eA (0+R0/2251799813685248)+R1%2251799813685248),eA (eA (0+R1/2251799813685248)+R2%2251799813685248),
    eA (eA (0+R2/2251799813685248)+R3%2251799813685248),eA (eA (0+R3/2251799813685248)+R4%2251799813685248),()):Fe)=DN (R0%2251799813685248+R4/2251799813685248*19) (R0/2251799813685248+R1%2251799813685248) (R1/2251799813685248+R2%2251799813685248)
    (R2/2251799813685248+R3%2251799813685248) (R3/2251799813685248+R4%2251799813685248):=by
 simp only[eA,Int.zero_add]
 rw[wrap_u64 (n:=R0%2251799813685248) (by omega) (by omega),wrap_u64 (n:=R4/2251799813685248*19) (by omega) (by omega),wrap_u64 (n:=R0/2251799813685248) (by omega) (by omega),wrap_u64 (n:=R1/2251799813685248) (by omega) (by omega),
  wrap_u64 (n:=R2/2251799813685248) (by omega) (by omega),wrap_u64 (n:=R3/2251799813685248) (by omega) (by omega)]
 rw[wrap_u64 (n:=R0%2251799813685248+R4/2251799813685248*19) (by omega) (by omega),wrap_u64 (n:=R0/2251799813685248+R1%2251799813685248) (by omega) (by omega),wrap_u64 (n:=R1/2251799813685248+R2%2251799813685248) (by omega) (by omega),
  wrap_u64 (n:=R2/2251799813685248+R3%2251799813685248) (by omega) (by omega),wrap_u64 (n:=R3/2251799813685248+R4%2251799813685248) (by omega) (by omega)]
 rfl
theorem ah1{R0 R1 R2 R3 R4:Int}(n0:0≤R0∧R0≤1000000000000000000000000000000000)(n1:0≤R1∧R1≤1000000000000000000000000000000000)(n2:0≤R2∧R2≤1000000000000000000000000000000000)
  (n3:0≤R3∧R3≤1000000000000000000000000000000000) (n4:0≤R4∧R4≤26000000000000000000000000000000):
  U5 (DN (R0%2251799813685248+R4/2251799813685248*19) (R0/2251799813685248+R1%2251799813685248) (R1/2251799813685248+R2%2251799813685248)
   (R2/2251799813685248+R3%2251799813685248) (R3/2251799813685248+R4%2251799813685248))∧fe (DN (R0%2251799813685248+R4/2251799813685248*19) (R0/2251799813685248+R1%2251799813685248) (R1/2251799813685248+R2%2251799813685248)
   (R2/2251799813685248+R3%2251799813685248) (R3/2251799813685248+R4%2251799813685248))=
   c6 (R0+R1*2251799813685248+R2*5070602400912917605986812821504+R3*11417981541647679048466287755595961091061972992+R4*25711008708143844408671393477458601640355247900524685364822016):=by
 constructor
 ·simp only[U5,vV,DN];omega
 ·unfold fe;rw[← GF (fL _) (R4/2251799813685248)]
  congr 1
  simp only[fL,pp,DN];omega
set_option maxHeartbeats 1000000 in
theorem w8{x y:Fe}(hx:fR x)(hy:fR y):fR (sG bn bt cx x y)∧fe (sG bn bt cx x y)=fe x*fe y:=by
 obtain⟨_,hr⟩:=Kr hx hy;obtain⟨x0,x1,x2,x3,x4,u⟩:=x;obtain⟨y0,y1,y2,y3,y4,v⟩:=y;have hv:=ahZ x0 x1 x2 x3 x4 y0 y1 y2 y3 y4 u v hx
 have sY:∀ {p q:Int},0≤p→p<2251799813947392→0≤q→q<2251799813947392→0≤p*q∧p*q≤5070602402093548913987446767616:=fun {p q} h1 h2 h3 h4=>
  ⟨Int.mul_nonneg h1 h3,Int.le_trans (Int.mul_le_mul (c:=2251799813947392) (d:=2251799813947392) (by omega) (by omega) h3 (by decide)) (by decide)⟩
 simp only[fR,Kp]at hx hy;obtain⟨ti,CZ,Mn,hx3,hx4⟩:=hx;obtain⟨zy,Mo,Q7,hy3,hy4⟩:=hy;have b00:=sY ti.1 ti.2 zy.1 zy.2;have b01:=sY ti.1 ti.2 Mo.1 Mo.2;have b02:=sY ti.1 ti.2 Q7.1 Q7.2;have b03:=sY ti.1 ti.2 hy3.1 hy3.2;have b04:=sY ti.1 ti.2 hy4.1 hy4.2;have b10:=sY CZ.1 CZ.2 zy.1 zy.2;have b11:=sY CZ.1 CZ.2 Mo.1 Mo.2;have b12:=sY CZ.1 CZ.2 Q7.1 Q7.2;have b13:=sY CZ.1 CZ.2 hy3.1 hy3.2;have b14:=sY CZ.1 CZ.2 hy4.1 hy4.2;have b20:=sY Mn.1 Mn.2 zy.1 zy.2;have b21:=sY Mn.1 Mn.2 Mo.1 Mo.2;have b22:=sY Mn.1 Mn.2 Q7.1 Q7.2;have b23:=sY Mn.1 Mn.2 hy3.1 hy3.2;have b24:=sY Mn.1 Mn.2 hy4.1 hy4.2;have b30:=sY hx3.1 hx3.2 zy.1 zy.2;have b31:=sY hx3.1 hx3.2 Mo.1 Mo.2;have b32:=sY hx3.1 hx3.2 Q7.1 Q7.2;have b33:=sY hx3.1 hx3.2 hy3.1 hy3.2;have b34:=sY hx3.1 hx3.2 hy4.1 hy4.2;have b40:=sY hx4.1 hx4.2 zy.1 zy.2;have b41:=sY hx4.1 hx4.2 Mo.1 Mo.2;have b42:=sY hx4.1 hx4.2 Q7.1 Q7.2;have b43:=sY hx4.1 hx4.2 hy3.1 hy3.2;have b44:=sY hx4.1 hx4.2 hy4.1 hy4.2;have sw:∀a b:Int,a*19*b=19*(a*b):=fun a b=>by rw[Int.mul_comm a 19,Int.mul_assoc]
 obtain⟨p0,e0,k0,v0⟩:=hr 0 (by decide);obtain⟨p1,e1,k1,v1⟩:=hr 1 (by decide);obtain⟨p2,e2,k2,v2⟩:=hr 2 (by decide);obtain⟨p3,e3,k3,v3⟩:=hr 3 (by decide);obtain⟨p4,e4,k4,v4⟩:=hr 4 (by decide);rw[hv 0 (by decide)]at v0;rw[hv 1 (by decide)]at v1;rw[hv 2 (by decide)]at v2;rw[hv 3 (by decide)]at v3;rw[hv 4 (by decide)]at v4;have v0':pv p0=x0*y0+x1*19*y4+x2*19*y3+x3*19*y2+x4*19*y1:=v0;have v1':pv p1=x0*y1+x1*y0+x2*19*y4+x3*19*y3+x4*19*y2:=v1;have v2':pv p2=x0*y2+x1*y1+x2*y0+x3*19*y4+x4*19*y3:=v2;have v3':pv p3=x0*y3+x1*y2+x2*y1+x3*y0+x4*19*y4:=v3;have v4':pv p4=x0*y4+x1*y3+x2*y2+x3*y1+x4*y0:=v4;have alk:=acB (c6 x0) (c6 x1) (c6 x2) (c6 x3) (c6 x4) (c6 y0) (c6 y1) (c6 y2) (c6 y3) (c6 y4) tt tt5;have hR0:c6 (pv p0)=c6 x0*c6 y0+c6 x1*19*c6 y4+c6 x2*19*c6 y3+c6 x3*19*c6 y2+c6 x4*19*c6 y1:=by rw[v0'];simp only[lV,rl,t19]
 have hR1:c6 (pv p1)=c6 x0*c6 y1+c6 x1*c6 y0+c6 x2*19*c6 y4+c6 x3*19*c6 y3+c6 x4*19*c6 y2:=by rw[v1'];simp only[lV,rl,t19]
 have hR2:c6 (pv p2)=c6 x0*c6 y2+c6 x1*c6 y1+c6 x2*c6 y0+c6 x3*19*c6 y4+c6 x4*19*c6 y3:=by rw[v2'];simp only[lV,rl,t19]
 have hR3:c6 (pv p3)=c6 x0*c6 y3+c6 x1*c6 y2+c6 x2*c6 y1+c6 x3*c6 y0+c6 x4*19*c6 y4:=by rw[v3'];simp only[lV,rl,t19]
 have hR4:c6 (pv p4)=c6 x0*c6 y4+c6 x1*c6 y3+c6 x2*c6 y2+c6 x3*c6 y1+c6 x4*c6 y0:=by rw[v4'];simp only[lV,rl]
 rw[← hR0,← hR1,← hR2,← hR3,← hR4]at alk;have n0:0≤pv p0∧pv p0≤1000000000000000000000000000000000:=by rw[v0'];simp only[sw];omega
 have n1:0≤pv p1∧pv p1≤1000000000000000000000000000000000:=by rw[v1'];simp only[sw];omega
 have n2:0≤pv p2∧pv p2≤1000000000000000000000000000000000:=by rw[v2'];simp only[sw];omega
 have n3:0≤pv p3∧pv p3≤1000000000000000000000000000000000:=by rw[v3'];simp only[sw];omega
 have n4:0≤pv p4∧pv p4≤26000000000000000000000000000000:=by rw[v4'];omega
 obtain⟨l0,c0⟩:=pX k0 rfl (by omega);obtain⟨l1,c1⟩:=pX k1 rfl (by omega);obtain⟨l2,c2⟩:=pX k2 rfl (by omega);obtain⟨l3,c3⟩:=pX k3 rfl (by omega);obtain⟨l4,c4⟩:=pX k4 rfl (by omega);generalize pv p0=R0 at*;generalize pv p1=R1 at*;generalize pv p2=R2 at*;generalize pv p3=R3 at*;generalize pv p4=R4 at*
 have e:sG bn bt cx (x0,x1,x2,x3,x4,u) (y0,y1,y2,y3,y4,v)=cx (DN (R0%2251799813685248+R4/2251799813685248*19) (R0/2251799813685248+R1%2251799813685248) (R1/2251799813685248+R2%2251799813685248)
   (R2/2251799813685248+R3%2251799813685248) (R3/2251799813685248+R4%2251799813685248)):=by
  rw[← ah0 n0 n1 n2 n3 n4];simp only[sG,e0,e1,e2,e3,e4,l0,l1,l2,l3,l4,c0,c1,c2,c3,c4]
 rw[e];obtain⟨hU,h3⟩:=ah1 n0 n1 n2 n3 n4;obtain⟨h1,h2⟩:=u9 hU;refine⟨h1,?_⟩;rw[h2,h3,Bp,alk];show _=c6 (x0+x1*_+_+_+_)*c6 (y0+y1*_+_+_+_);rw[Bp,Bp]
def lW(n:Int):Prop:=0≤n∧n<2251799813685248
def anY(x:Fe):Prop:=(lW x.1∧lW x.2.1∧lW x.2.2.1∧lW x.2.2.2.1∧lW x.2.2.2.2.1)∧fL x<(pp:Int)
theorem acC{x:Fe}(hx:fR x):anY (uY cx x)∧fe (uY cx x)=fe x:=by
 obtain⟨hy,hyx⟩:=u9 (x:=x) (by simp only[fR,Kp]at hx;simp only[U5,vV];omega);rw[← hyx];unfold uY;generalize cx x=y at hy;obtain⟨y0,y1,y2,y3,y4,u⟩:=y;simp only[fR,Kp]at hy;simp only[u7,GG,eA];obtain⟨a0,ha0⟩:∃a,a=(y0+19)/2251799813685248:=⟨_,rfl⟩;obtain⟨a1,ha1⟩:∃a,a=(y1+a0)/2251799813685248:=⟨_,rfl⟩;obtain⟨a2,ha2⟩:∃a,a=(y2+a1)/2251799813685248:=⟨_,rfl⟩;obtain⟨a3,ha3⟩:∃a,a=(y3+a2)/2251799813685248:=⟨_,rfl⟩;obtain⟨q,hq⟩:∃a,a=(y4+a3)/2251799813685248:=⟨_,rfl⟩;rw[wrap_u64 (n:=y0+19) (by omega) (by omega),← ha0];rw[wrap_u64 (n:=y1+a0) (by omega) (by omega),← ha1];rw[wrap_u64 (n:=y2+a1) (by omega) (by omega),← ha2];rw[wrap_u64 (n:=y3+a2) (by omega) (by omega),← ha3];rw[wrap_u64 (n:=y4+a3) (by omega) (by omega),← hq];have avC:q=0∨q=1:=by omega
 rw[wrap_u64 (n:=q*19) (by omega) (by omega)];obtain⟨c0,XU⟩:∃a,a=q*19+y0:=⟨_,rfl⟩;rw[wrap_u64 (n:=q*19+y0) (by omega) (by omega),← XU];obtain⟨c1,hc1⟩:∃a,a=c0/2251799813685248+y1:=⟨_,rfl⟩;rw[wrap_u64 (n:=c0/2251799813685248+y1) (by omega) (by omega),← hc1];obtain⟨c2,hc2⟩:∃a,a=c1/2251799813685248+y2:=⟨_,rfl⟩;rw[wrap_u64 (n:=c1/2251799813685248+y2) (by omega) (by omega),← hc2];obtain⟨c3,hc3⟩:∃a,a=c2/2251799813685248+y3:=⟨_,rfl⟩;rw[wrap_u64 (n:=c2/2251799813685248+y3) (by omega) (by omega),← hc3];obtain⟨c4,hc4⟩:∃a,a=c3/2251799813685248+y4:=⟨_,rfl⟩;rw[wrap_u64 (n:=c3/2251799813685248+y4) (by omega) (by omega),← hc4]
 have c7:fL (c0%2251799813685248,c1%2251799813685248,c2%2251799813685248,c3%2251799813685248,c4%2251799813685248,())=fL (y0,y1,y2,y3,y4,u)-q*(pp:Int)∧
   fL (c0%2251799813685248,c1%2251799813685248,c2%2251799813685248,c3%2251799813685248,c4%2251799813685248,())<(pp:Int):=by
  simp only[fL,pp];rcases avC with rfl|rfl
  ·constructor<;>omega
  ·constructor<;>omega
 refine⟨⟨by simp only[lW];omega,c7.2⟩,?_⟩;unfold fe;rw[c7.1,← GF (fL (y0,y1,y2,y3,y4,u)-_) q]
 congr 1;omega
end Go.Proofs.YtnbkagglkajbkaaGreat
namespace Go.Proofs.YtnbkagglkajbkaaGreat
open Go Go.Ev BJ Go.Proofs.Tryz
open Go.IntKind (i64 signed u16 u64 wrap)
def bZ: {n:Nat}→Vec Int n→Int
 |0,_=>0
 |_+1,v=>v.1+256*bZ v.2
def nm: {n:Nat}→Vec Int n→Prop
 |0,_=>True
 |_+1,v=>(0≤v.1∧v.1<256)∧nm v.2
theorem dp: {n:Nat}→ {v:Vec Int n}→nm v→0≤bZ v
 |0,_,_=>Int.le_refl _
 |n+1,v,h=>by have:=dp h.2;have:=h.1;simp only[bZ];omega
theorem rn: {n:Nat}→ {v:Vec Int n}→nm v→bZ v<(256 ^ n:Nat)
 |0,_,_=>by simp[bZ]
 |n+1,v,h=>by
  have h1:=rn h.2;have h2:=h.1;simp only[bZ];have e:(256 ^ (n+1):Nat)=256*256 ^ n:=by rw[Nat.pow_succ,Nat.mul_comm]
  rw[e];generalize (256 ^ n:Nat)=m at*;omega
theorem Bq: {n:Nat}→ {v u:Vec Int n}→nm v→nm u→bZ v=bZ u→v=u
 |0,_,_,_,_,_=>rfl
 |n+1,v,u,hv,hu,h=>by
  simp only[bZ]at h;have h1:=hv.1;have h2:=hu.1;have e1:v.1=u.1:=by omega
  have e2:bZ v.2=bZ u.2:=by omega
  exact Prod.ext e1 (Bq hv.2 hu.2 e2)
def Br(n:Nat)(V:Int):Vec Int n:=Vec.ofFn n fun j=>V/(256 ^ j:Nat)%256
theorem w9:(n:Nat)→(V:Int)→0≤V→nm (Br n V)∧bZ (Br n V)=V%(256 ^ n:Nat)
 |0,V,h=>⟨trivial,by simp[bZ]⟩
 |n+1,V,h=>by
  have e:Br (n+1) V=(V/(256 ^ 0:Nat)%256,Br n (V/256)):=by
   unfold Br;show(_,Vec.ofFn n fun i=>V/(256 ^ (i+1):Nat)%256)=_
   have:(fun i:Nat=>V/(256 ^ (i+1):Nat)%256)=fun j:Nat=>V/256/(256 ^ j:Nat)%256:=by
    funext j
    rw[Int.ediv_ediv_of_nonneg (by omega)]
    congr 2
    rw[Nat.pow_succ];simp[Int.mul_comm]
   rw[this]
  rw[e];obtain⟨h1,h2⟩:=w9 n (V/256) (by omega);refine⟨⟨by simp only[Nat.pow_zero];omega,h1⟩,?_⟩;show V/(256 ^ 0:Nat)%256+256*bZ (Br n (V/256))=_;rw[h2];have e2:(256 ^ (n+1):Nat)=256*256 ^ n:=by rw[Nat.pow_succ,Nat.mul_comm]
  rw[e2];generalize hm:(256 ^ n:Nat)=m;have C1:0<(m:Int):=by have:=Nat.pow_pos (n:=n) (show 0<256 by decide);omega
  have h3:=Int.emod_nonneg (V/256) (b:=(m:Int)) (by omega);have h4:=Int.emod_lt_of_pos (V/256) C1;have h5:=Int.emod_add_mul_ediv (V/256) (m:Int)
  have h6:V=(V%256+256*(V/256%m))+((256*m:Nat):Int)*(V/256/m):=by
   rw[Int.natCast_mul,Int.mul_assoc];generalize (m:Int)*(V/256/m)=z at*;omega
  rw[Nat.pow_zero]
  have h7:V%((256*m:Nat):Int)=V%256+256*(V/256%m):=by
   conv=>lhs;rw[h6]
   rw[Int.add_mul_emod_self_left];exact Int.emod_eq_of_lt (by omega) (by rw[Int.natCast_mul];omega)
  rw[h7];omega
theorem Wg{n:Nat}{v:Vec Int n}(h:nm v):Br n (bZ v)=v:=by
 obtain⟨h1,h2⟩:=w9 n (bZ v) (dp h);exact Bq h1 h (by rw[h2,Int.emod_eq_of_lt (dp h) (rn h)])
def fB(a:F):dG:=Br 32 (a.val:Int)
theorem anZ:(256 ^ 32:Nat)=115792089237316195423570985008687907853269984665640564039457584007913129639936:=by decide
theorem ie(a:F):nm (fB a)∧bZ (fB a)=(a.val:Int):=by
 obtain⟨h1,h2⟩:=w9 32 (a.val:Int) (by omega);have:=a.isLt;refine⟨h1,h2.trans (Int.emod_eq_of_lt (by omega) ?_)⟩;rw[anZ];simp only[pp]at this;omega
theorem Pg{a b:F}(h:fB a=fB b):a=b:=xW (by rw[← (ie a).2,← (ie b).2,h])
def x9(f:Nat→Int):Nat→Int
 |0=>0
 |n+1=>x9 f n+f n*(2 ^ n:Nat)
theorem SX(f:Nat→Int):∀n,n≤8→(∀i,i<n→0≤f i∧f i≤1)→
  (List.range n).foldl (fun acc i=>bp .u8 acc (shl .u8 (f i) (i:Int))) 0=x9 f n∧0≤x9 f n∧x9 f n<(2 ^ n:Nat)
 |0,_,_=>⟨rfl,by simp[x9],by simp[x9]⟩
 |n+1,hn,hf=>by
  obtain⟨h1,h2,h3⟩:=SX f n (by omega) fun i hi=>hf i (by omega);have h4:=hf n (by omega);rw[List.range_succ,List.foldl_append,h1];simp only[List.foldl_cons,List.foldl_nil,x9];have hp:0<2 ^ n:=Nat.two_pow_pos n;have hle:2 ^ n≤2 ^ 7:=Nat.pow_le_pow_right (by omega) (by omega)
  have hs:f n*(2 ^ n:Nat)=0∨f n*(2 ^ n:Nat)=(2 ^ n:Nat):=by
   have:f n=0∨f n=1:=(by omega);rcases this with e|e<;>rw[e]<;>simp
  have e:shl .u8 (f n) (n:Int)=f n*(2 ^ n:Nat):=by
   rw[g6 .u8 _ _ (by show n≤8;omega),wrap_u8];have:(2:Nat) ^ 7=128:=(by decide);omega
  have hm:f n*(2 ^ n:Nat)%(2 ^ n:Nat)=0:=Int.mul_emod_left _ _;have h7:(2:Nat) ^ 7=128:=by decide
  rw[e,iG,akp (m:=n) (by omega) hm h2 h3 (by omega)];have e2:(2 ^ (n+1):Nat)=2*2 ^ n:=by rw[Nat.pow_succ,Nat.mul_comm]
  rw[e2];refine⟨by omega,by omega,by omega⟩
theorem ah2(u H:Int){b:Nat}(hb:b<51):(u+2251799813685248*H)/(2 ^ b:Nat)%2=u/(2 ^ b:Nat)%2:=by
 have e:(2251799813685248:Int)=(2 ^ b:Nat)*(2*(2 ^ (50-b):Nat)):=by
  have:(2251799813685248:Nat)=2 ^ b*(2*2 ^ (50-b)):=by
   rw[← Nat.mul_assoc,Nat.mul_comm (2 ^ b) 2,Nat.mul_assoc,← Nat.pow_add,show b+(50-b)=50 by omega]
  have h2:((2251799813685248:Nat):Int)=((2 ^ b*(2*2 ^ (50-b)):Nat):Int):=by rw[← this]
  rw[Int.natCast_mul,Int.natCast_mul]at h2;exact h2
 rw[e,Int.mul_assoc,Int.add_mul_ediv_left _ _ (by have:=Nat.two_pow_pos b;omega),Int.mul_assoc,Int.add_mul_emod_self_left]
theorem acD{y:Fe}(h:lW y.1∧lW y.2.1∧lW y.2.2.1∧lW y.2.2.2.1∧lW y.2.2.2.2.1)(q:Nat)(hq:q<255):
  y.get (q/51)/(2 ^ (q%51):Nat)%2=fL y/(2 ^ q:Nat)%2:=by
 obtain⟨y0,y1,y2,y3,y4,u⟩:=y;simp only[lW]at h;have hb:q%51<51:=Nat.mod_lt _ (by decide);have hq2:(2 ^ q:Nat)=2 ^ (51*(q/51))*2 ^ (q%51):=by rw[← Nat.pow_add];congr 1;omega
 rw[hq2,Int.natCast_mul,← Int.ediv_ediv_of_nonneg (Int.natCast_nonneg _)];have h5:q/51<5:=by omega
 generalize q%51=b at*;generalize q/51=a at*
 have key:∀ (V H:Int),fL (y0,y1,y2,y3,y4,u)/(2 ^ (51*a):Nat)=V+2251799813685248*H→V/(2 ^ b:Nat)%2=fL (y0,y1,y2,y3,y4,u)/(2 ^ (51*a):Nat)/(2 ^ b:Nat)%2:=by
  intro V H e;rw[e,ah2 V H hb]
 match a,h5 with
 |0,_=>exact key y0 (y1+y2*2251799813685248+y3*5070602400912917605986812821504+y4*11417981541647679048466287755595961091061972992) (by simp only[fL,Nat.mul_zero,Nat.pow_zero];omega)
 |1,_=>exact key y1 (y2+y3*2251799813685248+y4*5070602400912917605986812821504) (by
   have:(2:Nat) ^ (51*1)=2251799813685248:=(by decide);rw[this];simp only[fL];omega)
 |2,_=>exact key y2 (y3+y4*2251799813685248) (by
   have:(2:Nat) ^ (51*2)=5070602400912917605986812821504:=(by decide);rw[this];simp only[fL];omega)
 |3,_=>exact key y3 y4 (by
   have:(2:Nat) ^ (51*3)=11417981541647679048466287755595961091061972992:=(by decide);rw[this];simp only[fL];omega)
 |4,_=>exact key y4 0 (by
   have:(2:Nat) ^ (51*4)=25711008708143844408671393477458601640355247900524685364822016:=(by decide);rw[this];simp only[fL];omega)
theorem arH(W:Int):x9 (fun i=>W/(2 ^ i:Nat)%2) 8=W%256:=by
 simp[x9];omega
theorem arI(W:Int)(h0:0≤W)(h:W<128):x9 (fun i=>W/(2 ^ i:Nat)%2) 7=W%256:=by
 simp[x9];omega
theorem Bs{α:Type}:∀ {n:Nat} {f g:Nat→α},(∀i,i<n→f i=g i)→Vec.ofFn n f=Vec.ofFn n g
 |0,_,_,_=>rfl
 |n+1,f,g,h=>by
  show(f 0,Vec.ofFn n _)=(g 0,Vec.ofFn n _);rw[h 0 (by omega),Bs (n:=n) fun i hi=>h (i+1) (by omega)]
theorem acE{y:Fe}(h:anY y):Pf y=Br 32 (fL y):=by
 have hv0:0≤fL y:=by
  obtain⟨y0,y1,y2,y3,y4,u⟩:=y;have:=h.1;simp only[lW]at this;simp only[fL];omega
 have hv1:=h.2;unfold Pf Br;refine Bs fun j hj=>?_
 have aln:∀n,n≤8→(∀i,i<n→8*j+i<255)→
   (List.range n).foldl (fun acc i=>bp .u8 acc (shl .u8 (IntKind.u8.wrap (dP (bI (y.get ((8*j+i)/51)) (((8*j+i)%51:Nat):Int)) 1)) (i:Int))) 0=
    x9 (fun i=>fL y/(2 ^ (8*j):Nat)/(2 ^ i:Nat)%2) n:=by
  intro n hn eV
  have UD:∀i,i<n→IntKind.u8.wrap (dP (bI (y.get ((8*j+i)/51)) (((8*j+i)%51:Nat):Int)) 1)=fL y/(2 ^ (8*j):Nat)/(2 ^ i:Nat)%2:=by
   intro i hi;have e1:bI (y.get ((8*j+i)/51)) (((8*j+i)%51:Nat):Int)=y.get ((8*j+i)/51)/(2 ^ ((8*j+i)%51):Nat):=ft .u64 _ _ (by show(8*j+i)%51≤64;omega)
   have e2:∀x,dP x 1=x%2:=fun x=>by
    have:=tK (m:=1) (by decide) x 1 (by decide);simpa [dP]using this
   rw[e1,e2,acD h.1 _ (eV i hi),wrap_u8,Int.ediv_ediv_of_nonneg (Int.natCast_nonneg _),← Int.natCast_mul,← Nat.pow_add];omega
  have oQ:∀ (l:List Nat) (a:Int),(∀i∈l,i<n)→l.foldl (fun(acc:Int) (i:Nat)=>bp .u8 acc (shl .u8 (IntKind.u8.wrap (dP (bI (y.get ((8*j+i)/51)) (((8*j+i)%51:Nat):Int)) 1)) (i:Int))) a=
    l.foldl (fun(acc:Int) (i:Nat)=>bp .u8 acc (shl .u8 (fL y/(2 ^ (8*j):Nat)/(2 ^ i:Nat)%2) (i:Int))) a:=by
   intro l
   induction l with
   |nil=>intro a _;rfl
   |cons i l ih=>intro a hl;simp only[List.foldl_cons];rw[UD i (hl i (by simp)),ih _ fun k hk=>hl k (by simp[hk])]
  rw[oQ _ _ fun i hi=>List.mem_range.1 hi]
  exact(SX (fun i=>fL y/(2 ^ (8*j):Nat)/(2 ^ i:Nat)%2) n hn fun i _=>by
   have:=Int.emod_nonneg (fL y/(2 ^ (8*j):Nat)/(2 ^ i:Nat)) (b:=2) (by omega);have:=Int.emod_lt_of_pos (fL y/(2 ^ (8*j):Nat)/(2 ^ i:Nat)) (b:=2) (by omega);omega).1
 have e8:(2 ^ (8*j):Nat)=256 ^ j:=by rw[Nat.pow_mul]
 by_cases h31:j=31
 ·rw[if_pos h31,aln 7 (by omega) (fun i hi=>by omega),e8];refine arI _ (Int.ediv_nonneg hv0 (Int.natCast_nonneg _)) ?_;subst h31;have:(256 ^ 31:Nat)=452312848583266388373324160190187140051835877600158453279131187530910662656:=by decide
  rw[this];simp only[pp]at hv1;omega
 ·rw[if_neg h31,aln 8 (by omega) (fun i hi=>by omega),e8];exact arH _
theorem GH{y:Fe}(h:anY y):((fe y).val:Int)=fL y:=by
 have hv0:0≤fL y:=by
  obtain⟨y0,y1,y2,y3,y4,u⟩:=y;have:=h.1;simp only[lW]at this;simp only[fL];omega
 unfold fe;rw[eL,Int.emod_eq_of_lt hv0 h.2]
def dQ(x:Fe):dG:=Pf (uY cx x)
theorem pY{x:Fe}(h:fR x):dQ x=fB (fe x):=by
 obtain⟨h1,h2⟩:=acC h;unfold dQ fB;rw[acE h1,← GH h1,h2]
theorem acF{a b:F}:eqV (fB a) (fB b)=decide (a=b):=by
 by_cases h:a=b
 ·subst h;rw[decide_eq_true rfl];exact(n5 _ _).2 rfl
 ·rw[decide_eq_false h];refine Bool.eq_false_iff.2 fun e=>h (Pg ((n5 _ _).1 e))
theorem Bu{x y:Fe}(hx:fR x)(hy:fR y):eqV (dQ x) (dQ y)=decide (fe x=fe y):=by
 rw[pY hx,pY hy,acF]
theorem acG{x:Fe}(h:fR x):acv dQ x=decide ((fe x).val%2=1):=by
 unfold acv;rw[pY h];have e:(fB (fe x)).1=((fe x).val:Int)/(256 ^ 0:Nat)%256:=rfl;rw[e,z6 (m:=1) (by decide) _ 1 (by decide)]
 have:((((fe x).val:Int)/(256 ^ 0:Nat)%256%(2 ^ 1:Nat)==1)=true)↔(fe x).val%2=1:=by
  rw[beq_iff_eq];simp only[Nat.pow_zero,Nat.pow_one];omega
 by_cases h1:(fe x).val%2=1
 ·rw[decide_eq_true h1];exact this.2 h1
 ·rw[decide_eq_false h1];exact Bool.eq_false_iff.2 fun e=>h1 (this.1 e)
theorem pZ{n:Int}(h:vV n):fR (aX n)∧fe (aX n)=c6 n:=by
 simp only[vV]at h
 have e:aX n=DN (n%2251799813685248) (n/2251799813685248) 0 0 0:=by
  simp only[aX,u7,GG];rfl
 rw[e];refine⟨by simp only[fR,Kp,DN];omega,?_⟩;unfold fe;congr 1;simp only[fL,DN];omega
end Go.Proofs.YtnbkagglkajbkaaGreat
end
noncomputable section
namespace Go.Proofs.YtnbkagglkajbkaaGreat
open Go Go.Ev BJ Go.Proofs.Tryz
open Go.IntKind (i64 signed u16 u64 wrap)
def sH(f:Nat→Int):Nat→Int
 |0=>0
 |n+1=>sH f n+f n*(256 ^ n:Nat)
theorem Ks(f:Nat→Int):∀n,n≤8→(∀i,i<n→0≤f i∧f i<256)→
  (List.range n).foldl (fun acc i=>bp .u64 acc (shl .u64 (eA (f i)) ((8*i:Nat):Int))) 0=sH f n∧0≤sH f n∧sH f n<(256 ^ n:Nat)
 |0,_,_=>⟨rfl,by simp[sH],by simp[sH]⟩
 |n+1,hn,hf=>by
  obtain⟨h1,h2,h3⟩:=Ks f n (by omega) fun i hi=>hf i (by omega);have h4:=hf n (by omega);rw[List.range_succ,List.foldl_append,h1];simp only[List.foldl_cons,List.foldl_nil,sH];have hle:256 ^ n≤256 ^ 7:=Nat.pow_le_pow_right (by omega) (by omega);have h7:(256:Nat) ^ 7=72057594037927936:=by decide
  have e8:(2 ^ (8*n):Nat)=256 ^ n:=by rw[Nat.pow_mul]
  have hmul:0≤f n*(256 ^ n:Nat)∧f n*(256 ^ n:Nat)≤255*(256 ^ n:Nat):=⟨Int.mul_nonneg h4.1 (Int.natCast_nonneg _),Int.mul_le_mul_of_nonneg_right (by omega) (Int.natCast_nonneg _)⟩;have hm:f n*(256 ^ n:Nat)%(256 ^ n:Nat)=0:=Int.mul_emod_left _ _
  have e:shl .u64 (eA (f n)) ((8*n:Nat):Int)=f n*(256 ^ n:Nat):=by
   rw[g6 .u64 _ _ (by show 8*n≤64;omega),e8];unfold eA;rw[wrap_u64 (n:=f n) (by omega) (by omega)];exact wrap_u64 hmul.1 (by omega)
  have e2:(256 ^ (n+1):Nat)=256*256 ^ n:=by rw[Nat.pow_succ,Nat.mul_comm]
  rw[e,iG,nK (m:=8*n) hmul.1 (by rw[e8];exact hm) h2 (by rw[e8];exact h3) (by omega),e2];refine⟨by omega,by omega,by omega⟩
theorem get_ofFn{f:Nat→Int}:∀ {n i:Nat},i<n→Vec.get (Vec.ofFn n f) i=f i
 |0,_,h=>absurd h (by omega)
 |n+1,0,_=>rfl
 |n+1,i+1,h=>by
  show Vec.get (Vec.ofFn n fun k=>f (k+1)) i=_;rw[get_ofFn (n:=n) (by omega)]
theorem rp{n:Nat}{v:Vec Int n}(h:nm v){i:Nat}(hi:i<n):v.get i=bZ v/(256 ^ i:Nat)%256:=by
 conv=>lhs;rw[← Wg h]
 unfold Br;rw[get_ofFn hi]
theorem Kt{n:Nat}{v:Vec Int n}(h:nm v){i:Nat}(hi:i<n):0≤v.get i∧v.get i<256:=by
 rw[rp h hi];omega
theorem Ku(V:Int)(hV:0≤V):∀n,sH (fun i=>V/(256 ^ i:Nat)%256) n=V%(256 ^ n:Nat)
 |0=>by simp[sH]
 |n+1=>by
  simp only[sH];rw[Ku V hV n];have e2:(256 ^ (n+1):Nat)=256 ^ n*256:=Nat.pow_succ ..;rw[e2];generalize hm:(256 ^ n:Nat)=m;have C1:0<(m:Int):=by have:=Nat.pow_pos (n:=n) (show 0<256 by decide);omega
  have h3:=Int.emod_nonneg V (b:=(m:Int)) (by omega);have h4:=Int.emod_lt_of_pos V C1;have h5:=Int.emod_add_mul_ediv V (m:Int)
  have h6:V=(V%m+V/m%256*m)+((m*256:Nat):Int)*(V/m/256):=by
   rw[Int.natCast_mul,Int.mul_assoc];have h7:V/m=V/m%256+256*(V/m/256):=(by omega);have h8:(m:Int)*(V/m)=m*(V/m%256)+m*(256*(V/m/256)):=(by rw[← Int.mul_add,← h7]);rw[Int.mul_comm (V/m%256) m];have h9:(m:Int)*(((256:Nat):Int)*(V/m/256))=m*(256*(V/m/256)):=rfl;rw[h9];omega
  have h10:0≤V/m%256*m∧V/m%256*m≤255*m:=⟨Int.mul_nonneg (by omega) (by omega),Int.mul_le_mul_of_nonneg_right (by omega) (by omega)⟩
  conv=>rhs;rw[h6]
  rw[Int.add_mul_emod_self_left];exact(Int.emod_eq_of_lt (by omega) (by rw[Int.natCast_mul];omega)).symm
theorem vf{b:dG}(h:nm b)(j:Nat)(hj:j<4):word b j=bZ b/(256 ^ (8*j):Nat)%18446744073709551616:=by
 have h1:=(Ks (fun i=>b.get (8*j+i)) 8 (by omega) fun i hi=>Kt h (by omega)).1;have hV:=dp h;unfold word;rw[h1]
 have h2:sH (fun i=>b.get (8*j+i)) 8=sH (fun i=>bZ b/(256 ^ (8*j):Nat)/(256 ^ i:Nat)%256) 8:=by
  have key:∀n,n≤8→sH (fun i=>b.get (8*j+i)) n=sH (fun i=>bZ b/(256 ^ (8*j):Nat)/(256 ^ i:Nat)%256) n:=by
   intro n
   induction n with
   |zero=>intro _;rfl
   |succ n ih=>
    intro hn;simp only[sH];rw[ih (by omega),rp h (by omega),Int.ediv_ediv_of_nonneg (Int.natCast_nonneg _),← Int.natCast_mul,← Nat.pow_add]
  exact key 8 (by omega)
 rw[h2,Ku _ (Int.ediv_nonneg hV (Int.natCast_nonneg _)) 8];rfl
theorem acH{b:dG}(h:nm b):fR (gp b)∧fL (gp b)=bZ b%57896044618658097711785492504343953926634992332820282019728792003956564819968:=by
 have hV:=dp h;have hV2:=rn h;rw[anZ]at hV2;have w0:=vf h 0 (by omega);have w1:=vf h 1 (by omega);have w2:=vf h 2 (by omega);have w3:=vf h 3 (by omega);have q0:(256 ^ (8*0):Nat)=1:=by decide
 have q1:(256 ^ (8*1):Nat)=18446744073709551616:=by decide
 have q2:(256 ^ (8*2):Nat)=340282366920938463463374607431768211456:=by decide
 have q3:(256 ^ (8*3):Nat)=6277101735386680763835789423207666416102355444464034512896:=by decide
 rw[q0]at w0;rw[q1]at w1;rw[q2]at w2;rw[q3]at w3;unfold gp;rw[w0,w1,w2,w3];generalize bZ b=V at*;obtain⟨a0,ha0⟩:∃a,a=V/((1:Nat):Int)%18446744073709551616:=⟨_,rfl⟩;obtain⟨a1,ha1⟩:∃a,a=V/((18446744073709551616:Nat):Int)%18446744073709551616:=⟨_,rfl⟩;obtain⟨a2,ha2⟩:∃a,a=V/((340282366920938463463374607431768211456:Nat):Int)%18446744073709551616:=⟨_,rfl⟩;obtain⟨a3,ha3⟩:∃a,a=V/((6277101735386680763835789423207666416102355444464034512896:Nat):Int)%18446744073709551616:=⟨_,rfl⟩;rw[← ha0,← ha1,← ha2,← ha3];have sh:∀ (x:Int) (n:Nat),n≤64→bI x n=x/(2 ^ n:Nat):=fun x n hn=>ft .u64 x n hn;have sl:∀ (x:Int) (n:Nat),n≤64→shl .u64 x n=x*(2 ^ n:Nat)%18446744073709551616:=fun x n hn=>by rw[g6 .u64 x n hn,kG]
 have s51:=sh a0 51 (by decide);have s38:=sh a1 38 (by decide);have s25:=sh a2 25 (by decide);have s12:=sh a3 12 (by decide);have l13:=sl a1 13 (by decide);have l26:=sl a2 26 (by decide);have l39:=sl a3 39 (by decide);have e51:(2 ^ 51:Nat)=2251799813685248:=by decide
 have e38:(2 ^ 38:Nat)=274877906944:=by decide
 have e25:(2 ^ 25:Nat)=33554432:=by decide
 have e12:(2 ^ 12:Nat)=4096:=by decide
 have e13:(2 ^ 13:Nat)=8192:=by decide
 have e26:(2 ^ 26:Nat)=67108864:=by decide
 have e39:(2 ^ 39:Nat)=549755813888:=by decide
 rw[e51]at s51;rw[e38]at s38;rw[e25]at s25;rw[e12]at s12;rw[e13]at l13;rw[e26]at l26;rw[e39]at l39
 have o1:bp .u64 (bI a0 51) (shl .u64 a1 13)=a0/2251799813685248+a1*8192%18446744073709551616:=by
  have e:bp .u64 (shl .u64 a1 13) (bI a0 51)=shl .u64 a1 13+bI a0 51:=nK (m:=13) (by rw[show shl .u64 a1 13=_ from l13];omega) (by rw[show shl .u64 a1 13=_ from l13,e13];omega) (by rw[show bI a0 51=_ from s51];omega) (by rw[show bI a0 51=_ from s51,e13];omega) (by rw[show shl .u64 a1 13=_ from l13,show bI a0 51=_ from s51];omega);rw[iG,e,show shl .u64 a1 13=_ from l13,show bI a0 51=_ from s51];omega
 have o2:bp .u64 (bI a1 38) (shl .u64 a2 26)=a1/274877906944+a2*67108864%18446744073709551616:=by
  have e:bp .u64 (shl .u64 a2 26) (bI a1 38)=shl .u64 a2 26+bI a1 38:=nK (m:=26) (by rw[show shl .u64 a2 26=_ from l26];omega) (by rw[show shl .u64 a2 26=_ from l26,e26];omega) (by rw[show bI a1 38=_ from s38];omega) (by rw[show bI a1 38=_ from s38,e26];omega) (by rw[show shl .u64 a2 26=_ from l26,show bI a1 38=_ from s38];omega);rw[iG,e,show shl .u64 a2 26=_ from l26,show bI a1 38=_ from s38];omega
 have o3:bp .u64 (bI a2 25) (shl .u64 a3 39)=a2/33554432+a3*549755813888%18446744073709551616:=by
  have e:bp .u64 (shl .u64 a3 39) (bI a2 25)=shl .u64 a3 39+bI a2 25:=nK (m:=39) (by rw[show shl .u64 a3 39=_ from l39];omega) (by rw[show shl .u64 a3 39=_ from l39,e39];omega) (by rw[show bI a2 25=_ from s25];omega) (by rw[show bI a2 25=_ from s25,e39];omega) (by rw[show shl .u64 a3 39=_ from l39,show bI a2 25=_ from s25];omega);rw[iG,e,show shl .u64 a3 39=_ from l39,show bI a2 25=_ from s25];omega
 rw[o1,o2,o3,show bI a3 12=_ from s12];simp only[u7];constructor
 ·simp only[fR,Kp];omega
 ·simp only[fL];omega
end Go.Proofs.YtnbkagglkajbkaaGreat
namespace BJ
theorem F.pow_add(a:F)(m n:Nat):F.pow a (m+n)=F.pow a m*F.pow a n:=by
 induction n with
 |zero=>rw[Nat.add_zero,F.pow_zero];grobner
 |succ n ih=>rw[← Nat.add_assoc,F.pow_succ,ih,F.pow_succ];grobner
theorem F.Bv(a:F)(m:Nat):F.pow a (2*m)=F.pow a m*F.pow a m:=by rw[Nat.two_mul,F.pow_add]
def rootOf(a:F):F×Bool:=
 let r:=F.pow a ((pp+3)/8)
 let r1:=if r*r=a then r else r*F.pow 2 ((pp-1)/4)
 if r1*r1=a then(if r1.val%2=1 then-r1 else r1,true)else(0,false)
def n6(u v:F):F×Bool:=if v=0 then(0,decide (u=0))else rootOf (u*F.inv v)
end BJ
namespace Go.Proofs.YtnbkagglkajbkaaGreat
open Go Go.Ev BJ Go.Proofs.Tryz
open Go.IntKind (i64 signed u16 u64 wrap)
theorem Bw(x:Int):bT .u8 x 128=x%128:=by
 have e:bT .u8 x 128=bg .u8 x 127:=by
  unfold bT bg;have:(~~~BitVec.ofInt IntKind.u8.bits 128)=BitVec.ofInt IntKind.u8.bits 127:=by decide
  rw[this]
 rw[e];exact z6 (m:=7) (by decide) x 127 (by decide)
theorem Bx(g:Int→Int):∀ {n:Nat} {v:Vec Int (n+1)},nm v→(∀x,0≤x→x<256→0≤g x∧g x<256)→
  nm (Vec.xZ g n v)∧bZ (Vec.xZ g n v)=bZ v-v.get n*(256 ^ n:Nat)+g (v.get n)*(256 ^ n:Nat)
 |0,v,h,hg=>by
  obtain⟨x,u⟩:=v;refine⟨⟨hg x h.1.1 h.1.2,h.2⟩,?_⟩;show g x+256*0=x+256*0-x*((256 ^ 0:Nat):Int)+g x*((256 ^ 0:Nat):Int);rw[Nat.pow_zero];omega
 |n+1,v,h,hg=>by
  obtain⟨x,u⟩:=v;obtain⟨h1,h2⟩:=Bx g (n:=n) (v:=u) h.2 hg;refine⟨⟨h.1,h1⟩,?_⟩;show x+256*bZ (Vec.xZ g n u)=x+256*bZ u-Vec.get u n*((256 ^ (n+1):Nat):Int)+g (Vec.get u n)*((256 ^ (n+1):Nat):Int);rw[h2];have e2:(256 ^ (n+1):Nat)=256*256 ^ n:=by rw[Nat.pow_succ,Nat.mul_comm]
  rw[e2,Int.natCast_mul];have sw:∀a b:Int,a*(((256:Nat):Int)*b)=256*(a*b):=fun a b=>by rw[← Int.mul_assoc,Int.mul_comm a,Int.mul_assoc];rfl
  rw[sw,sw];omega
theorem ah4:(256 ^ 31:Nat)=452312848583266388373324160190187140051835877600158453279131187530910662656:=by decide
theorem DQ{b:dG}(h:nm b):nm (jS b)∧bZ (jS b)=bZ b%57896044618658097711785492504343953926634992332820282019728792003956564819968:=by
 obtain⟨h1,h2⟩:=Bx (fun x=>bT .u8 x 128) (n:=31) h fun x h1 h2=>by show 0≤bT .u8 x 128∧bT .u8 x 128<256;rw[Bw];omega
 refine⟨h1,h2.trans ?_⟩;have hV:=dp h;have hV2:=rn h;rw[anZ]at hV2;show bZ b-b.get 31*_+bT .u8 (b.get 31) 128*_=_;rw[Bw,rp h (by decide),ah4];omega
theorem GI{b:dG}(h:nm b):fR (gp b)∧fe (gp b)=c6 (bZ b%57896044618658097711785492504343953926634992332820282019728792003956564819968):=by
 obtain⟨h1,h2⟩:=acH h;exact⟨h1,by unfold fe;rw[h2]⟩
theorem GJ{b:dG}(h:nm b)(azH:bZ b<57896044618658097711785492504343953926634992332820282019728792003956564819968):eqV (fB (c6 (bZ b))) b=decide (bZ b<(pp:Int)):=by
 have h0:=dp h
 by_cases hp:bZ b<(pp:Int)
 ·rw[decide_eq_true hp];refine(n5 _ _).2 ?_;obtain⟨h1,h2⟩:=ie (c6 (bZ b));exact Bq h1 h (by rw[h2,eL,Int.emod_eq_of_lt h0 hp])
 ·rw[decide_eq_false hp];refine Bool.eq_false_iff.2 fun e=>hp ?_;have e2:=(n5 _ _).1 e;have h2:=(ie (c6 (bZ b))).2;rw[e2,eL]at h2;rw[h2];exact Int.emod_lt_of_pos _ (by decide)
theorem GK{b:dG}(h:nm b):eqV (dQ (gp (jS b))) (jS b)=decide (bZ (jS b)<(pp:Int)):=by
 obtain⟨h1,h2⟩:=DQ h;obtain⟨h3,h4⟩:=GI h1;have eV:bZ (jS b)<57896044618658097711785492504343953926634992332820282019728792003956564819968:=by rw[h2];omega
 rw[pY h3,h4,Int.emod_eq_of_lt (dp h1) eV,GJ h1 eV]
abbrev mulC:Fe→Fe→Fe:=sG bn bt cx
theorem SY{e:dG}(h:nm e){i:Nat}(hi:i<256):DK e i=decide ((bZ e).toNat/2 ^ i%2=1):=by
 have hV:=dp h;unfold DK;have e1:shr .u8 (e.get (i/8)) ((i%8:Nat):Int)=e.get (i/8)/(2 ^ (i%8):Nat):=ft .u8 _ _ (by show i%8≤8;omega);rw[e1,z6 (m:=1) (by decide) _ 1 (by decide),rp h (by omega)];obtain⟨N,hN⟩:=Int.eq_ofNat_of_zero_le hV;rw[hN]
 have key:(((N:Int)/(256 ^ (i/8):Nat)%256/(2 ^ (i%8):Nat)%(2 ^ 1:Nat)==1)=true)↔N/2 ^ i%2=1:=by
  rw[beq_iff_eq]
  have e2:(2 ^ i:Nat)=256 ^ (i/8)*2 ^ (i%8):=by
   rw[show(256:Nat)=2 ^ 8 from rfl,← Nat.pow_mul,← Nat.pow_add];congr 1;omega
  rw[e2,← Nat.div_div_eq_div_mul,← Int.natCast_ediv];generalize N/256 ^ (i/8)=W at*;have h8:i%8<8:=Nat.mod_lt _ (by decide);generalize i%8=m at*;have hm:m=0∨m=1∨m=2∨m=3∨m=4∨m=5∨m=6∨m=7:=by omega
  rcases hm with rfl|rfl|rfl|rfl|rfl|rfl|rfl|rfl<;>simp<;>omega
 rw[Int.toNat_natCast]
 by_cases hb:N/2 ^ i%2=1
 ·rw[decide_eq_true hb];exact key.2 hb
 ·rw[decide_eq_false hb];exact Bool.eq_false_iff.2 fun e=>hb (key.1 e)
theorem xa{x:Fe}(hx:fR x):fR (mulC x x)∧fe (mulC x x)=fe x*fe x:=w8 hx hx
def powC(x:Fe)(e:dG):Fe:=alj aX (fun x=>mulC x x) mulC x e
theorem Kv{n:Nat}{b:Bool}{p:Prop}[Decidable p](h:b=decide p)(v u:Vec Int n):iU b v u=if p then v else u:=by
 rw[eB,h];by_cases hp:p<;>simp[hp]
theorem Ph{x:Fe}{e:dG}(hx:fR x)(he:nm e):fR (powC x e)∧fe (powC x e)=F.pow (fe x) (bZ e).toNat:=by
 have hV:=dp he;have hV2:=rn he;obtain⟨N,hN⟩:=Int.eq_ofNat_of_zero_le hV
 have key:∀k,k≤256→fR (gC (fY (fun x=>mulC x x) mulC x e) k (aX 1))∧fe (gC (fY (fun x=>mulC x x) mulC x e) k (aX 1))=F.pow (fe x) (N/2 ^ (256-k)):=by
  intro k
  induction k with
  |zero=>
   intro _;obtain⟨h1,h2⟩:=pZ (n:=1) ⟨by decide,by decide⟩;refine⟨h1,?_⟩;have an1:(256 ^ 32:Nat)=2 ^ 256:=(by rw[show(256:Nat)=2 ^ 8 from rfl,← Nat.pow_mul]);have:N/2 ^ (256-0)=0:=Nat.div_eq_of_lt (by rw[hN]at hV2;rw[Nat.sub_zero,← an1];omega);rw[this,F.pow_zero];exact h2.trans SW
  |succ k ih=>
   intro hk;obtain⟨h1,h2⟩:=ih (by omega);show fR (fY (fun x=>mulC x x) mulC x e k _)∧fe (fY (fun x=>mulC x x) mulC x e k _)=_;generalize gC (fY (fun x=>mulC x x) mulC x e) k (aX 1)=r at*;obtain⟨s1,s2⟩:=xa h1;obtain⟨m1,m2⟩:=w8 s1 hx;unfold fY;rw[Kv (SY he (i:=255-k) (by omega)),hN,Int.toNat_natCast]
   have hdiv:N/2 ^ (256-k)=N/2 ^ (256-(k+1))/2:=by
    rw[Nat.div_div_eq_div_mul,← Nat.pow_succ];congr 2;omega
   rw[hdiv]at h2;have avI:255-k=256-(k+1):=(by omega);rw[avI];generalize N/2 ^ (256-(k+1))=M at*
   split
   ·rename_i hb;refine⟨m1,?_⟩;show fe (mulC (mulC r r) x)=_;rw[m2,s2,h2];have:M=2*(M/2)+1:=by omega
    conv=>rhs;rw[this]
    rw[F.pow_succ,F.Bv]
   ·rename_i hb;refine⟨s1,?_⟩;show fe (mulC r r)=_;rw[s2,h2];have:M=2*(M/2):=by omega
    conv=>rhs;rw[this]
    rw[F.Bv]
 have:=key 256 (by omega);rw[hN,Int.toNat_natCast];have e:N/2 ^ (256-256)=N:=by simp
 rw[e]at this;unfold powC alj;exact this
theorem Bz{f:Nat→Int}:∀ {n:Nat},(∀i,i<n→0≤f i∧f i<256)→nm (Vec.ofFn n f)
 |0,_=>trivial
 |n+1,h=>⟨h 0 (by omega),Bz (n:=n) fun i hi=>h (i+1) (by omega)⟩
theorem GL{lo hi:Int}(h1:0≤lo∧lo<256)(h2:0≤hi∧hi<256):nm (jd lo hi):=Bz fun i _=>by
 show 0≤(if i=0 then lo else if i=31 then hi else 255)∧(if i=0 then lo else if i=31 then hi else 255)<256
 split
 ·exact h1
 ·split
  ·exact h2
  ·omega
theorem ah5:(bZ (jd 235 127)).toNat=pp-2:=by decide+kernel
theorem acI:(bZ (jd 254 15)).toNat=(pp+3)/8:=by decide+kernel
theorem an2:(bZ (jd 251 31)).toNat=(pp-1)/4:=by decide+kernel
def ka(x:Fe):Fe:=powC x (jd 235 127)
theorem Pj{x:Fe}(hx:fR x):fR (ka x)∧fe (ka x)=F.inv (fe x):=by
 obtain⟨h1,h2⟩:=Ph hx (GL (lo:=235) (hi:=127) (by omega) (by omega));rw[ah5]at h2;exact⟨h1,h2⟩
def kb:Fe→Fe→Fe:=SS cx
def lE:Fe→Fe→Fe:=Km cx
def ld(x:Fe):Fe:=lE dn x
def Pk(x y:Fe):Bool:=eqV (dQ x) (dQ y)
def p9:Fe→Bool:=acv dQ
def df(x:Fe):Bool:=Pk x dn
def np:Fe→Fe×Bool:=Bn powC jd mulC (fun x=>mulC x x) ld aX Pk p9
def mw:Fe→Fe→Fe×Bool:=fun u v=>(iU (df v) dn (np (mulC u (ka v))).1,bif df v then df u else(np (mulC u (ka v))).2)
theorem GM{x:Fe}(hx:fR x):fR (ld x)∧fe (ld x)= -fe x:=by
 obtain⟨h1,h2⟩:=acA jC.1 hx;refine⟨h1,?_⟩;show fe (Km cx dn x)=_;rw[h2,jC.2];grobner
theorem xb{x:Fe}(hx:fR x):df x=decide (fe x=0):=by
 unfold df Pk;rw[Bu hx jC.1,jC.2]
theorem ah6{x:Fe}(hx:fR x):fR (np x).1∧fe (np x).1=(rootOf (fe x)).1∧(np x).2=(rootOf (fe x)).2:=by
 obtain⟨r1,r2⟩:=Ph hx (GL (lo:=254) (hi:=15) (by omega) (by omega));rw[acI]at r2;obtain⟨t1,t2⟩:=pZ (n:=2) ⟨by decide,by decide⟩;obtain⟨i1,i2⟩:=Ph t1 (GL (lo:=251) (hi:=31) (by omega) (by omega));have t3:c6 2=2:=by decide+kernel
 rw[an2,t2,t3]at i2;unfold np Bn;simp only[DJ];obtain⟨s1,s2⟩:=xa r1;obtain⟨m1,m2⟩:=w8 r1 i1
 have q1:Pk (mulC (powC x (jd 254 15)) (powC x (jd 254 15))) x=decide (F.pow (fe x) ((pp+3)/8)*F.pow (fe x) ((pp+3)/8)=fe x):=by
  unfold Pk;rw[Bu s1 hx,s2,r2]
 generalize hR:iU (!Pk (mulC (powC x (jd 254 15)) (powC x (jd 254 15))) x) (mulC (powC x (jd 254 15)) (powC (aX 2) (jd 251 31))) (powC x (jd 254 15))=R
 have hR1:fR R∧fe R=if F.pow (fe x) ((pp+3)/8)*F.pow (fe x) ((pp+3)/8)=fe x then F.pow (fe x) ((pp+3)/8)else F.pow (fe x) ((pp+3)/8)*F.pow 2 ((pp-1)/4):=by
  rw[← hR,q1,eB]
  by_cases hq:F.pow (fe x) ((pp+3)/8)*F.pow (fe x) ((pp+3)/8)=fe x
  ·rw[decide_eq_true hq,if_pos hq];exact⟨r1,r2⟩
  ·rw[decide_eq_false hq,if_neg hq];exact⟨m1,by show fe (mulC _ _)=_;rw[m2,r2,i2]⟩
 obtain⟨hR1,hR2⟩:=hR1;obtain⟨u1,u2⟩:=xa hR1;have q2:Pk (mulC R R) x=decide (fe R*fe R=fe x):=by unfold Pk;rw[Bu u1 hx,u2]
 obtain⟨n1,n2⟩:=GM hR1;have ho:p9 R=decide ((fe R).val%2=1):=acG hR1;rw[q2,ho,eB,eB]
 have arP:rootOf (fe x)=if fe R*fe R=fe x then(if(fe R).val%2=1 then-fe R else fe R,true)else(0,false):=by
  unfold rootOf;rw[hR2]
 rw[arP]
 by_cases h1:fe R*fe R=fe x
 ·rw[decide_eq_true h1,if_pos h1]
  by_cases h2:(fe R).val%2=1
  ·rw[decide_eq_true h2,if_pos h2];exact⟨n1,n2,rfl⟩
  ·rw[decide_eq_false h2,if_neg h2];exact⟨hR1,rfl,rfl⟩
 ·rw[decide_eq_false h1,if_neg h1];exact⟨jC.1,jC.2,rfl⟩
end Go.Proofs.YtnbkagglkajbkaaGreat
namespace Go.Proofs.YtnbkagglkajbkaaGreat
open Go Go.Ev BJ Go.Proofs.Tryz
open Go.IntKind (i64 signed u16 u64 wrap)
theorem Pl(bv bu:Bool)(fu:F)(z:Fe×Bool)(y:F×Bool)(v:F)(hz1:bv=decide (v=0))(hz2:bu=decide (fu=0))(s1:fR z.1)(s2:fe z.1=y.1)(s3:z.2=y.2):
  fR (iU bv dn z.1)∧fe (iU bv dn z.1)=(if v=0 then((0:F),decide (fu=0))else y).1∧(bif bv then bu else z.2)=(if v=0 then((0:F),decide (fu=0))else y).2:=by
 rw[eB]
 by_cases h:v=0
 ·rw[if_pos h,hz1,decide_eq_true h];exact⟨jC.1,jC.2,hz2⟩
 ·rw[if_neg h,hz1,decide_eq_false h];exact⟨s1,s2,s3⟩
theorem acJ{u v:Fe}(hu:fR u)(hv:fR v):fR (mw u v).1∧fe (mw u v).1=(n6 (fe u) (fe v)).1∧(mw u v).2=(n6 (fe u) (fe v)).2:=by
 have hi:=Pj hv;have hm:=w8 hu hi.1;have hs:=ah6 hm.1;have e:fe (sG bn bt cx u (ka v))=fe u*F.inv (fe v):=hm.2.trans (by rw[hi.2]);rw[e]at hs;exact Pl _ _ (fe u) _ _ (fe v) (xb hv) (xb hu) hs.1 hs.2.1 hs.2.2
end Go.Proofs.YtnbkagglkajbkaaGreat
namespace BJ
abbrev E4:=F×F×F×F
def xc(x y:F):E4:=(x,y,1,x*y)
def oC:E4:=xc 0 1
def BA(p q:E4):E4:=
 let a:=(p.2.1-p.1)*(q.2.1-q.1)
 let b:=(p.2.1+p.1)*(q.2.1+q.1)
 let c:=p.2.2.2*q.2.2.2*dd+p.2.2.2*q.2.2.2*dd
 let d:=p.2.2.1*q.2.2.1+p.2.2.1*q.2.2.1
 ((b-a)*(d-c),(d+c)*(b+a),(d-c)*(d+c),(b-a)*(b+a))
def arQ(p:E4):E4:=(-p.1,p.2.1,p.2.2.1,-p.2.2.2)
def my(y:F):F×Bool:=n6 (y*y-1) (dd*(y*y)+1)
def Kw:E4:=xc (my (4*F.inv 5)).1 (4*F.inv 5)
end BJ
namespace Go.Proofs.YtnbkagglkajbkaaGreat
open Go Go.Ev BJ Go.Proofs.Tryz
open Go.IntKind (i64 signed u16 u64 wrap)
def X0(p:Pt):Prop:=fR p.2.1∧fR p.2.2.1∧fR p.2.2.2.1∧fR p.2.2.2.2
def qa(p:Pt):Prop:=p.1=true→X0 p
def ptF(p:Pt):E4:=(fe p.2.1,fe p.2.2.1,fe p.2.2.2.1,fe p.2.2.2.2)
def GN(p:Pt):E4:=if p.1=true then ptF p else oC
def jU:Fe:=gp nk
theorem yO:fR jU∧fe jU=dd:=by
 have hb:nm nk:=by simp[nk,nm]
 obtain⟨h1,h2⟩:=GI hb;refine⟨h1,h2.trans ?_⟩;decide+kernel
def cY:Fe→Fe→Pt:=acw mulC aX
theorem sI:fR (aX 1)∧fe (aX 1)=1:=by
 obtain⟨h1,h2⟩:=pZ (n:=1) ⟨by decide,by decide⟩;exact⟨h1,h2.trans SW⟩
theorem xd{x y:Fe}(hx:fR x)(hy:fR y):(cY x y).1=true∧X0 (cY x y)∧ptF (cY x y)=xc (fe x) (fe y):=by
 obtain⟨m1,m2⟩:=w8 hx hy;obtain⟨o1,o2⟩:=sI;refine⟨rfl,⟨hx,hy,o1,m1⟩,?_⟩;show(fe x,fe y,fe (aX 1),fe (mulC x y))=_;rw[o2,m2];rfl
def dB:Pt:=cY dn (aX 1)
theorem GO:dB.1=true∧X0 dB∧ptF dB=oC:=by
 obtain⟨h1,h2,h3⟩:=xd jC.1 sI.1;refine⟨h1,h2,h3.trans ?_⟩;rw[jC.2,sI.2];rfl
def eF:Pt→Pt:=acx dB
theorem GP{p:Pt}(h:qa p):(eF p).1=true∧X0 (eF p)∧ptF (eF p)=GN p:=by
 unfold eF acx;rw[gq];unfold GN
 cases hp:p.1 with
 |false=>simp only[Bool.not_false,cond_true,Bool.false_eq_true,if_false];exact GO
 |true=>simp only[Bool.not_true,cond_false,if_true];exact⟨hp,h hp,trivial⟩
theorem BB{p:Pt}(h1:p.1=true)(h2:X0 p):qa p∧GN p=ptF p:=⟨fun _=>h2,if_pos h1⟩
def n7:Fe→Fe→Fe→Fe→Pt:=ahW mulC
def cm:Pt→Pt→Pt:=addFn mulC kb lE jU eF n7
theorem n8{x y:Fe}(hx:fR x)(hy:fR y):fR (kb x y)∧fe (kb x y)=fe x+fe y:=anV hx hy
theorem vg{x y:Fe}(hx:fR x)(hy:fR y):fR (lE x y)∧fe (lE x y)=fe x-fe y:=acA hx hy
theorem fZ{x y:Fe}(hx:fR x)(hy:fR y):fR (mulC x y)∧fe (mulC x y)=fe x*fe y:=w8 hx hy
theorem acL{e f g h:Fe}(he:fR e)(hf:fR f)(hg:fR g)(hh:fR h):(n7 e f g h).1=true∧X0 (n7 e f g h)∧ptF (n7 e f g h)=(fe e*fe f,fe g*fe h,fe f*fe g,fe e*fe h):=by
 obtain⟨a1,a2⟩:=fZ he hf;obtain⟨b1,b2⟩:=fZ hg hh;obtain⟨c1,c2⟩:=fZ hf hg;obtain⟨d1,d2⟩:=fZ he hh;refine⟨rfl,⟨a1,b1,c1,d1⟩,?_⟩;show(fe (mulC e f),fe (mulC g h),fe (mulC f g),fe (mulC e h))=_;rw[a2,b2,c2,d2]
theorem acM{p q:Pt}(hp:X0 p)(hq:X0 q):
  let r:=n7 (lE (mulC (kb p.2.2.1 p.2.1) (kb q.2.2.1 q.2.1)) (mulC (lE p.2.2.1 p.2.1) (lE q.2.2.1 q.2.1)))
   (lE (kb (mulC p.2.2.2.1 q.2.2.2.1) (mulC p.2.2.2.1 q.2.2.2.1)) (kb (mulC (mulC p.2.2.2.2 q.2.2.2.2) jU) (mulC (mulC p.2.2.2.2 q.2.2.2.2) jU)))
   (kb (kb (mulC p.2.2.2.1 q.2.2.2.1) (mulC p.2.2.2.1 q.2.2.2.1)) (kb (mulC (mulC p.2.2.2.2 q.2.2.2.2) jU) (mulC (mulC p.2.2.2.2 q.2.2.2.2) jU)))
   (kb (mulC (kb p.2.2.1 p.2.1) (kb q.2.2.1 q.2.1)) (mulC (lE p.2.2.1 p.2.1) (lE q.2.2.1 q.2.1)))
  r.1=true∧X0 r∧ptF r=BA (ptF p) (ptF q):=by
 obtain⟨px,py,pz,pt⟩:=hp;obtain⟨qx,qy,qz,qt⟩:=hq;have a1:=vg py px;have a2:=vg qy qx;have a:=fZ a1.1 a2.1;have b1:=n8 py px;have b2:=n8 qy qx;have b:=fZ b1.1 b2.1;have c1:=fZ pt qt;have c2:=fZ c1.1 yO.1;have c:=n8 c2.1 c2.1;have d1:=fZ pz qz;have d:=n8 d1.1 d1.1;have e:=vg b.1 a.1;have f:=vg d.1 c.1;have g:=n8 d.1 c.1;have h:=n8 b.1 a.1;obtain⟨r1,r2,r3⟩:=acL e.1 f.1 g.1 h.1;refine⟨r1,r2,r3.trans ?_⟩;rw[e.2,f.2,g.2,h.2,d.2,c.2,b.2,a.2,d1.2,c2.2,c1.2,b1.2,b2.2,a1.2,a2.2,yO.2];rfl
theorem Pm{p q:Pt}(hp:qa p)(hq:qa q):qa (cm p q)∧(cm p q).1=true∧GN (cm p q)=BA (GN p) (GN q):=by
 obtain⟨p1,p2,p3⟩:=GP hp;obtain⟨q1,q2,q3⟩:=GP hq;obtain⟨r1,r2,r3⟩:=acM p2 q2;rw[p3,q3]at r3;obtain⟨s1,s2⟩:=BB r1 r2;exact⟨s1,r1,s2.trans r3⟩
def nq:Pt→Pt:=negFn ld eF
theorem an3{p:Pt}(hp:qa p):qa (nq p)∧(nq p).1=true∧GN (nq p)=arQ (GN p):=by
 obtain⟨p1,p2,p3⟩:=GP hp;obtain⟨n1,n2⟩:=GM p2.1;obtain⟨m1,m2⟩:=GM p2.2.2.2;have h1:(nq p).1=true:=p1;have h2:X0 (nq p):=⟨n1,p2.2.1,p2.2.2.1,m1⟩;obtain⟨s1,s2⟩:=BB h1 h2;refine⟨s1,h1,s2.trans ?_⟩;rw[← p3];show(fe (ld _),fe _,fe _,fe (ld _))=_;rw[n2,m2];rfl
end Go.Proofs.YtnbkagglkajbkaaGreat
namespace Go.Proofs.YtnbkagglkajbkaaGreat
open Go Go.Ev BJ Go.Proofs.Tryz
open Go.IntKind (i64 signed u16 u64 wrap)
def xe(b:dG):dG:=Vec.xZ (fun x=>x+128) 31 b
def arR(p:E4):dG:=if(p.1*F.inv p.2.2.1).val%2=1 then xe (fB (p.2.1*F.inv p.2.2.1))else fB (p.2.1*F.inv p.2.2.1)
abbrev jV:Int:=57896044618658097711785492504343953926634992332820282019728792003956564819968
def acN(b:dG):E4×Bool:=
 let y:=c6 (bZ b%jV)
 let x:=(my y).1
 if(my y).2=true∧bZ b%jV<(pp:Int)∧¬ (128≤b.get 31∧x=0)then(xc (if 128≤b.get 31 then-x else x) y,true)else(oC,false)
theorem xf{f g:Int→Int}:∀ {n i:Nat} {v:Vec Int n},f (v.get i)=g (v.get i)→Vec.xZ f i v=Vec.xZ g i v
 |0,_,_,_=>rfl
 |n+1,0,v,h=>by
  show(f v.1,v.2)=(g v.1,v.2);rw[show f v.1=g v.1 from h]
 |n+1,i+1,v,h=>by
  show(v.1,Vec.xZ f i v.2)=(v.1,Vec.xZ g i v.2);rw[xf (n:=n) (i:=i) (v:=v.2) h]
theorem xg(a:F):0≤(fB a).get 31∧(fB a).get 31<128:=by
 obtain⟨h1,h2⟩:=ie a;rw[rp h1 (by decide),h2,ah4];have:=a.isLt;simp only[pp]at this;omega
def jW:Fe→Fe×Bool:=fun y=>mw (lE (mulC y y) (aX 1)) (kb (mulC jU (mulC y y)) (aX 1))
theorem SZ{y:Fe}(hy:fR y):fR (jW y).1∧fe (jW y).1=(my (fe y)).1∧(jW y).2=(my (fe y)).2:=by
 have s:=fZ hy hy;have a:=vg s.1 sI.1;have m:=fZ yO.1 s.1;have b:=n8 m.1 sI.1;have r:=acJ a.1 b.1;have e1:fe (lE (mulC y y) (aX 1))=fe y*fe y-1:=by rw[a.2,s.2,sI.2]
 have e2:fe (kb (mulC jU (mulC y y)) (aX 1))=dd*(fe y*fe y)+1:=by rw[b.2,m.2,s.2,sI.2,yO.2]
 rw[e1,e2]at r;exact r
def fM:Pt:=cY (jW (mulC (aX 4) (ka (aX 5)))).1 (mulC (aX 4) (ka (aX 5)))
theorem t4:c6 4=4:=by decide+kernel
theorem t5:c6 5=5:=by decide+kernel
theorem ah7:fM.1=true∧X0 fM∧ptF fM=Kw:=by
 have h4:=pZ (n:=4) ⟨by decide,by decide⟩;have h5:=pZ (n:=5) ⟨by decide,by decide⟩;have i:=Pj h5.1;have m:=fZ h4.1 i.1;have r:=SZ m.1;have e:fe (mulC (aX 4) (ka (aX 5)))=4*F.inv 5:=by rw[m.2,i.2,h4.2,h5.2,t4,t5]
 have a:=xd r.1 m.1;refine⟨a.1,a.2.1,a.2.2.trans ?_⟩;rw[r.2.1,e];rfl
def jv:Pt→Fe×Fe:=ahV mulC ka eF
def vh:Pt→dG:=Bo p9 dQ jv
theorem Kx{n:Nat}{p:Prop}[Decidable p](v u:Vec Int n):iU (decide p) v u=if p then v else u:=Kv rfl v u
theorem Wh{p:Pt}(hp:qa p):vh p=arR (GN p):=by
 obtain⟨p1,p2,p3⟩:=GP hp;have i:=Pj p2.2.2.1;have x:=fZ p2.1 i.1;have y:=fZ p2.2.1 i.1;unfold vh Bo;have ex:(jv p).1=mulC (eF p).2.1 (ka (eF p).2.2.2.1):=rfl;have ey:(jv p).2=mulC (eF p).2.2.1 (ka (eF p).2.2.2.1):=rfl;simp only[ex,ey];have ho:p9 (mulC (eF p).2.1 (ka (eF p).2.2.2.1))=decide ((fe (mulC (eF p).2.1 (ka (eF p).2.2.2.1))).val%2=1):=acG x.1;rw[ho,Kx,pY y.1,x.2,y.2,i.2];have hb:=xg (fe (eF p).2.2.1*F.inv (fe (eF p).2.2.2.1))
 have hu:Vec.xZ (fun x=>bp .u8 x 128) 31 (fB (fe (eF p).2.2.1*F.inv (fe (eF p).2.2.2.1)))=xe (fB (fe (eF p).2.2.1*F.inv (fe (eF p).2.2.2.1))):=by
  refine xf ?_;generalize Vec.get (fB (fe (eF p).2.2.1*F.inv (fe (eF p).2.2.2.1))) 31=z at*;show bp .u8 z 128=z+128;rw[iG,akp (m:=7) (by omega) (by decide) hb.1 (by omega) (by omega)];omega
 rw[hu,← p3];rfl
theorem Po{b:dG}(h:nm b):w7 b=decide (128≤b.get 31):=by
 obtain⟨h1,h2⟩:=Kt h (i:=31) (by decide);unfold w7;generalize b.get 31=x at*;have key:∀k:_root_.Fin 256,(bg .u8 (k.val:Int) 128!=0)=decide ((128:Int)≤(k.val:Int)):=by decide+kernel
 obtain⟨k,rfl⟩:=Int.eq_ofNat_of_zero_le h1;exact key ⟨k,by omega⟩
def jw(b:dG):Bool:=eqV (dQ (gp (jS b))) (jS b)
def vk:dG→Pt×Bool:=u0 ld df gp jw cY jW
theorem Wi{b:dG}(hb:nm b):qa (vk b).1∧GN (vk b).1=(acN b).1∧(vk b).2=(acN b).2:=by
 obtain⟨y1,y2⟩:=GI hb;obtain⟨x1,x2,x3⟩:=SZ y1;have hc:jw b=decide (bZ b%jV<(pp:Int)):=by unfold jw;rw[GK hb,(DQ hb).2]
 have ht:=Po hb;have hz:=xb x1;obtain⟨n1,n2⟩:=GM x1;rw[x2,y2]at hz n2;rw[y2]at x2 x3
 have ha:∀ (u:Fe),fR u→(cY u (gp b)).1=true∧X0 (cY u (gp b))∧ptF (cY u (gp b))=xc (fe u) (c6 (bZ b%jV)):=fun u hu=>by
  have:=xd hu y1;rw[y2]at this;exact this
 have am9:∀ (ok c t z:Bool),(bif (!ok)==false then bif (!c)==false then bif t==true then z else false else true else true)= !(ok&&c&& !(t&&z)):=by decide
 have iY:qa fy∧GN fy=oC:=⟨fun h=>by simp[fy]at h,rfl⟩;unfold vk u0 acN;simp only[DJ,Bool.cond_self,hc,ht,hz,x3,am9];generalize (my (c6 (bZ b%jV))).2=ok at*;generalize hX:(my (c6 (bZ b%jV))).1=X at*
 have hg:(ok&&decide (bZ b%jV<(pp:Int))&& !(decide (128≤b.get 31)&&decide (X=0)))=decide (ok=true∧bZ b%jV<(pp:Int)∧¬(128≤b.get 31∧X=0)):=by
  cases ok
  ·simp
  ·by_cases h1:bZ b%jV<(pp:Int)<;>by_cases h2:128≤b.get 31<;>by_cases h3:X=0<;>simp[h2,h3]
 rw[hg,gq,Kx]
 by_cases h:ok=true∧bZ b%jV<(pp:Int)∧¬(128≤b.get 31∧X=0)
 ·rw[decide_eq_true h,if_pos h]
  by_cases Ky:128≤b.get 31
  ·rw[if_pos Ky,if_pos Ky];obtain⟨a1,a2,a3⟩:=ha _ n1;obtain⟨o1,o2⟩:=BB a1 a2;exact⟨o1,o2.trans (a3.trans (by rw[n2])),rfl⟩
  ·rw[if_neg Ky,if_neg Ky];obtain⟨a1,a2,a3⟩:=ha _ x1;obtain⟨o1,o2⟩:=BB a1 a2;exact⟨o1,o2.trans (a3.trans (by rw[x2])),rfl⟩
 ·rw[decide_eq_false h,if_neg h];exact⟨iY.1,iY.2,rfl⟩
def Pp(V:Nat)(i:Nat):Bool:=decide (V/2 ^ i%2=1)
def lf(V:Nat)(p:E4)(k:Nat)(r:E4):E4:=if Pp V (255-k)=true then BA (BA r r) p else BA r r
def Kz(V:Nat)(p:E4):E4:=gC (lf V p) 256 oC
theorem DR{e:dG}(h:nm e){i:Nat}(hi:i<256):(iN e i==1)=Pp (bZ e).toNat i:=by
 have h1:=SY h hi;unfold DK at h1;unfold Pp iN;rw[← h1];have e1:shr .u8 (e.get (i/8)) ((i%8:Nat):Int)=e.get (i/8)/(2 ^ (i%8):Nat):=ft .u8 _ _ (by show i%8≤8;omega);rw[e1,z6 (m:=1) (by decide) _ 1 (by decide),wrap_i64 (by omega) (by omega)]
def bB(p:Pt):Pt:=cm p p
def BC:dG→Pt→Pt:=acy iN dB bB cm
theorem ah8{n:dG}{p:Pt}(hn:nm n)(hp:qa p):qa (BC n p)∧GN (BC n p)=Kz (bZ n).toNat (GN p):=by
 have key:∀k,k≤256→qa (gC (iO iN bB cm n p) k dB)∧GN (gC (iO iN bB cm n p) k dB)=gC (lf (bZ n).toNat (GN p)) k oC:=by
  intro k
  induction k with
  |zero=>
   intro _;obtain⟨z1,z2,z3⟩:=GO;obtain⟨o1,o2⟩:=BB z1 z2;exact⟨o1,o2.trans z3⟩
  |succ k ih=>
   intro hk;obtain⟨h1,h2⟩:=ih (by omega);show qa (iO iN bB cm n p k _)∧GN (iO iN bB cm n p k _)=lf _ _ k _;rw[← h2];generalize gC (iO iN bB cm n p) k dB=r at*;obtain⟨d1,_,d3⟩:=Pm h1 h1;obtain⟨a1,_,a3⟩:=Pm d1 hp;unfold iO lf;rw[gq,DR hn (by omega)]
   cases Pp (bZ n).toNat (255-k)
   ·exact⟨d1,d3⟩
   ·refine⟨a1,?_⟩;rw[if_pos rfl,← d3];exact a3
 exact key 256 (by omega)
end Go.Proofs.YtnbkagglkajbkaaGreat
namespace Go.Proofs.YtnbkagglkajbkaaGreat
open Go Go.Ev BJ Go.Proofs.Tryz
open Go.IntKind (i64 signed u16 u64 wrap)
theorem vl(x y:Fe):∀ (l:List (Nat×Nat)) (r:List (Int×Int)),(∀k,0≤(r.getD k (0,0)).2∧(r.getD k (0,0)).2<18446744073709551616)→∀p∈(gP bn bt x y l r).2,p
 | [],r,_,p,hp=>by simp[gP]at hp
 |(i,j)::l,r,hr,p,hp=>by
  have Ir:(gP bn bt x y ((i,j)::l) r).2=(0≤(bt (r.getD ((i+j)%5) (0,0)).2 (bn (fA x i j) (y.get j)).2 0).2∧(bt (r.getD ((i+j)%5) (0,0)).2 (bn (fA x i j) (y.get j)).2 0).2≤1)::
   (gP bn bt x y l (r.set ((i+j)%5) ((bt (r.getD ((i+j)%5) (0,0)).1 (bn (fA x i j) (y.get j)).1 (bt (r.getD ((i+j)%5) (0,0)).2 (bn (fA x i j) (y.get j)).2 0).2).1,(bt (r.getD ((i+j)%5) (0,0)).2 (bn (fA x i j) (y.get j)).2 0).1))).2:=rfl
  rw[Ir]at hp;have h0:=hr ((i+j)%5);generalize (r.getD ((i+j)%5) (0,0))=q at*
  have hm:0≤(bn (fA x i j) (y.get j)).2∧(bn (fA x i j) (y.get j)).2<18446744073709551616:=by
   show 0≤eA (fA x i j*y.get j)∧eA (fA x i j*y.get j)<18446744073709551616;unfold eA;rw[kG];omega
  have hs:=kI h0.1 hm.1 (c:=0) (by omega);rcases List.mem_cons.1 hp with rfl|hp
  ·rw[hs];show 0≤(q.2+(bn (fA x i j) (y.get j)).2+0)/18446744073709551616∧(q.2+(bn (fA x i j) (y.get j)).2+0)/18446744073709551616≤1;omega
  ·refine vl x y l _ (fun k=>?_) p hp
   have mG:∀ (v:Int×Int) (a k:Nat),(r.set a v).getD k (0,0)=r.getD k (0,0)∨(r.set a v).getD k (0,0)=v:=by
    intro v a k;simp only[List.getD_eq_getElem?_getD,List.getElem?_set]
    split
    ·split
     ·exact .inr rfl
     ·rename_i e h;subst e;left;rw[List.getElem?_eq_none (by omega)]
    ·exact .inl rfl
   rcases mG _ ((i+j)%5) k with e|e
   ·rw[e];exact hr k
   ·rw[e,hs];show 0≤(q.2+(bn (fA x i j) (y.get j)).2+0)%18446744073709551616∧(q.2+(bn (fA x i j) (y.get j)).2+0)%18446744073709551616<18446744073709551616;omega
def acO:Fe→Fe:=uY cx
end Go.Proofs.YtnbkagglkajbkaaGreat
namespace Go.Proofs.YtnbkagglkajbkaaGreat
open Go Go.Ev BJ Go.Proofs.Tryz
open Go.IntKind (i64 signed u16 u64 wrap)
end Go.Proofs.YtnbkagglkajbkaaGreat
namespace Go.Proofs.YtnbkagglkajbkaaGreat
open Go Go.Ev BJ Go.Proofs.Tryz
open Go.IntKind (i64 signed u16 u64 wrap)
end Go.Proofs.YtnbkagglkajbkaaGreat
namespace Go.Proofs.YtnbkagglkajbkaaGreat
open Go Go.Ev BJ Go.Proofs.Tryz
open Go.IntKind (i64 signed u16 u64 wrap)
set_option maxRecDepth 100000
theorem BD(a:F):0≤(a.val:Int)∧(a.val:Int)<(pp:Int):=⟨by omega,by have:=a.isLt;omega⟩
theorem an4(a:F):c6 (a.val:Int)=a:=xW (by rw[eL,Int.emod_eq_of_lt (BD a).1 (BD a).2])
end Go.Proofs.YtnbkagglkajbkaaGreat
end
