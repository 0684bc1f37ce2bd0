/- What the laws lean on, part 13: a reader of code, plain facts, and what each function gives; no conditions. -/
import Derived.Test.YtnbkagglkajbkaaGreatC12
set_option linter.unusedVariables false
set_option linter.unusedSimpArgs false
noncomputable section
namespace Go.Proofs.YtnbkagglkajbkaaGreat
open Go Go.Ev Go.Proofs.Tryz
open Go.IntKind (i64 signed u16 u64 wrap)
set_option maxRecDepth 100000
abbrev Fe:=Vec Int 5
abbrev dY:=Vec Int 32
def ee(n:Int):Int:=u64.wrap n
def dA(a b:Int):Int:=aM .u64 a b
def bz(a b:Int):Int:=shr .u64 a b
def C4:Int:=2251799813685247
def cg(x:Fe):Fe:=
 (ee (dA x.1 C4+ee (bz x.2.2.2.2.1 51*19)),
  ee (dA x.2.1 C4+bz x.1 51),
  ee (dA x.2.2.1 C4+bz x.2.1 51),
  ee (dA x.2.2.2.1 C4+bz x.2.2.1 51),
  ee (dA x.2.2.2.2.1 C4+bz x.2.2.2.1 51),())
def a7(n:Int):Fe:=(dA n C4,bz n 51,0,0,0,())
def Uj(carry:Fe→Fe)(x y:Fe):Fe:=carry (Vec.zip (fun a b=>ee (a+b)) x y)
def Kv(carry:Fe→Fe)(x y:Fe):Fe:=carry (Vec.zip (fun a b=>ee (a-b)) (Vec.zip (fun a b=>ee (a+b)) x (4503599627370458,4503599627370494,4503599627370494,4503599627370494,4503599627370494,())) y)
def dX:Fe:=(0,0,0,0,0,())
def qF: {n:Nat}→Vec Int n→Vec Int n→Bool
 |0,_,_=>true
 |_+1,v,u=>(v.1==u.1)&&qF v.2 u.2
theorem nk: {n:Nat}→(v u:Vec Int n)→(qF v u=true↔v=u)
 |0,_,_=>⟨fun _=>rfl,fun _=>rfl⟩
 |n+1,v,u=>by
  simp only[qF,Bool.and_eq_true,beq_iff_eq,nk v.2 u.2];exact⟨fun h=>Prod.ext h.1 h.2,fun h=>by rw[h];exact⟨rfl,rfl⟩⟩
def afD(bytes:Fe→dY)(x:Fe):Bool:=aM .u8 (bytes x).1 1==1
def ub(carry:Fe→Fe)(x:Fe):Fe:=
 let y:=carry x
 let c:=bz (ee (y.1+19)) 51
 let c:=bz (ee (y.2.1+c)) 51
 let c:=bz (ee (y.2.2.1+c)) 51
 let c:=bz (ee (y.2.2.2.1+c)) 51
 let c:=bz (ee (y.2.2.2.2.1+c)) 51
 let c:=ee (c*19)
 let c0:=ee (c+y.1)
 let c1:=ee (bz c0 51+y.2.1)
 let c2:=ee (bz c1 51+y.2.2.1)
 let c3:=ee (bz c2 51+y.2.2.2.1)
 let c4:=ee (bz c3 51+y.2.2.2.2.1)
 (dA c0 C4,dA c1 C4,dA c2 C4,dA c3 C4,dA c4 C4,())
end Go.Proofs.YtnbkagglkajbkaaGreat
namespace Go.Proofs.YtnbkagglkajbkaaGreat
open Go Go.Ev Go.Proofs.Tryz
open Go.IntKind (i64 signed u16 u64 wrap)
set_option maxRecDepth 1000000
def Qq(y:Fe):dY:=Vec.ofFn 32 fun j=>(List.range (if j=31 then 7 else 8)).foldl
 (fun acc i=>bC .u8 acc (shl .u8 (IntKind.u8.wrap (dA (bz (y.get ((8*j+i)/51)) (((8*j+i)%51:Nat):Int)) 1)) (i:Int))) 0
def word(b:dY)(j:Nat):Int:=(List.range 8).foldl (fun acc i=>bC .u64 acc (shl .u64 (ee (b.get (8*j+i))) (8*i:Nat))) 0
def nm(b:dY):Fe:=
 (dA (word b 0) C4,dA (bC .u64 (bz (word b 0) 51) (shl .u64 (word b 1) 13)) C4,dA (bC .u64 (bz (word b 1) 38) (shl .u64 (word b 2) 26)) C4,
  dA (bC .u64 (bz (word b 2) 25) (shl .u64 (word b 3) 39)) C4,dA (bz (word b 3) 12) C4,())
def Vec.nV{α:Type}(f:α→α): {n:Nat}→Nat→Vec α n→Vec α n
 |0,_,_=>()
 |_+1,0,v=>(f v.1,v.2)
 |_+1,i+1,v=>(v.1,Vec.nV f i v.2)
def bm(x y:Int):Int×Int:=
 let x0:=dA x 4294967295
 let x1:=bz x 32
 let y0:=dA y 4294967295
 let y1:=bz y 32
 let t:=ee (ee (x1*y0)+bz (ee (x0*y0)) 32)
 let w1:=ee (dA t 4294967295+ee (x0*y1))
 (ee (ee (ee (x1*y1)+bz t 32)+bz w1 32),ee (x*y))
def uc:List Prop→Option Prop
 | []=>none
 |p::l=>aCa p (uc l)
noncomputable section
variable (m64:Int→Int→Int×Int) (a64:Int→Int→Int→Int×Int)
def gw(x y:Fe):List (Nat×Nat)→List (Int×Int)→List (Int×Int)×List Prop
 | [],r=>(r,[])
 |(i,j)::l,r=>
  let a:=if i+j<5 then x.get i else ee (x.get i*19)
  let p:=r.getD ((i+j)%5) (0,0)
  let m:=m64 a (y.get j)
  let s:=a64 p.2 m.2 0
  let t:=a64 p.1 m.1 s.2
  let z:=gw x y l (r.set ((i+j)%5) (t.1,s.1))
  (z.1,(0≤s.2∧s.2≤1)::z.2)
def fy:List (Nat×Nat):= [(0,0),(0,1),(0,2),(0,3),(0,4),(1,0),(1,1),(1,2),(1,3),(1,4),(2,0),(2,1),(2,2),(2,3),(2,4),(3,0),(3,1),(3,2),(3,3),(3,4),(4,0),(4,1),(4,2),(4,3),(4,4)]
def Ax(x y:Fe):List Prop:=(gw m64 a64 x y fy [(0,0),(0,0),(0,0),(0,0),(0,0)]).2
def rE(carry:Fe→Fe)(x y:Fe):Fe:=
 let r:=(gw m64 a64 x y fy [(0,0),(0,0),(0,0),(0,0),(0,0)]).1
 let lo (i:Nat):=dA (r.getD i (0,0)).2 C4
 let c (i:Nat):=bC .u64 (shl .u64 (r.getD i (0,0)).1 13) (bz (r.getD i (0,0)).2 51)
 carry (ee (ee (0+lo 0)+ee (c 4*19)),ee (ee (0+c 0)+lo 1),ee (ee (0+c 1)+lo 2),ee (ee (0+c 2)+lo 3),ee (ee (0+c 3)+lo 4),())
end
end Go.Proofs.YtnbkagglkajbkaaGreat
namespace Go.Proofs.YtnbkagglkajbkaaGreat
open Go Go.Ev Go.Proofs.Tryz
open Go.IntKind (i64 signed u16 u64 wrap)
set_option maxRecDepth 1000000
def bW(lo hi:Int):dY:=Vec.ofFn 32 fun j=>if j=0 then lo else if j=31 then hi else 255
def dB(b:Bool): {n:Nat}→Vec Int n→Vec Int n→Vec Int n
 |0,_,_=>()
 |_+1,v,u=>(bif b then v.1 else u.1,dB b v.2 u.2)
theorem bE: {n:Nat}→(b:Bool)→(v u:Vec Int n)→dB b v u=bif b then v else u
 |0,b,v,u=>by cases b<;>rfl
 |n+1,b,v,u=>by
  show((bif b then v.1 else u.1),dB b v.2 u.2)=_;rw[bE b v.2 u.2]
  cases b<;>rfl
theorem C5{n:Nat}(b:Bool)(v:Vec Int n):dB b v v=v:=by rw[bE];cases b<;>rfl
def C6(e:dY)(i:Nat):Bool:=aM .u8 (shr .u8 (e.get (i/8)) ((i%8:Nat):Int)) 1==1
noncomputable section
variable (small:Int→Fe) (oU:Fe→Fe) (mul:Fe→Fe→Fe)
def fQ(x:Fe)(e:dY)(k:Nat)(r:Fe):Fe:=dB (C6 e (255-k)) (mul (oU r) x) (oU r)
def apK(x:Fe)(e:dY):Fe:=eQ (fQ oU mul x e) 256 (small 1)
end
noncomputable section
variable (pow:Fe→dY→Fe) (exp:Int→Int→dY) (mul:Fe→Fe→Fe) (oU neg:Fe→Fe) (small:Int→Fe) (equal:Fe→Fe→Bool) (C7 isZero:Fe→Bool) (invert:Fe→Fe)
def Ay(x:Fe):Fe×Bool:=
 let r:=pow x (exp 254 15)
 let r1:=dB (!(equal (oU r) x)) (mul r (pow (small 2) (exp 251 31))) r
 let bad:= !(equal (oU r1) (dB (!(equal (oU r) x)) x x))
 (dB bad dX (dB (C7 r1) (neg r1) r1),bif bad then false else true)
end
end Go.Proofs.YtnbkagglkajbkaaGreat
namespace Go.Proofs.YtnbkagglkajbkaaGreat
open Go Go.Ev Go.Proofs.Tryz
open Go.IntKind (i64 signed u16 u64 wrap)
set_option maxRecDepth 1000000
abbrev Pt:=Bool×Fe×Fe×Fe×Fe
def Uk(b:Bool)(p q:Pt):Pt:=(bif b then p.1 else q.1,dB b p.2.1 q.2.1,dB b p.2.2.1 q.2.2.1,dB b p.2.2.2.1 q.2.2.2.1,dB b p.2.2.2.2 q.2.2.2.2)
theorem ud(b:Bool)(p q:Pt):Uk b p q=bif b then p else q:=by
 unfold Uk;rw[bE,bE,bE,bE];cases b<;>rfl
noncomputable section
variable (mul add sub:Fe→Fe→Fe) (oU neg invert:Fe→Fe) (small:Int→Fe) (isZero C7:Fe→Bool) (sqrt:Fe→Fe×Bool) (ratio:Fe→Fe→Fe×Bool) (frm:dY→Fe) (bytes:Fe→dY)
 (XJ:dY→Bool) (equal:Fe→Fe→Bool) (XK:Fe) (zero:Pt) (own:Pt→Pt) (aCn:Fe→Fe→Pt) (root:Fe→Fe×Bool) (place:Pt→Fe×Fe) (Ul:Fe→Fe→Fe→Fe→Pt) (afE:Pt→Pt→Pt)
def mH:dY:=(0xa3,0x78,0x59,0x13,0xca,0x4d,0xeb,0x75,0xab,0xd8,0x41,0x41,0x4d,0x0a,0x70,0x00,0x98,0xe8,0x79,0x77,0x79,0x40,0xc7,0x8c,0x73,0xfe,0x6f,0x2b,0xee,0x6c,0x03,0x52,())
def afF(x y:Fe):Pt:=(true,x,y,small 1,mul x y)
def afG(p:Pt):Pt:=Uk (!p.1) zero p
def alz(p:Pt):Fe×Fe:=(mul (own p).2.1 (invert (own p).2.2.2.1),mul (own p).2.2.1 (invert (own p).2.2.2.1))
def Az(p:Pt):dY:=
 let b:=bytes (place p).2
 dB (C7 (place p).1) (Vec.nV (fun x=>bC .u8 x 128) 31 b) b
def alA(e f g h:Fe):Pt:=(true,mul e f,mul g h,mul f g,mul e h)
def addFn(p0 q0:Pt):Pt:=
 let p:=own p0
 let q:=own q0
 let a:=mul (sub p.2.2.1 p.2.1) (sub q.2.2.1 q.2.1)
 let b:=mul (add p.2.2.1 p.2.1) (add q.2.2.1 q.2.1)
 let c:=mul (mul p.2.2.2.2 q.2.2.2.2) XK
 let c:=add c c
 let d:=mul p.2.2.2.1 q.2.2.2.1
 let d:=add d d
 Ul (sub b a) (sub d c) (add d c) (add b a)
end
end Go.Proofs.YtnbkagglkajbkaaGreat
namespace Go.Ev
open Go
open Go.IntKind (i64 signed u16 u64 wrap)
end Go.Ev
namespace Go.Proofs.YtnbkagglkajbkaaGreat
open Go Go.Ev Go.Proofs.Tryz
open Go.IntKind (i64 signed u16 u64 wrap)
set_option maxRecDepth 1000000
def mI(b:dY)(k:Nat):Int:=i64.wrap (aM .u8 (shr .u8 (b.get (k/8)) ((k%8:Nat):Int)) 1)
noncomputable section
variable (bit:dY→Nat→Int) (zero base:Pt) (double:Pt→Pt) (afE:Pt→Pt→Pt)
def ic(n:dY)(p:Pt)(k:Nat)(r:Pt):Pt:=Uk (bit n (255-k)==1) (afE (double r) p) (double r)
def afH(n:dY)(p:Pt):Pt:=eQ (ic bit double afE n p) 256 zero
end
end Go.Proofs.YtnbkagglkajbkaaGreat
namespace Go.Proofs.YtnbkagglkajbkaaGreat
open Go Go.Ev Go.Proofs.Tryz
open Go.IntKind (i64 signed u16 u64 wrap)
set_option maxRecDepth 1000000
abbrev Fn:=Vec Int 16
def w(n:Int):Int:=i64.wrap n
def cZ(n m:Int):Int:=aM .i64 n m
def down(n m:Int):Int:=shr .i64 n m
def dE:Fn:=(65517,65535,65535,65535,65535,65535,65535,65535,65535,65535,65535,65535,65535,65535,65535,32767,())
def cy:Fn:=(0,0,0,0,0,0,0,0,0,0,0,0,0,0,0,0,())
def ie(a b:Fn):Nat→Bool
 |0=>false
 |k+1=>bif a.get k !=b.get k then decide (a.get k<b.get k)else ie a b k
def gI: {n:Nat}→Int→Vec Int n→Vec Int (n+1)
 |0,x,_=>(x,())
 |_+1,x,v=>(cZ x 65535,gI (w (v.1+down x 16)) v.2)
def ck(t:Fn):Fn:=gI t.1 t.2
def ef(t:Fn):Fn:=(w (t.1+w (19*down (t.get 15) 15)),(Vec.nV (fun x=>cZ x 32767) 15 t).2)
noncomputable section
variable (dI:Fn) (below:Fn→Fn→Bool) (norm:Fn→Fn)
def apL(t:Fn):Fn:=
 let r:=ck (ef (ck (ef (ck (ef (ck (ef (ck t))))))))
 dB (!(below r dI)) (ck (Vec.zip (fun a b=>w (a-b)) r dI)) r
def bq(n:Int):Fn:=Vec.ofFn 16 fun i=>if i<4 then w (dA (bz n ((16*i:Nat):Int)) 65535)else 0
def oV(x:Fn):dY:=Vec.ofFn 32 fun i=>if i%2=0 then IntKind.u8.wrap (cZ (x.get (i/2)) 255)else IntKind.u8.wrap (down (x.get (i/2)) 8)
def asl(x y:Fn):Fn:=norm (Vec.zip (fun a b=>w (a+b)) x y)
def asm(x y:Fn):Fn:=norm (Vec.zip (fun a b=>w (a-b)) (Vec.zip (fun a b=>w (a+b)) x dI) y)
def ue(x y:Fn)(j:Nat):Int:=(List.range 16).foldl (fun acc i=>if i≤j∧j-i<16 then w (acc+w (x.get i*y.get (j-i)))else acc) 0
def asn(x y:Fn):Fn:=norm (Vec.ofFn 16 fun i=>w (ue x y i+w (38*ue x y (i+16))))
def qG(x:Fn):Bool:=x.1.tmod 2==1
end
end Go.Proofs.YtnbkagglkajbkaaGreat
namespace Go.Proofs.YtnbkagglkajbkaaGreat
open Go Go.Ev Go.Proofs.Tryz
open Go.IntKind (i64 signed u16 u64 wrap)
set_option maxRecDepth 1000000
def lO(b:dY)(k:Nat):Int:=aM .i64 (i64.wrap (shr .u8 (b.get (k/8)) ((k%8:Nat):Int))) 1
abbrev Pn:=Fn×Fn×Fn×Fn
def Um(b:Bool)(p q:Pn):Pn:=(dB b p.1 q.1,dB b p.2.1 q.2.1,dB b p.2.2.1 q.2.2.1,dB b p.2.2.2 q.2.2.2)
theorem Kw(b:Bool)(p q:Pn):Um b p q=bif b then p else q:=by
 unfold Um;rw[bE,bE,bE,bE];cases b<;>rfl
noncomputable section
variable (bit:dY→Nat→Int) (small:Int→Fn) (mul add sub:Fn→Fn→Fn) (neg invert:Fn→Fn) (C7:Fn→Bool) (pow:Fn→dY→Fn) (sqrt:Fn→Fn×Bool) (ratio:Fn→Fn→Fn×Bool) (XK:Fn)
 (frm:dY→Fn) (bytes:Fn→dY) (XJ:dY→Bool) (zero:Pn) (ofp:Fn→Fn→Pn) (xOf:Fn→Fn×Bool) (Kx:Pn→Pn→Fn→Pn)
def mJ(x:Fn)(e:dY)(k:Nat)(r:Fn):Fn:=dB (bit e (255-k)==1) (mul (mul r r) x) (mul r r)
def afI(x:Fn)(e:dY):Fn:=eQ (mJ bit mul x e) 256 (small 1)
def uf(x:Fn):Fn×Bool:=
 let r:=pow x (bW 254 15)
 let b1:= !(qF (mul r r) x)
 let r1:=dB b1 (mul r (pow (small 2) (bW 251 31))) r
 let bad:= !(qF (mul r1 r1) (dB b1 x x))
 (dB bad cy (dB (C7 r1) (neg r1) r1),bif bad then false else true)
def Ky(u v:Fn):Fn×Bool:=(dB (qF v cy) cy (sqrt (mul u (invert v))).1,bif qF v cy then qF u cy else(sqrt (mul u (invert v))).2)
def Qr:Pn:=(cy,small 1,small 1,cy)
def aso(x y:Fn):Pn:=(x,y,small 1,mul x y)
def afJ(y:Fn):Fn×Bool:=ratio (sub (mul y y) (small 1)) (add (mul XK (mul y y)) (small 1))
def GQ:Pn:=ofp (xOf (mul (small 4) (invert (small 5)))).1 (mul (small 4) (invert (small 5)))
def vZ(p:Pn):dY:=
 let z:=invert p.2.2.1
 let b:=bytes (mul p.2.1 z)
 dB (C7 (mul p.1 z)) (Vec.nV (fun x=>IntKind.u8.wrap (x+128)) 31 b) b
def xZ(p q:Pn)(dd:Fn):Pn:=
 let a:=mul (sub p.2.1 p.1) (sub q.2.1 q.1)
 let b:=mul (add p.2.1 p.1) (add q.2.1 q.1)
 let c:=mul (mul p.2.2.2 q.2.2.2) dd
 let d:=mul (add p.2.2.1 p.2.2.1) q.2.2.1
 let e:=sub b a
 let f:=sub d c
 let g:=add d c
 let h:=add b a
 (mul e f,mul g h,mul f g,mul e h)
end
end Go.Proofs.YtnbkagglkajbkaaGreat
namespace BJ
def cC(n:Int):F:=⟨(n%(pp:Int)).toNat,by
 have h1:0≤n%(pp:Int):=Int.emod_nonneg _ (by decide);have h2:n%(pp:Int)<(pp:Int):=Int.emod_lt_of_pos _ (by decide);omega⟩
theorem eH(n:Int):((cC n).val:Int)=n%(pp:Int):=Int.toNat_of_nonneg (Int.emod_nonneg _ (by decide))
theorem w5{a b:F}(h:(a.val:Int)=b.val):a=b:=Fin.ext (Int.ofNat_inj.1 h)
theorem Un{a b:Int}:cC a=cC b↔a%(pp:Int)=b%(pp:Int):=by
 constructor
 ·intro h;rw[← eH,← eH,h]
 ·intro h;exact w5 (by rw[eH,eH,h])
theorem gM(a b:Int):cC (a+b)=cC a+cC b:=by
 apply w5
 rw[eH,Fin.val_add,Int.natCast_emod,Int.natCast_add,eH,eH,← Int.add_emod]
theorem j3(a b:Int):cC (a*b)=cC a*cC b:=by
 apply w5
 rw[eH,Fin.val_mul,Int.natCast_emod,Int.natCast_mul,eH,eH,← Int.mul_emod]
theorem Kz:cC 0=0:=by apply w5;rw[eH];decide
theorem x5:cC 1=1:=by apply w5;rw[eH];decide
theorem Uo(a b:Int):cC (a-b)=cC a-cC b:=by
 have h:cC (a-b)+cC b=cC a:=by rw[← gM];congr 1;omega
 grobner
theorem AA(a k:Int):cC (a+k*(pp:Int))=cC a:=Un.2 (Int.add_mul_emod_self_right _ _ _)
end BJ
namespace Go.Proofs.YtnbkagglkajbkaaGreat
open Go Go.Ev BJ Go.Proofs.Tryz
open Go.IntKind (i64 signed u16 u64 wrap)
def C8(a b c d e:Int):Fe:=(a,b,c,d,e,())
def uR(n:Int):Prop:=0≤n∧n<18446744073709551616
def KA(n:Int):Prop:=0≤n∧n<2251799813947392
def U5(x:Fe):Prop:=uR x.1∧uR x.2.1∧uR x.2.2.1∧uR x.2.2.2.1∧uR x.2.2.2.2.1
def fJ(x:Fe):Prop:=KA x.1∧KA x.2.1∧KA x.2.2.1∧KA x.2.2.2.1∧KA x.2.2.2.2.1
def fA(x:Fe):Int:=x.1+x.2.1*2251799813685248+x.2.2.1*5070602400912917605986812821504+x.2.2.2.1*11417981541647679048466287755595961091061972992+x.2.2.2.2.1*25711008708143844408671393477458601640355247900524685364822016
def fe(x:Fe):F:=cC (fA x)
theorem ug(x:Int):dA x C4=x%2251799813685248:=by
 have:=pN (m:=51) (by decide) x C4 (by decide);simpa [dA]using this
theorem GR(x:Int):bz x 51=x/2251799813685248:=by
 have:=cz .u64 x 51 (by decide);simpa [bz]using this
theorem XM{x:Fe}(h:U5 x):fJ (cg x)∧∃k,fA (cg x)=fA x+k*(pp:Int):=by
 obtain⟨x0,x1,x2,x3,x4,u⟩:=x;obtain⟨h0,h1,h2,h3,h4⟩:=h;simp only[uR]at h0 h1 h2 h3 h4
 have e:cg (x0,x1,x2,x3,x4,u)=C8 (x0%2251799813685248+x4/2251799813685248*19) (x1%2251799813685248+x0/2251799813685248) (x2%2251799813685248+x1/2251799813685248)
   (x3%2251799813685248+x2/2251799813685248) (x4%2251799813685248+x3/2251799813685248):=by
  simp only[cg,ug,GR,ee];rw[wrap_u64 (n:=x4/2251799813685248*19) (by omega) (by omega)];rw[wrap_u64 (by omega) (by omega),wrap_u64 (by omega) (by omega),wrap_u64 (by omega) (by omega),wrap_u64 (by omega) (by omega),wrap_u64 (by omega) (by omega)];rfl
 rw[e];refine⟨?_,-(x4/2251799813685248),?_⟩
 ·simp only[fJ,KA,C8];omega
 ·simp only[fA,pp,C8];omega
theorem uh{x:Fe}(h:U5 x):fJ (cg x)∧fe (cg x)=fe x:=by
 obtain⟨h1,k,h2⟩:=XM h;exact⟨h1,by unfold fe;rw[h2,AA]⟩
theorem asp{x y:Fe}(hx:fJ x)(hy:fJ y):fJ (Uj cg x y)∧fe (Uj cg x y)=fe x+fe y:=by
 obtain⟨x0,x1,x2,x3,x4,u⟩:=x;obtain⟨y0,y1,y2,y3,y4,v⟩:=y;simp only[fJ,KA]at hx hy
 have e:Vec.zip (n:=5) (fun a b=>ee (a+b)) (x0,x1,x2,x3,x4,u) (y0,y1,y2,y3,y4,v)=C8 (x0+y0) (x1+y1) (x2+y2) (x3+y3) (x4+y4):=by
  show(ee (x0+y0),ee (x1+y1),ee (x2+y2),ee (x3+y3),ee (x4+y4),())=_;simp only[ee];rw[wrap_u64 (by omega) (by omega),wrap_u64 (by omega) (by omega),wrap_u64 (by omega) (by omega),wrap_u64 (by omega) (by omega),wrap_u64 (by omega) (by omega)];rfl
 unfold Uj;rw[e];obtain⟨h1,h2⟩:=uh (x:=C8 (x0+y0) (x1+y1) (x2+y2) (x3+y3) (x4+y4)) (by simp only[U5,uR,C8];omega);refine⟨h1,?_⟩;rw[h2];unfold fe;rw[← gM]
 congr 1
 simp only[fA,C8];omega
theorem afK{x y:Fe}(hx:fJ x)(hy:fJ y):fJ (Kv cg x y)∧fe (Kv cg x y)=fe x-fe y:=by
 obtain⟨x0,x1,x2,x3,x4,u⟩:=x;obtain⟨y0,y1,y2,y3,y4,v⟩:=y;simp only[fJ,KA]at hx hy
 have e:Vec.zip (n:=5) (fun a b=>ee (a-b)) (Vec.zip (n:=5) (fun a b=>ee (a+b)) (x0,x1,x2,x3,x4,u) (4503599627370458,4503599627370494,4503599627370494,4503599627370494,4503599627370494,())) (y0,y1,y2,y3,y4,v)=
   C8 (x0+4503599627370458-y0) (x1+4503599627370494-y1) (x2+4503599627370494-y2) (x3+4503599627370494-y3) (x4+4503599627370494-y4):=by
  show(ee (ee (x0+4503599627370458)-y0),ee (ee (x1+4503599627370494)-y1),ee (ee (x2+4503599627370494)-y2),ee (ee (x3+4503599627370494)-y3),ee (ee (x4+4503599627370494)-y4),())=_;simp only[ee];rw[wrap_u64 (n:=x0+4503599627370458) (by omega) (by omega),wrap_u64 (n:=x1+4503599627370494) (by omega) (by omega),wrap_u64 (n:=x2+4503599627370494) (by omega) (by omega),wrap_u64 (n:=x3+4503599627370494) (by omega) (by omega),wrap_u64 (n:=x4+4503599627370494) (by omega) (by omega)];rw[wrap_u64 (by omega) (by omega),wrap_u64 (by omega) (by omega),wrap_u64 (by omega) (by omega),wrap_u64 (by omega) (by omega),wrap_u64 (by omega) (by omega)];rfl
 unfold Kv;rw[e];obtain⟨h1,h2⟩:=uh (x:=C8 (x0+4503599627370458-y0) (x1+4503599627370494-y1) (x2+4503599627370494-y2) (x3+4503599627370494-y3) (x4+4503599627370494-y4)) (by simp only[U5,uR,C8];omega);refine⟨h1,?_⟩;rw[h2];unfold fe;rw[← Uo,← AA (fA (x0,x1,x2,x3,x4,u)-_) 2]
 congr 1
 simp only[fA,pp,C8];omega
theorem jb:fJ dX∧fe dX=0:=by
 refine⟨by simp[fJ,KA,dX],?_⟩;rw[← Kz];rfl
theorem C9{a b:Int}(ha:uR a)(hb:uR b):bm a b=(a*b/18446744073709551616,a*b%18446744073709551616):=by
 simp only[uR]at ha hb
 have e0:∀x,dA x 4294967295=x%4294967296:=fun x=>by
  have:=pN (m:=32) (by decide) x 4294967295 (by decide);simpa [dA]using this
 have e1:∀x,bz x 32=x/4294967296:=fun x=>by
  have:=cz .u64 x 32 (by decide);simpa [bz]using this
 obtain⟨a0,a1,ha0,ha1,rfl⟩:∃a0 a1:Int,a%4294967296=a0∧a/4294967296=a1∧a=a1*4294967296+a0:=⟨_,_,rfl,rfl,by omega⟩;obtain⟨b0,b1,hb0,hb1,rfl⟩:∃b0 b1:Int,b%4294967296=b0∧b/4294967296=b1∧b=b1*4294967296+b0:=⟨_,_,rfl,rfl,by omega⟩
 have rP:∀ {p q:Int},0≤p→p≤4294967295→0≤q→q≤4294967295→0≤p*q∧p*q≤18446744065119617025:=fun {p q} h1 h2 h3 h4=>
  ⟨Int.mul_nonneg h1 h3,Int.le_trans (Int.mul_le_mul h2 h4 h3 (by decide)) (by decide)⟩
 have M4:=rP (p:=a0) (q:=b0) (by omega) (by omega) (by omega) (by omega);have h01:=rP (p:=a0) (q:=b1) (by omega) (by omega) (by omega) (by omega);have Z0:=rP (p:=a1) (q:=b0) (by omega) (by omega) (by omega) (by omega);have h11:=rP (p:=a1) (q:=b1) (by omega) (by omega) (by omega) (by omega);have hab:(a1*4294967296+a0)*(b1*4294967296+b0)=a1*b1*18446744073709551616+(a1*b0+a0*b1)*4294967296+a0*b0:=by grind
 simp only[bm,e0,e1,ha0,ha1,hb0,hb1,ee];rw[hab];generalize a0*b0=p00 at*;generalize a0*b1=p01 at*;generalize a1*b0=p10 at*;generalize a1*b1=p11 at*;rw[wrap_u64 (n:=p00) (by omega) (by omega),wrap_u64 (n:=p10) (by omega) (by omega),wrap_u64 (n:=p01) (by omega) (by omega),wrap_u64 (n:=p11) (by omega) (by omega)];rw[wrap_u64 (n:=p10+p00/4294967296) (by omega) (by omega)];rw[wrap_u64 (n:=(p10+p00/4294967296)%4294967296+p01) (by omega) (by omega)];rw[wrap_u64 (n:=p11+(p10+p00/4294967296)/4294967296) (by omega) (by omega)];rw[mr,mr];refine Prod.ext ?_ ?_
 ·show _=_/_;omega
 ·show _=_%_;omega
end Go.Proofs.YtnbkagglkajbkaaGreat
namespace Go.Proofs.YtnbkagglkajbkaaGreat
open Go Go.Ev BJ Go.Proofs.Tryz
open Go.IntKind (i64 signed u16 u64 wrap)
theorem j9{x y c:Int}(hx:0≤x)(hy:0≤y)(hc:0≤c):bo x y c=((x+y+c)%18446744073709551616,(x+y+c)/18446744073709551616):=by
 obtain⟨a,rfl⟩:=Int.eq_ofNat_of_zero_le hx;obtain⟨b,rfl⟩:=Int.eq_ofNat_of_zero_le hy;obtain⟨d,rfl⟩:=Int.eq_ofNat_of_zero_le hc;simp only[bo,Int.toNat_natCast];refine Prod.ext ?_ ?_
 ·show(((a+b+d)%2 ^ 64:Nat):Int)=_;omega
 ·show(((a+b+d)/2 ^ 64:Nat):Int)=_;omega
def OkP(p:Int×Int):Prop:=0≤p.2∧p.2<18446744073709551616∧0≤p.1
def pv(p:Int×Int):Int:=p.1*18446744073709551616+p.2
def fg(x:Fe)(i j:Nat):Int:=if i+j<5 then x.get i else ee (x.get i*19)
def oW(x y:Fe)(k:Nat):List (Nat×Nat)→Int
 | []=>0
 |(i,j)::l=>(if(i+j)%5=k then fg x i j*y.get j else 0)+oW x y k l
theorem Da{x y:Fe}(hc:∀i j,i<5→j<5→0≤fg x i j∧fg x i j<72057594037927936)(hy:∀j,j<5→0≤y.get j∧y.get j<4503599627370496):
  ∀ (l:List (Nat×Nat)) (r:List (Int×Int)) (B:Int),(∀p∈l,p.1<5∧p.2<5)→r.length=5→(∀k,k<5→OkP (r.getD k (0,0))∧pv (r.getD k (0,0))≤B)→
   B+l.length*324518553658426726783156020576256<340282366920938463463374607431768211456→
   (∀k,k<5→OkP ((gw bm bo x y l r).1.getD k (0,0))∧pv ((gw bm bo x y l r).1.getD k (0,0))=pv (r.getD k (0,0))+oW x y k l)∧
   ∀p∈(gw bm bo x y l r).2,p
 | [],r,B,_,hl,hr,_=>⟨fun k hk=>⟨(hr k hk).1,by simp[gw,oW]⟩,fun p hp=>by simp[gw]at hp⟩
 |(i,j)::l,r,B,hm,hl,hr,hB=>by
  obtain⟨hi,hj⟩:=hm (i,j) (by simp);obtain⟨c0,c1⟩:=hc i j hi hj;obtain⟨y0,y1⟩:=hy j hj;have hkk:(i+j)%5<5:=Nat.mod_lt _ (by decide);obtain⟨⟨p0,p1,p2⟩,p3⟩:=hr _ hkk
  have hpr:0≤fg x i j*y.get j∧fg x i j*y.get j≤324518553658426726783156020576256:=⟨Int.mul_nonneg c0 y0,by
   have:=Int.mul_le_mul (a:=fg x i j) (b:=y.get j) (c:=72057594037927936) (d:=4503599627370496) (by omega) (by omega) (by omega) (by omega);omega⟩
  have hcB:0≤(l.length:Int):=by omega
  simp only[List.length_cons,Int.natCast_add]at hB;have hmul:=C9 (a:=fg x i j) (b:=y.get j) ⟨c0,by omega⟩ ⟨y0,by omega⟩;generalize hab:fg x i j*y.get j=ab at hpr hmul;generalize hpe:r.getD ((i+j)%5) (0,0)=p at p0 p1 p2 p3;unfold pv at p3
  have hs:bo p.2 (bm (fg x i j) (y.get j)).2 0=((p.2+ab%18446744073709551616+0)%18446744073709551616,(p.2+ab%18446744073709551616+0)/18446744073709551616):=by
   rw[hmul];exact j9 p0 (by show 0≤ab%18446744073709551616;omega) (by omega)
  have ht:bo p.1 (bm (fg x i j) (y.get j)).1 (bo p.2 (bm (fg x i j) (y.get j)).2 0).2=((p.1+ab/18446744073709551616+(p.2+ab%18446744073709551616+0)/18446744073709551616)%18446744073709551616,
    (p.1+ab/18446744073709551616+(p.2+ab%18446744073709551616+0)/18446744073709551616)/18446744073709551616):=by
   rw[hs,hmul];exact j9 p2 (by show 0≤ab/18446744073709551616;omega) (by show 0≤(p.2+ab%18446744073709551616+0)/18446744073709551616;omega)
  have Iy:gw bm bo x y ((i,j)::l) r=((gw bm bo x y l (r.set ((i+j)%5) ((bo p.1 (bm (fg x i j) (y.get j)).1 (bo p.2 (bm (fg x i j) (y.get j)).2 0).2).1,(bo p.2 (bm (fg x i j) (y.get j)).2 0).1))).1,
    (0≤(bo p.2 (bm (fg x i j) (y.get j)).2 0).2∧(bo p.2 (bm (fg x i j) (y.get j)).2 0).2≤1)::(gw bm bo x y l (r.set ((i+j)%5) ((bo p.1 (bm (fg x i j) (y.get j)).1 (bo p.2 (bm (fg x i j) (y.get j)).2 0).2).1,(bo p.2 (bm (fg x i j) (y.get j)).2 0).1))).2):=by
   rw[← hpe];rfl
  rw[Iy,ht,hs]
  have lY:∀ (v:Int×Int) k,k<5→(r.set ((i+j)%5) v).getD k (0,0)=if(i+j)%5=k then v else r.getD k (0,0):=by
   intro v k hk;simp only[List.getD_eq_getElem?_getD,List.getElem?_set]
   split
   ·rename_i e;subst e;simp[hl,hkk]
   ·rfl
  obtain⟨h1,h2⟩:=Da hc hy l (r.set ((i+j)%5) ((p.1+ab/18446744073709551616+(p.2+ab%18446744073709551616+0)/18446744073709551616)%18446744073709551616,(p.2+ab%18446744073709551616+0)%18446744073709551616))
   (B+324518553658426726783156020576256) (fun p hp=>hm p (by simp[hp])) (by simpa using hl) (fun k hk=>by
    rw[lY _ k hk]
    split
    ·refine⟨⟨?_,?_,?_⟩,?_⟩
     ·show 0≤(p.2+ab%18446744073709551616+0)%18446744073709551616;omega
     ·show(p.2+ab%18446744073709551616+0)%18446744073709551616<_;omega
     ·show 0≤(p.1+ab/18446744073709551616+(p.2+ab%18446744073709551616+0)/18446744073709551616)%18446744073709551616;omega
     ·show(p.1+ab/18446744073709551616+(p.2+ab%18446744073709551616+0)/18446744073709551616)%18446744073709551616*18446744073709551616+(p.2+ab%18446744073709551616+0)%18446744073709551616≤_;omega
    ·exact⟨(hr k hk).1,by have:=(hr k hk).2;omega⟩) (by omega)
  refine⟨fun k hk=>?_,?_⟩
  ·obtain⟨h3,h4⟩:=h1 k hk;refine⟨h3,?_⟩;show pv _=_+((if(i+j)%5=k then fg x i j*y.get j else 0)+oW x y k l);rw[h4,lY _ k hk]
   split
   ·rename_i e;rw[← e,hpe,hab];simp only[pv];omega
   ·omega
  ·intro q hq;rcases List.mem_cons.1 hq with rfl|hq
   ·show 0≤(p.2+ab%18446744073709551616+0)/18446744073709551616∧(p.2+ab%18446744073709551616+0)/18446744073709551616≤1;omega
   ·exact h2 q hq
theorem qU:∀ {l:List Prop},(∀p∈l,p)→eT (uc l)
 | [],_=>trivial
 |p::l,h=>by
  have h1:=h p (by simp);have h2:=qU (l:=l) fun q hq=>h q (by simp[hq]);unfold uc
  cases hc:uc l with
  |none=>exact h1
  |some q=>rw[hc]at h2;exact⟨h1,h2⟩
theorem axu(x0 x1 x2 x3 x4:Int)(u:Vec Int 0):Vec.get (n:=5) (x0,x1,x2,x3,x4,u) 0=x0∧Vec.get (n:=5) (x0,x1,x2,x3,x4,u) 1=x1∧Vec.get (n:=5) (x0,x1,x2,x3,x4,u) 2=x2∧
  Vec.get (n:=5) (x0,x1,x2,x3,x4,u) 3=x3∧Vec.get (n:=5) (x0,x1,x2,x3,x4,u) 4=x4:=⟨rfl,rfl,rfl,rfl,rfl⟩
theorem KB{x:Fe}{Q:Int→Prop}(h0:Q x.1)(h1:Q x.2.1)(h2:Q x.2.2.1)(h3:Q x.2.2.2.1)(h4:Q x.2.2.2.2.1):∀i,i<5→Q (x.get i)
 |0,_=>h0
 |1,_=>h1
 |2,_=>h2
 |3,_=>h3
 |4,_=>h4
 |n+5,h=>absurd h (by omega)
theorem KC{x y:Fe}(hx:fJ x)(hy:fJ y):eT (uc (Ax bm bo x y))∧
  ∀k,k<5→∃p,(gw bm bo x y fy [(0,0),(0,0),(0,0),(0,0),(0,0)]).1.getD k (0,0)=p∧OkP p∧pv p=oW x y k fy:=by
 have hgx:∀i,i<5→KA (x.get i):=KB hx.1 hx.2.1 hx.2.2.1 hx.2.2.2.1 hx.2.2.2.2;have hgy:∀i,i<5→KA (y.get i):=KB hy.1 hy.2.1 hy.2.2.1 hy.2.2.2.1 hy.2.2.2.2
 obtain⟨h1,h2⟩:=Da (x:=x) (y:=y) (fun i j hi hj=>by
   obtain⟨a,b⟩:=hgx i hi;unfold fg
   split
   ·omega
   ·unfold ee;rw[wrap_u64 (by omega) (by omega)];omega) (fun j hj=>by obtain⟨a,b⟩:=hgy j hj;omega)
  fy [(0,0),(0,0),(0,0),(0,0),(0,0)] 0 (by decide) rfl (fun k hk=>by
   have:([(0,0),(0,0),(0,0),(0,0),(0,0)]:List (Int×Int)).getD k (0,0)=(0,0):=by
    match k,hk with
    |0,_=>rfl
    |1,_=>rfl
    |2,_=>rfl
    |3,_=>rfl
    |4,_=>rfl
   rw[this];exact⟨⟨by decide,by decide,by decide⟩,by decide⟩) (by decide)
 refine⟨qU h2,fun k hk=>⟨_,rfl,(h1 k hk).1,?_⟩⟩;rw[(h1 k hk).2]
 have:([(0,0),(0,0),(0,0),(0,0),(0,0)]:List (Int×Int)).getD k (0,0)=(0,0):=by
  match k,hk with
  |0,_=>rfl
  |1,_=>rfl
  |2,_=>rfl
  |3,_=>rfl
  |4,_=>rfl
 rw[this];simp[pv]
theorem oX{p:Int×Int}(h:OkP p){R:Int}(hR:pv p=R)(dQ:R<20769187434139310514121985316880384):
  dA p.2 C4=R%2251799813685248∧bC .u64 (shl .u64 p.1 13) (bz p.2 51)=R/2251799813685248:=by
 obtain⟨a,b⟩:=p;obtain⟨h0,h1,h2⟩:=h;simp only[pv]at*;rw[ug,GR]
 have e:shl .u64 a 13=a*8192:=by
  have:=gL .u64 a 13 (by decide);rw[show((13:Nat):Int)=13 from rfl]at this;rw[this];exact wrap_u64 (by omega) (by omega)
 rw[e,ow (m:=13) (by omega) (by omega) (by omega) (by omega) (by omega)];constructor<;>omega
theorem alB(x0 x1 x2 x3 x4 y0 y1 y2 y3 y4:Int)(u v:Vec Int 0)(hx:fJ (x0,x1,x2,x3,x4,u))(k:Nat)(hk:k<5):
  oW (x0,x1,x2,x3,x4,u) (y0,y1,y2,y3,y4,v) k fy=
   [x0*y0+x1*19*y4+x2*19*y3+x3*19*y2+x4*19*y1,x0*y1+x1*y0+x2*19*y4+x3*19*y3+x4*19*y2,x0*y2+x1*y1+x2*y0+x3*19*y4+x4*19*y3,
    x0*y3+x1*y2+x2*y1+x3*y0+x4*19*y4,x0*y4+x1*y3+x2*y2+x3*y1+x4*y0].getD k 0:=by
 simp only[fJ,KA]at hx;have w1:ee (x1*19)=x1*19:=wrap_u64 (by omega) (by omega);have w2:ee (x2*19)=x2*19:=wrap_u64 (by omega) (by omega);have w3:ee (x3*19)=x3*19:=wrap_u64 (by omega) (by omega);have w4:ee (x4*19)=x4*19:=wrap_u64 (by omega) (by omega);obtain⟨g0,g1,g2,g3,g4⟩:=axu x0 x1 x2 x3 x4 u;obtain⟨f0,f1,f2,f3,f4⟩:=axu y0 y1 y2 y3 y4 v
 match k,hk with
 |0,_=>simp[oW,fy,fg,g0,g1,g2,g3,g4,f0,f1,f2,f3,f4,w1,w2,w3,w4];omega
 |1,_=>simp[oW,fy,fg,g0,g1,g2,g3,g4,f0,f1,f2,f3,f4,w2,w3,w4];omega
 |2,_=>simp[oW,fy,fg,g0,g1,g2,g3,g4,f0,f1,f2,f3,f4,w3,w4];omega
 |3,_=>simp[oW,fy,fg,g0,g1,g2,g3,g4,f0,f1,f2,f3,f4,w4];omega
 |4,_=>simp[oW,fy,fg,g0,g1,g2,g3,g4,f0,f1,f2,f3,f4];omega
theorem afL(x0 x1 x2 x3 x4 y0 y1 y2 y3 y4 t:F)(ht:t*t*t*t*t=19):
  (x0*y0+x1*19*y4+x2*19*y3+x3*19*y2+x4*19*y1)+(x0*y1+x1*y0+x2*19*y4+x3*19*y3+x4*19*y2)*t+(x0*y2+x1*y1+x2*y0+x3*19*y4+x4*19*y3)*(t*t)+
   (x0*y3+x1*y2+x2*y1+x3*y0+x4*19*y4)*(t*t*t)+(x0*y4+x1*y3+x2*y2+x3*y1+x4*y0)*(t*t*t*t)=
  (x0+x1*t+x2*(t*t)+x3*(t*t*t)+x4*(t*t*t*t))*(y0+y1*t+y2*(t*t)+y3*(t*t*t)+y4*(t*t*t*t)):=by
 grobner
end Go.Proofs.YtnbkagglkajbkaaGreat
namespace Go.Proofs.YtnbkagglkajbkaaGreat
open Go Go.Ev BJ Go.Proofs.Tryz
open Go.IntKind (i64 signed u16 u64 wrap)
def tt:F:=cC 2251799813685248
theorem tt5:tt*tt*tt*tt*tt=19:=by decide+kernel
theorem tt2:cC 5070602400912917605986812821504=tt*tt:=by decide+kernel
theorem tt3:cC 11417981541647679048466287755595961091061972992=tt*tt*tt:=by decide+kernel
theorem tt4:cC 25711008708143844408671393477458601640355247900524685364822016=tt*tt*tt*tt:=by decide+kernel
theorem t19:cC 19=19:=by decide+kernel
theorem AB(x0 x1 x2 x3 x4:Int):cC (x0+x1*2251799813685248+x2*5070602400912917605986812821504+x3*11417981541647679048466287755595961091061972992+x4*25711008708143844408671393477458601640355247900524685364822016)=
  cC x0+cC x1*tt+cC x2*(tt*tt)+cC x3*(tt*tt*tt)+cC x4*(tt*tt*tt*tt):=by
 simp only[gM,j3,tt2,tt3,tt4];rfl
theorem alC{R0 R1 R2 R3 R4:Int}(n0:0≤R0∧R0≤1000000000000000000000000000000000)(n1:0≤R1∧R1≤1000000000000000000000000000000000)(n2:0≤R2∧R2≤1000000000000000000000000000000000)
  (n3:0≤R3∧R3≤1000000000000000000000000000000000) (n4:0≤R4∧R4≤26000000000000000000000000000000):
  ((ee (ee (0+R0%2251799813685248)+ee (R4/2251799813685248*19)),ee (ee (0+R0/2251799813685248)+R1%2251799813685248),ee (ee (0+R1/2251799813685248)+R2%2251799813685248),
    ee (ee (0+R2/2251799813685248)+R3%2251799813685248),ee (ee (0+R3/2251799813685248)+R4%2251799813685248),()):Fe)=C8 (R0%2251799813685248+R4/2251799813685248*19) (R0/2251799813685248+R1%2251799813685248) (R1/2251799813685248+R2%2251799813685248)
    (R2/2251799813685248+R3%2251799813685248) (R3/2251799813685248+R4%2251799813685248):=by
 simp only[ee,Int.zero_add]
 rw[wrap_u64 (n:=R0%2251799813685248) (by omega) (by omega),wrap_u64 (n:=R4/2251799813685248*19) (by omega) (by omega),wrap_u64 (n:=R0/2251799813685248) (by omega) (by omega),wrap_u64 (n:=R1/2251799813685248) (by omega) (by omega),
  wrap_u64 (n:=R2/2251799813685248) (by omega) (by omega),wrap_u64 (n:=R3/2251799813685248) (by omega) (by omega)]
 rw[wrap_u64 (n:=R0%2251799813685248+R4/2251799813685248*19) (by omega) (by omega),wrap_u64 (n:=R0/2251799813685248+R1%2251799813685248) (by omega) (by omega),wrap_u64 (n:=R1/2251799813685248+R2%2251799813685248) (by omega) (by omega),
  wrap_u64 (n:=R2/2251799813685248+R3%2251799813685248) (by omega) (by omega),wrap_u64 (n:=R3/2251799813685248+R4%2251799813685248) (by omega) (by omega)]
 rfl
theorem alD{R0 R1 R2 R3 R4:Int}(n0:0≤R0∧R0≤1000000000000000000000000000000000)(n1:0≤R1∧R1≤1000000000000000000000000000000000)(n2:0≤R2∧R2≤1000000000000000000000000000000000)
  (n3:0≤R3∧R3≤1000000000000000000000000000000000) (n4:0≤R4∧R4≤26000000000000000000000000000000):
  U5 (C8 (R0%2251799813685248+R4/2251799813685248*19) (R0/2251799813685248+R1%2251799813685248) (R1/2251799813685248+R2%2251799813685248)
   (R2/2251799813685248+R3%2251799813685248) (R3/2251799813685248+R4%2251799813685248))∧fe (C8 (R0%2251799813685248+R4/2251799813685248*19) (R0/2251799813685248+R1%2251799813685248) (R1/2251799813685248+R2%2251799813685248)
   (R2/2251799813685248+R3%2251799813685248) (R3/2251799813685248+R4%2251799813685248))=
   cC (R0+R1*2251799813685248+R2*5070602400912917605986812821504+R3*11417981541647679048466287755595961091061972992+R4*25711008708143844408671393477458601640355247900524685364822016):=by
 constructor
 ·simp only[U5,uR,C8];omega
 ·unfold fe;rw[← AA (fA _) (R4/2251799813685248)]
  congr 1
  simp only[fA,pp,C8];omega
set_option maxHeartbeats 1000000 in
theorem v5{x y:Fe}(hx:fJ x)(hy:fJ y):fJ (rE bm bo cg x y)∧fe (rE bm bo cg x y)=fe x*fe y:=by
 obtain⟨_,hr⟩:=KC hx hy;obtain⟨x0,x1,x2,x3,x4,u⟩:=x;obtain⟨y0,y1,y2,y3,y4,v⟩:=y;have hv:=alB x0 x1 x2 x3 x4 y0 y1 y2 y3 y4 u v hx
 have rP:∀ {p q:Int},0≤p→p<2251799813947392→0≤q→q<2251799813947392→0≤p*q∧p*q≤5070602402093548913987446767616:=fun {p q} h1 h2 h3 h4=>
  ⟨Int.mul_nonneg h1 h3,Int.le_trans (Int.mul_le_mul (c:=2251799813947392) (d:=2251799813947392) (by omega) (by omega) h3 (by decide)) (by decide)⟩
 simp only[fJ,KA]at hx hy;obtain⟨wI,MW,Sl,hx3,hx4⟩:=hx;obtain⟨BO,MX,Sm,hy3,hy4⟩:=hy;have b00:=rP wI.1 wI.2 BO.1 BO.2;have b01:=rP wI.1 wI.2 MX.1 MX.2;have b02:=rP wI.1 wI.2 Sm.1 Sm.2;have b03:=rP wI.1 wI.2 hy3.1 hy3.2;have b04:=rP wI.1 wI.2 hy4.1 hy4.2;have b10:=rP MW.1 MW.2 BO.1 BO.2;have b11:=rP MW.1 MW.2 MX.1 MX.2;have b12:=rP MW.1 MW.2 Sm.1 Sm.2;have b13:=rP MW.1 MW.2 hy3.1 hy3.2;have b14:=rP MW.1 MW.2 hy4.1 hy4.2;have b20:=rP Sl.1 Sl.2 BO.1 BO.2;have b21:=rP Sl.1 Sl.2 MX.1 MX.2;have b22:=rP Sl.1 Sl.2 Sm.1 Sm.2;have b23:=rP Sl.1 Sl.2 hy3.1 hy3.2;have b24:=rP Sl.1 Sl.2 hy4.1 hy4.2;have b30:=rP hx3.1 hx3.2 BO.1 BO.2;have b31:=rP hx3.1 hx3.2 MX.1 MX.2;have b32:=rP hx3.1 hx3.2 Sm.1 Sm.2;have b33:=rP hx3.1 hx3.2 hy3.1 hy3.2;have b34:=rP hx3.1 hx3.2 hy4.1 hy4.2;have b40:=rP hx4.1 hx4.2 BO.1 BO.2;have b41:=rP hx4.1 hx4.2 MX.1 MX.2;have b42:=rP hx4.1 hx4.2 Sm.1 Sm.2;have b43:=rP hx4.1 hx4.2 hy3.1 hy3.2;have b44:=rP hx4.1 hx4.2 hy4.1 hy4.2;have sw:∀a b:Int,a*19*b=19*(a*b):=fun a b=>by rw[Int.mul_comm a 19,Int.mul_assoc]
 obtain⟨p0,e0,k0,v0⟩:=hr 0 (by decide);obtain⟨p1,e1,k1,v1⟩:=hr 1 (by decide);obtain⟨p2,e2,k2,v2⟩:=hr 2 (by decide);obtain⟨p3,e3,k3,v3⟩:=hr 3 (by decide);obtain⟨p4,e4,k4,v4⟩:=hr 4 (by decide);rw[hv 0 (by decide)]at v0;rw[hv 1 (by decide)]at v1;rw[hv 2 (by decide)]at v2;rw[hv 3 (by decide)]at v3;rw[hv 4 (by decide)]at v4;have v0':pv p0=x0*y0+x1*19*y4+x2*19*y3+x3*19*y2+x4*19*y1:=v0;have v1':pv p1=x0*y1+x1*y0+x2*19*y4+x3*19*y3+x4*19*y2:=v1;have v2':pv p2=x0*y2+x1*y1+x2*y0+x3*19*y4+x4*19*y3:=v2;have v3':pv p3=x0*y3+x1*y2+x2*y1+x3*y0+x4*19*y4:=v3;have v4':pv p4=x0*y4+x1*y3+x2*y2+x3*y1+x4*y0:=v4;have apM:=afL (cC x0) (cC x1) (cC x2) (cC x3) (cC x4) (cC y0) (cC y1) (cC y2) (cC y3) (cC y4) tt tt5;have hR0:cC (pv p0)=cC x0*cC y0+cC x1*19*cC y4+cC x2*19*cC y3+cC x3*19*cC y2+cC x4*19*cC y1:=by rw[v0'];simp only[gM,j3,t19]
 have hR1:cC (pv p1)=cC x0*cC y1+cC x1*cC y0+cC x2*19*cC y4+cC x3*19*cC y3+cC x4*19*cC y2:=by rw[v1'];simp only[gM,j3,t19]
 have hR2:cC (pv p2)=cC x0*cC y2+cC x1*cC y1+cC x2*cC y0+cC x3*19*cC y4+cC x4*19*cC y3:=by rw[v2'];simp only[gM,j3,t19]
 have hR3:cC (pv p3)=cC x0*cC y3+cC x1*cC y2+cC x2*cC y1+cC x3*cC y0+cC x4*19*cC y4:=by rw[v3'];simp only[gM,j3,t19]
 have hR4:cC (pv p4)=cC x0*cC y4+cC x1*cC y3+cC x2*cC y2+cC x3*cC y1+cC x4*cC y0:=by rw[v4'];simp only[gM,j3]
 rw[← hR0,← hR1,← hR2,← hR3,← hR4]at apM;have n0:0≤pv p0∧pv p0≤1000000000000000000000000000000000:=by rw[v0'];simp only[sw];omega
 have n1:0≤pv p1∧pv p1≤1000000000000000000000000000000000:=by rw[v1'];simp only[sw];omega
 have n2:0≤pv p2∧pv p2≤1000000000000000000000000000000000:=by rw[v2'];simp only[sw];omega
 have n3:0≤pv p3∧pv p3≤1000000000000000000000000000000000:=by rw[v3'];simp only[sw];omega
 have n4:0≤pv p4∧pv p4≤26000000000000000000000000000000:=by rw[v4'];omega
 obtain⟨l0,c0⟩:=oX k0 rfl (by omega);obtain⟨l1,c1⟩:=oX k1 rfl (by omega);obtain⟨l2,c2⟩:=oX k2 rfl (by omega);obtain⟨l3,c3⟩:=oX k3 rfl (by omega);obtain⟨l4,c4⟩:=oX k4 rfl (by omega);generalize pv p0=R0 at*;generalize pv p1=R1 at*;generalize pv p2=R2 at*;generalize pv p3=R3 at*;generalize pv p4=R4 at*
 have e:rE bm bo cg (x0,x1,x2,x3,x4,u) (y0,y1,y2,y3,y4,v)=cg (C8 (R0%2251799813685248+R4/2251799813685248*19) (R0/2251799813685248+R1%2251799813685248) (R1/2251799813685248+R2%2251799813685248)
   (R2/2251799813685248+R3%2251799813685248) (R3/2251799813685248+R4%2251799813685248)):=by
  rw[← alC n0 n1 n2 n3 n4];simp only[rE,e0,e1,e2,e3,e4,l0,l1,l2,l3,l4,c0,c1,c2,c3,c4]
 rw[e];obtain⟨hU,h3⟩:=alD n0 n1 n2 n3 n4;obtain⟨h1,h2⟩:=uh hU;refine⟨h1,?_⟩;rw[h2,h3,AB,apM];show _=cC (x0+x1*_+_+_+_)*cC (y0+y1*_+_+_+_);rw[AB,AB]
def lr(n:Int):Prop:=0≤n∧n<2251799813685248
def asq(x:Fe):Prop:=(lr x.1∧lr x.2.1∧lr x.2.2.1∧lr x.2.2.2.1∧lr x.2.2.2.2.1)∧fA x<(pp:Int)
theorem afM{x:Fe}(hx:fJ x):asq (ub cg x)∧fe (ub cg x)=fe x:=by
 obtain⟨hy,hyx⟩:=uh (x:=x) (by simp only[fJ,KA]at hx;simp only[U5,uR];omega);rw[← hyx];unfold ub;generalize cg x=y at hy;obtain⟨y0,y1,y2,y3,y4,u⟩:=y;simp only[fJ,KA]at hy;simp only[ug,GR,ee];obtain⟨a0,ha0⟩:∃a,a=(y0+19)/2251799813685248:=⟨_,rfl⟩;obtain⟨a1,ha1⟩:∃a,a=(y1+a0)/2251799813685248:=⟨_,rfl⟩;obtain⟨a2,ha2⟩:∃a,a=(y2+a1)/2251799813685248:=⟨_,rfl⟩;obtain⟨a3,ha3⟩:∃a,a=(y3+a2)/2251799813685248:=⟨_,rfl⟩;obtain⟨q,hq⟩:∃a,a=(y4+a3)/2251799813685248:=⟨_,rfl⟩;rw[wrap_u64 (n:=y0+19) (by omega) (by omega),← ha0];rw[wrap_u64 (n:=y1+a0) (by omega) (by omega),← ha1];rw[wrap_u64 (n:=y2+a1) (by omega) (by omega),← ha2];rw[wrap_u64 (n:=y3+a2) (by omega) (by omega),← ha3];rw[wrap_u64 (n:=y4+a3) (by omega) (by omega),← hq];have aCs:q=0∨q=1:=by omega
 rw[wrap_u64 (n:=q*19) (by omega) (by omega)];obtain⟨c0,hc0⟩:∃a,a=q*19+y0:=⟨_,rfl⟩;rw[wrap_u64 (n:=q*19+y0) (by omega) (by omega),← hc0];obtain⟨c1,hc1⟩:∃a,a=c0/2251799813685248+y1:=⟨_,rfl⟩;rw[wrap_u64 (n:=c0/2251799813685248+y1) (by omega) (by omega),← hc1];obtain⟨c2,hc2⟩:∃a,a=c1/2251799813685248+y2:=⟨_,rfl⟩;rw[wrap_u64 (n:=c1/2251799813685248+y2) (by omega) (by omega),← hc2];obtain⟨c3,hc3⟩:∃a,a=c2/2251799813685248+y3:=⟨_,rfl⟩;rw[wrap_u64 (n:=c2/2251799813685248+y3) (by omega) (by omega),← hc3];obtain⟨c4,hc4⟩:∃a,a=c3/2251799813685248+y4:=⟨_,rfl⟩;rw[wrap_u64 (n:=c3/2251799813685248+y4) (by omega) (by omega),← hc4]
 have jJ:fA (c0%2251799813685248,c1%2251799813685248,c2%2251799813685248,c3%2251799813685248,c4%2251799813685248,())=fA (y0,y1,y2,y3,y4,u)-q*(pp:Int)∧
   fA (c0%2251799813685248,c1%2251799813685248,c2%2251799813685248,c3%2251799813685248,c4%2251799813685248,())<(pp:Int):=by
  simp only[fA,pp];rcases aCs with rfl|rfl
  ·constructor<;>omega
  ·constructor<;>omega
 refine⟨⟨by simp only[lr];omega,jJ.2⟩,?_⟩;unfold fe;rw[jJ.1,← AA (fA (y0,y1,y2,y3,y4,u)-_) q]
 congr 1;omega
end Go.Proofs.YtnbkagglkajbkaaGreat
namespace Go.Proofs.YtnbkagglkajbkaaGreat
open Go Go.Ev BJ Go.Proofs.Tryz
open Go.IntKind (i64 signed u16 u64 wrap)
def cR: {n:Nat}→Vec Int n→Int
 |0,_=>0
 |_+1,v=>v.1+256*cR v.2
def oY: {n:Nat}→Vec Int n→Prop
 |0,_=>True
 |_+1,v=>(0≤v.1∧v.1<256)∧oY v.2
theorem et: {n:Nat}→ {v:Vec Int n}→oY v→0≤cR v
 |0,_,_=>Int.le_refl _
 |n+1,v,h=>by have:=et h.2;have:=h.1;simp only[cR];omega
theorem qd: {n:Nat}→ {v:Vec Int n}→oY v→cR v<(256 ^ n:Nat)
 |0,_,_=>by simp[cR]
 |n+1,v,h=>by
  have h1:=qd h.2;have h2:=h.1;simp only[cR];have e:(256 ^ (n+1):Nat)=256*256 ^ n:=by rw[Nat.pow_succ,Nat.mul_comm]
  rw[e];generalize (256 ^ n:Nat)=m at*;omega
theorem KD: {n:Nat}→ {v u:Vec Int n}→oY v→oY u→cR v=cR u→v=u
 |0,_,_,_,_,_=>rfl
 |n+1,v,u,hv,hu,h=>by
  simp only[cR]at h;have h1:=hv.1;have h2:=hu.1;have e1:v.1=u.1:=by omega
  have e2:cR v.2=cR u.2:=by omega
  exact Prod.ext e1 (KD hv.2 hu.2 e2)
def xf(n:Nat)(V:Int):Vec Int n:=Vec.ofFn n fun j=>V/(256 ^ j:Nat)%256
theorem v7:(n:Nat)→(V:Int)→0≤V→oY (xf n V)∧cR (xf n V)=V%(256 ^ n:Nat)
 |0,V,h=>⟨trivial,by simp[cR]⟩
 |n+1,V,h=>by
  have e:xf (n+1) V=(V/(256 ^ 0:Nat)%256,xf n (V/256)):=by
   unfold xf;show(_,Vec.ofFn n fun i=>V/(256 ^ (i+1):Nat)%256)=_
   have:(fun i:Nat=>V/(256 ^ (i+1):Nat)%256)=fun j:Nat=>V/256/(256 ^ j:Nat)%256:=by
    funext j
    rw[Int.ediv_ediv_of_nonneg (by omega)]
    congr 2
    rw[Nat.pow_succ];simp[Int.mul_comm]
   rw[this]
  rw[e];obtain⟨h1,h2⟩:=v7 n (V/256) (by omega);refine⟨⟨by simp only[Nat.pow_zero];omega,h1⟩,?_⟩;show V/(256 ^ 0:Nat)%256+256*cR (xf n (V/256))=_;rw[h2];have e2:(256 ^ (n+1):Nat)=256*256 ^ n:=by rw[Nat.pow_succ,Nat.mul_comm]
  rw[e2];generalize hm:(256 ^ n:Nat)=m;have Cl:0<(m:Int):=by have:=Nat.pow_pos (n:=n) (show 0<256 by decide);omega
  have h3:=Int.emod_nonneg (V/256) (b:=(m:Int)) (by omega);have h4:=Int.emod_lt_of_pos (V/256) Cl;have h5:=Int.emod_add_mul_ediv (V/256) (m:Int)
  have h6:V=(V%256+256*(V/256%m))+((256*m:Nat):Int)*(V/256/m):=by
   rw[Int.natCast_mul,Int.mul_assoc];generalize (m:Int)*(V/256/m)=z at*;omega
  rw[Nat.pow_zero]
  have h7:V%((256*m:Nat):Int)=V%256+256*(V/256%m):=by
   conv=>lhs;rw[h6]
   rw[Int.add_mul_emod_self_left];exact Int.emod_eq_of_lt (by omega) (by rw[Int.natCast_mul];omega)
  rw[h7];omega
theorem XN{n:Nat}{v:Vec Int n}(h:oY v):xf n (cR v)=v:=by
 obtain⟨h1,h2⟩:=v7 n (cR v) (et h);exact KD h1 h (by rw[h2,Int.emod_eq_of_lt (et h) (qd h)])
def dO(a:F):dY:=xf 32 (a.val:Int)
theorem axv:(256 ^ 32:Nat)=115792089237316195423570985008687907853269984665640564039457584007913129639936:=by decide
theorem kA(a:F):oY (dO a)∧cR (dO a)=(a.val:Int):=by
 obtain⟨h1,h2⟩:=v7 32 (a.val:Int) (by omega);have:=a.isLt;refine⟨h1,h2.trans (Int.emod_eq_of_lt (by omega) ?_)⟩;rw[axv];simp only[pp]at this;omega
theorem Qs{a b:F}(h:dO a=dO b):a=b:=w5 (by rw[← (kA a).2,← (kA b).2,h])
def xg(f:Nat→Int):Nat→Int
 |0=>0
 |n+1=>xg f n+f n*(2 ^ n:Nat)
theorem Up(f:Nat→Int):∀n,n≤8→(∀i,i<n→0≤f i∧f i≤1)→
  (List.range n).foldl (fun acc i=>bC .u8 acc (shl .u8 (f i) (i:Int))) 0=xg f n∧0≤xg f n∧xg f n<(2 ^ n:Nat)
 |0,_,_=>⟨rfl,by simp[xg],by simp[xg]⟩
 |n+1,hn,hf=>by
  obtain⟨h1,h2,h3⟩:=Up f n (by omega) fun i hi=>hf i (by omega);have h4:=hf n (by omega);rw[List.range_succ,List.foldl_append,h1];simp only[List.foldl_cons,List.foldl_nil,xg];have hp:0<2 ^ n:=Nat.two_pow_pos n;have hle:2 ^ n≤2 ^ 7:=Nat.pow_le_pow_right (by omega) (by omega)
  have hs:f n*(2 ^ n:Nat)=0∨f n*(2 ^ n:Nat)=(2 ^ n:Nat):=by
   have:f n=0∨f n=1:=(by omega);rcases this with e|e<;>rw[e]<;>simp
  have e:shl .u8 (f n) (n:Int)=f n*(2 ^ n:Nat):=by
   rw[gL .u8 _ _ (by show n≤8;omega),wrap_u8];have:(2:Nat) ^ 7=128:=(by decide);omega
  have hm:f n*(2 ^ n:Nat)%(2 ^ n:Nat)=0:=Int.mul_emod_left _ _;have h7:(2:Nat) ^ 7=128:=by decide
  rw[e,jq,aoD (m:=n) (by omega) hm h2 h3 (by omega)];have e2:(2 ^ (n+1):Nat)=2*2 ^ n:=by rw[Nat.pow_succ,Nat.mul_comm]
  rw[e2];refine⟨by omega,by omega,by omega⟩
theorem alE(u H:Int){b:Nat}(hb:b<51):(u+2251799813685248*H)/(2 ^ b:Nat)%2=u/(2 ^ b:Nat)%2:=by
 have e:(2251799813685248:Int)=(2 ^ b:Nat)*(2*(2 ^ (50-b):Nat)):=by
  have:(2251799813685248:Nat)=2 ^ b*(2*2 ^ (50-b)):=by
   rw[← Nat.mul_assoc,Nat.mul_comm (2 ^ b) 2,Nat.mul_assoc,← Nat.pow_add,show b+(50-b)=50 by omega]
  have h2:((2251799813685248:Nat):Int)=((2 ^ b*(2*2 ^ (50-b)):Nat):Int):=by rw[← this]
  rw[Int.natCast_mul,Int.natCast_mul]at h2;exact h2
 rw[e,Int.mul_assoc,Int.add_mul_ediv_left _ _ (by have:=Nat.two_pow_pos b;omega),Int.mul_assoc,Int.add_mul_emod_self_left]
theorem afN{y:Fe}(h:lr y.1∧lr y.2.1∧lr y.2.2.1∧lr y.2.2.2.1∧lr y.2.2.2.2.1)(q:Nat)(hq:q<255):
  y.get (q/51)/(2 ^ (q%51):Nat)%2=fA y/(2 ^ q:Nat)%2:=by
 obtain⟨y0,y1,y2,y3,y4,u⟩:=y;simp only[lr]at h;have hb:q%51<51:=Nat.mod_lt _ (by decide);have hq2:(2 ^ q:Nat)=2 ^ (51*(q/51))*2 ^ (q%51):=by rw[← Nat.pow_add];congr 1;omega
 rw[hq2,Int.natCast_mul,← Int.ediv_ediv_of_nonneg (Int.natCast_nonneg _)];have h5:q/51<5:=by omega
 generalize q%51=b at*;generalize q/51=a at*
 have key:∀ (V H:Int),fA (y0,y1,y2,y3,y4,u)/(2 ^ (51*a):Nat)=V+2251799813685248*H→V/(2 ^ b:Nat)%2=fA (y0,y1,y2,y3,y4,u)/(2 ^ (51*a):Nat)/(2 ^ b:Nat)%2:=by
  intro V H e;rw[e,alE V H hb]
 match a,h5 with
 |0,_=>exact key y0 (y1+y2*2251799813685248+y3*5070602400912917605986812821504+y4*11417981541647679048466287755595961091061972992) (by simp only[fA,Nat.mul_zero,Nat.pow_zero];omega)
 |1,_=>exact key y1 (y2+y3*2251799813685248+y4*5070602400912917605986812821504) (by
   have:(2:Nat) ^ (51*1)=2251799813685248:=(by decide);rw[this];simp only[fA];omega)
 |2,_=>exact key y2 (y3+y4*2251799813685248) (by
   have:(2:Nat) ^ (51*2)=5070602400912917605986812821504:=(by decide);rw[this];simp only[fA];omega)
 |3,_=>exact key y3 y4 (by
   have:(2:Nat) ^ (51*3)=11417981541647679048466287755595961091061972992:=(by decide);rw[this];simp only[fA];omega)
 |4,_=>exact key y4 0 (by
   have:(2:Nat) ^ (51*4)=25711008708143844408671393477458601640355247900524685364822016:=(by decide);rw[this];simp only[fA];omega)
theorem axw(W:Int):xg (fun i=>W/(2 ^ i:Nat)%2) 8=W%256:=by
 simp[xg];omega
theorem axx(W:Int)(h0:0≤W)(h:W<128):xg (fun i=>W/(2 ^ i:Nat)%2) 7=W%256:=by
 simp[xg];omega
theorem kB{α:Type}:∀ {n:Nat} {f g:Nat→α},(∀i,i<n→f i=g i)→Vec.ofFn n f=Vec.ofFn n g
 |0,_,_,_=>rfl
 |n+1,f,g,h=>by
  show(f 0,Vec.ofFn n _)=(g 0,Vec.ofFn n _);rw[h 0 (by omega),kB (n:=n) fun i hi=>h (i+1) (by omega)]
theorem afO{y:Fe}(h:asq y):Qq y=xf 32 (fA y):=by
 have hv0:0≤fA y:=by
  obtain⟨y0,y1,y2,y3,y4,u⟩:=y;have:=h.1;simp only[lr]at this;simp only[fA];omega
 have hv1:=h.2;unfold Qq xf;refine kB fun j hj=>?_
 have apO:∀n,n≤8→(∀i,i<n→8*j+i<255)→
   (List.range n).foldl (fun acc i=>bC .u8 acc (shl .u8 (IntKind.u8.wrap (dA (bz (y.get ((8*j+i)/51)) (((8*j+i)%51:Nat):Int)) 1)) (i:Int))) 0=
    xg (fun i=>fA y/(2 ^ (8*j):Nat)/(2 ^ i:Nat)%2) n:=by
  intro n hn dQ
  have D9:∀i,i<n→IntKind.u8.wrap (dA (bz (y.get ((8*j+i)/51)) (((8*j+i)%51:Nat):Int)) 1)=fA y/(2 ^ (8*j):Nat)/(2 ^ i:Nat)%2:=by
   intro i hi;have e1:bz (y.get ((8*j+i)/51)) (((8*j+i)%51:Nat):Int)=y.get ((8*j+i)/51)/(2 ^ ((8*j+i)%51):Nat):=cz .u64 _ _ (by show(8*j+i)%51≤64;omega)
   have e2:∀x,dA x 1=x%2:=fun x=>by
    have:=pN (m:=1) (by decide) x 1 (by decide);simpa [dA]using this
   rw[e1,e2,afN h.1 _ (dQ i hi),wrap_u8,Int.ediv_ediv_of_nonneg (Int.natCast_nonneg _),← Int.natCast_mul,← Nat.pow_add];omega
  have nX:∀ (l:List Nat) (a:Int),(∀i∈l,i<n)→l.foldl (fun(acc:Int) (i:Nat)=>bC .u8 acc (shl .u8 (IntKind.u8.wrap (dA (bz (y.get ((8*j+i)/51)) (((8*j+i)%51:Nat):Int)) 1)) (i:Int))) a=
    l.foldl (fun(acc:Int) (i:Nat)=>bC .u8 acc (shl .u8 (fA y/(2 ^ (8*j):Nat)/(2 ^ i:Nat)%2) (i:Int))) a:=by
   intro l
   induction l with
   |nil=>intro a _;rfl
   |cons i l ih=>intro a hl;simp only[List.foldl_cons];rw[D9 i (hl i (by simp)),ih _ fun k hk=>hl k (by simp[hk])]
  rw[nX _ _ fun i hi=>List.mem_range.1 hi]
  exact(Up (fun i=>fA y/(2 ^ (8*j):Nat)/(2 ^ i:Nat)%2) n hn fun i _=>by
   have:=Int.emod_nonneg (fA y/(2 ^ (8*j):Nat)/(2 ^ i:Nat)) (b:=2) (by omega);have:=Int.emod_lt_of_pos (fA y/(2 ^ (8*j):Nat)/(2 ^ i:Nat)) (b:=2) (by omega);omega).1
 have e8:(2 ^ (8*j):Nat)=256 ^ j:=by rw[Nat.pow_mul]
 by_cases h31:j=31
 ·rw[if_pos h31,apO 7 (by omega) (fun i hi=>by omega),e8];refine axx _ (Int.ediv_nonneg hv0 (Int.natCast_nonneg _)) ?_;subst h31;have:(256 ^ 31:Nat)=452312848583266388373324160190187140051835877600158453279131187530910662656:=by decide
  rw[this];simp only[pp]at hv1;omega
 ·rw[if_neg h31,apO 8 (by omega) (fun i hi=>by omega),e8];exact axw _
theorem GS{y:Fe}(h:asq y):((fe y).val:Int)=fA y:=by
 have hv0:0≤fA y:=by
  obtain⟨y0,y1,y2,y3,y4,u⟩:=y;have:=h.1;simp only[lr]at this;simp only[fA];omega
 unfold fe;rw[eH,Int.emod_eq_of_lt hv0 h.2]
def fh(x:Fe):dY:=Qq (ub cg x)
theorem ui{x:Fe}(h:fJ x):fh x=dO (fe x):=by
 obtain⟨h1,h2⟩:=afM h;unfold fh dO;rw[afO h1,← GS h1,h2]
theorem afP{a b:F}:qF (dO a) (dO b)=decide (a=b):=by
 by_cases h:a=b
 ·subst h;rw[decide_eq_true rfl];exact(nk _ _).2 rfl
 ·rw[decide_eq_false h];refine Bool.eq_false_iff.2 fun e=>h (Qs ((nk _ _).1 e))
theorem AD{x y:Fe}(hx:fJ x)(hy:fJ y):qF (fh x) (fh y)=decide (fe x=fe y):=by
 rw[ui hx,ui hy,afP]
theorem afQ{x:Fe}(h:fJ x):afD fh x=decide ((fe x).val%2=1):=by
 unfold afD;rw[ui h];have e:(dO (fe x)).1=((fe x).val:Int)/(256 ^ 0:Nat)%256:=rfl;rw[e,Er (m:=1) (by decide) _ 1 (by decide)]
 have:((((fe x).val:Int)/(256 ^ 0:Nat)%256%(2 ^ 1:Nat)==1)=true)↔(fe x).val%2=1:=by
  rw[beq_iff_eq];simp only[Nat.pow_zero,Nat.pow_one];omega
 by_cases h1:(fe x).val%2=1
 ·rw[decide_eq_true h1];exact this.2 h1
 ·rw[decide_eq_false h1];exact Bool.eq_false_iff.2 fun e=>h1 (this.1 e)
theorem oZ{n:Int}(h:uR n):fJ (a7 n)∧fe (a7 n)=cC n:=by
 simp only[uR]at h
 have e:a7 n=C8 (n%2251799813685248) (n/2251799813685248) 0 0 0:=by
  simp only[a7,ug,GR];rfl
 rw[e];refine⟨by simp only[fJ,KA,C8];omega,?_⟩;unfold fe;congr 1;simp only[fA,C8];omega
end Go.Proofs.YtnbkagglkajbkaaGreat
end
