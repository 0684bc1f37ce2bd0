/- What the laws lean on, part 13: a reader of code, plain facts, and what each function gives; no conditions. -/
import Derived.Test.YtjalaohajcpllaaGreatA12
section
namespace Go.Proofs.YtjalaohajcpllaaGreat
open Go Go.Ev
set_option maxRecDepth 100000
abbrev Fe:=Vec Int 5
abbrev ft:=Vec Int 32
def dE (n:Int):Int:=IntKind.u64.wrap n
def dm (a b:Int):Int:=bp .u64 a b
def bz (a b:Int):Int:=shr .u64 a b
def Cq:Int:=2251799813685247
def cd (x:Fe):Fe:=
 (dE (dm x.1 Cq+dE (bz x.2.2.2.2.1 51*19)),
  dE (dm x.2.1 Cq+bz x.1 51),
  dE (dm x.2.2.1 Cq+bz x.2.1 51),
  dE (dm x.2.2.2.1 Cq+bz x.2.2.1 51),
  dE (dm x.2.2.2.2.1 Cq+bz x.2.2.2.1 51),())
def aT (n:Int):Fe:=(dm n Cq,bz n 51,0,0,0,())
def PG (carry:Fe→Fe) (x y:Fe):Fe:=carry (Vec.zip (fun a b=>dE (a+b)) x y)
def IF (carry:Fe→Fe) (x y:Fe):Fe:=carry (Vec.zip (fun a b=>dE (a-b)) (Vec.zip (fun a b=>dE (a+b)) x (4503599627370458,4503599627370494,4503599627370494,4503599627370494,4503599627370494,())) y)
def dz:Fe:=(0,0,0,0,0,())
def eqV: {n:Nat}→Vec Int n→Vec Int n→Bool
 |0,_,_=>true
 |_+1,v,u=>(v.1==u.1)&&eqV v.2 u.2
theorem tJ: {n:Nat}→(v u:Vec Int n)→(eqV v u=true↔v=u)
 |0,_,_=>⟨fun _=>rfl,fun _=>rfl⟩
 |n+1,v,u=>by
  simp only[eqV,Bool.and_eq_true,beq_iff_eq,tJ v.2 u.2]
  exact ⟨fun h=>Prod.ext h.1 h.2,fun h=>by rw[h];exact ⟨rfl,rfl⟩⟩
def X8 (bytes:Fe→ft) (x:Fe):Bool:=bp .u8 (bytes x).1 1==1
def tK (carry:Fe→Fe) (x:Fe):Fe:=
 let y:=carry x
 let c:=bz (dE (y.1+19)) 51
 let c:=bz (dE (y.2.1+c)) 51
 let c:=bz (dE (y.2.2.1+c)) 51
 let c:=bz (dE (y.2.2.2.1+c)) 51
 let c:=bz (dE (y.2.2.2.2.1+c)) 51
 let c:=dE (c*19)
 let c0:=dE (c+y.1)
 let c1:=dE (bz c0 51+y.2.1)
 let c2:=dE (bz c1 51+y.2.2.1)
 let c3:=dE (bz c2 51+y.2.2.2.1)
 let c4:=dE (bz c3 51+y.2.2.2.2.1)
 (dm c0 Cq,dm c1 Cq,dm c2 Cq,dm c3 Cq,dm c4 Cq,())
end Go.Proofs.YtjalaohajcpllaaGreat
namespace Go.Proofs.YtjalaohajcpllaaGreat
open Go Go.Ev
set_option maxRecDepth 1000000
def MR (y:Fe):ft:=Vec.ofFn 32 fun j=>(List.range (if j=31 then 7 else 8)).foldl
 (fun acc i=>bm .u8 acc (shl .u8 (IntKind.u8.wrap (dm (bz (y.get ((8*j+i)/51)) (((8*j+i)%51:Nat):Int)) 1)) (i:Int))) 0
def word (b:ft) (j:Nat):Int:=(List.range 8).foldl (fun acc i=>bm .u64 acc (shl .u64 (dE (b.get (8*j+i))) (8*i:Nat))) 0
def mP (b:ft):Fe:=
 (dm (word b 0) Cq,dm (bm .u64 (bz (word b 0) 51) (shl .u64 (word b 1) 13)) Cq,dm (bm .u64 (bz (word b 1) 38) (shl .u64 (word b 2) 26)) Cq,
  dm (bm .u64 (bz (word b 2) 25) (shl .u64 (word b 3) 39)) Cq,dm (bz (word b 3) 12) Cq,())
def Vec.xc {α:Type} (f:α→α): {n:Nat}→Nat→Vec α n→Vec α n
 |0,_,_=>()
 |_+1,0,v=>(f v.1,v.2)
 |_+1,i+1,v=>(v.1,Vec.xc f i v.2)
def bc (x y:Int):Int×Int:=
 let x0:=dm x 4294967295
 let x1:=bz x 32
 let y0:=dm y 4294967295
 let y1:=bz y 32
 let t:=dE (dE (x1*y0)+bz (dE (x0*y0)) 32)
 let w1:=dE (dm t 4294967295+dE (x0*y1))
 (dE (dE (dE (x1*y1)+bz t 32)+bz w1 32),dE (x*y))
def tL:List Prop→Option Prop
 | []=>none
 |p::l=>aor p (tL l)
section
variable (m64:Int→Int→Int×Int) (a64:Int→Int→Int→Int×Int)
def gb (x y:Fe):List (Nat×Nat)→List (Int×Int)→List (Int×Int)×List Prop
 | [],r=>(r,[])
 |(i,j)::l,r=>
  let a:=if i+j<5 then x.get i else dE (x.get i*19)
  let p:=r.getD ((i+j)%5) (0,0)
  let m:=m64 a (y.get j)
  let s:=a64 p.2 m.2 0
  let t:=a64 p.1 m.1 s.2
  let z:=gb x y l (r.set ((i+j)%5) (t.1,s.1))
  (z.1,(0≤s.2∧s.2≤1)::z.2)
def eV:List (Nat×Nat):= [(0,0),(0,1),(0,2),(0,3),(0,4),(1,0),(1,1),(1,2),(1,3),(1,4),(2,0),(2,1),(2,2),(2,3),(2,4),(3,0),(3,1),(3,2),(3,3),(3,4),(4,0),(4,1),(4,2),(4,3),(4,4)]
def Ab (x y:Fe):List Prop:=(gb m64 a64 x y eV [(0,0),(0,0),(0,0),(0,0),(0,0)]).2
def q6 (carry:Fe→Fe) (x y:Fe):Fe:=
 let r:=(gb m64 a64 x y eV [(0,0),(0,0),(0,0),(0,0),(0,0)]).1
 let lo (i:Nat):=dm (r.getD i (0,0)).2 Cq
 let c (i:Nat):=bm .u64 (shl .u64 (r.getD i (0,0)).1 13) (bz (r.getD i (0,0)).2 51)
 carry (dE (dE (0+lo 0)+dE (c 4*19)),dE (dE (0+c 0)+lo 1),dE (dE (0+c 1)+lo 2),dE (dE (0+c 2)+lo 3),dE (dE (0+c 3)+lo 4),())
end
end Go.Proofs.YtjalaohajcpllaaGreat
namespace Go.Proofs.YtjalaohajcpllaaGreat
open Go Go.Ev
set_option maxRecDepth 1000000
noncomputable def hX (lo hi:Int):ft:=Vec.ofFn 32 fun j=>if j=0 then lo else if j=31 then hi else 255
def jW (b:Bool): {n:Nat}→Vec Int n→Vec Int n→Vec Int n
 |0,_,_=>()
 |_+1,v,u=>(bif b then v.1 else u.1,jW b v.2 u.2)
theorem dP: {n:Nat}→(b:Bool)→(v u:Vec Int n)→jW b v u=bif b then v else u
 |0,b,v,u=>by cases b<;>rfl
 |n+1,b,v,u=>by
  show ((bif b then v.1 else u.1),jW b v.2 u.2)=_
  rw[dP b v.2 u.2]
  cases b<;>rfl
theorem Sn {n:Nat} (b:Bool) (v:Vec Int n):jW b v v=v:=by rw[dP];cases b<;>rfl
def Cr (e:ft) (i:Nat):Bool:=bp .u8 (shr .u8 (e.get (i/8)) ((i%8:Nat):Int)) 1==1
section
variable (small:Int→Fe) (oC:Fe→Fe) (mul:Fe→Fe→Fe)
def fA (x:Fe) (e:ft) (k:Nat) (r:Fe):Fe:=jW (Cr e (255-k)) (mul (oC r) x) (oC r)
noncomputable def ae8 (x:Fe) (e:ft):Fe:=iE (fA oC mul x e) 256 (small 1)
end
section
variable (pow:Fe→ft→Fe) (exp:Int→Int→ft) (mul:Fe→Fe→Fe) (oC neg:Fe→Fe) (small:Int→Fe) (equal:Fe→Fe→Bool) (X9 isZero:Fe→Bool) (invert:Fe→Fe)
noncomputable def Ac (x:Fe):Fe×Bool:=
 let r:=pow x (exp 254 15)
 let r1:=jW (!(equal (oC r) x)) (mul r (pow (small 2) (exp 251 31))) r
 let bad:= !(equal (oC r1) (jW (!(equal (oC r) x)) x x))
 (jW bad dz (jW (X9 r1) (neg r1) r1),bif bad then false else true)
end
end Go.Proofs.YtjalaohajcpllaaGreat
namespace Go.Proofs.YtjalaohajcpllaaGreat
open Go Go.Ev
set_option maxRecDepth 1000000
abbrev Pt:=Bool×Fe×Fe×Fe×Fe
noncomputable def PH (b:Bool) (p q:Pt):Pt:=(bif b then p.1 else q.1,jW b p.2.1 q.2.1,jW b p.2.2.1 q.2.2.1,jW b p.2.2.2.1 q.2.2.2.1,jW b p.2.2.2.2 q.2.2.2.2)
theorem tM (b:Bool) (p q:Pt):PH b p q=bif b then p else q:=by
 unfold PH;rw[dP,dP,dP,dP];cases b<;>rfl
section
variable (mul add sub:Fe→Fe→Fe) (oC neg invert:Fe→Fe) (small:Int→Fe) (isZero X9:Fe→Bool) (sqrt:Fe→Fe×Bool) (ratio:Fe→Fe→Fe×Bool) (frm:ft→Fe) (bytes:Fe→ft)
 (So:ft→Bool) (equal:Fe→Fe→Bool) (ag8:Fe) (zero:Pt) (own:Pt→Pt) (aoE:Fe→Fe→Pt) (root:Fe→Fe×Bool) (place:Pt→Fe×Fe) (PI:Fe→Fe→Fe→Fe→Pt) (Ya:Pt→Pt→Pt)
noncomputable def lS:ft:=(0xa3,0x78,0x59,0x13,0xca,0x4d,0xeb,0x75,0xab,0xd8,0x41,0x41,0x4d,0x0a,0x70,0x00,0x98,0xe8,0x79,0x77,0x79,0x40,0xc7,0x8c,0x73,0xfe,0x6f,0x2b,0xee,0x6c,0x03,0x52,())
noncomputable def Yb (x y:Fe):Pt:=(true,x,y,small 1,mul x y)
noncomputable def Yc (p:Pt):Pt:=PH (!p.1) zero p
noncomputable def acC (p:Pt):Fe×Fe:=(mul (own p).2.1 (invert (own p).2.2.2.1),mul (own p).2.2.1 (invert (own p).2.2.2.1))
noncomputable def Ad (p:Pt):ft:=
 let b:=bytes (place p).2
 jW (X9 (place p).1) (Vec.xc (fun x=>bm .u8 x 128) 31 b) b
noncomputable def acD (e f g h:Fe):Pt:=(true,mul e f,mul g h,mul f g,mul e h)
noncomputable def addFn (p0 q0:Pt):Pt:=
 let p:=own p0
 let q:=own q0
 let a:=mul (sub p.2.2.1 p.2.1) (sub q.2.2.1 q.2.1)
 let b:=mul (add p.2.2.1 p.2.1) (add q.2.2.1 q.2.1)
 let c:=mul (mul p.2.2.2.2 q.2.2.2.2) ag8
 let c:=add c c
 let d:=mul p.2.2.2.1 q.2.2.2.1
 let d:=add d d
 PI (sub b a) (sub d c) (add d c) (add b a)
end
end Go.Proofs.YtjalaohajcpllaaGreat
namespace Go.Ev
open Go
end Go.Ev
namespace Go.Proofs.YtjalaohajcpllaaGreat
open Go Go.Ev
set_option maxRecDepth 1000000
noncomputable def oD (b:ft) (k:Nat):Int:=IntKind.i64.wrap (bp .u8 (shr .u8 (b.get (k/8)) ((k%8:Nat):Int)) 1)
section
variable (bit:ft→Nat→Int) (zero base:Pt) (double:Pt→Pt) (Ya:Pt→Pt→Pt)
noncomputable def gU (n:ft) (p:Pt) (k:Nat) (r:Pt):Pt:=PH (bit n (255-k)==1) (Ya (double r) p) (double r)
noncomputable def Yd (n:ft) (p:Pt):Pt:=iE (gU bit double Ya n p) 256 zero
end
end Go.Proofs.YtjalaohajcpllaaGreat
namespace Go.Proofs.YtjalaohajcpllaaGreat
open Go Go.Ev
set_option maxRecDepth 1000000
abbrev Fn:=Vec Int 16
def w (n:Int):Int:=IntKind.i64.wrap n
section
variable (dD:Fn) (below:Fn→Fn→Bool) (norm:Fn→Fn)
end
end Go.Proofs.YtjalaohajcpllaaGreat
namespace Go.Proofs.YtjalaohajcpllaaGreat
open Go Go.Ev
set_option maxRecDepth 1000000
abbrev Pn:=Fn×Fn×Fn×Fn
section
variable (bit:ft→Nat→Int) (small:Int→Fn) (mul add sub:Fn→Fn→Fn) (neg invert:Fn→Fn) (X9:Fn→Bool) (pow:Fn→ft→Fn) (sqrt:Fn→Fn×Bool) (ratio:Fn→Fn→Fn×Bool) (ag8:Fn)
 (frm:ft→Fn) (bytes:Fn→ft) (So:ft→Bool) (zero:Pn) (ofp:Fn→Fn→Pn) (xOf:Fn→Fn×Bool) (akF:Pn→Pn→Fn→Pn)
end
end Go.Proofs.YtjalaohajcpllaaGreat
namespace BJ
def cS (n:Int):F:=⟨(n%(pp:Int)).toNat,by
 have h1:0≤n%(pp:Int):=Int.emod_nonneg _ (by decide)
 have h2:n%(pp:Int)<(pp:Int):=Int.emod_lt_of_pos _ (by decide)
 omega⟩
theorem fB (n:Int):((cS n).val:Int)=n%(pp:Int):=Int.toNat_of_nonneg (Int.emod_nonneg _ (by decide))
theorem Ae {a b:F} (h:(a.val:Int)=b.val):a=b:=Fin.ext (Int.ofNat_inj.1 h)
theorem acE {a b:Int}:cS a=cS b↔a%(pp:Int)=b%(pp:Int):=by
 constructor
 ·intro h;rw[← fB,← fB,h]
 ·intro h;exact Ae (by rw[fB,fB,h])
theorem kB (a b:Int):cS (a+b)=cS a+cS b:=by
 apply Ae
 rw[fB,Fin.val_add,Int.natCast_emod,Int.natCast_add,fB,fB,← Int.add_emod]
theorem pT (a b:Int):cS (a*b)=cS a*cS b:=by
 apply Ae
 rw[fB,Fin.val_mul,Int.natCast_emod,Int.natCast_mul,fB,fB,← Int.mul_emod]
theorem Ye:cS 0=0:=by apply Ae;rw[fB];decide
theorem PJ:cS 1=1:=by apply Ae;rw[fB];decide
theorem acF (a b:Int):cS (a-b)=cS a-cS b:=by
 have h:cS (a-b)+cS b=cS a:=by rw[← kB];congr 1;omega
 grobner
theorem Fl (a k:Int):cS (a+k*(pp:Int))=cS a:=acE.2 (Int.add_mul_emod_self_right _ _ _)
end BJ
namespace Go.Proofs.YtjalaohajcpllaaGreat
open Go Go.Ev BJ
def Cs (a b c d e:Int):Fe:=(a,b,c,d,e,())
def uI (n:Int):Prop:=0≤n∧n<18446744073709551616
def IG (n:Int):Prop:=0≤n∧n<2251799813947392
def U5 (x:Fe):Prop:=uI x.1∧uI x.2.1∧uI x.2.2.1∧uI x.2.2.2.1∧uI x.2.2.2.2.1
def fv (x:Fe):Prop:=IG x.1∧IG x.2.1∧IG x.2.2.1∧IG x.2.2.2.1∧IG x.2.2.2.2.1
def eW (x:Fe):Int:=x.1+x.2.1*2251799813685248+x.2.2.1*5070602400912917605986812821504+x.2.2.2.1*11417981541647679048466287755595961091061972992+x.2.2.2.2.1*25711008708143844408671393477458601640355247900524685364822016
def fe (x:Fe):F:=cS (eW x)
theorem tN (x:Int):dm x Cq=x%2251799813685248:=by
 have:=rW (m:=51) (by decide) x Cq (by decide)
 simpa [dm] using this
theorem Fm (x:Int):bz x 51=x/2251799813685248:=by
 have:=eG .u64 x 51 (by decide)
 simpa [bz] using this
theorem Sp {x:Fe} (h:U5 x):fv (cd x)∧ ∃ k,eW (cd x)=eW x+k*(pp:Int):=by
 obtain ⟨x0,x1,x2,x3,x4,u⟩:=x
 obtain ⟨h0,h1,h2,h3,h4⟩:=h
 simp only[uI] at h0 h1 h2 h3 h4
 have e:cd (x0,x1,x2,x3,x4,u)=Cs (x0%2251799813685248+x4/2251799813685248*19) (x1%2251799813685248+x0/2251799813685248) (x2%2251799813685248+x1/2251799813685248)
   (x3%2251799813685248+x2/2251799813685248) (x4%2251799813685248+x3/2251799813685248):=by
  simp only[cd,tN,Fm,dE]
  rw[wrap_u64 (n:=x4/2251799813685248*19) (by omega) (by omega)]
  rw[wrap_u64 (by omega) (by omega),wrap_u64 (by omega) (by omega),wrap_u64 (by omega) (by omega),wrap_u64 (by omega) (by omega),wrap_u64 (by omega) (by omega)]
  rfl
 rw[e]
 refine ⟨?_,-(x4/2251799813685248),?_⟩
 ·simp only[fv,IG,Cs];omega
 ·simp only[eW,pp,Cs];omega
theorem tO {x:Fe} (h:U5 x):fv (cd x)∧fe (cd x)=fe x:=by
 obtain ⟨h1,k,h2⟩:=Sp h
 exact ⟨h1,by unfold fe;rw[h2,Fl]⟩
theorem ag9 {x y:Fe} (hx:fv x) (hy:fv y):fv (PG cd x y)∧fe (PG cd x y)=fe x+fe y:=by
 obtain ⟨x0,x1,x2,x3,x4,u⟩:=x
 obtain ⟨y0,y1,y2,y3,y4,v⟩:=y
 simp only[fv,IG] at hx hy
 have e:Vec.zip (n:=5) (fun a b=>dE (a+b)) (x0,x1,x2,x3,x4,u) (y0,y1,y2,y3,y4,v)=Cs (x0+y0) (x1+y1) (x2+y2) (x3+y3) (x4+y4):=by
  show (dE (x0+y0),dE (x1+y1),dE (x2+y2),dE (x3+y3),dE (x4+y4),())=_
  simp only[dE]
  rw[wrap_u64 (by omega) (by omega),wrap_u64 (by omega) (by omega),wrap_u64 (by omega) (by omega),wrap_u64 (by omega) (by omega),wrap_u64 (by omega) (by omega)]
  rfl
 unfold PG
 rw[e]
 obtain ⟨h1,h2⟩:=tO (x:=Cs (x0+y0) (x1+y1) (x2+y2) (x3+y3) (x4+y4)) (by simp only[U5,uI,Cs];omega)
 refine ⟨h1,?_⟩
 rw[h2]
 unfold fe
 rw[← kB]
 congr 1
 simp only[eW,Cs];omega
theorem Yf {x y:Fe} (hx:fv x) (hy:fv y):fv (IF cd x y)∧fe (IF cd x y)=fe x-fe y:=by
 obtain ⟨x0,x1,x2,x3,x4,u⟩:=x
 obtain ⟨y0,y1,y2,y3,y4,v⟩:=y
 simp only[fv,IG] at hx hy
 have e:Vec.zip (n:=5) (fun a b=>dE (a-b)) (Vec.zip (n:=5) (fun a b=>dE (a+b)) (x0,x1,x2,x3,x4,u) (4503599627370458,4503599627370494,4503599627370494,4503599627370494,4503599627370494,())) (y0,y1,y2,y3,y4,v)=
   Cs (x0+4503599627370458-y0) (x1+4503599627370494-y1) (x2+4503599627370494-y2) (x3+4503599627370494-y3) (x4+4503599627370494-y4):=by
  show (dE (dE (x0+4503599627370458)-y0),dE (dE (x1+4503599627370494)-y1),dE (dE (x2+4503599627370494)-y2),dE (dE (x3+4503599627370494)-y3),dE (dE (x4+4503599627370494)-y4),())=_
  simp only[dE]
  rw[wrap_u64 (n:=x0+4503599627370458) (by omega) (by omega),wrap_u64 (n:=x1+4503599627370494) (by omega) (by omega),wrap_u64 (n:=x2+4503599627370494) (by omega) (by omega),wrap_u64 (n:=x3+4503599627370494) (by omega) (by omega),wrap_u64 (n:=x4+4503599627370494) (by omega) (by omega)]
  rw[wrap_u64 (by omega) (by omega),wrap_u64 (by omega) (by omega),wrap_u64 (by omega) (by omega),wrap_u64 (by omega) (by omega),wrap_u64 (by omega) (by omega)]
  rfl
 unfold IF
 rw[e]
 obtain ⟨h1,h2⟩:=tO (x:=Cs (x0+4503599627370458-y0) (x1+4503599627370494-y1) (x2+4503599627370494-y2) (x3+4503599627370494-y3) (x4+4503599627370494-y4)) (by simp only[U5,uI,Cs];omega)
 refine ⟨h1,?_⟩
 rw[h2]
 unfold fe
 rw[← acF,← Fl (eW (x0,x1,x2,x3,x4,u)-_) 2]
 congr 1
 simp only[eW,pp,Cs];omega
theorem iH:fv dz∧fe dz=0:=by
 refine ⟨by simp[fv,IG,dz],?_⟩
 rw[← Ye];rfl
theorem Ct {a b:Int} (ha:uI a) (hb:uI b):bc a b=(a*b/18446744073709551616,a*b%18446744073709551616):=by
 simp only[uI] at ha hb
 have e0: ∀ x,dm x 4294967295=x%4294967296:=fun x=>by
  have:=rW (m:=32) (by decide) x 4294967295 (by decide)
  simpa [dm] using this
 have e1: ∀ x,bz x 32=x/4294967296:=fun x=>by
  have:=eG .u64 x 32 (by decide)
  simpa [bz] using this
 obtain ⟨a0,a1,ha0,ha1,rfl⟩: ∃ a0 a1:Int,a%4294967296=a0∧a/4294967296=a1∧a=a1*4294967296+a0:=⟨_,_,rfl,rfl,by omega⟩
 obtain ⟨b0,b1,Kr,Ol,rfl⟩: ∃ b0 b1:Int,b%4294967296=b0∧b/4294967296=b1∧b=b1*4294967296+b0:=⟨_,_,rfl,rfl,by omega⟩
 have rp: ∀ {p q:Int},0≤p→p≤4294967295→0≤q→q≤4294967295→0≤p*q∧p*q≤18446744065119617025:=fun {p q} h1 h2 h3 h4=>
  ⟨Int.mul_nonneg h1 h3,Int.le_trans (Int.mul_le_mul h2 h4 h3 (by decide)) (by decide)⟩
 have Kh:=rp (p:=a0) (q:=b0) (by omega) (by omega) (by omega) (by omega)
 have h01:=rp (p:=a0) (q:=b1) (by omega) (by omega) (by omega) (by omega)
 have Gp:=rp (p:=a1) (q:=b0) (by omega) (by omega) (by omega) (by omega)
 have h11:=rp (p:=a1) (q:=b1) (by omega) (by omega) (by omega) (by omega)
 have hab:(a1*4294967296+a0)*(b1*4294967296+b0)=a1*b1*18446744073709551616+(a1*b0+a0*b1)*4294967296+a0*b0:=by grind
 simp only[bc,e0,e1,ha0,ha1,Kr,Ol,dE]
 rw[hab]
 generalize a0*b0=p00 at*
 generalize a0*b1=p01 at*
 generalize a1*b0=p10 at*
 generalize a1*b1=p11 at*
 rw[wrap_u64 (n:=p00) (by omega) (by omega),wrap_u64 (n:=p10) (by omega) (by omega),wrap_u64 (n:=p01) (by omega) (by omega),wrap_u64 (n:=p11) (by omega) (by omega)]
 rw[wrap_u64 (n:=p10+p00/4294967296) (by omega) (by omega)]
 rw[wrap_u64 (n:=(p10+p00/4294967296)%4294967296+p01) (by omega) (by omega)]
 rw[wrap_u64 (n:=p11+(p10+p00/4294967296)/4294967296) (by omega) (by omega)]
 rw[lA,lA]
 refine Prod.ext ?_ ?_
 ·show _=_/_;omega
 ·show _=_%_;omega
end Go.Proofs.YtjalaohajcpllaaGreat
namespace Go.Proofs.YtjalaohajcpllaaGreat
open Go Go.Ev BJ
theorem jA {x y c:Int} (hx:0≤x) (hy:0≤y) (hc:0≤c):bg x y c=((x+y+c)%18446744073709551616,(x+y+c)/18446744073709551616):=by
 obtain ⟨a,rfl⟩:=Int.eq_ofNat_of_zero_le hx
 obtain ⟨b,rfl⟩:=Int.eq_ofNat_of_zero_le hy
 obtain ⟨d,rfl⟩:=Int.eq_ofNat_of_zero_le hc
 simp only[bg,Int.toNat_natCast]
 refine Prod.ext ?_ ?_
 ·show (((a+b+d)%2 ^ 64:Nat):Int)=_;omega
 ·show (((a+b+d)/2 ^ 64:Nat):Int)=_;omega
def OkP (p:Int×Int):Prop:=0≤p.2∧p.2<18446744073709551616∧0≤p.1
def pv (p:Int×Int):Int:=p.1*18446744073709551616+p.2
def eM (x:Fe) (i j:Nat):Int:=if i+j<5 then x.get i else dE (x.get i*19)
def oE (x y:Fe) (k:Nat):List (Nat×Nat)→Int
 | []=>0
 |(i,j)::l=>(if (i+j)%5=k then eM x i j*y.get j else 0)+oE x y k l
theorem Cu {x y:Fe} (hc: ∀ i j,i<5→j<5→0≤eM x i j∧eM x i j<72057594037927936) (hy: ∀ j,j<5→0≤y.get j∧y.get j<4503599627370496):
  ∀ (l:List (Nat×Nat)) (r:List (Int×Int)) (B:Int),(∀ p∈l,p.1<5∧p.2<5)→r.length=5→(∀ k,k<5→OkP (r.getD k (0,0))∧pv (r.getD k (0,0))≤B)→
   B+l.length*324518553658426726783156020576256<340282366920938463463374607431768211456→
   (∀ k,k<5→OkP ((gb bc bg x y l r).1.getD k (0,0))∧pv ((gb bc bg x y l r).1.getD k (0,0))=pv (r.getD k (0,0))+oE x y k l)∧
   ∀ p∈(gb bc bg x y l r).2,p
 | [],r,B,_,hl,hr,_=>⟨fun k hk=>⟨(hr k hk).1,by simp[gb,oE]⟩,fun p hp=>by simp[gb] at hp⟩
 |(i,j)::l,r,B,hm,hl,hr,hB=>by
  obtain ⟨hi,hj⟩:=hm (i,j) (by simp)
  obtain ⟨c0,c1⟩:=hc i j hi hj
  obtain ⟨y0,y1⟩:=hy j hj
  have hkk:(i+j)%5<5:=Nat.mod_lt _ (by decide)
  obtain ⟨⟨p0,p1,p2⟩,p3⟩:=hr _ hkk
  have hpr:0≤eM x i j*y.get j∧eM x i j*y.get j≤324518553658426726783156020576256:=⟨Int.mul_nonneg c0 y0,by
   have:=Int.mul_le_mul (a:=eM x i j) (b:=y.get j) (c:=72057594037927936) (d:=4503599627370496) (by omega) (by omega) (by omega) (by omega)
   omega⟩
  have hcB:0≤(l.length:Int):=by omega
  simp only[List.length_cons,Int.natCast_add] at hB
  have hmul:=Ct (a:=eM x i j) (b:=y.get j) ⟨c0,by omega⟩ ⟨y0,by omega⟩
  generalize hab:eM x i j*y.get j=ab at hpr hmul
  generalize hpe:r.getD ((i+j)%5) (0,0)=p at p0 p1 p2 p3
  unfold pv at p3
  have hs:bg p.2 (bc (eM x i j) (y.get j)).2 0=((p.2+ab%18446744073709551616+0)%18446744073709551616,(p.2+ab%18446744073709551616+0)/18446744073709551616):=by
   rw[hmul];exact jA p0 (by show 0≤ab%18446744073709551616;omega) (by omega)
  have ht:bg p.1 (bc (eM x i j) (y.get j)).1 (bg p.2 (bc (eM x i j) (y.get j)).2 0).2=((p.1+ab/18446744073709551616+(p.2+ab%18446744073709551616+0)/18446744073709551616)%18446744073709551616,
    (p.1+ab/18446744073709551616+(p.2+ab%18446744073709551616+0)/18446744073709551616)/18446744073709551616):=by
   rw[hs,hmul];exact jA p2 (by show 0≤ab/18446744073709551616;omega) (by show 0≤(p.2+ab%18446744073709551616+0)/18446744073709551616;omega)
  have GR:gb bc bg x y ((i,j)::l) r=((gb bc bg x y l (r.set ((i+j)%5) ((bg p.1 (bc (eM x i j) (y.get j)).1 (bg p.2 (bc (eM x i j) (y.get j)).2 0).2).1,(bg p.2 (bc (eM x i j) (y.get j)).2 0).1))).1,
    (0≤(bg p.2 (bc (eM x i j) (y.get j)).2 0).2∧(bg p.2 (bc (eM x i j) (y.get j)).2 0).2≤1)::(gb bc bg x y l (r.set ((i+j)%5) ((bg p.1 (bc (eM x i j) (y.get j)).1 (bg p.2 (bc (eM x i j) (y.get j)).2 0).2).1,(bg p.2 (bc (eM x i j) (y.get j)).2 0).1))).2):=by
   rw[← hpe];rfl
  rw[GR,ht,hs]
  have ld: ∀ (v:Int×Int) k,k<5→(r.set ((i+j)%5) v).getD k (0,0)=if (i+j)%5=k then v else r.getD k (0,0):=by
   intro v k hk
   simp only[List.getD_eq_getElem?_getD,List.getElem?_set]
   split
   ·rename_i e;subst e;simp[hl,hkk]
   ·rfl
  obtain ⟨h1,h2⟩:=Cu hc hy l (r.set ((i+j)%5) ((p.1+ab/18446744073709551616+(p.2+ab%18446744073709551616+0)/18446744073709551616)%18446744073709551616,(p.2+ab%18446744073709551616+0)%18446744073709551616))
   (B+324518553658426726783156020576256) (fun p hp=>hm p (by simp[hp])) (by simpa using hl) (fun k hk=>by
    rw[ld _ k hk]
    split
    ·refine ⟨⟨?_,?_,?_⟩,?_⟩
     ·show 0≤(p.2+ab%18446744073709551616+0)%18446744073709551616;omega
     ·show (p.2+ab%18446744073709551616+0)%18446744073709551616<_;omega
     ·show 0≤(p.1+ab/18446744073709551616+(p.2+ab%18446744073709551616+0)/18446744073709551616)%18446744073709551616;omega
     ·show (p.1+ab/18446744073709551616+(p.2+ab%18446744073709551616+0)/18446744073709551616)%18446744073709551616*18446744073709551616+(p.2+ab%18446744073709551616+0)%18446744073709551616≤_
      omega
    ·exact ⟨(hr k hk).1,by have:=(hr k hk).2;omega⟩) (by omega)
  refine ⟨fun k hk=>?_,?_⟩
  ·obtain ⟨h3,h4⟩:=h1 k hk
   refine ⟨h3,?_⟩
   show pv _=_+((if (i+j)%5=k then eM x i j*y.get j else 0)+oE x y k l)
   rw[h4,ld _ k hk]
   split
   ·rename_i e
    rw[← e,hpe,hab]
    simp only[pv]
    omega
   ·omega
  ·intro q hq
   rcases List.mem_cons.1 hq with rfl|hq
   ·show 0≤(p.2+ab%18446744073709551616+0)/18446744073709551616∧(p.2+ab%18446744073709551616+0)/18446744073709551616≤1
    omega
   ·exact h2 q hq
theorem qm: ∀ {l:List Prop},(∀ p∈l,p)→ef (tL l)
 | [],_=>trivial
 |p::l,h=>by
  have h1:=h p (by simp)
  have h2:=qm (l:=l) fun q hq=>h q (by simp[hq])
  unfold tL
  cases hc:tL l with
  |none=>exact h1
  |some q=>rw[hc] at h2;exact ⟨h1,h2⟩
theorem akI (x0 x1 x2 x3 x4:Int) (u:Vec Int 0):Vec.get (n:=5) (x0,x1,x2,x3,x4,u) 0=x0∧Vec.get (n:=5) (x0,x1,x2,x3,x4,u) 1=x1∧Vec.get (n:=5) (x0,x1,x2,x3,x4,u) 2=x2∧
  Vec.get (n:=5) (x0,x1,x2,x3,x4,u) 3=x3∧Vec.get (n:=5) (x0,x1,x2,x3,x4,u) 4=x4:=⟨rfl,rfl,rfl,rfl,rfl⟩
theorem IH {x:Fe} {Q:Int→Prop} (h0:Q x.1) (h1:Q x.2.1) (h2:Q x.2.2.1) (h3:Q x.2.2.2.1) (h4:Q x.2.2.2.2.1): ∀ i,i<5→Q (x.get i)
 |0,_=>h0
 |1,_=>h1
 |2,_=>h2
 |3,_=>h3
 |4,_=>h4
 |n+5,h=>absurd h (by omega)
theorem II {x y:Fe} (hx:fv x) (hy:fv y):ef (tL (Ab bc bg x y))∧
  ∀ k,k<5→ ∃ p,(gb bc bg x y eV [(0,0),(0,0),(0,0),(0,0),(0,0)]).1.getD k (0,0)=p∧OkP p∧pv p=oE x y k eV:=by
 have hgx: ∀ i,i<5→IG (x.get i):=IH hx.1 hx.2.1 hx.2.2.1 hx.2.2.2.1 hx.2.2.2.2
 have hgy: ∀ i,i<5→IG (y.get i):=IH hy.1 hy.2.1 hy.2.2.1 hy.2.2.2.1 hy.2.2.2.2
 obtain ⟨h1,h2⟩:=Cu (x:=x) (y:=y) (fun i j hi hj=>by
   obtain ⟨a,b⟩:=hgx i hi
   unfold eM
   split
   ·omega
   ·unfold dE;rw[wrap_u64 (by omega) (by omega)];omega) (fun j hj=>by obtain ⟨a,b⟩:=hgy j hj;omega)
  eV [(0,0),(0,0),(0,0),(0,0),(0,0)] 0 (by decide) rfl (fun k hk=>by
   have:([(0,0),(0,0),(0,0),(0,0),(0,0)]:List (Int×Int)).getD k (0,0)=(0,0):=by
    match k,hk with
    |0,_=>rfl
    |1,_=>rfl
    |2,_=>rfl
    |3,_=>rfl
    |4,_=>rfl
   rw[this];exact ⟨⟨by decide,by decide,by decide⟩,by decide⟩) (by decide)
 refine ⟨qm h2,fun k hk=>⟨_,rfl,(h1 k hk).1,?_⟩⟩
 rw[(h1 k hk).2]
 have:([(0,0),(0,0),(0,0),(0,0),(0,0)]:List (Int×Int)).getD k (0,0)=(0,0):=by
  match k,hk with
  |0,_=>rfl
  |1,_=>rfl
  |2,_=>rfl
  |3,_=>rfl
  |4,_=>rfl
 rw[this];simp[pv]
theorem oF {p:Int×Int} (h:OkP p) {R:Int} (hR:pv p=R) (fD:R<20769187434139310514121985316880384):
  dm p.2 Cq=R%2251799813685248∧bm .u64 (shl .u64 p.1 13) (bz p.2 51)=R/2251799813685248:=by
 obtain ⟨a,b⟩:=p
 obtain ⟨h0,h1,h2⟩:=h
 simp only[pv] at*
 rw[tN,Fm]
 have e:shl .u64 a 13=a*8192:=by
  have:=gM .u64 a 13 (by decide)
  rw[show ((13:Nat):Int)=13 from rfl] at this
  rw[this]
  exact wrap_u64 (by omega) (by omega)
 rw[e,nV (m:=13) (by omega) (by omega) (by omega) (by omega) (by omega)]
 constructor<;>omega
theorem acG (x0 x1 x2 x3 x4 y0 y1 y2 y3 y4:Int) (u v:Vec Int 0) (hx:fv (x0,x1,x2,x3,x4,u)) (k:Nat) (hk:k<5):
  oE (x0,x1,x2,x3,x4,u) (y0,y1,y2,y3,y4,v) k eV=
   [x0*y0+x1*19*y4+x2*19*y3+x3*19*y2+x4*19*y1,x0*y1+x1*y0+x2*19*y4+x3*19*y3+x4*19*y2,x0*y2+x1*y1+x2*y0+x3*19*y4+x4*19*y3,
    x0*y3+x1*y2+x2*y1+x3*y0+x4*19*y4,x0*y4+x1*y3+x2*y2+x3*y1+x4*y0].getD k 0:=by
 simp only[fv,IG] at hx
 have w1:dE (x1*19)=x1*19:=wrap_u64 (by omega) (by omega)
 have w2:dE (x2*19)=x2*19:=wrap_u64 (by omega) (by omega)
 have w3:dE (x3*19)=x3*19:=wrap_u64 (by omega) (by omega)
 have w4:dE (x4*19)=x4*19:=wrap_u64 (by omega) (by omega)
 obtain ⟨g0,g1,g2,g3,g4⟩:=akI x0 x1 x2 x3 x4 u
 obtain ⟨f0,f1,f2,f3,f4⟩:=akI y0 y1 y2 y3 y4 v
 match k,hk with
 |0,_=>simp[oE,eV,eM,g0,g1,g2,g3,g4,f0,f1,f2,f3,f4,w1,w2,w3,w4];omega
 |1,_=>simp[oE,eV,eM,g0,g1,g2,g3,g4,f0,f1,f2,f3,f4,w2,w3,w4];omega
 |2,_=>simp[oE,eV,eM,g0,g1,g2,g3,g4,f0,f1,f2,f3,f4,w3,w4];omega
 |3,_=>simp[oE,eV,eM,g0,g1,g2,g3,g4,f0,f1,f2,f3,f4,w4];omega
 |4,_=>simp[oE,eV,eM,g0,g1,g2,g3,g4,f0,f1,f2,f3,f4];omega
theorem Yg (x0 x1 x2 x3 x4 y0 y1 y2 y3 y4 t:F) (ht:t*t*t*t*t=19):
  (x0*y0+x1*19*y4+x2*19*y3+x3*19*y2+x4*19*y1)+(x0*y1+x1*y0+x2*19*y4+x3*19*y3+x4*19*y2)*t+(x0*y2+x1*y1+x2*y0+x3*19*y4+x4*19*y3)*(t*t)+
   (x0*y3+x1*y2+x2*y1+x3*y0+x4*19*y4)*(t*t*t)+(x0*y4+x1*y3+x2*y2+x3*y1+x4*y0)*(t*t*t*t)=
  (x0+x1*t+x2*(t*t)+x3*(t*t*t)+x4*(t*t*t*t))*(y0+y1*t+y2*(t*t)+y3*(t*t*t)+y4*(t*t*t*t)):=by
 grobner
end Go.Proofs.YtjalaohajcpllaaGreat
namespace Go.Proofs.YtjalaohajcpllaaGreat
open Go Go.Ev BJ
def tt:F:=cS 2251799813685248
theorem tt5:tt*tt*tt*tt*tt=19:=by decide+kernel
theorem tt2:cS 5070602400912917605986812821504=tt*tt:=by decide+kernel
theorem tt3:cS 11417981541647679048466287755595961091061972992=tt*tt*tt:=by decide+kernel
theorem tt4:cS 25711008708143844408671393477458601640355247900524685364822016=tt*tt*tt*tt:=by decide+kernel
theorem t19:cS 19=19:=by decide+kernel
theorem Af (x0 x1 x2 x3 x4:Int):cS (x0+x1*2251799813685248+x2*5070602400912917605986812821504+x3*11417981541647679048466287755595961091061972992+x4*25711008708143844408671393477458601640355247900524685364822016)=
  cS x0+cS x1*tt+cS x2*(tt*tt)+cS x3*(tt*tt*tt)+cS x4*(tt*tt*tt*tt):=by
 simp only[kB,pT,tt2,tt3,tt4];rfl
theorem acH {R0 R1 R2 R3 R4:Int} (n0:0≤R0∧R0≤1000000000000000000000000000000000) (n1:0≤R1∧R1≤1000000000000000000000000000000000) (n2:0≤R2∧R2≤1000000000000000000000000000000000)
  (n3:0≤R3∧R3≤1000000000000000000000000000000000) (n4:0≤R4∧R4≤26000000000000000000000000000000):
  ((dE (dE (0+R0%2251799813685248)+dE (R4/2251799813685248*19)),dE (dE (0+R0/2251799813685248)+R1%2251799813685248),dE (dE (0+R1/2251799813685248)+R2%2251799813685248),
    dE (dE (0+R2/2251799813685248)+R3%2251799813685248),dE (dE (0+R3/2251799813685248)+R4%2251799813685248),()):Fe)=Cs (R0%2251799813685248+R4/2251799813685248*19) (R0/2251799813685248+R1%2251799813685248) (R1/2251799813685248+R2%2251799813685248)
    (R2/2251799813685248+R3%2251799813685248) (R3/2251799813685248+R4%2251799813685248):=by
 simp only[dE,Int.zero_add]
 rw[wrap_u64 (n:=R0%2251799813685248) (by omega) (by omega),wrap_u64 (n:=R4/2251799813685248*19) (by omega) (by omega),wrap_u64 (n:=R0/2251799813685248) (by omega) (by omega),wrap_u64 (n:=R1/2251799813685248) (by omega) (by omega),
  wrap_u64 (n:=R2/2251799813685248) (by omega) (by omega),wrap_u64 (n:=R3/2251799813685248) (by omega) (by omega)]
 rw[wrap_u64 (n:=R0%2251799813685248+R4/2251799813685248*19) (by omega) (by omega),wrap_u64 (n:=R0/2251799813685248+R1%2251799813685248) (by omega) (by omega),wrap_u64 (n:=R1/2251799813685248+R2%2251799813685248) (by omega) (by omega),
  wrap_u64 (n:=R2/2251799813685248+R3%2251799813685248) (by omega) (by omega),wrap_u64 (n:=R3/2251799813685248+R4%2251799813685248) (by omega) (by omega)]
 rfl
theorem acI {R0 R1 R2 R3 R4:Int} (n0:0≤R0∧R0≤1000000000000000000000000000000000) (n1:0≤R1∧R1≤1000000000000000000000000000000000) (n2:0≤R2∧R2≤1000000000000000000000000000000000)
  (n3:0≤R3∧R3≤1000000000000000000000000000000000) (n4:0≤R4∧R4≤26000000000000000000000000000000):
  U5 (Cs (R0%2251799813685248+R4/2251799813685248*19) (R0/2251799813685248+R1%2251799813685248) (R1/2251799813685248+R2%2251799813685248)
   (R2/2251799813685248+R3%2251799813685248) (R3/2251799813685248+R4%2251799813685248))∧fe (Cs (R0%2251799813685248+R4/2251799813685248*19) (R0/2251799813685248+R1%2251799813685248) (R1/2251799813685248+R2%2251799813685248)
   (R2/2251799813685248+R3%2251799813685248) (R3/2251799813685248+R4%2251799813685248))=
   cS (R0+R1*2251799813685248+R2*5070602400912917605986812821504+R3*11417981541647679048466287755595961091061972992+R4*25711008708143844408671393477458601640355247900524685364822016):=by
 constructor
 ·simp only[U5,uI,Cs];omega
 ·unfold fe
  rw[← Fl (eW _) (R4/2251799813685248)]
  congr 1
  simp only[eW,pp,Cs];omega
set_option maxHeartbeats 1000000 in
theorem vO {x y:Fe} (hx:fv x) (hy:fv y):fv (q6 bc bg cd x y)∧fe (q6 bc bg cd x y)=fe x*fe y:=by
 obtain ⟨_,hr⟩:=II hx hy
 obtain ⟨x0,x1,x2,x3,x4,u⟩:=x
 obtain ⟨y0,y1,y2,y3,y4,v⟩:=y
 have hv:=acG x0 x1 x2 x3 x4 y0 y1 y2 y3 y4 u v hx
 have rp: ∀ {p q:Int},0≤p→p<2251799813947392→0≤q→q<2251799813947392→0≤p*q∧p*q≤5070602402093548913987446767616:=fun {p q} h1 h2 h3 h4=>
  ⟨Int.mul_nonneg h1 h3,Int.le_trans (Int.mul_le_mul (c:=2251799813947392) (d:=2251799813947392) (by omega) (by omega) h3 (by decide)) (by decide)⟩
 simp only[fv,IG] at hx hy
 obtain ⟨uE,CZ,J7,hx3,hx4⟩:=hx
 obtain ⟨yf,J8,Oc,hy3,hy4⟩:=hy
 have b00:=rp uE.1 uE.2 yf.1 yf.2
 have b01:=rp uE.1 uE.2 J8.1 J8.2
 have b02:=rp uE.1 uE.2 Oc.1 Oc.2
 have b03:=rp uE.1 uE.2 hy3.1 hy3.2
 have b04:=rp uE.1 uE.2 hy4.1 hy4.2
 have b10:=rp CZ.1 CZ.2 yf.1 yf.2
 have b11:=rp CZ.1 CZ.2 J8.1 J8.2
 have b12:=rp CZ.1 CZ.2 Oc.1 Oc.2
 have b13:=rp CZ.1 CZ.2 hy3.1 hy3.2
 have b14:=rp CZ.1 CZ.2 hy4.1 hy4.2
 have b20:=rp J7.1 J7.2 yf.1 yf.2
 have b21:=rp J7.1 J7.2 J8.1 J8.2
 have b22:=rp J7.1 J7.2 Oc.1 Oc.2
 have b23:=rp J7.1 J7.2 hy3.1 hy3.2
 have b24:=rp J7.1 J7.2 hy4.1 hy4.2
 have b30:=rp hx3.1 hx3.2 yf.1 yf.2
 have b31:=rp hx3.1 hx3.2 J8.1 J8.2
 have b32:=rp hx3.1 hx3.2 Oc.1 Oc.2
 have b33:=rp hx3.1 hx3.2 hy3.1 hy3.2
 have b34:=rp hx3.1 hx3.2 hy4.1 hy4.2
 have b40:=rp hx4.1 hx4.2 yf.1 yf.2
 have b41:=rp hx4.1 hx4.2 J8.1 J8.2
 have b42:=rp hx4.1 hx4.2 Oc.1 Oc.2
 have b43:=rp hx4.1 hx4.2 hy3.1 hy3.2
 have b44:=rp hx4.1 hx4.2 hy4.1 hy4.2
 have sw: ∀ a b:Int,a*19*b=19*(a*b):=fun a b=>by rw[Int.mul_comm a 19,Int.mul_assoc]
 obtain ⟨p0,e0,k0,v0⟩:=hr 0 (by decide)
 obtain ⟨p1,e1,k1,v1⟩:=hr 1 (by decide)
 obtain ⟨p2,e2,k2,v2⟩:=hr 2 (by decide)
 obtain ⟨p3,e3,k3,v3⟩:=hr 3 (by decide)
 obtain ⟨p4,e4,k4,v4⟩:=hr 4 (by decide)
 rw[hv 0 (by decide)] at v0
 rw[hv 1 (by decide)] at v1
 rw[hv 2 (by decide)] at v2
 rw[hv 3 (by decide)] at v3
 rw[hv 4 (by decide)] at v4
 have v0':pv p0=x0*y0+x1*19*y4+x2*19*y3+x3*19*y2+x4*19*y1:=v0
 have v1':pv p1=x0*y1+x1*y0+x2*19*y4+x3*19*y3+x4*19*y2:=v1
 have v2':pv p2=x0*y2+x1*y1+x2*y0+x3*19*y4+x4*19*y3:=v2
 have v3':pv p3=x0*y3+x1*y2+x2*y1+x3*y0+x4*19*y4:=v3
 have v4':pv p4=x0*y4+x1*y3+x2*y2+x3*y1+x4*y0:=v4
 have ae9:=Yg (cS x0) (cS x1) (cS x2) (cS x3) (cS x4) (cS y0) (cS y1) (cS y2) (cS y3) (cS y4) tt tt5
 have hR0:cS (pv p0)=cS x0*cS y0+cS x1*19*cS y4+cS x2*19*cS y3+cS x3*19*cS y2+cS x4*19*cS y1:=by rw[v0'];simp only[kB,pT,t19]
 have hR1:cS (pv p1)=cS x0*cS y1+cS x1*cS y0+cS x2*19*cS y4+cS x3*19*cS y3+cS x4*19*cS y2:=by rw[v1'];simp only[kB,pT,t19]
 have hR2:cS (pv p2)=cS x0*cS y2+cS x1*cS y1+cS x2*cS y0+cS x3*19*cS y4+cS x4*19*cS y3:=by rw[v2'];simp only[kB,pT,t19]
 have hR3:cS (pv p3)=cS x0*cS y3+cS x1*cS y2+cS x2*cS y1+cS x3*cS y0+cS x4*19*cS y4:=by rw[v3'];simp only[kB,pT,t19]
 have hR4:cS (pv p4)=cS x0*cS y4+cS x1*cS y3+cS x2*cS y2+cS x3*cS y1+cS x4*cS y0:=by rw[v4'];simp only[kB,pT]
 rw[← hR0,← hR1,← hR2,← hR3,← hR4] at ae9
 have n0:0≤pv p0∧pv p0≤1000000000000000000000000000000000:=by rw[v0'];simp only[sw];omega
 have n1:0≤pv p1∧pv p1≤1000000000000000000000000000000000:=by rw[v1'];simp only[sw];omega
 have n2:0≤pv p2∧pv p2≤1000000000000000000000000000000000:=by rw[v2'];simp only[sw];omega
 have n3:0≤pv p3∧pv p3≤1000000000000000000000000000000000:=by rw[v3'];simp only[sw];omega
 have n4:0≤pv p4∧pv p4≤26000000000000000000000000000000:=by rw[v4'];omega
 obtain ⟨l0,c0⟩:=oF k0 rfl (by omega)
 obtain ⟨l1,c1⟩:=oF k1 rfl (by omega)
 obtain ⟨l2,c2⟩:=oF k2 rfl (by omega)
 obtain ⟨l3,c3⟩:=oF k3 rfl (by omega)
 obtain ⟨l4,c4⟩:=oF k4 rfl (by omega)
 generalize pv p0=R0 at*
 generalize pv p1=R1 at*
 generalize pv p2=R2 at*
 generalize pv p3=R3 at*
 generalize pv p4=R4 at*
 have e:q6 bc bg cd (x0,x1,x2,x3,x4,u) (y0,y1,y2,y3,y4,v)=cd (Cs (R0%2251799813685248+R4/2251799813685248*19) (R0/2251799813685248+R1%2251799813685248) (R1/2251799813685248+R2%2251799813685248)
   (R2/2251799813685248+R3%2251799813685248) (R3/2251799813685248+R4%2251799813685248)):=by
  rw[← acH n0 n1 n2 n3 n4]
  simp only[q6,e0,e1,e2,e3,e4,l0,l1,l2,l3,l4,c0,c1,c2,c3,c4]
 rw[e]
 obtain ⟨hU,h3⟩:=acI n0 n1 n2 n3 n4
 obtain ⟨h1,h2⟩:=tO hU
 refine ⟨h1,?_⟩
 rw[h2,h3,Af,ae9]
 show _=cS (x0+x1*_+_+_+_)*cS (y0+y1*_+_+_+_)
 rw[Af,Af]
def kC (n:Int):Prop:=0≤n∧n<2251799813685248
def aha (x:Fe):Prop:=(kC x.1∧kC x.2.1∧kC x.2.2.1∧kC x.2.2.2.1∧kC x.2.2.2.2.1)∧eW x<(pp:Int)
theorem Yh {x:Fe} (hx:fv x):aha (tK cd x)∧fe (tK cd x)=fe x:=by
 obtain ⟨hy,hyx⟩:=tO (x:=x) (by simp only[fv,IG] at hx;simp only[U5,uI];omega)
 rw[← hyx]
 unfold tK
 generalize cd x=y at hy
 obtain ⟨y0,y1,y2,y3,y4,u⟩:=y
 simp only[fv,IG] at hy
 simp only[tN,Fm,dE]
 obtain ⟨a0,ha0⟩: ∃ a,a=(y0+19)/2251799813685248:=⟨_,rfl⟩
 obtain ⟨a1,ha1⟩: ∃ a,a=(y1+a0)/2251799813685248:=⟨_,rfl⟩
 obtain ⟨a2,ha2⟩: ∃ a,a=(y2+a1)/2251799813685248:=⟨_,rfl⟩
 obtain ⟨a3,ha3⟩: ∃ a,a=(y3+a2)/2251799813685248:=⟨_,rfl⟩
 obtain ⟨q,hq⟩: ∃ a,a=(y4+a3)/2251799813685248:=⟨_,rfl⟩
 rw[wrap_u64 (n:=y0+19) (by omega) (by omega),← ha0]
 rw[wrap_u64 (n:=y1+a0) (by omega) (by omega),← ha1]
 rw[wrap_u64 (n:=y2+a1) (by omega) (by omega),← ha2]
 rw[wrap_u64 (n:=y3+a2) (by omega) (by omega),← ha3]
 rw[wrap_u64 (n:=y4+a3) (by omega) (by omega),← hq]
 have aoJ:q=0∨q=1:=by omega
 rw[wrap_u64 (n:=q*19) (by omega) (by omega)]
 obtain ⟨c0,hc0⟩: ∃ a,a=q*19+y0:=⟨_,rfl⟩
 rw[wrap_u64 (n:=q*19+y0) (by omega) (by omega),← hc0]
 obtain ⟨c1,hc1⟩: ∃ a,a=c0/2251799813685248+y1:=⟨_,rfl⟩
 rw[wrap_u64 (n:=c0/2251799813685248+y1) (by omega) (by omega),← hc1]
 obtain ⟨c2,hc2⟩: ∃ a,a=c1/2251799813685248+y2:=⟨_,rfl⟩
 rw[wrap_u64 (n:=c1/2251799813685248+y2) (by omega) (by omega),← hc2]
 obtain ⟨c3,hc3⟩: ∃ a,a=c2/2251799813685248+y3:=⟨_,rfl⟩
 rw[wrap_u64 (n:=c2/2251799813685248+y3) (by omega) (by omega),← hc3]
 obtain ⟨c4,hc4⟩: ∃ a,a=c3/2251799813685248+y4:=⟨_,rfl⟩
 rw[wrap_u64 (n:=c3/2251799813685248+y4) (by omega) (by omega),← hc4]
 have dY:eW (c0%2251799813685248,c1%2251799813685248,c2%2251799813685248,c3%2251799813685248,c4%2251799813685248,())=eW (y0,y1,y2,y3,y4,u)-q*(pp:Int)∧
   eW (c0%2251799813685248,c1%2251799813685248,c2%2251799813685248,c3%2251799813685248,c4%2251799813685248,())<(pp:Int):=by
  simp only[eW,pp]
  rcases aoJ with rfl|rfl
  ·constructor<;>omega
  ·constructor<;>omega
 refine ⟨⟨by simp only[kC];omega,dY.2⟩,?_⟩
 unfold fe
 rw[dY.1,← Fl (eW (y0,y1,y2,y3,y4,u)-_) q]
 congr 1;omega
end Go.Proofs.YtjalaohajcpllaaGreat
namespace Go.Proofs.YtjalaohajcpllaaGreat
open Go Go.Ev BJ
def c5: {n:Nat}→Vec Int n→Int
 |0,_=>0
 |_+1,v=>v.1+256*c5 v.2
def qn: {n:Nat}→Vec Int n→Prop
 |0,_=>True
 |_+1,v=>(0≤v.1∧v.1<256)∧qn v.2
theorem eu: {n:Nat}→ {v:Vec Int n}→qn v→0≤c5 v
 |0,_,_=>Int.le_refl _
 |n+1,v,h=>by have:=eu h.2;have:=h.1;simp only[c5];omega
theorem tP: {n:Nat}→ {v:Vec Int n}→qn v→c5 v<(256 ^ n:Nat)
 |0,_,_=>by simp[c5]
 |n+1,v,h=>by
  have h1:=tP h.2
  have h2:=h.1
  simp only[c5]
  have e:(256 ^ (n+1):Nat)=256*256 ^ n:=by rw[Nat.pow_succ,Nat.mul_comm]
  rw[e]
  generalize (256 ^ n:Nat)=m at*
  omega
theorem IJ: {n:Nat}→ {v u:Vec Int n}→qn v→qn u→c5 v=c5 u→v=u
 |0,_,_,_,_,_=>rfl
 |n+1,v,u,hv,hu,h=>by
  simp only[c5] at h
  have h1:=hv.1
  have h2:=hu.1
  have e1:v.1=u.1:=by omega
  have e2:c5 v.2=c5 u.2:=by omega
  exact Prod.ext e1 (IJ hv.2 hu.2 e2)
def Ag (n:Nat) (V:Int):Vec Int n:=Vec.ofFn n fun j=>V/(256 ^ j:Nat)%256
theorem vP:(n:Nat)→(V:Int)→0≤V→qn (Ag n V)∧c5 (Ag n V)=V%(256 ^ n:Nat)
 |0,V,h=>⟨trivial,by simp[c5]⟩
 |n+1,V,h=>by
  have e:Ag (n+1) V=(V/(256 ^ 0:Nat)%256,Ag n (V/256)):=by
   unfold Ag
   show (_,Vec.ofFn n fun i=>V/(256 ^ (i+1):Nat)%256)=_
   have:(fun i:Nat=>V/(256 ^ (i+1):Nat)%256)=fun j:Nat=>V/256/(256 ^ j:Nat)%256:=by
    funext j
    rw[Int.ediv_ediv_of_nonneg (by omega)]
    congr 2
    rw[Nat.pow_succ];simp[Int.mul_comm]
   rw[this]
  rw[e]
  obtain ⟨h1,h2⟩:=vP n (V/256) (by omega)
  refine ⟨⟨by simp only[Nat.pow_zero];omega,h1⟩,?_⟩
  show V/(256 ^ 0:Nat)%256+256*c5 (Ag n (V/256))=_
  rw[h2]
  have e2:(256 ^ (n+1):Nat)=256*256 ^ n:=by rw[Nat.pow_succ,Nat.mul_comm]
  rw[e2]
  generalize hm:(256 ^ n:Nat)=m
  have Gr:0<(m:Int):=by have:=Nat.pow_pos (n:=n) (show 0<256 by decide);omega
  have h3:=Int.emod_nonneg (V/256) (b:=(m:Int)) (by omega)
  have h4:=Int.emod_lt_of_pos (V/256) Gr
  have h5:=Int.emod_add_mul_ediv (V/256) (m:Int)
  have h6:V=(V%256+256*(V/256%m))+((256*m:Nat):Int)*(V/256/m):=by
   rw[Int.natCast_mul,Int.mul_assoc]
   generalize (m:Int)*(V/256/m)=z at*
   omega
  rw[Nat.pow_zero]
  have h7:V%((256*m:Nat):Int)=V%256+256*(V/256%m):=by
   conv=>lhs;rw[h6]
   rw[Int.add_mul_emod_self_left]
   exact Int.emod_eq_of_lt (by omega) (by rw[Int.natCast_mul];omega)
  rw[h7];omega
theorem Sq {n:Nat} {v:Vec Int n} (h:qn v):Ag n (c5 v)=v:=by
 obtain ⟨h1,h2⟩:=vP n (c5 v) (eu h)
 exact IJ h1 h (by rw[h2,Int.emod_eq_of_lt (eu h) (tP h)])
def fw (a:F):ft:=Ag 32 (a.val:Int)
theorem akK:(256 ^ 32:Nat)=115792089237316195423570985008687907853269984665640564039457584007913129639936:=by decide
theorem jX (a:F):qn (fw a)∧c5 (fw a)=(a.val:Int):=by
 obtain ⟨h1,h2⟩:=vP 32 (a.val:Int) (by omega)
 have:=a.isLt
 refine ⟨h1,h2.trans (Int.emod_eq_of_lt (by omega) ?_)⟩
 rw[akK];simp only[pp] at this;omega
theorem MS {a b:F} (h:fw a=fw b):a=b:=Ae (by rw[← (jX a).2,← (jX b).2,h])
def w7 (f:Nat→Int):Nat→Int
 |0=>0
 |n+1=>w7 f n+f n*(2 ^ n:Nat)
theorem PK (f:Nat→Int): ∀ n,n≤8→(∀ i,i<n→0≤f i∧f i≤1)→
  (List.range n).foldl (fun acc i=>bm .u8 acc (shl .u8 (f i) (i:Int))) 0=w7 f n∧0≤w7 f n∧w7 f n<(2 ^ n:Nat)
 |0,_,_=>⟨rfl,by simp[w7],by simp[w7]⟩
 |n+1,hn,hf=>by
  obtain ⟨h1,h2,h3⟩:=PK f n (by omega) fun i hi=>hf i (by omega)
  have h4:=hf n (by omega)
  rw[List.range_succ,List.foldl_append,h1]
  simp only[List.foldl_cons,List.foldl_nil,w7]
  have hp:0<2 ^ n:=Nat.two_pow_pos n
  have hle:2 ^ n≤2 ^ 7:=Nat.pow_le_pow_right (by omega) (by omega)
  have hs:f n*(2 ^ n:Nat)=0∨f n*(2 ^ n:Nat)=(2 ^ n:Nat):=by
   have:f n=0∨f n=1:=by omega
   rcases this with e|e<;>rw[e]<;>simp
  have e:shl .u8 (f n) (n:Int)=f n*(2 ^ n:Nat):=by
   rw[gM .u8 _ _ (by show n≤8;omega),wrap_u8]
   have:(2:Nat) ^ 7=128:=by decide
   omega
  have hm:f n*(2 ^ n:Nat)%(2 ^ n:Nat)=0:=Int.mul_emod_left _ _
  have h7:(2:Nat) ^ 7=128:=by decide
  rw[e,iQ,aeJ (m:=n) (by omega) hm h2 h3 (by omega)]
  have e2:(2 ^ (n+1):Nat)=2*2 ^ n:=by rw[Nat.pow_succ,Nat.mul_comm]
  rw[e2]
  refine ⟨by omega,by omega,by omega⟩
theorem acJ (u H:Int) {b:Nat} (hb:b<51):(u+2251799813685248*H)/(2 ^ b:Nat)%2=u/(2 ^ b:Nat)%2:=by
 have e:(2251799813685248:Int)=(2 ^ b:Nat)*(2*(2 ^ (50-b):Nat)):=by
  have:(2251799813685248:Nat)=2 ^ b*(2*2 ^ (50-b)):=by
   rw[← Nat.mul_assoc,Nat.mul_comm (2 ^ b) 2,Nat.mul_assoc,← Nat.pow_add,show b+(50-b)=50 by omega]
  have h2:((2251799813685248:Nat):Int)=((2 ^ b*(2*2 ^ (50-b)):Nat):Int):=by rw[← this]
  rw[Int.natCast_mul,Int.natCast_mul] at h2
  exact h2
 rw[e,Int.mul_assoc,Int.add_mul_ediv_left _ _ (by have:=Nat.two_pow_pos b;omega),Int.mul_assoc,Int.add_mul_emod_self_left]
theorem Yi {y:Fe} (h:kC y.1∧kC y.2.1∧kC y.2.2.1∧kC y.2.2.2.1∧kC y.2.2.2.2.1) (q:Nat) (hq:q<255):
  y.get (q/51)/(2 ^ (q%51):Nat)%2=eW y/(2 ^ q:Nat)%2:=by
 obtain ⟨y0,y1,y2,y3,y4,u⟩:=y
 simp only[kC] at h
 have hb:q%51<51:=Nat.mod_lt _ (by decide)
 have hq2:(2 ^ q:Nat)=2 ^ (51*(q/51))*2 ^ (q%51):=by rw[← Nat.pow_add];congr 1;omega
 rw[hq2,Int.natCast_mul,← Int.ediv_ediv_of_nonneg (Int.natCast_nonneg _)]
 have h5:q/51<5:=by omega
 generalize q%51=b at*
 generalize q/51=a at*
 have key: ∀ (V H:Int),eW (y0,y1,y2,y3,y4,u)/(2 ^ (51*a):Nat)=V+2251799813685248*H→V/(2 ^ b:Nat)%2=eW (y0,y1,y2,y3,y4,u)/(2 ^ (51*a):Nat)/(2 ^ b:Nat)%2:=by
  intro V H e;rw[e,acJ V H hb]
 match a,h5 with
 |0,_=>exact key y0 (y1+y2*2251799813685248+y3*5070602400912917605986812821504+y4*11417981541647679048466287755595961091061972992) (by simp only[eW,Nat.mul_zero,Nat.pow_zero];omega)
 |1,_=>exact key y1 (y2+y3*2251799813685248+y4*5070602400912917605986812821504) (by
   have:(2:Nat) ^ (51*1)=2251799813685248:=by decide
   rw[this];simp only[eW];omega)
 |2,_=>exact key y2 (y3+y4*2251799813685248) (by
   have:(2:Nat) ^ (51*2)=5070602400912917605986812821504:=by decide
   rw[this];simp only[eW];omega)
 |3,_=>exact key y3 y4 (by
   have:(2:Nat) ^ (51*3)=11417981541647679048466287755595961091061972992:=by decide
   rw[this];simp only[eW];omega)
 |4,_=>exact key y4 0 (by
   have:(2:Nat) ^ (51*4)=25711008708143844408671393477458601640355247900524685364822016:=by decide
   rw[this];simp only[eW];omega)
theorem akL (W:Int):w7 (fun i=>W/(2 ^ i:Nat)%2) 8=W%256:=by
 simp[w7];omega
theorem akM (W:Int) (h0:0≤W) (h:W<128):w7 (fun i=>W/(2 ^ i:Nat)%2) 7=W%256:=by
 simp[w7];omega
theorem Ah {α:Type}: ∀ {n:Nat} {f g:Nat→α},(∀ i,i<n→f i=g i)→Vec.ofFn n f=Vec.ofFn n g
 |0,_,_,_=>rfl
 |n+1,f,g,h=>by
  show (f 0,Vec.ofFn n _)=(g 0,Vec.ofFn n _)
  rw[h 0 (by omega),Ah (n:=n) fun i hi=>h (i+1) (by omega)]
theorem Yj {y:Fe} (h:aha y):MR y=Ag 32 (eW y):=by
 have hv0:0≤eW y:=by
  obtain ⟨y0,y1,y2,y3,y4,u⟩:=y
  have:=h.1
  simp only[kC] at this
  simp only[eW];omega
 have hv1:=h.2
 unfold MR Ag
 refine Ah fun j hj=>?_
 have afb: ∀ n,n≤8→(∀ i,i<n→8*j+i<255)→
   (List.range n).foldl (fun acc i=>bm .u8 acc (shl .u8 (IntKind.u8.wrap (dm (bz (y.get ((8*j+i)/51)) (((8*j+i)%51:Nat):Int)) 1)) (i:Int))) 0=
    w7 (fun i=>eW y/(2 ^ (8*j):Nat)/(2 ^ i:Nat)%2) n:=by
  intro n hn fD
  have QH: ∀ i,i<n→IntKind.u8.wrap (dm (bz (y.get ((8*j+i)/51)) (((8*j+i)%51:Nat):Int)) 1)=eW y/(2 ^ (8*j):Nat)/(2 ^ i:Nat)%2:=by
   intro i hi
   have e1:bz (y.get ((8*j+i)/51)) (((8*j+i)%51:Nat):Int)=y.get ((8*j+i)/51)/(2 ^ ((8*j+i)%51):Nat):=eG .u64 _ _ (by show (8*j+i)%51≤64;omega)
   have e2: ∀ x,dm x 1=x%2:=fun x=>by
    have:=rW (m:=1) (by decide) x 1 (by decide)
    simpa [dm] using this
   rw[e1,e2,Yi h.1 _ (fD i hi),wrap_u8,Int.ediv_ediv_of_nonneg (Int.natCast_nonneg _),← Int.natCast_mul,← Nat.pow_add]
   omega
  have nz: ∀ (l:List Nat) (a:Int),(∀ i∈l,i<n)→l.foldl (fun (acc:Int) (i:Nat)=>bm .u8 acc (shl .u8 (IntKind.u8.wrap (dm (bz (y.get ((8*j+i)/51)) (((8*j+i)%51:Nat):Int)) 1)) (i:Int))) a=
    l.foldl (fun (acc:Int) (i:Nat)=>bm .u8 acc (shl .u8 (eW y/(2 ^ (8*j):Nat)/(2 ^ i:Nat)%2) (i:Int))) a:=by
   intro l
   induction l with
   |nil=>intro a _;rfl
   |cons i l ih=>intro a hl;simp only[List.foldl_cons];rw[QH i (hl i (by simp)),ih _ fun k hk=>hl k (by simp[hk])]
  rw[nz _ _ fun i hi=>List.mem_range.1 hi]
  exact (PK (fun i=>eW y/(2 ^ (8*j):Nat)/(2 ^ i:Nat)%2) n hn fun i _=>by
   have:=Int.emod_nonneg (eW y/(2 ^ (8*j):Nat)/(2 ^ i:Nat)) (b:=2) (by omega)
   have:=Int.emod_lt_of_pos (eW y/(2 ^ (8*j):Nat)/(2 ^ i:Nat)) (b:=2) (by omega)
   omega).1
 have e8:(2 ^ (8*j):Nat)=256 ^ j:=by rw[Nat.pow_mul]
 by_cases h31:j=31
 ·rw[if_pos h31,afb 7 (by omega) (fun i hi=>by omega),e8]
  refine akM _ (Int.ediv_nonneg hv0 (Int.natCast_nonneg _)) ?_
  subst h31
  have:(256 ^ 31:Nat)=452312848583266388373324160190187140051835877600158453279131187530910662656:=by decide
  rw[this]
  simp only[pp] at hv1
  omega
 ·rw[if_neg h31,afb 8 (by omega) (fun i hi=>by omega),e8]
  exact akL _
theorem Fo {y:Fe} (h:aha y):((fe y).val:Int)=eW y:=by
 have hv0:0≤eW y:=by
  obtain ⟨y0,y1,y2,y3,y4,u⟩:=y
  have:=h.1
  simp only[kC] at this
  simp only[eW];omega
 unfold fe
 rw[fB,Int.emod_eq_of_lt hv0 h.2]
noncomputable def eN (x:Fe):ft:=MR (tK cd x)
theorem tQ {x:Fe} (h:fv x):eN x=fw (fe x):=by
 obtain ⟨h1,h2⟩:=Yh h
 unfold eN fw
 rw[Yj h1,← Fo h1,h2]
theorem Yk {a b:F}:eqV (fw a) (fw b)=decide (a=b):=by
 by_cases h:a=b
 ·subst h;rw[decide_eq_true rfl];exact (tJ _ _).2 rfl
 ·rw[decide_eq_false h]
  refine Bool.eq_false_iff.2 fun e=>h (MS ((tJ _ _).1 e))
theorem Ai {x y:Fe} (hx:fv x) (hy:fv y):eqV (eN x) (eN y)=decide (fe x=fe y):=by
 rw[tQ hx,tQ hy,Yk]
theorem Yl {x:Fe} (h:fv x):X8 eN x=decide ((fe x).val%2=1):=by
 unfold X8
 rw[tQ h]
 have e:(fw (fe x)).1=((fe x).val:Int)/(256 ^ 0:Nat)%256:=rfl
 rw[e,KD (m:=1) (by decide) _ 1 (by decide)]
 have:((((fe x).val:Int)/(256 ^ 0:Nat)%256%(2 ^ 1:Nat)==1)=true)↔(fe x).val%2=1:=by
  rw[beq_iff_eq];simp only[Nat.pow_zero,Nat.pow_one];omega
 by_cases h1:(fe x).val%2=1
 ·rw[decide_eq_true h1];exact this.2 h1
 ·rw[decide_eq_false h1];exact Bool.eq_false_iff.2 fun e=>h1 (this.1 e)
theorem oG {n:Int} (h:uI n):fv (aT n)∧fe (aT n)=cS n:=by
 simp only[uI] at h
 have e:aT n=Cs (n%2251799813685248) (n/2251799813685248) 0 0 0:=by
  simp only[aT,tN,Fm];rfl
 rw[e]
 refine ⟨by simp only[fv,IG,Cs];omega,?_⟩
 unfold fe;congr 1;simp only[eW,Cs];omega
end Go.Proofs.YtjalaohajcpllaaGreat
end
section
namespace Go.Proofs.YtjalaohajcpllaaGreat
open Go Go.Ev BJ
def ra (f:Nat→Int):Nat→Int
 |0=>0
 |n+1=>ra f n+f n*(256 ^ n:Nat)
theorem IK (f:Nat→Int): ∀ n,n≤8→(∀ i,i<n→0≤f i∧f i<256)→
  (List.range n).foldl (fun acc i=>bm .u64 acc (shl .u64 (dE (f i)) ((8*i:Nat):Int))) 0=ra f n∧0≤ra f n∧ra f n<(256 ^ n:Nat)
 |0,_,_=>⟨rfl,by simp[ra],by simp[ra]⟩
 |n+1,hn,hf=>by
  obtain ⟨h1,h2,h3⟩:=IK f n (by omega) fun i hi=>hf i (by omega)
  have h4:=hf n (by omega)
  rw[List.range_succ,List.foldl_append,h1]
  simp only[List.foldl_cons,List.foldl_nil,ra]
  have hle:256 ^ n≤256 ^ 7:=Nat.pow_le_pow_right (by omega) (by omega)
  have h7:(256:Nat) ^ 7=72057594037927936:=by decide
  have e8:(2 ^ (8*n):Nat)=256 ^ n:=by rw[Nat.pow_mul]
  have hmul:0≤f n*(256 ^ n:Nat)∧f n*(256 ^ n:Nat)≤255*(256 ^ n:Nat):=⟨Int.mul_nonneg h4.1 (Int.natCast_nonneg _),Int.mul_le_mul_of_nonneg_right (by omega) (Int.natCast_nonneg _)⟩
  have hm:f n*(256 ^ n:Nat)%(256 ^ n:Nat)=0:=Int.mul_emod_left _ _
  have e:shl .u64 (dE (f n)) ((8*n:Nat):Int)=f n*(256 ^ n:Nat):=by
   rw[gM .u64 _ _ (by show 8*n≤64;omega),e8]
   unfold dE
   rw[wrap_u64 (n:=f n) (by omega) (by omega)]
   exact wrap_u64 hmul.1 (by omega)
  have e2:(256 ^ (n+1):Nat)=256*256 ^ n:=by rw[Nat.pow_succ,Nat.mul_comm]
  rw[e,iQ,nV (m:=8*n) hmul.1 (by rw[e8];exact hm) h2 (by rw[e8];exact h3) (by omega),e2]
  refine ⟨by omega,by omega,by omega⟩
theorem get_ofFn {f:Nat→Int}: ∀ {n i:Nat},i<n→Vec.get (Vec.ofFn n f) i=f i
 |0,_,h=>absurd h (by omega)
 |n+1,0,_=>rfl
 |n+1,i+1,h=>by
  show Vec.get (Vec.ofFn n fun k=>f (k+1)) i=_
  rw[get_ofFn (n:=n) (by omega)]
theorem tR {n:Nat} {v:Vec Int n} (h:qn v) {i:Nat} (hi:i<n):v.get i=c5 v/(256 ^ i:Nat)%256:=by
 conv=>lhs;rw[← Sq h]
 unfold Ag
 rw[get_ofFn hi]
theorem Ym {n:Nat} {v:Vec Int n} (h:qn v) {i:Nat} (hi:i<n):0≤v.get i∧v.get i<256:=by
 rw[tR h hi];omega
theorem IL (V:Int) (hV:0≤V): ∀ n,ra (fun i=>V/(256 ^ i:Nat)%256) n=V%(256 ^ n:Nat)
 |0=>by simp[ra]
 |n+1=>by
  simp only[ra]
  rw[IL V hV n]
  have e2:(256 ^ (n+1):Nat)=256 ^ n*256:=Nat.pow_succ ..
  rw[e2]
  generalize hm:(256 ^ n:Nat)=m
  have Gr:0<(m:Int):=by have:=Nat.pow_pos (n:=n) (show 0<256 by decide);omega
  have h3:=Int.emod_nonneg V (b:=(m:Int)) (by omega)
  have h4:=Int.emod_lt_of_pos V Gr
  have h5:=Int.emod_add_mul_ediv V (m:Int)
  have h6:V=(V%m+V/m%256*m)+((m*256:Nat):Int)*(V/m/256):=by
   rw[Int.natCast_mul,Int.mul_assoc]
   have h7:V/m=V/m%256+256*(V/m/256):=by omega
   have h8:(m:Int)*(V/m)=m*(V/m%256)+m*(256*(V/m/256)):=by rw[← Int.mul_add,← h7]
   rw[Int.mul_comm (V/m%256) m]
   have h9:(m:Int)*(((256:Nat):Int)*(V/m/256))=m*(256*(V/m/256)):=rfl
   rw[h9];omega
  have Gp:0≤V/m%256*m∧V/m%256*m≤255*m:=⟨Int.mul_nonneg (by omega) (by omega),Int.mul_le_mul_of_nonneg_right (by omega) (by omega)⟩
  conv=>rhs;rw[h6]
  rw[Int.add_mul_emod_self_left]
  exact (Int.emod_eq_of_lt (by omega) (by rw[Int.natCast_mul];omega)).symm
theorem tS {b:ft} (h:qn b) (j:Nat) (hj:j<4):word b j=c5 b/(256 ^ (8*j):Nat)%18446744073709551616:=by
 have h1:=(IK (fun i=>b.get (8*j+i)) 8 (by omega) fun i hi=>Ym h (by omega)).1
 have hV:=eu h
 unfold word
 rw[h1]
 have h2:ra (fun i=>b.get (8*j+i)) 8=ra (fun i=>c5 b/(256 ^ (8*j):Nat)/(256 ^ i:Nat)%256) 8:=by
  have key: ∀ n,n≤8→ra (fun i=>b.get (8*j+i)) n=ra (fun i=>c5 b/(256 ^ (8*j):Nat)/(256 ^ i:Nat)%256) n:=by
   intro n
   induction n with
   |zero=>intro _;rfl
   |succ n ih=>
    intro hn
    simp only[ra]
    rw[ih (by omega),tR h (by omega),Int.ediv_ediv_of_nonneg (Int.natCast_nonneg _),← Int.natCast_mul,← Nat.pow_add]
  exact key 8 (by omega)
 rw[h2,IL _ (Int.ediv_nonneg hV (Int.natCast_nonneg _)) 8]
 rfl
theorem Yn {b:ft} (h:qn b):fv (mP b)∧eW (mP b)=c5 b%57896044618658097711785492504343953926634992332820282019728792003956564819968:=by
 have hV:=eu h
 have hV2:=tP h
 rw[akK] at hV2
 have w0:=tS h 0 (by omega)
 have w1:=tS h 1 (by omega)
 have w2:=tS h 2 (by omega)
 have w3:=tS h 3 (by omega)
 have q0:(256 ^ (8*0):Nat)=1:=by decide
 have q1:(256 ^ (8*1):Nat)=18446744073709551616:=by decide
 have q2:(256 ^ (8*2):Nat)=340282366920938463463374607431768211456:=by decide
 have q3:(256 ^ (8*3):Nat)=6277101735386680763835789423207666416102355444464034512896:=by decide
 rw[q0] at w0;rw[q1] at w1;rw[q2] at w2;rw[q3] at w3
 unfold mP
 rw[w0,w1,w2,w3]
 generalize c5 b=V at*
 obtain ⟨a0,ha0⟩: ∃ a,a=V/((1:Nat):Int)%18446744073709551616:=⟨_,rfl⟩
 obtain ⟨a1,ha1⟩: ∃ a,a=V/((18446744073709551616:Nat):Int)%18446744073709551616:=⟨_,rfl⟩
 obtain ⟨a2,ha2⟩: ∃ a,a=V/((340282366920938463463374607431768211456:Nat):Int)%18446744073709551616:=⟨_,rfl⟩
 obtain ⟨a3,ha3⟩: ∃ a,a=V/((6277101735386680763835789423207666416102355444464034512896:Nat):Int)%18446744073709551616:=⟨_,rfl⟩
 rw[← ha0,← ha1,← ha2,← ha3]
 have sh: ∀ (x:Int) (n:Nat),n≤64→bz x n=x/(2 ^ n:Nat):=fun x n hn=>eG .u64 x n hn
 have sl: ∀ (x:Int) (n:Nat),n≤64→shl .u64 x n=x*(2 ^ n:Nat)%18446744073709551616:=fun x n hn=>by rw[gM .u64 x n hn,lA]
 have s51:=sh a0 51 (by decide)
 have s38:=sh a1 38 (by decide)
 have s25:=sh a2 25 (by decide)
 have s12:=sh a3 12 (by decide)
 have l13:=sl a1 13 (by decide)
 have l26:=sl a2 26 (by decide)
 have l39:=sl a3 39 (by decide)
 have e51:(2 ^ 51:Nat)=2251799813685248:=by decide
 have e38:(2 ^ 38:Nat)=274877906944:=by decide
 have e25:(2 ^ 25:Nat)=33554432:=by decide
 have e12:(2 ^ 12:Nat)=4096:=by decide
 have e13:(2 ^ 13:Nat)=8192:=by decide
 have e26:(2 ^ 26:Nat)=67108864:=by decide
 have e39:(2 ^ 39:Nat)=549755813888:=by decide
 rw[e51] at s51;rw[e38] at s38;rw[e25] at s25;rw[e12] at s12;rw[e13] at l13;rw[e26] at l26;rw[e39] at l39
 have o1:bm .u64 (bz a0 51) (shl .u64 a1 13)=a0/2251799813685248+a1*8192%18446744073709551616:=by
  have e:bm .u64 (shl .u64 a1 13) (bz a0 51)=shl .u64 a1 13+bz a0 51:=nV (m:=13) (by rw[show shl .u64 a1 13=_ from l13];omega) (by rw[show shl .u64 a1 13=_ from l13,e13];omega) (by rw[show bz a0 51=_ from s51];omega) (by rw[show bz a0 51=_ from s51,e13];omega) (by rw[show shl .u64 a1 13=_ from l13,show bz a0 51=_ from s51];omega)
  rw[iQ,e,show shl .u64 a1 13=_ from l13,show bz a0 51=_ from s51];omega
 have o2:bm .u64 (bz a1 38) (shl .u64 a2 26)=a1/274877906944+a2*67108864%18446744073709551616:=by
  have e:bm .u64 (shl .u64 a2 26) (bz a1 38)=shl .u64 a2 26+bz a1 38:=nV (m:=26) (by rw[show shl .u64 a2 26=_ from l26];omega) (by rw[show shl .u64 a2 26=_ from l26,e26];omega) (by rw[show bz a1 38=_ from s38];omega) (by rw[show bz a1 38=_ from s38,e26];omega) (by rw[show shl .u64 a2 26=_ from l26,show bz a1 38=_ from s38];omega)
  rw[iQ,e,show shl .u64 a2 26=_ from l26,show bz a1 38=_ from s38];omega
 have o3:bm .u64 (bz a2 25) (shl .u64 a3 39)=a2/33554432+a3*549755813888%18446744073709551616:=by
  have e:bm .u64 (shl .u64 a3 39) (bz a2 25)=shl .u64 a3 39+bz a2 25:=nV (m:=39) (by rw[show shl .u64 a3 39=_ from l39];omega) (by rw[show shl .u64 a3 39=_ from l39,e39];omega) (by rw[show bz a2 25=_ from s25];omega) (by rw[show bz a2 25=_ from s25,e39];omega) (by rw[show shl .u64 a3 39=_ from l39,show bz a2 25=_ from s25];omega)
  rw[iQ,e,show shl .u64 a3 39=_ from l39,show bz a2 25=_ from s25];omega
 rw[o1,o2,o3,show bz a3 12=_ from s12]
 simp only[tN]
 constructor
 ·simp only[fv,IG];omega
 ·simp only[eW];omega
end Go.Proofs.YtjalaohajcpllaaGreat
namespace BJ
theorem F.pow_add (a:F) (m n:Nat):F.pow a (m+n)=F.pow a m*F.pow a n:=by
 induction n with
 |zero=>rw[Nat.add_zero,F.pow_zero];grobner
 |succ n ih=>rw[← Nat.add_assoc,F.pow_succ,ih,F.pow_succ];grobner
theorem F.Aj (a:F) (m:Nat):F.pow a (2*m)=F.pow a m*F.pow a m:=by rw[Nat.two_mul,F.pow_add]
theorem F.pow_one (a:F):F.pow a 1=a:=by rw[F.pow_succ,F.pow_zero];grobner
def rootOf (a:F):F×Bool:=
 let r:=F.pow a ((pp+3)/8)
 let r1:=if r*r=a then r else r*F.pow 2 ((pp-1)/4)
 if r1*r1=a then (if r1.val%2=1 then-r1 else r1,true) else (0,false)
def mQ (u v:F):F×Bool:=if v=0 then (0,decide (u=0)) else rootOf (u*F.inv v)
end BJ
namespace Go.Proofs.YtjalaohajcpllaaGreat
open Go Go.Ev BJ
theorem IM (g:Int→Int): ∀ {n:Nat} {v:Vec Int (n+1)},qn v→(∀ x,0≤x→x<256→0≤g x∧g x<256)→
  qn (Vec.xc g n v)∧c5 (Vec.xc g n v)=c5 v-v.get n*(256 ^ n:Nat)+g (v.get n)*(256 ^ n:Nat)
 |0,v,h,hg=>by
  obtain ⟨x,u⟩:=v
  refine ⟨⟨hg x h.1.1 h.1.2,h.2⟩,?_⟩
  show g x+256*0=x+256*0-x*((256 ^ 0:Nat):Int)+g x*((256 ^ 0:Nat):Int)
  rw[Nat.pow_zero];omega
 |n+1,v,h,hg=>by
  obtain ⟨x,u⟩:=v
  obtain ⟨h1,h2⟩:=IM g (n:=n) (v:=u) h.2 hg
  refine ⟨⟨h.1,h1⟩,?_⟩
  show x+256*c5 (Vec.xc g n u)=x+256*c5 u-Vec.get u n*((256 ^ (n+1):Nat):Int)+g (Vec.get u n)*((256 ^ (n+1):Nat):Int)
  rw[h2]
  have e2:(256 ^ (n+1):Nat)=256*256 ^ n:=by rw[Nat.pow_succ,Nat.mul_comm]
  rw[e2,Int.natCast_mul]
  have sw: ∀ a b:Int,a*(((256:Nat):Int)*b)=256*(a*b):=fun a b=>by rw[← Int.mul_assoc,Int.mul_comm a,Int.mul_assoc];rfl
  rw[sw,sw];omega
theorem ahb:(256 ^ 31:Nat)=452312848583266388373324160190187140051835877600158453279131187530910662656:=by decide
theorem acL {b:ft} (h:qn b):fv (mP b)∧fe (mP b)=cS (c5 b%57896044618658097711785492504343953926634992332820282019728792003956564819968):=by
 obtain ⟨h1,h2⟩:=Yn h
 exact ⟨h1,by unfold fe;rw[h2]⟩
noncomputable abbrev mulC:Fe→Fe→Fe:=q6 bc bg cd
theorem PL {e:ft} (h:qn e) {i:Nat} (hi:i<256):Cr e i=decide ((c5 e).toNat/2 ^ i%2=1):=by
 have hV:=eu h
 unfold Cr
 have e1:shr .u8 (e.get (i/8)) ((i%8:Nat):Int)=e.get (i/8)/(2 ^ (i%8):Nat):=eG .u8 _ _ (by show i%8≤8;omega)
 rw[e1,KD (m:=1) (by decide) _ 1 (by decide),tR h (by omega)]
 obtain ⟨N,hN⟩:=Int.eq_ofNat_of_zero_le hV
 rw[hN]
 have key:(((N:Int)/(256 ^ (i/8):Nat)%256/(2 ^ (i%8):Nat)%(2 ^ 1:Nat)==1)=true)↔N/2 ^ i%2=1:=by
  rw[beq_iff_eq]
  have e2:(2 ^ i:Nat)=256 ^ (i/8)*2 ^ (i%8):=by
   rw[show (256:Nat)=2 ^ 8 from rfl,← Nat.pow_mul,← Nat.pow_add];congr 1;omega
  rw[e2,← Nat.div_div_eq_div_mul,← Int.natCast_ediv]
  generalize N/256 ^ (i/8)=W at*
  have h8:i%8<8:=Nat.mod_lt _ (by decide)
  generalize i%8=m at*
  have hm:m=0∨m=1∨m=2∨m=3∨m=4∨m=5∨m=6∨m=7:=by omega
  rcases hm with rfl|rfl|rfl|rfl|rfl|rfl|rfl|rfl<;>simp<;>omega
 rw[Int.toNat_natCast]
 by_cases hb:N/2 ^ i%2=1
 ·rw[decide_eq_true hb];exact key.2 hb
 ·rw[decide_eq_false hb];exact Bool.eq_false_iff.2 fun e=>hb (key.1 e)
theorem vQ {x:Fe} (hx:fv x):fv (mulC x x)∧fe (mulC x x)=fe x*fe x:=vO hx hx
noncomputable def powC (x:Fe) (e:ft):Fe:=ae8 aT (fun x=>mulC x x) mulC x e
theorem IN {n:Nat} {b:Bool} {p:Prop} [Decidable p] (h:b=decide p) (v u:Vec Int n):jW b v u=if p then v else u:=by
 rw[dP,h];by_cases hp:p<;>simp[hp]
theorem MT {x:Fe} {e:ft} (hx:fv x) (he:qn e):fv (powC x e)∧fe (powC x e)=F.pow (fe x) (c5 e).toNat:=by
 have hV:=eu he
 have hV2:=tP he
 obtain ⟨N,hN⟩:=Int.eq_ofNat_of_zero_le hV
 have key: ∀ k,k≤256→fv (iE (fA (fun x=>mulC x x) mulC x e) k (aT 1))∧fe (iE (fA (fun x=>mulC x x) mulC x e) k (aT 1))=F.pow (fe x) (N/2 ^ (256-k)):=by
  intro k
  induction k with
  |zero=>
   intro _
   obtain ⟨h1,h2⟩:=oG (n:=1) ⟨by decide,by decide⟩
   refine ⟨h1,?_⟩
   have ahc:(256 ^ 32:Nat)=2 ^ 256:=by rw[show (256:Nat)=2 ^ 8 from rfl,← Nat.pow_mul]
   have:N/2 ^ (256-0)=0:=Nat.div_eq_of_lt (by rw[hN] at hV2;rw[Nat.sub_zero,← ahc];omega)
   rw[this,F.pow_zero]
   exact h2.trans PJ
  |succ k ih=>
   intro hk
   obtain ⟨h1,h2⟩:=ih (by omega)
   show fv (fA (fun x=>mulC x x) mulC x e k _)∧fe (fA (fun x=>mulC x x) mulC x e k _)=_
   generalize iE (fA (fun x=>mulC x x) mulC x e) k (aT 1)=r at*
   obtain ⟨s1,s2⟩:=vQ h1
   obtain ⟨m1,m2⟩:=vO s1 hx
   unfold fA
   rw[IN (PL he (i:=255-k) (by omega)),hN,Int.toNat_natCast]
   have hdiv:N/2 ^ (256-k)=N/2 ^ (256-(k+1))/2:=by
    rw[Nat.div_div_eq_div_mul,← Nat.pow_succ];congr 2;omega
   rw[hdiv] at h2
   have aoO:255-k=256-(k+1):=by omega
   rw[aoO]
   generalize N/2 ^ (256-(k+1))=M at*
   split
   ·rename_i hb
    refine ⟨m1,?_⟩
    show fe (mulC (mulC r r) x)=_
    rw[m2,s2,h2]
    have:M=2*(M/2)+1:=by omega
    conv=>rhs;rw[this]
    rw[F.pow_succ,F.Aj]
   ·rename_i hb
    refine ⟨s1,?_⟩
    show fe (mulC r r)=_
    rw[s2,h2]
    have:M=2*(M/2):=by omega
    conv=>rhs;rw[this]
    rw[F.Aj]
 have:=key 256 (by omega)
 rw[hN,Int.toNat_natCast]
 have e:N/2 ^ (256-256)=N:=by simp
 rw[e] at this
 unfold powC ae8
 exact this
theorem Ak {f:Nat→Int}: ∀ {n:Nat},(∀ i,i<n→0≤f i∧f i<256)→qn (Vec.ofFn n f)
 |0,_=>trivial
 |n+1,h=>⟨h 0 (by omega),Ak (n:=n) fun i hi=>h (i+1) (by omega)⟩
theorem Fp {lo hi:Int} (h1:0≤lo∧lo<256) (h2:0≤hi∧hi<256):qn (hX lo hi):=Ak fun i _=>by
 show 0≤(if i=0 then lo else if i=31 then hi else 255)∧(if i=0 then lo else if i=31 then hi else 255)<256
 split
 ·exact h1
 ·split
  ·exact h2
  ·omega
theorem acM:(c5 (hX 235 127)).toNat=pp-2:=by decide+kernel
theorem Yo:(c5 (hX 254 15)).toNat=(pp+3)/8:=by decide+kernel
theorem ahd:(c5 (hX 251 31)).toNat=(pp-1)/4:=by decide+kernel
noncomputable def jj (x:Fe):Fe:=powC x (hX 235 127)
theorem MU {x:Fe} (hx:fv x):fv (jj x)∧fe (jj x)=F.inv (fe x):=by
 obtain ⟨h1,h2⟩:=MT hx (Fp (lo:=235) (hi:=127) (by omega) (by omega))
 rw[acM] at h2
 exact ⟨h1,h2⟩
noncomputable def jl:Fe→Fe→Fe:=PG cd
noncomputable def kb:Fe→Fe→Fe:=IF cd
noncomputable def Al (x:Fe):Fe:=kb dz x
noncomputable def MV (x y:Fe):Bool:=eqV (eN x) (eN y)
noncomputable def oH:Fe→Bool:=X8 eN
noncomputable def eO (x:Fe):Bool:=MV x dz
noncomputable def lT:Fe→Fe×Bool:=Ac powC hX mulC (fun x=>mulC x x) Al aT MV oH
noncomputable def kU:Fe→Fe→Fe×Bool:=fun u v=>(jW (eO v) dz (lT (mulC u (jj v))).1,bif eO v then eO u else (lT (mulC u (jj v))).2)
theorem ahe {x:Fe} (hx:fv x):fv (Al x)∧fe (Al x)= -fe x:=by
 obtain ⟨h1,h2⟩:=Yf iH.1 hx
 refine ⟨h1,?_⟩
 show fe (IF cd dz x)=_
 rw[h2,iH.2];grobner
theorem Cv {x:Fe} (hx:fv x):eO x=decide (fe x=0):=by
 unfold eO MV;rw[Ai hx iH.1,iH.2]
theorem acN {x:Fe} (hx:fv x):fv (lT x).1∧fe (lT x).1=(rootOf (fe x)).1∧(lT x).2=(rootOf (fe x)).2:=by
 obtain ⟨r1,r2⟩:=MT hx (Fp (lo:=254) (hi:=15) (by omega) (by omega))
 rw[Yo] at r2
 obtain ⟨t1,t2⟩:=oG (n:=2) ⟨by decide,by decide⟩
 obtain ⟨i1,i2⟩:=MT t1 (Fp (lo:=251) (hi:=31) (by omega) (by omega))
 have t3:cS 2=2:=by decide+kernel
 rw[ahd,t2,t3] at i2
 unfold lT Ac
 simp only[Sn]
 obtain ⟨s1,s2⟩:=vQ r1
 obtain ⟨m1,m2⟩:=vO r1 i1
 have q1:MV (mulC (powC x (hX 254 15)) (powC x (hX 254 15))) x=decide (F.pow (fe x) ((pp+3)/8)*F.pow (fe x) ((pp+3)/8)=fe x):=by
  unfold MV;rw[Ai s1 hx,s2,r2]
 generalize hR:jW (!MV (mulC (powC x (hX 254 15)) (powC x (hX 254 15))) x) (mulC (powC x (hX 254 15)) (powC (aT 2) (hX 251 31))) (powC x (hX 254 15))=R
 have hR1:fv R∧fe R=if F.pow (fe x) ((pp+3)/8)*F.pow (fe x) ((pp+3)/8)=fe x then F.pow (fe x) ((pp+3)/8) else F.pow (fe x) ((pp+3)/8)*F.pow 2 ((pp-1)/4):=by
  rw[← hR,q1,dP]
  by_cases hq:F.pow (fe x) ((pp+3)/8)*F.pow (fe x) ((pp+3)/8)=fe x
  ·rw[decide_eq_true hq,if_pos hq];exact ⟨r1,r2⟩
  ·rw[decide_eq_false hq,if_neg hq];exact ⟨m1,by show fe (mulC _ _)=_;rw[m2,r2,i2]⟩
 obtain ⟨hR1,hR2⟩:=hR1
 obtain ⟨u1,u2⟩:=vQ hR1
 have q2:MV (mulC R R) x=decide (fe R*fe R=fe x):=by unfold MV;rw[Ai u1 hx,u2]
 obtain ⟨n1,n2⟩:=ahe hR1
 have ho:oH R=decide ((fe R).val%2=1):=Yl hR1
 rw[q2,ho,dP,dP]
 have akU:rootOf (fe x)=if fe R*fe R=fe x then (if (fe R).val%2=1 then-fe R else fe R,true) else (0,false):=by
  unfold rootOf;rw[hR2]
 rw[akU]
 by_cases h1:fe R*fe R=fe x
 ·rw[decide_eq_true h1,if_pos h1]
  by_cases h2:(fe R).val%2=1
  ·rw[decide_eq_true h2,if_pos h2];exact ⟨n1,n2,rfl⟩
  ·rw[decide_eq_false h2,if_neg h2];exact ⟨hR1,rfl,rfl⟩
 ·rw[decide_eq_false h1,if_neg h1];exact ⟨iH.1,iH.2,rfl⟩
end Go.Proofs.YtjalaohajcpllaaGreat
namespace Go.Proofs.YtjalaohajcpllaaGreat
open Go Go.Ev BJ
theorem MW (bv bu:Bool) (fu:F) (z:Fe×Bool) (y:F×Bool) (v:F) (hz1:bv=decide (v=0)) (hz2:bu=decide (fu=0)) (s1:fv z.1) (s2:fe z.1=y.1) (s3:z.2=y.2):
  fv (jW bv dz z.1)∧fe (jW bv dz z.1)=(if v=0 then ((0:F),decide (fu=0)) else y).1∧(bif bv then bu else z.2)=(if v=0 then ((0:F),decide (fu=0)) else y).2:=by
 rw[dP]
 by_cases h:v=0
 ·rw[if_pos h,hz1,decide_eq_true h];exact ⟨iH.1,iH.2,hz2⟩
 ·rw[if_neg h,hz1,decide_eq_false h];exact ⟨s1,s2,s3⟩
theorem Yp {u v:Fe} (hu:fv u) (hv:fv v):fv (kU u v).1∧fe (kU u v).1=(mQ (fe u) (fe v)).1∧(kU u v).2=(mQ (fe u) (fe v)).2:=by
 have hi:=MU hv
 have hm:=vO hu hi.1
 have hs:=acN hm.1
 have e:fe (q6 bc bg cd u (jj v))=fe u*F.inv (fe v):=hm.2.trans (by rw[hi.2])
 rw[e] at hs
 exact MW _ _ (fe u) _ _ (fe v) (Cv hv) (Cv hu) hs.1 hs.2.1 hs.2.2
end Go.Proofs.YtjalaohajcpllaaGreat
namespace BJ
abbrev E4:=F×F×F×F
def w8 (x y:F):E4:=(x,y,1,x*y)
def qo:E4:=w8 0 1
def Am (p q:E4):E4:=
 let a:=(p.2.1-p.1)*(q.2.1-q.1)
 let b:=(p.2.1+p.1)*(q.2.1+q.1)
 let c:=p.2.2.2*q.2.2.2*dd+p.2.2.2*q.2.2.2*dd
 let d:=p.2.2.1*q.2.2.1+p.2.2.1*q.2.2.1
 ((b-a)*(d-c),(d+c)*(b+a),(d-c)*(d+c),(b-a)*(b+a))
def mR (y:F):F×Bool:=mQ (y*y-1) (dd*(y*y)+1)
def IP:E4:=w8 (mR (4*F.inv 5)).1 (4*F.inv 5)
end BJ
namespace Go.Proofs.YtjalaohajcpllaaGreat
open Go Go.Ev BJ
def Ok4 (p:Pt):Prop:=fv p.2.1∧fv p.2.2.1∧fv p.2.2.2.1∧fv p.2.2.2.2
def w9 (p:Pt):Prop:=p.1=true→Ok4 p
noncomputable def ptF (p:Pt):E4:=(fe p.2.1,fe p.2.2.1,fe p.2.2.2.1,fe p.2.2.2.2)
noncomputable def PM (p:Pt):E4:=if p.1=true then ptF p else qo
noncomputable def iZ:Fe:=mP lS
theorem xL:fv iZ∧fe iZ=dd:=by
 have hb:qn lS:=by simp[lS,qn]
 obtain ⟨h1,h2⟩:=acL hb
 refine ⟨h1,h2.trans ?_⟩
 decide+kernel
noncomputable def gr:Fe→Fe→Pt:=Yb mulC aT
theorem rb:fv (aT 1)∧fe (aT 1)=1:=by
 obtain ⟨h1,h2⟩:=oG (n:=1) ⟨by decide,by decide⟩
 exact ⟨h1,h2.trans PJ⟩
theorem Cw {x y:Fe} (hx:fv x) (hy:fv y):(gr x y).1=true∧Ok4 (gr x y)∧ptF (gr x y)=w8 (fe x) (fe y):=by
 obtain ⟨m1,m2⟩:=vO hx hy
 obtain ⟨o1,o2⟩:=rb
 refine ⟨rfl,⟨hx,hy,o1,m1⟩,?_⟩
 show (fe x,fe y,fe (aT 1),fe (mulC x y))=_
 rw[o2,m2];rfl
noncomputable def hY:Pt:=gr dz (aT 1)
theorem PN:hY.1=true∧Ok4 hY∧ptF hY=qo:=by
 obtain ⟨h1,h2,h3⟩:=Cw iH.1 rb.1
 refine ⟨h1,h2,h3.trans ?_⟩
 rw[iH.2,rb.2];rfl
noncomputable def fH:Pt→Pt:=Yc hY
theorem MX {p:Pt} (h:w9 p):(fH p).1=true∧Ok4 (fH p)∧ptF (fH p)=PM p:=by
 unfold fH Yc
 rw[tM]
 unfold PM
 cases hp:p.1 with
 |false=>simp only[Bool.not_false,cond_true,Bool.false_eq_true,if_false];exact PN
 |true=>simp only[Bool.not_true,cond_false,if_true];exact ⟨hp,h hp,trivial⟩
theorem Yq {p:Pt} (h1:p.1=true) (h2:Ok4 p):w9 p∧PM p=ptF p:=⟨fun _=>h2,if_pos h1⟩
noncomputable def mS:Fe→Fe→Fe→Fe→Pt:=acD mulC
noncomputable def dV:Pt→Pt→Pt:=addFn mulC jl kb iZ fH mS
theorem mT {x y:Fe} (hx:fv x) (hy:fv y):fv (jl x y)∧fe (jl x y)=fe x+fe y:=ag9 hx hy
theorem tT {x y:Fe} (hx:fv x) (hy:fv y):fv (kb x y)∧fe (kb x y)=fe x-fe y:=Yf hx hy
theorem fC {x y:Fe} (hx:fv x) (hy:fv y):fv (mulC x y)∧fe (mulC x y)=fe x*fe y:=vO hx hy
theorem Yr {e f g h:Fe} (he:fv e) (hf:fv f) (hg:fv g) (hh:fv h):(mS e f g h).1=true∧Ok4 (mS e f g h)∧ptF (mS e f g h)=(fe e*fe f,fe g*fe h,fe f*fe g,fe e*fe h):=by
 obtain ⟨a1,a2⟩:=fC he hf
 obtain ⟨b1,b2⟩:=fC hg hh
 obtain ⟨c1,c2⟩:=fC hf hg
 obtain ⟨d1,d2⟩:=fC he hh
 refine ⟨rfl,⟨a1,b1,c1,d1⟩,?_⟩
 show (fe (mulC e f),fe (mulC g h),fe (mulC f g),fe (mulC e h))=_
 rw[a2,b2,c2,d2]
theorem Ys {p q:Pt} (hp:Ok4 p) (hq:Ok4 q):
  let r:=mS (kb (mulC (jl p.2.2.1 p.2.1) (jl q.2.2.1 q.2.1)) (mulC (kb p.2.2.1 p.2.1) (kb q.2.2.1 q.2.1)))
   (kb (jl (mulC p.2.2.2.1 q.2.2.2.1) (mulC p.2.2.2.1 q.2.2.2.1)) (jl (mulC (mulC p.2.2.2.2 q.2.2.2.2) iZ) (mulC (mulC p.2.2.2.2 q.2.2.2.2) iZ)))
   (jl (jl (mulC p.2.2.2.1 q.2.2.2.1) (mulC p.2.2.2.1 q.2.2.2.1)) (jl (mulC (mulC p.2.2.2.2 q.2.2.2.2) iZ) (mulC (mulC p.2.2.2.2 q.2.2.2.2) iZ)))
   (jl (mulC (jl p.2.2.1 p.2.1) (jl q.2.2.1 q.2.1)) (mulC (kb p.2.2.1 p.2.1) (kb q.2.2.1 q.2.1)))
  r.1=true∧Ok4 r∧ptF r=Am (ptF p) (ptF q):=by
 obtain ⟨px,py,pz,pt⟩:=hp
 obtain ⟨qx,qy,qz,qt⟩:=hq
 have a1:=tT py px
 have a2:=tT qy qx
 have a:=fC a1.1 a2.1
 have b1:=mT py px
 have b2:=mT qy qx
 have b:=fC b1.1 b2.1
 have c1:=fC pt qt
 have c2:=fC c1.1 xL.1
 have c:=mT c2.1 c2.1
 have d1:=fC pz qz
 have d:=mT d1.1 d1.1
 have e:=tT b.1 a.1
 have f:=tT d.1 c.1
 have g:=mT d.1 c.1
 have h:=mT b.1 a.1
 obtain ⟨r1,r2,r3⟩:=Yr e.1 f.1 g.1 h.1
 refine ⟨r1,r2,r3.trans ?_⟩
 rw[e.2,f.2,g.2,h.2,d.2,c.2,b.2,a.2,d1.2,c2.2,c1.2,b1.2,b2.2,a1.2,a2.2,xL.2]
 rfl
theorem Yt {p q:Pt} (hp:w9 p) (hq:w9 q):w9 (dV p q)∧(dV p q).1=true∧PM (dV p q)=Am (PM p) (PM q):=by
 obtain ⟨p1,p2,p3⟩:=MX hp
 obtain ⟨q1,q2,q3⟩:=MX hq
 obtain ⟨r1,r2,r3⟩:=Ys p2 q2
 rw[p3,q3] at r3
 obtain ⟨s1,s2⟩:=Yq r1 r2
 exact ⟨s1,r1,s2.trans r3⟩
end Go.Proofs.YtjalaohajcpllaaGreat
namespace Go.Proofs.YtjalaohajcpllaaGreat
open Go Go.Ev BJ
noncomputable def vR (b:ft):ft:=Vec.xc (fun x=>x+128) 31 b
noncomputable def akV (p:E4):ft:=if (p.1*F.inv p.2.2.1).val%2=1 then vR (fw (p.2.1*F.inv p.2.2.1)) else fw (p.2.1*F.inv p.2.2.1)
abbrev tU:Int:=57896044618658097711785492504343953926634992332820282019728792003956564819968
noncomputable def akW (b:ft):E4×Bool:=
 let y:=cS (c5 b%tU)
 let x:=(mR y).1
 if (mR y).2=true∧c5 b%tU<(pp:Int)∧ ¬ (128≤b.get 31∧x=0) then (w8 (if 128≤b.get 31 then-x else x) y,true) else (qo,false)
theorem vS {f g:Int→Int}: ∀ {n i:Nat} {v:Vec Int n},f (v.get i)=g (v.get i)→Vec.xc f i v=Vec.xc g i v
 |0,_,_,_=>rfl
 |n+1,0,v,h=>by
  show (f v.1,v.2)=(g v.1,v.2)
  rw[show f v.1=g v.1 from h]
 |n+1,i+1,v,h=>by
  show (v.1,Vec.xc f i v.2)=(v.1,Vec.xc g i v.2)
  rw[vS (n:=n) (i:=i) (v:=v.2) h]
theorem vT (a:F):0≤(fw a).get 31∧(fw a).get 31<128:=by
 obtain ⟨h1,h2⟩:=jX a
 rw[tR h1 (by decide),h2,ahb]
 have:=a.isLt
 simp only[pp] at this
 omega
noncomputable def wQ:Fe→Fe×Bool:=fun y=>kU (kb (mulC y y) (aT 1)) (jl (mulC iZ (mulC y y)) (aT 1))
theorem acO {y:Fe} (hy:fv y):fv (wQ y).1∧fe (wQ y).1=(mR (fe y)).1∧(wQ y).2=(mR (fe y)).2:=by
 have s:=fC hy hy
 have a:=tT s.1 rb.1
 have m:=fC xL.1 s.1
 have b:=mT m.1 rb.1
 have r:=Yp a.1 b.1
 have e1:fe (kb (mulC y y) (aT 1))=fe y*fe y-1:=by rw[a.2,s.2,rb.2]
 have e2:fe (jl (mulC iZ (mulC y y)) (aT 1))=dd*(fe y*fe y)+1:=by rw[b.2,m.2,s.2,rb.2,xL.2]
 rw[e1,e2] at r
 exact r
noncomputable def oI:Pt:=gr (wQ (mulC (aT 4) (jj (aT 5)))).1 (mulC (aT 4) (jj (aT 5)))
theorem t4:cS 4=4:=by decide+kernel
theorem t5:cS 5=5:=by decide+kernel
theorem acP:oI.1=true∧Ok4 oI∧ptF oI=IP:=by
 have h4:=oG (n:=4) ⟨by decide,by decide⟩
 have h5:=oG (n:=5) ⟨by decide,by decide⟩
 have i:=MU h5.1
 have m:=fC h4.1 i.1
 have r:=acO m.1
 have e:fe (mulC (aT 4) (jj (aT 5)))=4*F.inv 5:=by rw[m.2,i.2,h4.2,h5.2,t4,t5]
 have a:=Cw r.1 m.1
 refine ⟨a.1,a.2.1,a.2.2.trans ?_⟩
 rw[r.2.1,e];rfl
noncomputable def iF:Pt→Fe×Fe:=acC mulC jj fH
noncomputable def tV:Pt→ft:=Ad oH eN iF
theorem Yu {n:Nat} {p:Prop} [Decidable p] (v u:Vec Int n):jW (decide p) v u=if p then v else u:=IN rfl v u
theorem Sr {p:Pt} (hp:w9 p):tV p=akV (PM p):=by
 obtain ⟨p1,p2,p3⟩:=MX hp
 have i:=MU p2.2.2.1
 have x:=fC p2.1 i.1
 have y:=fC p2.2.1 i.1
 unfold tV Ad
 have ex:(iF p).1=mulC (fH p).2.1 (jj (fH p).2.2.2.1):=rfl
 have ey:(iF p).2=mulC (fH p).2.2.1 (jj (fH p).2.2.2.1):=rfl
 simp only[ex,ey]
 have ho:oH (mulC (fH p).2.1 (jj (fH p).2.2.2.1))=decide ((fe (mulC (fH p).2.1 (jj (fH p).2.2.2.1))).val%2=1):=Yl x.1
 rw[ho,Yu,tQ y.1,x.2,y.2,i.2]
 have hb:=vT (fe (fH p).2.2.1*F.inv (fe (fH p).2.2.2.1))
 have hu:Vec.xc (fun x=>bm .u8 x 128) 31 (fw (fe (fH p).2.2.1*F.inv (fe (fH p).2.2.2.1)))=vR (fw (fe (fH p).2.2.1*F.inv (fe (fH p).2.2.2.1))):=by
  refine vS ?_
  generalize Vec.get (fw (fe (fH p).2.2.1*F.inv (fe (fH p).2.2.2.1))) 31=z at*
  show bm .u8 z 128=z+128
  rw[iQ,aeJ (m:=7) (by omega) (by decide) hb.1 (by omega) (by omega)];omega
 rw[hu,← p3];rfl
def Ss (V:Nat) (i:Nat):Bool:=decide (V/2 ^ i%2=1)
noncomputable def jY (V:Nat) (p:E4) (k:Nat) (r:E4):E4:=if Ss V (255-k)=true then Am (Am r r) p else Am r r
noncomputable def IQ (V:Nat) (p:E4):E4:=iE (jY V p) 256 qo
theorem Su {e:ft} (h:qn e) {i:Nat} (hi:i<256):(oD e i==1)=Ss (c5 e).toNat i:=by
 have h1:=PL h hi
 unfold Cr at h1
 unfold Ss oD
 rw[← h1]
 have e1:shr .u8 (e.get (i/8)) ((i%8:Nat):Int)=e.get (i/8)/(2 ^ (i%8):Nat):=eG .u8 _ _ (by show i%8≤8;omega)
 rw[e1,KD (m:=1) (by decide) _ 1 (by decide),wrap_i64 (by omega) (by omega)]
noncomputable def cM (p:Pt):Pt:=dV p p
noncomputable def An:ft→Pt→Pt:=Yd oD hY cM dV
theorem acQ {n:ft} {p:Pt} (hn:qn n) (hp:w9 p):w9 (An n p)∧PM (An n p)=IQ (c5 n).toNat (PM p):=by
 have key: ∀ k,k≤256→w9 (iE (gU oD cM dV n p) k hY)∧PM (iE (gU oD cM dV n p) k hY)=iE (jY (c5 n).toNat (PM p)) k qo:=by
  intro k
  induction k with
  |zero=>
   intro _
   obtain ⟨z1,z2,z3⟩:=PN
   obtain ⟨o1,o2⟩:=Yq z1 z2
   exact ⟨o1,o2.trans z3⟩
  |succ k ih=>
   intro hk
   obtain ⟨h1,h2⟩:=ih (by omega)
   show w9 (gU oD cM dV n p k _)∧PM (gU oD cM dV n p k _)=jY _ _ k _
   rw[← h2]
   generalize iE (gU oD cM dV n p) k hY=r at*
   obtain ⟨d1,_,d3⟩:=Yt h1 h1
   obtain ⟨a1,_,a3⟩:=Yt d1 hp
   unfold gU jY
   rw[tM,Su hn (by omega)]
   cases Ss (c5 n).toNat (255-k)
   ·exact ⟨d1,d3⟩
   ·refine ⟨a1,?_⟩
    rw[if_pos rfl,← d3];exact a3
 exact key 256 (by omega)
end Go.Proofs.YtjalaohajcpllaaGreat
namespace Go.Proofs.YtjalaohajcpllaaGreat
open Go Go.Ev BJ
theorem tW (x y:Fe): ∀ (l:List (Nat×Nat)) (r:List (Int×Int)),(∀ k,0≤(r.getD k (0,0)).2∧(r.getD k (0,0)).2<18446744073709551616)→ ∀ p∈(gb bc bg x y l r).2,p
 | [],r,_,p,hp=>by simp[gb] at hp
 |(i,j)::l,r,hr,p,hp=>by
  have GR:(gb bc bg x y ((i,j)::l) r).2=(0≤(bg (r.getD ((i+j)%5) (0,0)).2 (bc (eM x i j) (y.get j)).2 0).2∧(bg (r.getD ((i+j)%5) (0,0)).2 (bc (eM x i j) (y.get j)).2 0).2≤1)::
   (gb bc bg x y l (r.set ((i+j)%5) ((bg (r.getD ((i+j)%5) (0,0)).1 (bc (eM x i j) (y.get j)).1 (bg (r.getD ((i+j)%5) (0,0)).2 (bc (eM x i j) (y.get j)).2 0).2).1,(bg (r.getD ((i+j)%5) (0,0)).2 (bc (eM x i j) (y.get j)).2 0).1))).2:=rfl
  rw[GR] at hp
  have h0:=hr ((i+j)%5)
  generalize (r.getD ((i+j)%5) (0,0))=q at*
  have hm:0≤(bc (eM x i j) (y.get j)).2∧(bc (eM x i j) (y.get j)).2<18446744073709551616:=by
   show 0≤dE (eM x i j*y.get j)∧dE (eM x i j*y.get j)<18446744073709551616
   unfold dE;rw[lA];omega
  have hs:=jA h0.1 hm.1 (c:=0) (by omega)
  rcases List.mem_cons.1 hp with rfl|hp
  ·rw[hs]
   show 0≤(q.2+(bc (eM x i j) (y.get j)).2+0)/18446744073709551616∧(q.2+(bc (eM x i j) (y.get j)).2+0)/18446744073709551616≤1
   omega
  ·refine tW x y l _ (fun k=>?_) p hp
   have ld: ∀ (v:Int×Int) (a k:Nat),(r.set a v).getD k (0,0)=r.getD k (0,0)∨(r.set a v).getD k (0,0)=v:=by
    intro v a k
    simp only[List.getD_eq_getElem?_getD,List.getElem?_set]
    split
    ·split
     ·exact .inr rfl
     ·rename_i e h;subst e;left;rw[List.getElem?_eq_none (by omega)]
    ·exact .inl rfl
   rcases ld _ ((i+j)%5) k with e|e
   ·rw[e];exact hr k
   ·rw[e,hs]
    show 0≤(q.2+(bc (eM x i j) (y.get j)).2+0)%18446744073709551616∧(q.2+(bc (eM x i j) (y.get j)).2+0)%18446744073709551616<18446744073709551616
    omega
noncomputable def Yv:Fe→Fe:=tK cd
end Go.Proofs.YtjalaohajcpllaaGreat
namespace Go.Proofs.YtjalaohajcpllaaGreat
open Go Go.Ev BJ
end Go.Proofs.YtjalaohajcpllaaGreat
namespace Go.Proofs.YtjalaohajcpllaaGreat
open Go Go.Ev BJ
end Go.Proofs.YtjalaohajcpllaaGreat
namespace Go.Proofs.YtjalaohajcpllaaGreat
open Go Go.Ev BJ
set_option maxRecDepth 100000
theorem MY (a:F):0≤(a.val:Int)∧(a.val:Int)<(pp:Int):=⟨by omega,by have:=a.isLt;omega⟩
theorem ahf (a:F):cS (a.val:Int)=a:=Ae (by rw[fB,Int.emod_eq_of_lt (MY a).1 (MY a).2])
def akX (f:Nat→Int):Nat→Int
 |0=>0
 |n+1=>akX f n+f n
def conv (f g:Nat→Int) (n j:Nat):Int:=akX (fun i=>if i≤j∧j-i<16 then f i*g (j-i) else 0) n
end Go.Proofs.YtjalaohajcpllaaGreat
end
section
namespace Go.Proofs.YtjalaohajcpllaaGreat
open Go Go.Ev BJ
set_option maxRecDepth 1000000
section
variable (base zero:Pt) (encode:Pt→ft) (decode:ft→Pt×Bool) (Ya:Pt→Pt→Pt) (equal:Pt→Pt→Bool) (alive:Bool)
end
end Go.Proofs.YtjalaohajcpllaaGreat
namespace BJ
def F.acR (a:F) (e:Nat):F:=⟨pm pp 256 a.val e%pp,Nat.mod_lt _ (by decide)⟩
theorem F.PO (a:F) {e:Nat} (he:e<2 ^ 256):F.pow a e=F.acR a e:=by
 apply Fin.ext
 show a.val ^ e%pp=pm pp 256 a.val e%pp
 rw[PE pp 256 a.val e he,Nat.mod_mod]
def F.akY (a:F):F:=F.acR a (pp-2)
theorem F.afc (a:F):F.inv a=F.akY a:=F.PO a (by decide)
def Yw (a:F):F×Bool:=
 let r:=F.acR a ((pp+3)/8)
 let r1:=if r*r=a then r else r*F.acR 2 ((pp-1)/4)
 if r1*r1=a then (if r1.val%2=1 then-r1 else r1,true) else (0,false)
theorem ahg (a:F):rootOf a=Yw a:=by
 unfold rootOf Yw
 rw[F.PO a (by decide),F.PO 2 (by decide)]
def akZ (y:F):F×Bool:=if dd*(y*y)+1=0 then (0,decide (y*y-1=0)) else Yw ((y*y-1)*F.akY (dd*(y*y)+1))
theorem ak0 (y:F):mR y=akZ y:=by
 unfold mR mQ akZ
 rw[ahg,F.afc]
def qp:F:=46316835694926478169428394003475163141307993866256225615783033603165251855960
def tX:F:=15112221349535400772501151409588531511454012693041857206046113283949847762202
theorem Yx:4*F.inv 5=qp:=by rw[F.afc];decide+kernel
theorem Yy:mR qp=(tX,true):=by rw[ak0];decide+kernel
theorem Yz:IP=w8 tX qp:=by
 unfold IP
 rw[Yx,Yy]
end BJ
namespace Go.Proofs.YtjalaohajcpllaaGreat
open Go Go.Ev BJ
theorem PQ:w9 oI∧PM oI=IP:=by
 obtain ⟨h1,h2,h3⟩:=acP
 obtain ⟨o1,o2⟩:=Yq h1 h2
 exact ⟨o1,o2.trans h3⟩
end Go.Proofs.YtjalaohajcpllaaGreat
namespace BJ
theorem acS (x:F):(x.val+(-x).val)%pp=0:=by
 have h:x+ -x=0:=by grobner
 have:=congrArg Fin.val h
 rw[Fin.val_add] at this
 exact this
theorem par {a b p:Nat} (hs:(a+b)%p=0) (ha:a<p) (hb:b<p) (h0:a≠0) (hp:p%2=1):b%2=1↔a%2=0:=by
 have h1:a+b=p:=by
  rcases Nat.lt_or_ge (a+b) p with h|h
  ·rw[Nat.mod_eq_of_lt h] at hs;omega
  ·rw[Nat.mod_eq_sub_mod h,Nat.mod_eq_of_lt (by omega)] at hs;omega
 omega
theorem ahh:pp%2=1:=by decide+kernel
theorem PR {x:F} (h:x≠0):(-x).val%2=1↔x.val%2=0:=
 par (acS x) x.isLt (-x).isLt (fun e=>h (Fin.ext e)) ahh
theorem ahi:(pp:Int)=57896044618658097711785492504343953926634992332820282019728792003956564819949:=rfl
theorem Cx:Go.Proofs.YtjalaohajcpllaaGreat.tU=57896044618658097711785492504343953926634992332820282019728792003956564819968:=rfl
def gm (r a:F):F×Bool:=if r*r=a then (if r.val%2=1 then-r else r,true) else (0,false)
theorem vU (a:F):rootOf a=gm (if F.pow a ((pp+3)/8)*F.pow a ((pp+3)/8)=a then F.pow a ((pp+3)/8) else F.pow a ((pp+3)/8)*F.pow 2 ((pp-1)/4)) a:=rfl
theorem F.tY:(0:F).val=0:=rfl
theorem Sv (r a:F):(gm r a).1.val%2=0:=by
 unfold gm
 by_cases h:r*r=a
 ·rw[if_pos h]
  show (if r.val%2=1 then-r else r).val%2=0
  by_cases h1:r.val%2=1
  ·rw[if_pos h1]
   have hr:r≠0:=fun e=>by rw[e,F.tY] at h1;cases h1
   have:=PR hr
   omega
  ·rw[if_neg h1];omega
 ·rw[if_neg h]
  show (0:F).val%2=0
  rw[F.tY]
theorem Sw (a:F):(rootOf a).1.val%2=0:=by rw[vU];exact Sv _ _
theorem MZ (u v:F):(mQ u v).1.val%2=0:=by
 unfold mQ
 by_cases h:v=0
 ·rw[if_pos h]
  show (0:F).val%2=0
  rw[F.tY]
 ·rw[if_neg h];exact Sw _
theorem YA (y:F):(mR y).1.val%2=0:=MZ _ _
end BJ
namespace Go.Proofs.YtjalaohajcpllaaGreat
open Go Go.Ev BJ
theorem Ao {b:ft} (h:qn b) (h31:b.get 31<128):qn (vR b)∧c5 (vR b)=c5 b+tU:=by
 have e:vR b=Vec.xc (fun x=>if x<128 then x+128 else x) 31 b:=vS (by show _=if b.get 31<128 then _ else _;rw[if_pos h31])
 rw[e]
 obtain ⟨h1,h2⟩:=IM (fun x=>if x<128 then x+128 else x) (n:=31) h (fun x h1 h2=>by show 0≤(if x<128 then x+128 else x)∧(if x<128 then x+128 else x)<256;split<;>omega)
 refine ⟨h1,h2.trans ?_⟩
 show c5 b-b.get 31*_+(if b.get 31<128 then b.get 31+128 else b.get 31)*_=_
 have:=Cx
 rw[if_pos h31,ahb];omega
end Go.Proofs.YtjalaohajcpllaaGreat
namespace Go.Proofs.YtjalaohajcpllaaGreat
open Go Go.Ev BJ
set_option maxRecDepth 100000
end Go.Proofs.YtjalaohajcpllaaGreat
namespace BJ
theorem F.YB:(1:F)≠0:=by decide+kernel
theorem F.ahj (s:F) (m:Nat):F.pow (s*s) m=F.pow s (m+m):=by
 induction m with
 |zero=>rw[F.pow_zero,F.pow_zero]
 |succ m ih=>
  rw[F.pow_succ,ih,show m+1+(m+1)=(m+m+1)+1 from by omega,F.pow_succ,F.pow_succ]
  grobner
theorem F.qY {s:F} (h:s≠0):F.pow s (pp-1)=1:=by
 apply Fin.ext
 show s.val ^ (pp-1)%pp=1
 exact Fk.qY (F.MM h)
theorem F.ahk {t:F} (h:t*t=1):t=1∨t= -1:=by
 have:(t-1)*(t+1)=0:=by grobner
 rcases F.mul_eq_zero this with h1|h1
 ·left;grobner
 ·right;grobner
theorem F.ak1 {a b:F} (h:a*a=b*b):a=b∨a= -b:=by
 have:(a-b)*(a+b)=0:=by grobner
 rcases F.mul_eq_zero this with h1|h1
 ·left;grobner
 ·right;grobner
theorem Sx {r a:F} (h:r*r=a):(gm r a).2=true:=by
 unfold gm;rw[if_pos h]
theorem acT {r a:F} (h:(gm r a).2=true):(gm r a).1*(gm r a).1=a:=by
 unfold gm at h ⊢
 by_cases h1:r*r=a
 ·rw[if_pos h1]
  show (if r.val%2=1 then-r else r)*(if r.val%2=1 then-r else r)=a
  by_cases h2:r.val%2=1
  ·rw[if_pos h2];grobner
  ·rw[if_neg h2];exact h1
 ·rw[if_neg h1] at h;cases h
theorem YC {s c:F} {m k:Nat} (hm:m+m=k+1) (hk:s≠0→F.pow s (k+k)*F.pow s (k+k)=1) (hc:c*c= -1):
  (gm (if F.pow (s*s) m*F.pow (s*s) m=s*s then F.pow (s*s) m else F.pow (s*s) m*c) (s*s)).2=true:=by
 apply Sx
 by_cases h:F.pow (s*s) m*F.pow (s*s) m=s*s
 ·rw[if_pos h];exact h
 ·rw[if_neg h]
  have h1:F.pow (s*s) m*F.pow (s*s) m=F.pow s (k+k)*(s*s):=by
   rw[← F.pow_add,hm,F.pow_succ,F.ahj]
  by_cases hs:s=0
  ·exfalso;apply h;rw[h1,hs];grobner
  ·rcases F.ahk (hk hs) with h2|h2
   ·exfalso;apply h;rw[h1,h2];grobner
   ·rw[h2] at h1
    generalize F.pow (s*s) m=r at*
    grobner
theorem YD:(pp+3)/8+(pp+3)/8=(pp-1)/4+1:=by decide+kernel
theorem YE:(pp-1)/4+(pp-1)/4+((pp-1)/4+(pp-1)/4)=pp-1:=by decide+kernel
theorem M0:F.pow 2 ((pp-1)/4)*F.pow 2 ((pp-1)/4)= -1:=by
 rw[F.PO 2 (by decide+kernel)];decide+kernel
theorem Ap (s:F):(rootOf (s*s)).2=true:=by
 rw[vU]
 exact YC YD (fun hs=>by rw[← F.pow_add,YE];exact F.qY hs) M0
theorem acU {a:F} (h:(rootOf a).2=true):(rootOf a).1*(rootOf a).1=a:=by
 rw[vU] at h ⊢;exact acT h
theorem M1 (y:F):dd*(y*y)+1≠0:=by
 intro h
 have hy:y≠0:=by rintro rfl;exact F.YB (by grobner)
 have hi:=F.inv_mul hy
 have h2:=ae5
 apply tI (ii*F.inv y)
 generalize F.inv y=v at*
 grobner
theorem ahl {x y:F} (h:vN x y):(mR y).2=true∧((mR y).1=x∨(mR y).1= -x):=by
 have h2:=F.inv_mul (M1 y)
 have e:(y*y-1)*F.inv (dd*(y*y)+1)=x*x:=by
  apply F.cancel (M1 y)
  unfold vN at h
  generalize F.inv (dd*(y*y)+1)=v at*
  grobner
 unfold mR mQ
 rw[if_neg (M1 y),e]
 exact ⟨Ap x,F.ak1 (acU (Ap x))⟩
def M3 (p:E4) (P:Pt):Prop:=p.2.2.1≠0∧p.1=P.x*p.2.2.1∧p.2.1=P.y*p.2.2.1∧p.2.2.2=P.x*P.y*p.2.2.1
theorem Fq (P:Pt):M3 (w8 P.x P.y) P:=
 ⟨F.YB,(show P.x=P.x*1 by grobner),(show P.y=P.y*1 by grobner),(show P.x*P.y=P.x*P.y*1 by grobner)⟩
theorem YF:M3 qo Pt.zero:=Fq Pt.zero
theorem acV {x1 y1 Z1 x2 y2 Z2:F} {A B:F} (h1:vN x1 y1) (h2:vN x2 y2) (hz1:Z1≠0) (hz2:Z2≠0)
  (hA:A*(1+dd*x1*x2*y1*y2)=x1*y2+y1*x2) (hB:B*(1-dd*x1*x2*y1*y2)=y1*y2+x1*x2) {r:E4}
  (hr:Am (x1*Z1,y1*Z1,Z1,x1*y1*Z1) (x2*Z2,y2*Z2,Z2,x2*y2*Z2)=r):r.2.2.1≠0∧r.1=A*r.2.2.1∧r.2.1=B*r.2.2.1∧r.2.2.2=A*B*r.2.2.1:=by
 have d1:=gy h1 h2
 have d2:=fP h1 h2
 subst hr
 unfold Am
 simp only[]
 generalize hD:dd*x1*x2*y1*y2=D at*
 have e1:y1*Z1*Z2+y1*Z1*Z2=y1*Z1*Z2+y1*Z1*Z2:=rfl
 have eba:(y1*Z1+x1*Z1)*(y2*Z2+x2*Z2)-(y1*Z1-x1*Z1)*(y2*Z2-x2*Z2)=2*(Z1*Z2)*(A*(1+D)):=by rw[hA];grobner
 have ebA:(y1*Z1+x1*Z1)*(y2*Z2+x2*Z2)+(y1*Z1-x1*Z1)*(y2*Z2-x2*Z2)=2*(Z1*Z2)*(B*(1-D)):=by rw[hB];grobner
 have edc:Z1*Z2+Z1*Z2-(x1*y1*Z1*(x2*y2*Z2)*dd+x1*y1*Z1*(x2*y2*Z2)*dd)=2*(Z1*Z2)*(1-D):=by rw[← hD];grobner
 have edC:Z1*Z2+Z1*Z2+(x1*y1*Z1*(x2*y2*Z2)*dd+x1*y1*Z1*(x2*y2*Z2)*dd)=2*(Z1*Z2)*(1+D):=by rw[← hD];grobner
 rw[eba,ebA,edc,edC]
 have fR:=F.eL X7 (F.eL hz1 hz2)
 refine ⟨F.eL (F.eL fR d2) (F.eL fR d1),?_,?_,?_⟩<;>grobner
theorem IS {p:E4} {P:Pt} (h:M3 p P):p=(P.x*p.2.2.1,P.y*p.2.2.1,p.2.2.1,P.x*P.y*p.2.2.1):=by
 obtain ⟨X,Y,Z,T⟩:=p
 obtain ⟨_,h1,h2,h3⟩:=h
 simp only at h1 h2 h3
 rw[h1,h2,h3]
theorem PS {p q:E4} {P Q:Pt} (hp:M3 p P) (hq:M3 q Q):M3 (Am p q) (P.add Q):=by
 have h:=acV P.on Q.on hp.1 hq.1 (jU P.on Q.on) (jV P.on Q.on) (r:=Am p q) (by rw[← IS hp,← IS hq])
 exact h
theorem ak2 {p:E4} {P:Pt} (hp:M3 p P):p.1*F.inv p.2.2.1=P.x:=by
 obtain ⟨h0,h1,_⟩:=hp
 have:=F.inv_mul h0
 rw[h1]
 generalize F.inv p.2.2.1=v at*
 grobner
theorem ak3 {p:E4} {P:Pt} (hp:M3 p P):p.2.1*F.inv p.2.2.1=P.y:=by
 obtain ⟨h0,_,h2,_⟩:=hp
 have:=F.inv_mul h0
 rw[h2]
 generalize F.inv p.2.2.1=v at*
 grobner
theorem Pt.zero_add (p:Pt):Pt.zero.add p=p:=by rw[Pt.add_comm,Pt.add_zero]
def pU:Nat→Pt→Pt
 |0,_=>Pt.zero
 |n+1,p=>(pU n p).add p
theorem Fs (m n:Nat) (p:Pt):pU (m+n) p=(pU m p).add (pU n p):=by
 induction n with
 |zero=>
  show pU m p=(pU m p).add Pt.zero
  rw[Pt.add_zero]
 |succ n ih=>rw[← Nat.add_assoc,pU,pU,ih,Pt.add_assoc]
theorem YG (n:Nat):pU n Pt.zero=Pt.zero:=by
 induction n with
 |zero=>rfl
 |succ n ih=>rw[pU,ih,Pt.add_zero]
theorem acW (m n:Nat) (p:Pt):pU (m*n) p=pU m (pU n p):=by
 induction m with
 |zero=>rw[Nat.zero_mul];rfl
 |succ m ih=>rw[Nat.succ_mul,Fs,ih,pU]
theorem acX (p:Pt):pU 1 p=p:=Pt.zero_add p
end BJ
namespace Go.Proofs.YtjalaohajcpllaaGreat
open Go Go.Ev
set_option maxRecDepth 1000000
section
variable (bit:ft→Nat→Int) (zero:Pn) (ag8:Fn) (add:Fn→Fn→Fn) (akF:Pn→Pn→Fn→Pn)
end
section
variable (decode:ft→Pt×Bool) (base:Pt) (double:Pt→Pt)
end
section
variable (decode:ft→Pt×Bool) (base:Pt) (double:Pt→Pt) (acY:ft→Pn×Bool) (aqr:Pn) (ak4:Pn→Pn→Pn)
end
end Go.Proofs.YtjalaohajcpllaaGreat
namespace Go.Proofs.YtjalaohajcpllaaGreat
open Go Go.Ev BJ
set_option maxRecDepth 1000000
end Go.Proofs.YtjalaohajcpllaaGreat
namespace Go.Ev
open Go
end Go.Ev
namespace Go.Proofs.YtjalaohajcpllaaGreat
open Go Go.Ev BJ
set_option maxRecDepth 1000000
def both (a b:Bool):Bool:=bif a==true then b else false
section
variable (at2:ft→Pt×Pn) (zero:Pt) (add:Pt→Pt→Pt) (neg double:Pt→Pt) (equal:Pt→Pt→Bool) (encode:Pt→ft)
end
section
variable (at2:ft→Pt×Pn) (decode:ft→Pt×Bool) (add:Pt→Pt→Pt) (neg double:Pt→Pt) (equal:Pt→Pt→Bool) (encode:Pt→ft) (acY:ft→Pn×Bool) (ak4:Pn→Pn→Pn) (aqs:Pn→Pn) (aoP:Pn→Pn→Bool) (amH:Pn→ft)
end
section
variable (zero:Pt) (decode:ft→Pt×Bool) (neg double:Pt→Pt) (equal:Pt→Pt→Bool)
end
end Go.Proofs.YtjalaohajcpllaaGreat
namespace Go.Proofs.YtjalaohajcpllaaGreat
open Go Go.Ev BJ
theorem acZ:vN tX qp:=by unfold vN;decide+kernel
def hZ:BJ.Pt:=⟨tX,qp,acZ⟩
theorem YH:M3 IP hZ:=by
 rw[Yz];exact Fq hZ
structure Rep (p:Pt) (P:BJ.Pt):Prop where
 ok:w9 p
 is:M3 (PM p) P
theorem YI:Rep oI hZ:=⟨PQ.1,by rw[PQ.2];exact YH⟩
noncomputable def rf (P:BJ.Pt):ft:=if P.x.val%2=1 then vR (fw P.y) else fw P.y
theorem ac0 {p:Pt} {P:BJ.Pt} (hp:Rep p P):tV p=rf P:=by
 rw[Sr hp.ok]
 unfold akV rf
 rw[ak2 hp.is,ak3 hp.is]
theorem YJ (P:BJ.Pt):c5 (rf P)=(P.y.val:Int)+(if P.x.val%2=1 then tU else 0):=by
 unfold rf
 obtain ⟨h1,h2⟩:=jX P.y
 by_cases h:P.x.val%2=1
 ·rw[if_pos h,if_pos h,(Ao h1 (vT _).2).2,h2]
 ·rw[if_neg h,if_neg h,h2,Int.add_zero]
end Go.Proofs.YtjalaohajcpllaaGreat
namespace Go.Proofs.YtjalaohajcpllaaGreat
open Go Go.Ev BJ
theorem IT {V:Nat} (hV:V<2 ^ 256) {p:E4} {P:BJ.Pt} (hp:M3 p P):M3 (IQ V p) (pU V P):=by
 have key: ∀ k,k≤256→M3 (iE (jY V p) k qo) (pU (V/2 ^ (256-k)) P):=by
  intro k
  induction k with
  |zero=>
   intro _
   rw[Nat.sub_zero,Nat.div_eq_of_lt hV]
   exact YF
  |succ k ih=>
   intro hk
   have h:=ih (by omega)
   show M3 (jY V p k (iE (jY V p) k qo)) _
   have hdiv:V/2 ^ (256-k)=V/2 ^ (256-(k+1))/2:=by
    rw[Nat.div_div_eq_div_mul,← Nat.pow_succ];congr 2;omega
   rw[hdiv] at h
   unfold jY Ss
   rw[show 255-k=256-(k+1) from by omega]
   generalize V/2 ^ (256-(k+1))=M at*
   have h2:=PS h h
   rw[← Fs] at h2
   by_cases hb:M%2=1
   ·rw[decide_eq_true hb,if_pos rfl]
    have h3:=PS h2 hp
    have e:(pU (M/2+M/2) P).add P=pU M P:=by
     have:M=(M/2+M/2)+1:=by omega
     conv=>rhs;rw[this]
     rfl
    rw[e] at h3;exact h3
   ·rw[decide_eq_false hb,if_neg (by simp)]
    rw[show M/2+M/2=M from by omega] at h2;exact h2
 have:=key 256 (by omega)
 rw[Nat.sub_self,Nat.pow_zero,Nat.div_one] at this
 exact this
theorem ahm {n:ft} (h:qn n):(c5 n).toNat<2 ^ 256:=by
 have h1:=tP h
 have h0:=eu h
 have ahc:(256 ^ 32:Nat)=2 ^ 256:=by rw[show (256:Nat)=2 ^ 8 from rfl,← Nat.pow_mul]
 rw[ahc] at h1
 omega
theorem YK {n:ft} {p:Pt} {P:BJ.Pt} (hn:qn n) (hp:Rep p P):Rep (An n p) (pU (c5 n).toNat P):=by
 obtain ⟨h1,h2⟩:=acQ hn hp.ok
 exact ⟨h1,by rw[h2];exact IT (ahm hn) hp.is⟩
theorem YL (P:BJ.Pt):qn (rf P)∧akW (rf P)=(w8 P.x P.y,true):=by
 obtain ⟨b1,b2⟩:=jX P.y
 have hv:=YJ P
 have kZ:qn (rf P):=by
  unfold rf
  split
  ·exact (Ao b1 (vT _).2).1
  ·exact b1
 have hp:=MY P.y
 have c1:=Cx
 have c2:=ahi
 have hm:c5 (rf P)%tU=(P.y.val:Int):=by
  have c3: ∀ x:Int,x%tU=x%57896044618658097711785492504343953926634992332820282019728792003956564819968:=fun _=>rfl
  rw[hv,c3]
  split<;>omega
 have hF:cS (c5 (rf P)%tU)=P.y:=by rw[hm,ahf]
 have h31:=tR kZ (i:=31) (by decide)
 rw[ahb] at h31
 have ahn:128≤(rf P).get 31↔P.x.val%2=1:=by
  rw[h31,hv]
  split<;>omega
 obtain ⟨x1,x2⟩:=ahl P.on
 have hev:=YA P.y
 refine ⟨kZ,?_⟩
 unfold akW
 simp only[hF]
 have gZ:(mR P.y).2=true∧c5 (rf P)%tU<(pp:Int)∧ ¬(128≤(rf P).get 31∧(mR P.y).1=0):=by
  refine ⟨x1,by rw[hm];exact hp.2,fun ⟨h1,h2⟩=>?_⟩
  have ak5:=ahn.1 h1
  have uE:P.x=0:=by
   rcases x2 with h|h
   ·rw[← h,h2]
   ·have:P.x= -(mR P.y).1:=by rw[h];grobner
    rw[this,h2];grobner
  rw[uE,BJ.F.tY] at ak5;cases ak5
 rw[if_pos gZ]
 have aho:(if 128≤(rf P).get 31 then-(mR P.y).1 else (mR P.y).1)=P.x:=by
  generalize (mR P.y).1=X at*
  by_cases h:P.x.val%2=1
  ·rw[if_pos (ahn.2 h)]
   rcases x2 with e|e
   ·rw[e] at hev;omega
   ·rw[e];grobner
  ·rw[if_neg fun h'=>h (ahn.1 h')]
   rcases x2 with e|e
   ·exact e
   ·by_cases h0:P.x=0
    ·rw[e,h0];grobner
    ·have:=PR h0
     rw[← e] at this
     omega
 rw[aho]
end Go.Proofs.YtjalaohajcpllaaGreat
namespace Go.Proofs.YtjalaohajcpllaaGreat
open Go Go.Ev BJ
set_option maxRecDepth 1000000
section
variable (alive:Unit) (mult:ft→Pt→Pt) (aqt:ft→Pt) (base zero:Pt) (double neg:Pt→Pt) (equal:Pt→Pt→Bool) (asI:ft→Pt) (add:Pt→Pt→Pt) (half:ft→ft) (plus:ft→ft→ft) (asJ:ft→Pt→ft→Pt)
end
end Go.Proofs.YtjalaohajcpllaaGreat
namespace Go.Proofs.YtjalaohajcpllaaGreat
open Go Go.Ev
set_option maxRecDepth 1000000
section
variable (bit:ft→Nat→Int) (zero base:Pt) (double:Pt→Pt) (Ya:Pt→Pt→Pt)
end
end Go.Proofs.YtjalaohajcpllaaGreat
namespace Go.Proofs.YtjalaohajcpllaaGreat
open Go Go.Ev BJ
end Go.Proofs.YtjalaohajcpllaaGreat
end
