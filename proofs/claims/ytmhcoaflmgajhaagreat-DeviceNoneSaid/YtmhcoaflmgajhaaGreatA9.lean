/- What the laws lean on, part 9: a reader of code, plain facts, and what each function gives; no conditions. -/
import Derived.Test.YtmhcoaflmgajhaaGreatA8
set_option linter.unusedVariables false
set_option linter.unusedSimpArgs false
noncomputable section
namespace Go.Proofs.YtmhcoaflmgajhaaGreat
open Go Go.Ev BJ Go.Proofs.Tryz
open Go.IntKind (i64 signed u32 u64 wrap wrap_u32)
set_option maxRecDepth 1000000
end Go.Proofs.YtmhcoaflmgajhaaGreat
namespace BJ
end BJ
namespace Go.Proofs.YtmhcoaflmgajhaaGreat
open Go Go.Ev BJ Go.Proofs.Tryz
open Go.IntKind (i64 signed u32 u64 wrap wrap_u32)
abbrev mulC:Fe→Fe→Fe:=I7 cH cr gG
def powC(x:Fe)(e:dk):Fe:=Zs bn (fun x=>mulC x x) mulC x e
def j8(x:Fe):Fe:=powC x (qU 235 127)
def oW:Fe→Fe→Fe:=Zp gG
def n7:Fe→Fe→Fe:=Zq gG
def iU(x:Fe):Fe:=n7 cN x
def Ot(x y:Fe):Bool:=UA (dN x) (dN y)
def lE:Fe→Bool:=Zr dN
def cb(x:Fe):Bool:=Ot x cN
def mK:Fe→Fe×Bool:=uK powC qU mulC (fun x=>mulC x x) iU bn Ot lE
def lF:Fe→Fe→Fe×Bool:=fun u v=>(gw (cb v) cN (mK (mulC u (j8 v))).1,bif cb v then cb u else(mK (mulC u (j8 v))).2)
end Go.Proofs.YtmhcoaflmgajhaaGreat
namespace Go.Proofs.YtmhcoaflmgajhaaGreat
open Go Go.Ev BJ Go.Proofs.Tryz
open Go.IntKind (i64 signed u32 u64 wrap wrap_u32)
end Go.Proofs.YtmhcoaflmgajhaaGreat
namespace BJ
end BJ
namespace Go.Proofs.YtmhcoaflmgajhaaGreat
open Go Go.Ev BJ Go.Proofs.Tryz
open Go.IntKind (i64 signed u32 u64 wrap wrap_u32)
def kW:Fe:=j6 n5
def cK:Fe→Fe→Pt:=I9 mulC bn
def gI:Pt:=cK cN (bn 1)
def fg:Pt→Pt:=Ry gI
def qY:Fe→Fe→Fe→Fe→Pt:=Oq mulC
def dJ:Pt→Pt→Pt:=addFn mulC oW n7 kW fg qY
def qZ:Pt→Pt:=negFn iU fg
end Go.Proofs.YtmhcoaflmgajhaaGreat
namespace Go.Proofs.YtmhcoaflmgajhaaGreat
open Go Go.Ev BJ Go.Proofs.Tryz
open Go.IntKind (i64 signed u32 u64 wrap wrap_u32)
def gJ:Fe→Fe×Bool:=fun y=>lF (n7 (mulC y y) (bn 1)) (oW (mulC kW (mulC y y)) (bn 1))
def mL:Pt:=cK (gJ (mulC (bn 4) (j8 (bn 5)))).1 (mulC (bn 4) (j8 (bn 5)))
def gg:Pt→Fe×Fe:=Oo mulC j8 fg
def C7:Pt→dk:=xX lE dN gg
def iV(b:dk):Bool:=UA (dN (j6 (xT b))) (xT b)
def Ou:dk→Pt×Bool:=qW iU cb j6 iV cK gJ
def cL(p:Pt):Pt:=dJ p p
end Go.Proofs.YtmhcoaflmgajhaaGreat
namespace Go.Proofs.YtmhcoaflmgajhaaGreat
open Go Go.Ev BJ Go.Proofs.Tryz
open Go.IntKind (i64 signed u32 u64 wrap wrap_u32)
theorem mM(x y:Fe):∀ (l:List (Nat×Nat)) (r:List (Int×Int)),(∀k,0≤(r.getD k (0,0)).2∧(r.getD k (0,0)).2<18446744073709551616)→∀p∈(lD cH cr x y l r).2,p
 | [],r,_,p,hp=>by simp[lD]at hp
 |(i,j)::l,r,hr,p,hp=>by
  have Hj:(lD cH cr x y ((i,j)::l) r).2=(0≤(cr (r.getD ((i+j)%5) (0,0)).2 (cH (n6 x i j) (y.get j)).2 0).2∧(cr (r.getD ((i+j)%5) (0,0)).2 (cH (n6 x i j) (y.get j)).2 0).2≤1)::
   (lD cH cr x y l (r.set ((i+j)%5) ((cr (r.getD ((i+j)%5) (0,0)).1 (cH (n6 x i j) (y.get j)).1 (cr (r.getD ((i+j)%5) (0,0)).2 (cH (n6 x i j) (y.get j)).2 0).2).1,(cr (r.getD ((i+j)%5) (0,0)).2 (cH (n6 x i j) (y.get j)).2 0).1))).2:=rfl
  rw[Hj]at hp;have h0:=hr ((i+j)%5);generalize (r.getD ((i+j)%5) (0,0))=q at*
  have hm:0≤(cH (n6 x i j) (y.get j)).2∧(cH (n6 x i j) (y.get j)).2<18446744073709551616:=by
   show 0≤gr (n6 x i j*y.get j)∧gr (n6 x i j*y.get j)<18446744073709551616;unfold gr;rw[ky];omega
  have hs:=sU h0.1 hm.1 (c:=0) (by omega);rcases List.mem_cons.1 hp with rfl|hp
  ·rw[hs];show 0≤(q.2+(cH (n6 x i j) (y.get j)).2+0)/18446744073709551616∧(q.2+(cH (n6 x i j) (y.get j)).2+0)/18446744073709551616≤1;omega
  ·refine mM x y l _ (fun k=>?_) p hp
   have jz:∀ (v:Int×Int) (a k:Nat),(r.set a v).getD k (0,0)=r.getD k (0,0)∨(r.set a v).getD k (0,0)=v:=by
    intro v a k;simp only[List.getD_eq_getElem?_getD,List.getElem?_set]
    split
    ·split
     ·exact .inr rfl
     ·rename_i e h;subst e;left;rw[List.getElem?_eq_none (by omega)]
    ·exact .inl rfl
   rcases jz _ ((i+j)%5) k with e|e
   ·rw[e];exact hr k
   ·rw[e,hs];show 0≤(q.2+(cH (n6 x i j) (y.get j)).2+0)%18446744073709551616∧(q.2+(cH (n6 x i j) (y.get j)).2+0)%18446744073709551616<18446744073709551616;omega
def Ja:Fe→Fe:=C5 gG
end Go.Proofs.YtmhcoaflmgajhaaGreat
namespace Go.Proofs.YtmhcoaflmgajhaaGreat
open Go Go.Ev BJ Go.Proofs.Tryz
open Go.IntKind (i64 signed u32 u64 wrap wrap_u32)
end Go.Proofs.YtmhcoaflmgajhaaGreat
namespace Go.Proofs.YtmhcoaflmgajhaaGreat
open Go Go.Ev BJ Go.Proofs.Tryz
open Go.IntKind (i64 signed u32 u64 wrap wrap_u32)
end Go.Proofs.YtmhcoaflmgajhaaGreat
namespace Go.Proofs.YtmhcoaflmgajhaaGreat
open Go Go.Ev BJ Go.Proofs.Tryz
open Go.IntKind (i64 signed u32 u64 wrap wrap_u32)
set_option maxRecDepth 100000
def Zu(f:Nat→Int):Nat→Int
 |0=>0
 |n+1=>Zu f n+f n
def conv(f g:Nat→Int)(n j:Nat):Int:=Zu (fun i=>if i≤j∧j-i<16 then f i*g (j-i)else 0) n
noncomputable section
variable (base zero:Pt) (encode:Pt→dk) (decode:dk→Pt×Bool) (Fo:Pt→Pt→Pt) (equal:Pt→Pt→Bool) (alive:Bool)
end
end Go.Proofs.YtmhcoaflmgajhaaGreat
namespace BJ
end BJ
namespace Go.Proofs.YtmhcoaflmgajhaaGreat
open Go Go.Ev BJ Go.Proofs.Tryz
open Go.IntKind (i64 signed u32 u64 wrap wrap_u32)
end Go.Proofs.YtmhcoaflmgajhaaGreat
namespace BJ
end BJ
namespace Go.Proofs.YtmhcoaflmgajhaaGreat
open Go Go.Ev BJ Go.Proofs.Tryz
open Go.IntKind (i64 signed u32 u64 wrap wrap_u32)
end Go.Proofs.YtmhcoaflmgajhaaGreat
namespace Go.Proofs.YtmhcoaflmgajhaaGreat
open Go Go.Ev BJ Go.Proofs.Tryz
open Go.IntKind (i64 signed u32 u64 wrap wrap_u32)
set_option maxRecDepth 100000
end Go.Proofs.YtmhcoaflmgajhaaGreat
namespace BJ
end BJ
namespace Go.Proofs.YtmhcoaflmgajhaaGreat
open Go Go.Ev Go.Proofs.Tryz
open Go.IntKind (i64 signed u32 u64 wrap wrap_u32)
set_option maxRecDepth 1000000
noncomputable section
variable (bit:dk→Nat→Int) (zero:Pn) (UC:Fn) (add:Fn→Fn→Fn) (Zt:Pn→Pn→Fn→Pn)
end
noncomputable section
variable (decode:dk→Pt×Bool) (base:Pt) (double:Pt→Pt)
end
noncomputable section
variable (decode:dk→Pt×Bool) (base:Pt) (double:Pt→Pt) (Ov:dk→Pn×Bool) (ag7:Pn) (Zv:Pn→Pn→Pn)
end
end Go.Proofs.YtmhcoaflmgajhaaGreat
namespace Go.Proofs.YtmhcoaflmgajhaaGreat
open Go Go.Ev BJ Go.Proofs.Tryz
open Go.IntKind (i64 signed u32 u64 wrap wrap_u32)
set_option maxRecDepth 1000000
end Go.Proofs.YtmhcoaflmgajhaaGreat
namespace Go.Ev
open Go
open Go.IntKind (i64 signed u32 u64 wrap wrap_u32)
end Go.Ev
namespace Go.Proofs.YtmhcoaflmgajhaaGreat
open Go Go.Ev BJ Go.Proofs.Tryz
open Go.IntKind (i64 signed u32 u64 wrap wrap_u32)
set_option maxRecDepth 1000000
noncomputable section
variable (at2:dk→Pt×Pn) (zero:Pt) (add:Pt→Pt→Pt) (neg double:Pt→Pt) (equal:Pt→Pt→Bool) (encode:Pt→dk)
end
noncomputable section
variable (at2:dk→Pt×Pn) (decode:dk→Pt×Bool) (add:Pt→Pt→Pt) (neg double:Pt→Pt) (equal:Pt→Pt→Bool) (encode:Pt→dk) (Ov:dk→Pn×Bool) (Zv:Pn→Pn→Pn) (ag8:Pn→Pn) (aeU:Pn→Pn→Bool) (ada:Pn→dk)
end
noncomputable section
variable (zero:Pt) (decode:dk→Pt×Bool) (neg double:Pt→Pt) (equal:Pt→Pt→Bool)
end
end Go.Proofs.YtmhcoaflmgajhaaGreat
namespace Go.Proofs.YtmhcoaflmgajhaaGreat
open Go Go.Ev BJ Go.Proofs.Tryz
open Go.IntKind (i64 signed u32 u64 wrap wrap_u32)
end Go.Proofs.YtmhcoaflmgajhaaGreat
namespace Go.Proofs.YtmhcoaflmgajhaaGreat
open Go Go.Ev BJ Go.Proofs.Tryz
open Go.IntKind (i64 signed u32 u64 wrap wrap_u32)
end Go.Proofs.YtmhcoaflmgajhaaGreat
namespace Go.Proofs.YtmhcoaflmgajhaaGreat
open Go Go.Ev BJ Go.Proofs.Tryz
open Go.IntKind (i64 signed u32 u64 wrap wrap_u32)
set_option maxRecDepth 1000000
noncomputable section
variable (alive:Unit) (mult:dk→Pt→Pt) (ag9:dk→Pt) (base zero:Pt) (double neg:Pt→Pt) (equal:Pt→Pt→Bool) (aiA:dk→Pt) (add:Pt→Pt→Pt) (half:dk→dk) (plus:dk→dk→dk) (aiB:dk→Pt→dk→Pt)
end
end Go.Proofs.YtmhcoaflmgajhaaGreat
namespace Go.Proofs.YtmhcoaflmgajhaaGreat
open Go Go.Ev Go.Proofs.Tryz
open Go.IntKind (i64 signed u32 u64 wrap wrap_u32)
set_option maxRecDepth 1000000
noncomputable section
variable (bit:dk→Nat→Int) (zero base:Pt) (double:Pt→Pt) (Fo:Pt→Pt→Pt)
def xY(z:Int): {n:Nat}→List (Vec Int n)→Vec Int n
 |0,_=>()
 |_+1,l=>((l.map (·.1)).getD z.toNat 0,xY z (l.map (·.2)))
def uM(z:Int)(l:List Pt):Pt:=((l.map (·.1)).getD z.toNat false,xY z (l.map (·.2.1)),xY z (l.map (·.2.2.1)),xY z (l.map (·.2.2.2.1)),xY z (l.map (·.2.2.2.2)))
def Zw(a b c d:Pt):Vec Pt 4:=(a,b,c,d,())
def UE(a b:dk)(i:Int):Int:=w (bit a i.toNat+w (2*bit b i.toNat))
def uN(a b:dk)(l:Vec Pt 4)(i:Int)(r:Pt):Pt:=xW (decide (UE bit a b i>0)) (Fo (double r) (uM (UE bit a b i) l.toList)) (double r)
def Rz(a:dk)(p:Pt)(b:dk):Pt:=nZ (fun k r=>uN bit double Fo a b (Zw zero p base (Fo p base)) (255-(k:Int)) r) 256 zero
end
end Go.Proofs.YtmhcoaflmgajhaaGreat
namespace Go.Proofs.YtmhcoaflmgajhaaGreat
open Go Go.Ev BJ Go.Proofs.Tryz
open Go.IntKind (i64 signed u32 u64 wrap wrap_u32)
theorem UF{e:dk}(_k:Nat):qX e _k=0∨qX e _k=1:=by
 unfold qX;rw[TF (m:=1) (by decide) _ 1 (by decide)];have h:=Int.emod_nonneg (shr .u8 (e.get (_k/8)) ((_k%8:Nat):Int)) (b:=((2 ^ 1:Nat):Int)) (by decide);have h2:=Int.emod_lt_of_pos (shr .u8 (e.get (_k/8)) ((_k%8:Nat):Int)) (b:=((2 ^ 1:Nat):Int)) (by decide);generalize (shr .u8 (e.get (_k/8)) ((_k%8:Nat):Int))%((2 ^ 1:Nat):Int)=x at*;have h3:((2 ^ 1:Nat):Int)=2:=by decide
 rw[h3]at h2;rw[wrap_i64 (by omega) (by omega)];omega
def Ow:dk→Pt→dk→Pt:=Rz qX gI mL cL dJ
end Go.Proofs.YtmhcoaflmgajhaaGreat
end
noncomputable section
namespace Go.Proofs.YtmhcoaflmgajhaaGreat
open Go Go.Ev BJ Go.Proofs.Tryz
open Go.IntKind (i64 signed u32 u64 wrap wrap_u32)
set_option maxRecDepth 1000000
abbrev gY:aH LV Fe:=fy (gf .u64 5)
abbrev cB:aH LV (List Int):=Ae .u8 32
abbrev Ox(b:dk):LV:=fX .u8 32 b.toList
abbrev Oy:aH (List LV) (Int×Unit):=ab (ak (ay .u64)) ae
abbrev lG:aH (List LV) (Fe×Unit):=ab gY ae
abbrev iD:aH (List LV) (Fe×Fe×Unit):=ab gY (ab gY ae)
abbrev mN:aH (List LV) (List Int×Unit):=ab cB ae
abbrev kK:List Wk:= [.fr [.sym],.auto]
abbrev kR:List Wk:= [.fr [.sym],.gU 0 0 32 .u8,.auto]
def mO:al:=al.cl [] (lG) (ae) fun x_ y_=>(fun(x:Fe)=>.leaf none (gY.wr (gG x)) []) x_.1
theorem xZ(x:Fe):bc Tryz.prog [] [] f237 ((lG).wr (x,())) ((ae).wr ()) [.fr [.sym],.auto]= .leaf (gY.wr (gG x)) ([]):=by kernel_rfl
theorem kC:mO.Ok Tryz.prog 237:=by
 refine(al.bb call237 fun x_ y_ Q H_=>?_).sym;obtain⟨x,_⟩:=x_;have hq:=H_.2;refine(au mixed aw func237 rfl (LT:= []) (ks:= [.fr [.sym],.auto]) (aS.nil _)).use (D:= []) ?_ hq;show(bc _ _ _ _ ((lG).wr (x,())) ((ae).wr ()) _).sat _;rw[xZ];exact⟨rfl,rfl⟩
def uO:al:=al.cl [] (Oy) (ae) fun x_ y_=>(fun(n:Int)=>.leaf none (gY.wr (bn n)) []) x_.1
theorem x3(n:Int):bc Tryz.prog [] [] f212 ((Oy).wr (n,())) ((ae).wr ()) [.fr [.sym],.auto]= .leaf (gY.wr (bn n)) ([]):=by kernel_rfl
theorem sV:uO.Ok Tryz.prog 212:=by
 refine(al.bb call212 fun x_ y_ Q H_=>?_).sym;obtain⟨n,_⟩:=x_;have hq:=H_.2;refine(au mixed aw func212 rfl (LT:= []) (ks:= [.fr [.sym],.auto]) (aS.nil _)).use (D:= []) ?_ hq;show(bc _ _ _ _ ((Oy).wr (n,())) ((ae).wr ()) _).sat _;rw[x3];exact⟨rfl,rfl⟩
def RA:al:=al.cl [] (iD) (ae) fun x_ y_=>(fun(x y:Fe)=>.leaf none (gY.wr (oW x y)) []) x_.1 x_.2.1
theorem Fp(x y:Fe):bc Tryz.prog [(237,mO)] [] f213 ((iD).wr (x,y,())) ((ae).wr ()) [.fr [.sym],.auto]= .leaf (gY.wr (oW x y)) ([]):=by kernel_rfl
theorem Oz:RA.Ok Tryz.prog 213:=by
 refine(al.bb call213 fun x_ y_ Q H_=>?_).sym;obtain⟨x,y,_⟩:=x_;have hq:=H_.2;refine(au mixed ((aj kC aw)) func213 rfl (LT:= []) (ks:= [.fr [.sym],.auto]) (aS.nil _)).use (D:= []) ?_ hq;show(bc _ _ _ _ ((iD).wr (x,y,())) ((ae).wr ()) _).sat _;rw[Fp];exact⟨rfl,rfl⟩
def Jb:al:=al.cl [] (iD) (ae) fun x_ y_=>(fun(x y:Fe)=>.leaf none (gY.wr (n7 x y)) []) x_.1 x_.2.1
theorem Fq(x y:Fe):bc Tryz.prog [(237,mO)] [] f211 ((iD).wr (x,y,())) ((ae).wr ()) [.fr [.sym],.auto]= .leaf (gY.wr (n7 x y)) ([]):=by kernel_rfl
theorem C8:Jb.Ok Tryz.prog 211:=by
 refine(al.bb call211 fun x_ y_ Q H_=>?_).sym;obtain⟨x,y,_⟩:=x_;have hq:=H_.2;refine(au mixed ((aj kC aw)) func211 rfl (LT:= []) (ks:= [.fr [.sym],.auto]) (aS.nil _)).use (D:= []) ?_ hq;show(bc _ _ _ _ ((iD).wr (x,y,())) ((ae).wr ()) _).sat _;rw[Fq];exact⟨rfl,rfl⟩
def RB:al:=al.cl [] (lG) (ae) fun x_ y_=>(fun(x:Fe)=>.leaf none (gY.wr (iU x)) []) x_.1
theorem Fs(x:Fe):bc Tryz.prog [(211,Jb)] [] f175 ((lG).wr (x,())) ((ae).wr ()) [.fr [.sym],.auto]= .leaf (gY.wr (iU x)) ([]):=by kernel_rfl
theorem OA:RB.Ok Tryz.prog 175:=by
 refine(al.bb call175 fun x_ y_ Q H_=>?_).sym;obtain⟨x,_⟩:=x_;have hq:=H_.2;refine(au mixed ((aj C8 aw)) func175 rfl (LT:= []) (ks:= [.fr [.sym],.auto]) (aS.nil _)).use (D:= []) ?_ hq;show(bc _ _ _ _ ((lG).wr (x,())) ((ae).wr ()) _).sat _;rw[Fs];exact⟨rfl,rfl⟩
def UG:al:=al.cl [] ((ab (ak (ay .u64)) (ab (ak (ay .u64)) ae))) (ae) fun x_ y_=>(fun(x y:Int)=>.leaf none (.bV [.sc (.int .u64 (.sym (cH x y).1)),.sc (.int .u64 (.sym (cH x y).2))]) []) x_.1 x_.2.1
theorem AP(x y:Int):bc Tryz.prog [] [] f252 (((ab (ak (ay .u64)) (ab (ak (ay .u64)) ae))).wr (x,y,())) ((ae).wr ()) [.fr [.sym],.auto]= .leaf (.bV [.sc (.int .u64 (.sym (cH x y).1)),.sc (.int .u64 (.sym (cH x y).2))]) ([]):=by kernel_rfl
theorem Jc:UG.Ok Tryz.prog 252:=by
 refine(al.bb call252 fun x_ y_ Q H_=>?_).sym;obtain⟨x,y,_⟩:=x_;have hq:=H_.2;refine(au mixed aw func252 rfl (LT:= []) (ks:= [.fr [.sym],.auto]) (aS.nil _)).use (D:= []) ?_ hq;show(bc _ _ _ _ (((ab (ak (ay .u64)) (ab (ak (ay .u64)) ae))).wr (x,y,())) ((ae).wr ()) _).sat _;rw[AP];exact⟨rfl,rfl⟩
def AQ:al:=al.cl [] (mN) (ae) fun x_ y_=>(fun(b:List Int)=>.leaf none (gY.wr (j6 (lC b))) []) x_.1
theorem AR(b:List Int):bc Tryz.prog [] [] f171 ((mN).wr (b,())) ((ae).wr ()) [.fr [.sym],.auto]= .leaf (gY.wr (j6 (lC b))) ([]):=by kernel_rfl
theorem x8:AQ.Ok Tryz.prog 171:=by
 refine(al.bb call171 fun x_ y_ Q H_=>?_).sym;obtain⟨b,_⟩:=x_;have hq:=H_.2;refine(au mixed aw func171 rfl (LT:= []) (ks:= [.fr [.sym],.auto]) (aS.nil _)).use (D:= []) ?_ hq;show(bc _ _ _ _ ((mN).wr (b,())) ((ae).wr ()) _).sat _;rw[AR];exact⟨rfl,rfl⟩
def C9:al:=al.cl [] (lG) (ae) fun x_ y_=>(fun(x:Fe)=>.leaf none (gY.wr (Ja x)) []) x_.1
theorem x9(x:Fe):bc Tryz.prog [(237,mO)] [] f221 ((lG).wr (x,())) ((ae).wr ()) [.fr [.sym],.auto]= .leaf (gY.wr (Ja x)) ([]):=by kernel_rfl
theorem Ft:C9.Ok Tryz.prog 221:=by
 refine(al.bb call221 fun x_ y_ Q H_=>?_).sym;obtain⟨x,_⟩:=x_;have hq:=H_.2;refine(au mixed ((aj kC aw)) func221 rfl (LT:= []) (ks:= [.fr [.sym],.auto]) (aS.nil _)).use (D:= []) ?_ hq;show(bc _ _ _ _ ((lG).wr (x,())) ((ae).wr ()) _).sat _;rw[x9];exact⟨rfl,rfl⟩
def mP:al:=al.cl [] (lG) (ae) fun x_ y_=>(fun(x:Fe)=>.leaf none (Ox (dN x)) []) x_.1
theorem ya(x:Fe):bc Tryz.prog [(221,C9)] [] f189 ((lG).wr (x,())) ((ae).wr ()) kR= .leaf (Ox (dN x)) ([]):=by kernel_rfl
theorem kD:mP.Ok Tryz.prog 189:=by
 refine(al.bb call189 fun x_ y_ Q H_=>?_).sym;obtain⟨x,_⟩:=x_;have hq:=H_.2;refine(au mixed ((aj Ft aw)) func189 rfl (LT:= []) (ks:=kR) (aS.nil _)).use (D:= []) ?_ hq;show(bc _ _ _ _ ((lG).wr (x,())) ((ae).wr ()) _).sat _;rw[ya];exact⟨rfl,rfl⟩
abbrev UH:al:=(iC cr).sym
theorem yb:UH.Ok Tryz.prog 253:=(AN func253 (by kernel_rfl) (by kernel_rfl) (by kernel_rfl) (by kernel_rfl) rfl).sym
def RC(m:Int→Int→Int×Int):al:=al.cl [] (ab (ak (ay .u64)) (ab (ak (ay .u64)) ae)) ae fun x _=>.leaf none (.bV [.sc (.int .u64 (.sym (m x.1 x.2.1).1)),.sc (.int .u64 (.sym (m x.1 x.2.1).2))]) []
abbrev j9(o:Nat):aH (List LV) (Int×Int×Unit):=aq (ak (a6 0 o)) (ab (ak (ay .u64)) (ab (ak (ay .u64)) ae))
abbrev ka:aH Hp (Vec Int 10×Unit):=ab (kJ 311 (gf .u64 10)) ae
noncomputable section
variable (m:Int→Int→Int×Int) (a:Int→Int→Int→Int×Int)
def gK(k:Nat)(x y:Int)(v:Vec Int 10):Int×Int:=a (v.get (2*k+1)) (m x y).2 0
def kc(k:Nat)(x y:Int)(v:Vec Int 10):Vec Int 10:=Vec.zE (fun _=>(gK m a k x y v).1) (2*k+1) (Vec.zE (fun _=>(a (v.get (2*k)) (m x y).1 (gK m a k x y v).2).1) (2*k) v)
def kX(k:Nat):al:=al.cl [] (j9 (2*k)) ka fun x h=>.leaf (some (0≤(gK m a k x.1 x.2.1 h.1).2∧(gK m a k x.1 x.2.1 h.1).2≤1)) (.bV []) [(0,.aZ ((gf .u64 10).wr (kc m a k x.1 x.2.1 h.1)) 311)]
abbrev iX:List (FuncId×al):= [(252,RC m),(253,(iC a).sym)]
abbrev kY:List Wk:= [.aZ 0 (List.replicate 10 .sym),.auto]
theorem AS(x y:Int)(v:Vec Int 10):bc Tryz.prog (iX m a) [] f238 ((j9 0).wr (x,y,())) (ka.wr (v,())) kY=
  .need (0≤(0:Int)∧(0:Int)≤1) (.need (0≤(gK m a 0 x y v).2∧(gK m a 0 x y v).2≤1) (.leaf (.bV []) [some (.aZ ((gf .u64 10).wr (kc m a 0 x y v)) 311)])):=by kernel_rfl
theorem AT(x y:Int)(v:Vec Int 10):bc Tryz.prog (iX m a) [] f238 ((j9 2).wr (x,y,())) (ka.wr (v,())) kY=
  .need (0≤(0:Int)∧(0:Int)≤1) (.need (0≤(gK m a 1 x y v).2∧(gK m a 1 x y v).2≤1) (.leaf (.bV []) [some (.aZ ((gf .u64 10).wr (kc m a 1 x y v)) 311)])):=by kernel_rfl
theorem AU(x y:Int)(v:Vec Int 10):bc Tryz.prog (iX m a) [] f238 ((j9 4).wr (x,y,())) (ka.wr (v,())) kY=
  .need (0≤(0:Int)∧(0:Int)≤1) (.need (0≤(gK m a 2 x y v).2∧(gK m a 2 x y v).2≤1) (.leaf (.bV []) [some (.aZ ((gf .u64 10).wr (kc m a 2 x y v)) 311)])):=by kernel_rfl
theorem AV(x y:Int)(v:Vec Int 10):bc Tryz.prog (iX m a) [] f238 ((j9 6).wr (x,y,())) (ka.wr (v,())) kY=
  .need (0≤(0:Int)∧(0:Int)≤1) (.need (0≤(gK m a 3 x y v).2∧(gK m a 3 x y v).2≤1) (.leaf (.bV []) [some (.aZ ((gf .u64 10).wr (kc m a 3 x y v)) 311)])):=by kernel_rfl
theorem AW(x y:Int)(v:Vec Int 10):bc Tryz.prog (iX m a) [] f238 ((j9 8).wr (x,y,())) (ka.wr (v,())) kY=
  .need (0≤(0:Int)∧(0:Int)≤1) (.need (0≤(gK m a 4 x y v).2∧(gK m a 4 x y v).2≤1) (.leaf (.bV []) [some (.aZ ((gf .u64 10).wr (kc m a 4 x y v)) 311)])):=by kernel_rfl
variable (hm:∀p∈iX m a,p.2.Ok Tryz.prog p.1)
include hm
theorem Jd:(kX m a 0).Ok Tryz.prog 238:=by
 refine(al.bb call238 fun x_ y_ Q H_=>?_).sym;obtain⟨x,y,_⟩:=x_;obtain⟨v,_⟩:=y_;obtain⟨hn,hq⟩:=H_;refine(au mixed hm func238 rfl (LT:= []) (ks:=kY) (aS.nil _)).use (D:= [(0,.aZ ((gf .u64 10).wr (kc m a 0 x y v)) 311)]) ?_ hq;show(bc _ _ _ _ ((j9 0).wr (x,y,())) (ka.wr (v,())) _).sat _;rw[AS];exact⟨by decide,hn,rfl,rfl⟩
theorem Je:(kX m a 1).Ok Tryz.prog 238:=by
 refine(al.bb call238 fun x_ y_ Q H_=>?_).sym;obtain⟨x,y,_⟩:=x_;obtain⟨v,_⟩:=y_;obtain⟨hn,hq⟩:=H_;refine(au mixed hm func238 rfl (LT:= []) (ks:=kY) (aS.nil _)).use (D:= [(0,.aZ ((gf .u64 10).wr (kc m a 1 x y v)) 311)]) ?_ hq;show(bc _ _ _ _ ((j9 2).wr (x,y,())) (ka.wr (v,())) _).sat _;rw[AT];exact⟨by decide,hn,rfl,rfl⟩
theorem Jf:(kX m a 2).Ok Tryz.prog 238:=by
 refine(al.bb call238 fun x_ y_ Q H_=>?_).sym;obtain⟨x,y,_⟩:=x_;obtain⟨v,_⟩:=y_;obtain⟨hn,hq⟩:=H_;refine(au mixed hm func238 rfl (LT:= []) (ks:=kY) (aS.nil _)).use (D:= [(0,.aZ ((gf .u64 10).wr (kc m a 2 x y v)) 311)]) ?_ hq;show(bc _ _ _ _ ((j9 4).wr (x,y,())) (ka.wr (v,())) _).sat _;rw[AU];exact⟨by decide,hn,rfl,rfl⟩
theorem Jg:(kX m a 3).Ok Tryz.prog 238:=by
 refine(al.bb call238 fun x_ y_ Q H_=>?_).sym;obtain⟨x,y,_⟩:=x_;obtain⟨v,_⟩:=y_;obtain⟨hn,hq⟩:=H_;refine(au mixed hm func238 rfl (LT:= []) (ks:=kY) (aS.nil _)).use (D:= [(0,.aZ ((gf .u64 10).wr (kc m a 3 x y v)) 311)]) ?_ hq;show(bc _ _ _ _ ((j9 6).wr (x,y,())) (ka.wr (v,())) _).sat _;rw[AV];exact⟨by decide,hn,rfl,rfl⟩
theorem Jh:(kX m a 4).Ok Tryz.prog 238:=by
 refine(al.bb call238 fun x_ y_ Q H_=>?_).sym;obtain⟨x,y,_⟩:=x_;obtain⟨v,_⟩:=y_;obtain⟨hn,hq⟩:=H_;refine(au mixed hm func238 rfl (LT:= []) (ks:=kY) (aS.nil _)).use (D:= [(0,.aZ ((gf .u64 10).wr (kc m a 4 x y v)) 311)]) ?_ hq;show(bc _ _ _ _ ((j9 8).wr (x,y,())) (ka.wr (v,())) _).sat _;rw[AW];exact⟨by decide,hn,rfl,rfl⟩
omit hm
def Da:al:=(kX m a 0).or ((kX m a 1).or ((kX m a 2).or ((kX m a 3).or (kX m a 4))))
def Ji(l:List Prop)(e:Ev.End):Ev.End:=l.foldr Ev.End.need e
theorem q7{R:LV→Hp→Prop}:∀ {l:List Prop} {e:Ev.End},(∀p∈l,p)→e.sat R→(Ji l e).sat R
 | [],_,_,h=>h
 |p::l,e,hl,h=>⟨hl p (by simp),q7 (fun q hq=>hl q (by simp[hq])) h⟩
theorem Fu(x y:Fe):bc Tryz.prog [(238,Da m a),(237,mO)] [] f214 (iD.wr (x,y,())) [] kK=
  Ji (xU m a x y) (Ev.End.leaf (gY.wr (I7 m a gG x y)) []):=by kernel_rfl
end
theorem Jj:(RC cH).Ok Tryz.prog 252:=Jc
theorem gh:∀p∈iX cH cr,p.2.Ok Tryz.prog p.1:=aj Jj (aj yb aw)
theorem AX:(Da cH cr).Ok Tryz.prog 238:=(Jd cH cr gh).or ((Je cH cr gh).or ((Jf cH cr gh).or ((Jg cH cr gh).or (Jh cH cr gh))))
theorem Fv(x y:Fe):∀p∈xU cH cr x y,p:=mM x y qT _ fun k=>by
 have:([(0,0),(0,0),(0,0),(0,0),(0,0)]:List (Int×Int)).getD k (0,0)=(0,0):=by
  match k with
  |0=>rfl
  |1=>rfl
  |2=>rfl
  |3=>rfl
  |4=>rfl
  |k+5=>rfl
 rw[this];exact⟨by decide,by decide⟩
def sW:al:=al.cl [] iD ae fun x _=>.leaf none (gY.wr (mulC x.1 x.2.1)) []
theorem uP:sW.Ok Tryz.prog 214:=by
 refine(al.bb call214 fun x_ y_ Q H_=>?_).sym;obtain⟨x,y,_⟩:=x_;have hq:=H_.2;refine(au mixed (aj AX (aj kC aw)) func214 rfl (LT:= []) (ks:=kK) (aS.nil _)).use (D:= []) ?_ hq;show(bc _ _ _ _ (iD.wr (x,y,())) [] _).sat _;rw[Fu];exact q7 (Fv x y) ⟨rfl,rfl⟩
def Jk:al:=al.cl [] (lG) (ae) fun x_ y_=>(fun(x:Fe)=>.leaf none (gY.wr (mulC x x)) []) x_.1
theorem Jl(x:Fe):bc Tryz.prog [(214,sW)] [] f209 ((lG).wr (x,())) ((ae).wr ()) [.fr [.sym],.auto]= .leaf (gY.wr (mulC x x)) ([]):=by kernel_rfl
theorem Jm:Jk.Ok Tryz.prog 209:=by
 refine(al.bb call209 fun x_ y_ Q H_=>?_).sym;obtain⟨x,_⟩:=x_;have hq:=H_.2;refine(au mixed ((aj uP aw)) func209 rfl (LT:= []) (ks:= [.fr [.sym],.auto]) (aS.nil _)).use (D:= []) ?_ hq;show(bc _ _ _ _ ((lG).wr (x,())) ((ae).wr ()) _).sat _;rw[Jl];exact⟨rfl,rfl⟩
theorem Db(u v:dk):decide (u.toList=v.toList)=UA u v:=by
 cases h:UA u v with
 |true=>rw[(uJ u v).1 h];simp
 |false=>exact decide_eq_false fun e=>by rw[(uJ u v).2 (Vec.toList_inj e)]at h;cases h
def UI:al:=al.cl [] (iD) (ae) fun x_ y_=>(fun(x y:Fe)=>.leaf none (nB (Ot x y)) []) x_.1 x_.2.1
theorem Jo(x y:Fe):bc Tryz.prog [(189,mP)] [] f216 ((iD).wr (x,y,())) ((ae).wr ()) [.fr [.sym],.auto]= .leaf (nB (decide ((dN x).toList=(dN y).toList))) []:=by kernel_rfl
theorem Jp:UI.Ok Tryz.prog 216:=by
 refine(al.bb call216 fun x_ y_ Q H_=>?_).sym;obtain⟨x,y,_⟩:=x_;have hq:=H_.2;refine(au mixed ((aj kD aw)) func216 rfl (LT:= []) (ks:= [.fr [.sym],.auto]) (aS.nil _)).use (D:= []) ?_ hq;show(bc _ _ _ _ ((iD).wr (x,y,())) ((ae).wr ()) _).sat _;rw[Jo];rw[Db];exact⟨rfl,rfl⟩
def Jq:al:=al.cl [] (lG) (ae) fun x_ y_=>(fun(x:Fe)=>.leaf none (nB (cb x)) []) x_.1
theorem AY(x:Fe):bc Tryz.prog [(216,UI)] [] f174 ((lG).wr (x,())) ((ae).wr ()) [.fr [.sym],.auto]= .leaf (nB (cb x)) ([]):=by kernel_rfl
theorem Jr:Jq.Ok Tryz.prog 174:=by
 refine(al.bb call174 fun x_ y_ Q H_=>?_).sym;obtain⟨x,_⟩:=x_;have hq:=H_.2;refine(au mixed ((aj Jp aw)) func174 rfl (LT:= []) (ks:= [.fr [.sym],.auto]) (aS.nil _)).use (D:= []) ?_ hq;show(bc _ _ _ _ ((lG).wr (x,())) ((ae).wr ()) _).sat _;rw[AY];exact⟨rfl,rfl⟩
def RD:al:=al.cl [] (lG) (ae) fun x_ y_=>(fun(x:Fe)=>.leaf none (nB (lE x)) []) x_.1
theorem Fw(x:Fe):bc Tryz.prog [(189,mP)] [] f190 ((lG).wr (x,())) ((ae).wr ()) [.fr [.sym],.auto]= .leaf (nB (lE x)) ([]):=by kernel_rfl
theorem OB:RD.Ok Tryz.prog 190:=by
 refine(al.bb call190 fun x_ y_ Q H_=>?_).sym;obtain⟨x,_⟩:=x_;have hq:=H_.2;refine(au mixed ((aj kD aw)) func190 rfl (LT:= []) (ks:= [.fr [.sym],.auto]) (aS.nil _)).use (D:= []) ?_ hq;show(bc _ _ _ _ ((lG).wr (x,())) ((ae).wr ()) _).sat _;rw[Fw];exact⟨rfl,rfl⟩
theorem gk{l:List Int}(h:l.length=32):(lC l).toList=l:=by
 have e:(lC l).toList=(List.range 32).map fun i=>l.getD i 0:=rfl;rw[e,HB h]
theorem uQ(u:dk):lC u.toList=u:=Vec.toList_inj (gk (Vec.dH u))
theorem q9{f:Int→Int}: {n:Nat}→(k:Nat)→(v:Vec Int n)→(Vec.zE f k v).toList=v.toList.modify k f
 |0,k,_=>by simp[Vec.zE,Vec.toList]
 |n+1,0,v=>by simp[Vec.zE,Vec.toList]
 |n+1,k+1,v=>by simp[Vec.zE,Vec.toList,q9 k v.2]
theorem Dc{l:List Int}(h:l.length=32){k:Nat}(hk:k<32)(f:Int→Int):lC (l.set k (f (l.getD k 0)))=Vec.zE f k (lC l):=by
 apply Vec.toList_inj
 rw[q9,gk h,gk (by simpa using h),List.getD_eq_getElem?_getD,List.getElem?_eq_getElem (by omega:k<l.length),Option.getD_some]
 apply List.ext_getElem?
 intro i;simp only[List.getElem?_modify,List.getElem?_set]
 by_cases e:k=i
 ·subst e;simp[h,hk]
 ·simp[e]
theorem Dd(l:List Int):∀ {k:Nat},k<32→(lC l).get k=l.getD k 0:=by
 have key:∀ (n:Nat) (g:Nat→Int) (k:Nat),k<n→(Vec.ofFn n g).get k=g k:=by
  intro n
  induction n with
  |zero=>intro g k hk;omega
  |succ n ih=>
   intro g k hk
   cases k with
   |zero=>rfl
   |succ k=>exact ih (fun i=>g (i+1)) k (by omega)
 intro k hk;exact key 32 (fun i=>l.getD i 0) k hk
theorem ra(k m:Nat):(k:Int).tmod (m:Int)=((k%m:Nat):Int):=by rw[Int.tmod_eq_emod_of_nonneg (by omega),← Int.natCast_emod]
def De:al:=al.cl [] (mN) (ae) fun x_ y_=>(fun(b:List Int)=>.leaf (some (b.length=32)) (nB (iV (lC b))) []) x_.1
theorem yc(b:List Int):bc Tryz.prog [(189,mP),(171,AQ)] [] f173 ((mN).wr (b,())) ((ae).wr ()) [.fr [.sym],.auto]= .leaf (nB (decide ((dN (j6 (lC (b.set 31 (dR .u8 (b.getD 31 0) 128))))).toList=b.set 31 (dR .u8 (b.getD 31 0) 128)))) []:=by kernel_rfl
theorem Fx:De.Ok Tryz.prog 173:=by
 refine(al.bb call173 fun x_ y_ Q H_=>?_).sym;obtain⟨b,_⟩:=x_;obtain⟨hn,hq⟩:=H_;have hn:b.length=32:=hn;refine(au mixed ((aj kD (aj x8 aw))) func173 rfl (LT:= []) (ks:= [.fr [.sym],.auto]) (aS.nil _)).use (D:= []) ?_ hq;show(bc _ _ _ _ ((mN).wr (b,())) ((ae).wr ()) _).sat _;rw[yc];have e:=Dc hn (k:=31) (by omega) (fun x=>dR .u8 x 128);rw[show b.set 31 (dR .u8 (b.getD 31 0) 128)=(lC (b.set 31 (dR .u8 (b.getD 31 0) 128))).toList from(gk (by simpa using hn)).symm,Db,uQ,e];exact⟨rfl,rfl⟩
def RE:al:=al.cl [] ((ab (ak (ay .u8)) (ab (ak (ay .u8)) ae))) (ae) fun x_ y_=>(fun(lo hi:Int)=>.leaf none (Ox (qU lo hi)) []) x_.1 x_.2.1
theorem Fy(lo hi:Int):bc Tryz.prog [] [] f240 (((ab (ak (ay .u8)) (ab (ak (ay .u8)) ae))).wr (lo,hi,())) ((ae).wr ()) kR= .leaf (Ox (qU lo hi)) ([]):=by kernel_rfl
theorem OC:RE.Ok Tryz.prog 240:=by
 refine(al.bb call240 fun x_ y_ Q H_=>?_).sym;obtain⟨lo,hi,_⟩:=x_;have hq:=H_.2;refine(au mixed aw func240 rfl (LT:= []) (ks:=kR) (aS.nil _)).use (D:= []) ?_ hq;show(bc _ _ _ _ (((ab (ak (ay .u8)) (ab (ak (ay .u8)) ae))).wr (lo,hi,())) ((ae).wr ()) _).sat _;rw[Fy];exact⟨rfl,rfl⟩
abbrev UJ:Func:=f239
abbrev RF:aH (List LV) (Int×Unit):=(jk 2 (aq (ak (a6 0 0)) (aq (ak (a6 1 0)) (aq (ak (a6 2 0)) (aq (ak (a6 3 0)) (ab (ak (ay .i64)) (jk 20 ae)))))))
abbrev OD:Wk:=.fr (cR 27 [(2,.ao),(3,.ao),(4,.ao),(5,.ao),(6,.sym)])
abbrev XB:aH (List LV) (Unit):=(jk 4 (aq (ak (a6 0 0)) (aq (ak (a6 1 0)) (jk 21 ae))))
abbrev Zx:aH (Option Ev.Item) Fe:=kJ 209 (gf .u64 5)
abbrev RG:aH Hp (Fe×List Int×Fe×Fe×Unit):=ab Zx (ab (jV 52 .u8 32) (ab Zx (ab Zx ae)))
abbrev Fz:aH Hp (Fe×Fe×Unit):=ab Zx (ab Zx ae)
abbrev Js:List (FuncId×al):= [(212,uO),(209,Jk),(214,sW)]
theorem yd:∀p∈Js,p.2.Ok Tryz.prog p.1:=aj sV (aj Jm (aj uP aw))
abbrev ye(i:Nat):Wk:=.aZ i (List.replicate 5 .sym)
def poW:Exit→List Wk
 | .normal=> [OD,ye 2,ye 3,.auto]
 | .exit 0=> [.fr (cR 27 [(4,.ao),(5,.ao)]),.auto]
 |_=> []
theorem UK(x r o:Fe)(e:List Int)(i:Int):gV Tryz.prog Js [] UJ 0 [] poW ((bq RF RG).wr ((i,()),(x,e,r,o,())))=
 aV.ite (decide ((0:Int)≤i)) (aV.need ((0:Int)≤i64.wrap (i.tdiv (8:Int))∧i64.wrap (i.tdiv (8:Int))<(32:Int))
 (aV.need ((0:Int)≤i.tmod (8:Int)) (aV.ite (bl IntKind.u8 (shr IntKind.u8 ((List.take (32:Nat) (List.drop (0:Nat) e)).getD
 (i64.wrap (i.tdiv (8:Int))).toNat (0:Int)) (i.tmod (8:Int))) (1:Int)==(1:Int)) (aV.leaf Exit.normal ((bq RF RG).wr
 ((i64.wrap (i-(1:Int)),PUnit.unit),x,e,r,mulC (mulC o o) x,PUnit.unit))) (aV.leaf Exit.normal ((bq RF RG).wr ((i64.wrap
 (i-(1:Int)),PUnit.unit),x,e,r,mulC o o,PUnit.unit)))))) (aV.leaf (Exit.exit (0:Nat)) ((bq XB Fz).wr (PUnit.unit,r,o,PUnit.unit))):=by kernel_rfl
theorem OE{e:List Int}(he:e.length=32){j:Nat}(hj:j<256):
  (bl .u8 (shr .u8 ((List.take 32 (List.drop 0 e)).getD (i64.wrap ((j:Int).tdiv 8)).toNat 0) ((j:Int).tmod 8)) 1==1)=I8 (lC e) j:=by
 have e1:i64.wrap ((j:Int).tdiv 8)=((j/8:Nat):Int):=fZ j 8 (by omega);have e2:(j:Int).tmod 8=((j%8:Nat):Int):=ra j 8;rw[e1,e2,bM he,Int.toNat_natCast];unfold I8;rw[Dd e (show j/8<32 by omega)]
def poF(x:(Int×Unit)×Fe×List Int×Fe×Fe×Unit):aV:=
 .need (x.1.1=255∧x.2.2.1.length=32) (.leaf (.exit 0) ((bq XB Fz).wr ((),(x.2.2.2.1,nZ (gH (fun x=>mulC x x) mulC x.2.1 (lC x.2.2.1)) 256 x.2.2.2.2.1,()))))
theorem OF(x):Ex Tryz.prog [] (.loop (aY UJ 0)) ((bq RF RG).wr x) (poF x):=by
 obtain⟨⟨i,_⟩,x,e,r,o,_⟩:=x;refine Ex.need fun⟨h1,h2⟩=>?_;simp only at h1 h2;subst h1
 have key:=eQ (fn:=UJ) (id:=0) (j:=0) (ws:=poW) (hp:= []) mixed yd (aS.nil _) 256 (fun k o=>(bq RF RG).wr ((255-(k:Int),()),(x,e,r,o,()))) (fun o=>(bq XB Fz).wr ((),(r,o,()))) (gH (fun x=>mulC x x) mulC x (lC e)) (fun _ _=>True)
  (fun k o R hk _ hn hx=>?_) (fun _ _ _ _=>trivial) 0 o (by omega) trivial
 ·rw[Nat.sub_zero,n3]at key;exact key
 rw[UK];refine⟨fun hb=>?_,fun hb=>?_⟩
 ·have jv:k<256:=by have:=of_decide_eq_true hb;omega
  have e0:(255-(k:Int))=((255-k:Nat):Int):=by omega
  have rP:=hn jv;have e3:i64.wrap ((255-(k:Int))-1)=255-((k+1:Nat):Int):=by rw[ar (by omega) (by omega)];omega
  have hw:i64.wrap ((255-(k:Int)).tdiv 8)=(((255-k)/8:Nat):Int):=by rw[e0];exact fZ _ 8 (by omega)
  have ht:(255-(k:Int)).tmod 8=(((255-k)%8:Nat):Int):=by rw[e0];exact ra _ 8
  have Nh:=OE h2 (j:=255-k) (by omega);rw[← e0]at Nh;rw[Nh,e3];refine⟨by rw[hw];omega,by rw[ht];omega,fun hc=>?_,fun hc=>?_⟩
  ·have:gH (fun x=>mulC x x) mulC x (lC e) k o=mulC (mulC o o) x:=(by unfold gH;rw[hc,eh];rfl);rw[this]at rP;exact rP
  ·have:gH (fun x=>mulC x x) mulC x (lC e) k o=mulC o o:=(by unfold gH;rw[hc,eh];rfl);rw[this]at rP;exact rP
 ·have:k=256:=by have:=of_decide_eq_false hb;omega
  exact hx this
def AZ(x:Fe)(e:List Int)(o:Fe):Fe:=nZ (gH (fun x=>mulC x x) mulC x (lC e)) 256 o
def aeV(x:(Int×Unit)×Fe×List Int×Fe×Fe×Unit):aV:=
 .need (x.1.1=255∧x.2.2.1.length=32) (.leaf (.exit 0) ((bq XB Fz).wr ((),(x.2.2.2.1,AZ x.2.1 x.2.2.1 x.2.2.2.2.1,()))))
abbrev Zy:dd:= [(0,dA (bq RF RG) 0 [OD,.auto,ye 2,ye 3] aeV)]
abbrev Zz:aH (List LV) (Fe×List Int×Unit):=ab gY (ab cB ae)
abbrev dK(r:Fe×Bool):LV:=.bV [.agg ((gf .u64 5).wr r.1),.sc (.bool (.sym r.2))]
def mQ(g:Fe→Fe):al:=al.cl [] lG ae fun x _=>.leaf none (gY.wr (g x.1)) []
def hN(g:Fe→Fe→Fe):al:=al.cl [] iD ae fun x _=>.leaf none (gY.wr (g x.1 x.2.1)) []
def zz(g:Fe→Bool):al:=al.cl [] lG ae fun x _=>.leaf none (nB (g x.1)) []
def ZA(g:Fe→Fe→Bool):al:=al.cl [] iD ae fun x _=>.leaf none (nB (g x.1 x.2.1)) []
def Jt(g:Fe→Fe×Bool):al:=al.cl [] lG ae fun x _=>.leaf none (dK (g x.1)) []
def e2P(g:Fe→Fe→Fe×Bool):al:=al.cl [] iD ae fun x _=>.leaf none (dK (g x.1 x.2.1)) []
def uR(g:Int→Fe):al:=al.cl [] Oy ae fun x _=>.leaf none (gY.wr (g x.1)) []
def UL(g:Fe→List Int→Fe):al:=al.cl [] Zz ae fun x _=>.leaf (some (x.2.1.length=32)) (gY.wr (g x.1 x.2.1)) []
def RH(g:Int→Int→List Int):al:=al.cl [] (ab (ak (ay .u8)) (ab (ak (ay .u8)) ae)) ae fun x _=>.leaf none (fX .u8 32 (g x.1 x.2.1)) []
def uS(x:Fe)(e:List Int):Fe:=powC x (lC e)
def rb(lo hi:Int):List Int:=(qU lo hi).toList
theorem yf(x:Fe)(lo hi:Int):uS x (rb lo hi)=powC x (qU lo hi):=by unfold uS rb;rw[uQ]
theorem rf(lo hi:Int):(rb lo hi).length=32:=Vec.dH _
abbrev ZB:al:=UL uS
theorem FA(p:Fe→List Int→Fe→Fe)(sm:Int→Fe)(x:Fe)(e:List Int):bc Tryz.prog [(212,uR sm),(209,Jk),(214,sW)] [(0,dA (bq RF RG) 0 [OD,.auto,ye 2,ye 3] fun x=>.need (x.1.1=255∧x.2.2.1.length=32) (.leaf (.exit 0) ((bq XB Fz).wr ((),(x.2.2.2.1,p x.2.1 x.2.2.1 x.2.2.2.2.1,())))))] f239 (Zz.wr (x,e,())) [] kK=
  .need ((255:Int)=255∧e.length=32) (.leaf (gY.wr (p x e (sm 1))) []):=by kernel_rfl
theorem FB(x:Fe)(e:List Int):bc Tryz.prog Js Zy f239 (Zz.wr (x,e,())) [] kK=bc Tryz.prog [(212,uR bn),(209,Jk),(214,sW)] [(0,dA (bq RF RG) 0 [OD,.auto,ye 2,ye 3] fun x=>.need (x.1.1=255∧x.2.2.1.length=32) (.leaf (.exit 0) ((bq XB Fz).wr ((),(x.2.2.2.1,AZ x.2.1 x.2.2.1 x.2.2.2.2.1,())))))] f239 (Zz.wr (x,e,())) [] kK:=by kernel_rfl
theorem Df:ZB.Ok Tryz.prog 239:=by
 refine(al.bb call239 fun x_ y_ Q H_=>?_).sym;obtain⟨x,e,_⟩:=x_;obtain⟨hn,hq⟩:=H_;have hn:e.length=32:=hn;refine(au mixed yd func239 rfl (LT:=Zy) (ks:=kK) (aS.bW (kQ rfl (b7 (hp:= []) OF) ly))).use (D:= []) ?_ hq;show(bc _ _ _ _ (Zz.wr (x,e,())) [] _).sat _;rw[FB x e,FA AZ bn x e];exact⟨⟨rfl,hn⟩,rfl,rfl⟩
theorem FC:uO=uR bn:=by kernel_rfl
theorem gl:(uR bn).Ok Tryz.prog 212:=FC▸sV
theorem OG:sW=hN mulC:=by kernel_rfl
theorem fo:(hN mulC).Ok Tryz.prog 214:=OG▸uP
theorem OH:RA=hN oW:=by kernel_rfl
theorem yg:(hN oW).Ok Tryz.prog 213:=OH▸Oz
theorem OI:Jb=hN n7:=by kernel_rfl
theorem yh:(hN n7).Ok Tryz.prog 211:=OI▸C8
theorem UM:Jk=mQ (fun x=>mulC x x):=by kernel_rfl
theorem Dg:(mQ (fun x=>mulC x x)).Ok Tryz.prog 209:=UM▸Jm
theorem OJ:RB=mQ iU:=by kernel_rfl
theorem rh:(mQ iU).Ok Tryz.prog 175:=OJ▸OA
theorem UN:UI=ZA Ot:=by kernel_rfl
theorem OK:(ZA Ot).Ok Tryz.prog 216:=UN▸Jp
theorem OL:RD=zz lE:=by kernel_rfl
theorem yi:(zz lE).Ok Tryz.prog 190:=OL▸OB
theorem Ju:Jq=zz cb:=by kernel_rfl
theorem sX:(zz cb).Ok Tryz.prog 174:=Ju▸Jr
theorem OM:RE=RH rb:=by kernel_rfl
theorem yj:(RH rb).Ok Tryz.prog 240:=OM▸OC
abbrev ZC:al:=mQ j8
theorem FD(pow:Fe→List Int→Fe)(exp:Int→Int→List Int)(x:Fe):bc Tryz.prog [(239,UL pow),(240,RH exp)] [] f218 ((lG).wr (x,())) [] kK= .need ((exp 235 127).length=32) (.leaf (gY.wr (pow x (exp 235 127))) []):=by kernel_rfl
theorem FE:∀p_∈([(239,UL uS),(240,RH rb)]:List (FuncId×al)),p_.2.Ok Tryz.prog p_.1:=(aj Df (aj yj aw))
theorem uT:ZC.Ok Tryz.prog 218:=by
 refine(al.bb call218 fun x_ y_ Q H_=>?_).sym;obtain⟨x,_⟩:=x_;have hq:=H_.2;refine(au (tab:= [(239,UL uS),(240,RH rb)]) mixed FE func218 rfl (LT:= []) (ks:=kK) (aS.nil _)).use (D:= []) ?_ hq;show(bc _ _ _ _ ((lG).wr (x,())) [] _).sat _;rw[FD uS rb];rw[yf];exact⟨rf _ _,rfl,rfl⟩
theorem ON(pw:Fe→dk→Fe)(ex:Int→Int→dk)(ml:Fe→Fe→Fe)(sq ng:Fe→Fe)(sm:Int→Fe)(eq:Fe→Fe→Bool)(od:Fe→Bool)(x:Fe):
  uK pw ex ml sq ng sm eq od x=bif eq (sq (pw x (ex 254 15))) x then(bif od (pw x (ex 254 15))then ng (pw x (ex 254 15))else pw x (ex 254 15),true)
   else bif eq (sq (ml (pw x (ex 254 15)) (pw (sm 2) (ex 251 31)))) x then(bif od (ml (pw x (ex 254 15)) (pw (sm 2) (ex 251 31)))then ng (ml (pw x (ex 254 15)) (pw (sm 2) (ex 251 31)))else ml (pw x (ex 254 15)) (pw (sm 2) (ex 251 31)),true)else(cN,false):=by
 have aeW:∀ (b:Bool) (u v:Fe),gw b u v=bif b then u else v:=fun b u v=>eh b u v;unfold uK;simp only[aeW]
 cases h:eq (sq (pw x (ex 254 15))) x
 ·simp only[Bool.not_false,cond_true,cond_false]
  cases eq (sq (ml (pw x (ex 254 15)) (pw (sm 2) (ex 251 31)))) x<;>rfl
 ·simp only[Bool.not_true,cond_true,cond_false,h]
theorem Jv{t1 t2 o1 o2:Bool}{r r2 n1 n2:Fe}{p1 p2:Prop}(h1:p1)(h2:p2){q:Fe×Bool}(hq:q=bif t1 then(bif o1 then n1 else r,true)else bif t2 then(bif o2 then n2 else r2,true)else(cN,false)):
  (Ev.End.need p1 (.ite (!t1) (.need p2 (.ite (!t2) (.leaf (dK (cN,false)) []) (.ite o2 (.leaf (dK (n2,true)) []) (.leaf (dK (r2,true)) [])))) (.ite (!t1) (.leaf (dK (cN,false)) []) (.ite o1 (.leaf (dK (n1,true)) []) (.leaf (dK (r,true)) []))))).sat fun v cS=>v=dK q∧cS= []:=by
 subst hq;refine⟨h1,?_⟩
 cases t1
 ·refine⟨fun _=>⟨h2,?_⟩,fun h=>(by cases h)⟩
  cases t2
  ·exact⟨fun _=>⟨rfl,rfl⟩,fun h=>(by cases h)⟩
  ·refine⟨fun h=>(by cases h),fun _=>?_⟩
   cases o2
   ·exact⟨fun h=>(by cases h),fun _=>⟨rfl,rfl⟩⟩
   ·exact⟨fun _=>⟨rfl,rfl⟩,fun h=>(by cases h)⟩
 ·refine⟨fun h=>(by cases h),fun _=>⟨fun h=>(by cases h),fun _=>?_⟩⟩
  cases o1
  ·exact⟨fun h=>(by cases h),fun _=>⟨rfl,rfl⟩⟩
  ·exact⟨fun _=>⟨rfl,rfl⟩,fun h=>(by cases h)⟩
theorem OO(x:Fe):mK x=uK powC qU mulC (fun x=>mulC x x) iU bn Ot lE x:=rfl
abbrev UO:al:=Jt mK
theorem A0(pow:Fe→List Int→Fe)(exp:Int→Int→List Int)(mul:Fe→Fe→Fe)(sq neg:Fe→Fe)(eq:Fe→Fe→Bool)(xV:Fe→Bool)(sm:Int→Fe)(x:Fe):bc Tryz.prog [(239,UL pow),(240,RH exp),(214,hN mul),(209,mQ sq),(175,mQ neg),(216,ZA eq),(190,zz xV),(212,uR sm)] [] f236 ((lG).wr (x,())) [] kK= .need ((exp 254 15).length=32) (.ite (!(eq (sq (pow x (exp 254 15))) x)) (.need ((exp 251 31).length=32) (.ite (!(eq (sq (mul (pow x (exp 254 15)) (pow (sm 2) (exp 251 31)))) x)) (.leaf (dK (cN,false)) []) (.ite (xV (mul (pow x (exp 254 15)) (pow (sm 2) (exp 251 31)))) (.leaf (dK (neg (mul (pow x (exp 254 15)) (pow (sm 2) (exp 251 31))),true)) []) (.leaf (dK (mul (pow x (exp 254 15)) (pow (sm 2) (exp 251 31)),true)) [])))) (.ite (!(eq (sq (pow x (exp 254 15))) x)) (.leaf (dK (cN,false)) []) (.ite (xV (pow x (exp 254 15))) (.leaf (dK (neg (pow x (exp 254 15)),true)) []) (.leaf (dK (pow x (exp 254 15),true)) [])))):=by kernel_rfl
theorem A1:∀p_∈([(239,UL uS),(240,RH rb),(214,hN mulC),(209,mQ (fun x=>mulC x x)),(175,mQ iU),(216,ZA Ot),(190,zz lE),(212,uR bn)]:List (FuncId×al)),p_.2.Ok Tryz.prog p_.1:=(aj Df (aj yj (aj fo (aj Dg (aj rh (aj OK (aj yi (aj gl aw))))))))
theorem Jw:UO.Ok Tryz.prog 236:=by
 refine(al.bb call236 fun x_ y_ Q H_=>?_).sym;obtain⟨x,_⟩:=x_;have hq:=H_.2;refine(au (tab:= [(239,UL uS),(240,RH rb),(214,hN mulC),(209,mQ (fun x=>mulC x x)),(175,mQ iU),(216,ZA Ot),(190,zz lE),(212,uR bn)]) mixed A1 func236 rfl (LT:= []) (ks:=kK) (aS.nil _)).use (D:= []) ?_ hq;show(bc _ _ _ _ ((lG).wr (x,())) [] _).sat _;rw[A0 uS rb mulC (fun x=>mulC x x) iU Ot lE bn];simp only[yf];exact Jv (rf _ _) (rf _ _) ((OO x).trans (ON _ _ _ _ _ _ _ _ x))
theorem Jx(u v:Fe):lF u v=(gw (cb v) cN (mK (mulC u (j8 v))).1,bif cb v then cb u else(mK (mulC u (j8 v))).2):=by unfold lF;rfl
theorem FF{z zu:Bool}{s r:Fe×Bool}(hr:r=(gw z cN s.1,bif z then zu else s.2)):(Ev.End.ite z (.leaf (dK (cN,zu)) []) (.leaf (dK s) [])).sat fun v cS=>v=dK r∧cS= []:=by
 subst hr;rw[eh]
 cases z
 ·exact⟨fun h=>(by cases h),fun _=>⟨rfl,rfl⟩⟩
 ·exact⟨fun _=>⟨rfl,rfl⟩,fun h=>(by cases h)⟩
abbrev OP:al:=e2P lF
theorem yk(mul:Fe→Fe→Fe)(inv:Fe→Fe)(Dh:Fe→Bool)(sqrt:Fe→Fe×Bool)(u v:Fe):bc Tryz.prog [(214,hN mul),(218,mQ inv),(174,zz Dh),(236,Jt sqrt)] [] f210 ((iD).wr (u,v,())) [] kK= .ite (Dh v) (.leaf (dK (cN,Dh u)) []) (.leaf (dK (sqrt (mul u (inv v)))) []):=by kernel_rfl
theorem yl:∀p_∈([(214,hN mulC),(218,mQ j8),(174,zz cb),(236,Jt mK)]:List (FuncId×al)),p_.2.Ok Tryz.prog p_.1:=(aj fo (aj uT (aj sX (aj Jw aw))))
theorem FG:OP.Ok Tryz.prog 210:=by
 refine(al.bb call210 fun x_ y_ Q H_=>?_).sym;obtain⟨u,v,_⟩:=x_;have hq:=H_.2;refine(au (tab:= [(214,hN mulC),(218,mQ j8),(174,zz cb),(236,Jt mK)]) mixed yl func210 rfl (LT:= []) (ks:=kK) (aS.nil _)).use (D:= []) ?_ hq;show(bc _ _ _ _ ((iD).wr (u,v,())) [] _).sat _;rw[yk mulC j8 cb mK];exact FF (Jx u v)
abbrev rJ:aH LV Pt:=fy (ab iv (mJ .u64 (mJ .u64 (mJ .u64 (gf .u64 5) 5) 5) 5))
abbrev FH:aH (List LV) (Pt×Unit):=ab rJ ae
abbrev UP:aH (List LV) (Pt×Pt×Unit):=ab rJ (ab rJ ae)
def RI(g:List Int→Fe):al:=al.cl [] mN ae fun x _=>.leaf none (gY.wr (g x.1)) []
def UQ(c:Fe):al:=al.cl [] ae ae fun _ _=>.leaf none (gY.wr c) []
def UR(c:Pt):al:=al.cl [] ae ae fun _ _=>.leaf none (rJ.wr c) []
def MR(g:Fe→Fe→Pt):al:=al.cl [] iD ae fun x _=>.leaf none (rJ.wr (g x.1 x.2.1)) []
def uU(g:Pt→Pt):al:=al.cl [] FH ae fun x _=>.leaf none (rJ.wr (g x.1)) []
def US(g:Pt→Pt→Pt):al:=al.cl [] UP ae fun x _=>.leaf none (rJ.wr (g x.1 x.2.1)) []
def fB(b:List Int):Fe:=j6 (lC b)
theorem Jy:AQ=RI fB:=by kernel_rfl
theorem sY:(RI fB).Ok Tryz.prog 171:=Jy▸x8
theorem FI:kW=fB n5.toList:=by unfold fB;rw[uQ];rfl
abbrev UT:al:=UQ kW
theorem A2(n4:List Int→Fe):bc Tryz.prog [(171,RI n4)] [] f215 ((ae).wr ()) [] kK= .leaf (gY.wr (n4 n5.toList)) []:=by kernel_rfl
theorem A3:∀p_∈([(171,RI fB)]:List (FuncId×al)),p_.2.Ok Tryz.prog p_.1:=(aj sY aw)
theorem ym:UT.Ok Tryz.prog 215:=by
 refine(al.bb call215 fun x_ y_ Q H_=>?_).sym;have hq:=H_.2;refine(au (tab:= [(171,RI fB)]) mixed A3 func215 rfl (LT:= []) (ks:=kK) (aS.nil _)).use (D:= []) ?_ hq;show(bc _ _ _ _ ((ae).wr ()) [] _).sat _;rw[A2 fB];rw[FI];exact⟨rfl,rfl⟩
abbrev Jz:al:=MR cK
theorem uV(mul:Fe→Fe→Fe)(sm:Int→Fe)(x y:Fe):bc Tryz.prog [(214,hN mul),(212,uR sm)] [] f176 ((iD).wr (x,y,())) [] kK= .leaf (rJ.wr (true,x,y,sm 1,mul x y)) []:=by kernel_rfl
theorem uW:∀p_∈([(214,hN mulC),(212,uR bn)]:List (FuncId×al)),p_.2.Ok Tryz.prog p_.1:=(aj fo (aj gl aw))
theorem lH:Jz.Ok Tryz.prog 176:=by
 refine(al.bb call176 fun x_ y_ Q H_=>?_).sym;obtain⟨x,y,_⟩:=x_;have hq:=H_.2;refine(au (tab:= [(214,hN mulC),(212,uR bn)]) mixed uW func176 rfl (LT:= []) (ks:=kK) (aS.nil _)).use (D:= []) ?_ hq;show(bc _ _ _ _ ((iD).wr (x,y,())) [] _).sat _;rw[uV mulC bn];exact⟨rfl,rfl⟩
abbrev UU:al:=UR gI
theorem A4(af:Fe→Fe→Pt)(sm:Int→Fe):bc Tryz.prog [(176,MR af),(212,uR sm)] [] f181 ((ae).wr ()) [] kK= .leaf (rJ.wr (af cN (sm 1))) []:=by kernel_rfl
theorem A5:∀p_∈([(176,MR cK),(212,uR bn)]:List (FuncId×al)),p_.2.Ok Tryz.prog p_.1:=(aj lH (aj gl aw))
theorem yn:UU.Ok Tryz.prog 181:=by
 refine(al.bb call181 fun x_ y_ Q H_=>?_).sym;have hq:=H_.2;refine(au (tab:= [(176,MR cK),(212,uR bn)]) mixed A5 func181 rfl (LT:= []) (ks:=kK) (aS.nil _)).use (D:= []) ?_ hq;show(bc _ _ _ _ ((ae).wr ()) [] _).sat _;rw[A4 cK bn];exact⟨rfl,rfl⟩
theorem Di(p:Pt):fg p=bif !p.1 then gI else p:=by unfold fg Ry;rw[qV]
theorem Dj{t:Bool}{V W X:LV}(h1:t=true→V=X)(h2:t=false→W=X):(Ev.End.ite t (.leaf V []) (.leaf W [])).sat fun v cS=>v=X∧cS= []:=⟨fun h=>⟨h1 h,rfl⟩,fun h=>⟨h2 h,rfl⟩⟩
abbrev ZD:al:=uU fg
theorem FJ(z:Pt)(p:Pt):bc Tryz.prog [(181,UR z)] [] f187 ((FH).wr (p,())) [] kK= .ite (!p.1) (.leaf (rJ.wr z) []) (.leaf (rJ.wr p) []):=by kernel_rfl
theorem FK:∀p_∈([(181,UR gI)]:List (FuncId×al)),p_.2.Ok Tryz.prog p_.1:=(aj yn aw)
theorem uX:ZD.Ok Tryz.prog 187:=by
 refine(al.bb call187 fun x_ y_ Q H_=>?_).sym;obtain⟨p,_⟩:=x_;have hq:=H_.2;refine(au (tab:= [(181,UR gI)]) mixed FK func187 rfl (LT:= []) (ks:=kK) (aS.nil _)).use (D:= []) ?_ hq;show(bc _ _ _ _ ((FH).wr (p,())) [] _).sat _;rw[FJ gI];exact Dj (fun h=>by rw[Di,h];rfl) (fun h=>by rw[Di,h];rfl)
abbrev UW:al:=Jt gJ
theorem A6(mul add sub:Fe→Fe→Fe)(sq:Fe→Fe)(sm:Int→Fe)(ed:Fe)(ratio:Fe→Fe→Fe×Bool)(y:Fe):bc Tryz.prog [(214,hN mul),(213,hN add),(211,hN sub),(209,mQ sq),(212,uR sm),(215,UQ ed),(210,e2P ratio)] [] f172 ((lG).wr (y,())) [] kK= .leaf (dK (ratio (sub (sq y) (sm 1)) (add (mul ed (sq y)) (sm 1)))) []:=by kernel_rfl
theorem A7:∀p_∈([(214,hN mulC),(213,hN oW),(211,hN n7),(209,mQ (fun x=>mulC x x)),(212,uR bn),(215,UQ kW),(210,e2P lF)]:List (FuncId×al)),p_.2.Ok Tryz.prog p_.1:=(aj fo (aj yg (aj yh (aj Dg (aj gl (aj ym (aj FG aw)))))))
theorem yo:UW.Ok Tryz.prog 172:=by
 refine(al.bb call172 fun x_ y_ Q H_=>?_).sym;obtain⟨y,_⟩:=x_;have hq:=H_.2;refine(au (tab:= [(214,hN mulC),(213,hN oW),(211,hN n7),(209,mQ (fun x=>mulC x x)),(212,uR bn),(215,UQ kW),(210,e2P lF)]) mixed A7 func172 rfl (LT:= []) (ks:=kK) (aS.nil _)).use (D:= []) ?_ hq;show(bc _ _ _ _ ((lG).wr (y,())) [] _).sat _;rw[A6 mulC oW n7 (fun x=>mulC x x) bn kW lF];exact⟨rfl,rfl⟩
abbrev UX:al:=UR mL
theorem A8(mul:Fe→Fe→Fe)(sm:Int→Fe)(inv:Fe→Fe)(root:Fe→Fe×Bool)(af:Fe→Fe→Pt):bc Tryz.prog [(214,hN mul),(212,uR sm),(218,mQ inv),(172,Jt root),(176,MR af)] [] f180 ((ae).wr ()) [] kK= .leaf (rJ.wr (af (root (mul (sm 4) (inv (sm 5)))).1 (mul (sm 4) (inv (sm 5))))) []:=by kernel_rfl
theorem A9:∀p_∈([(214,hN mulC),(212,uR bn),(218,mQ j8),(172,Jt gJ),(176,MR cK)]:List (FuncId×al)),p_.2.Ok Tryz.prog p_.1:=(aj fo (aj gl (aj uT (aj yo (aj lH aw)))))
theorem JA:UX.Ok Tryz.prog 180:=by
 refine(al.bb call180 fun x_ y_ Q H_=>?_).sym;have hq:=H_.2;refine(au (tab:= [(214,hN mulC),(212,uR bn),(218,mQ j8),(172,Jt gJ),(176,MR cK)]) mixed A9 func180 rfl (LT:= []) (ks:=kK) (aS.nil _)).use (D:= []) ?_ hq;show(bc _ _ _ _ ((ae).wr ()) [] _).sat _;rw[A8 mulC bn j8 gJ cK];exact⟨rfl,rfl⟩
def e4Q(g:Fe→Fe→Fe→Fe→Pt):al:=al.cl [] (ab gY (ab gY (ab gY (ab gY ae)))) ae fun x _=>.leaf none (rJ.wr (g x.1 x.2.1 x.2.2.1 x.2.2.2.1)) []
abbrev OQ:al:=e4Q qY
theorem yp(mul:Fe→Fe→Fe)(e f g h:Fe):bc Tryz.prog [(214,hN mul)] [] f219 (((ab gY (ab gY (ab gY (ab gY ae))))).wr (e,f,g,h,())) [] kK= .leaf (rJ.wr (true,mul e f,mul g h,mul f g,mul e h)) []:=by kernel_rfl
theorem yq:∀p_∈([(214,hN mulC)]:List (FuncId×al)),p_.2.Ok Tryz.prog p_.1:=(aj fo aw)
theorem FL:OQ.Ok Tryz.prog 219:=by
 refine(al.bb call219 fun x_ y_ Q H_=>?_).sym;obtain⟨e,f,g,h,_⟩:=x_;have hq:=H_.2;refine(au (tab:= [(214,hN mulC)]) mixed yq func219 rfl (LT:= []) (ks:=kK) (aS.nil _)).use (D:= []) ?_ hq;show(bc _ _ _ _ (((ab gY (ab gY (ab gY (ab gY ae))))).wr (e,f,g,h,())) [] _).sat _;rw[yp mulC];exact⟨rfl,rfl⟩
abbrev ZE:al:=US dJ
theorem FN(mul add sub:Fe→Fe→Fe)(ed:Fe)(own:Pt→Pt)(C6:Fe→Fe→Fe→Fe→Pt)(p q:Pt):bc Tryz.prog [(214,hN mul),(213,hN add),(211,hN sub),(215,UQ ed),(187,uU own),(219,e4Q C6)] [] f182 ((UP).wr (p,q,())) [] kK= .leaf (rJ.wr (addFn mul add sub ed own C6 p q)) []:=by kernel_rfl
theorem FO:∀p_∈([(214,hN mulC),(213,hN oW),(211,hN n7),(215,UQ kW),(187,uU fg),(219,e4Q qY)]:List (FuncId×al)),p_.2.Ok Tryz.prog p_.1:=(aj fo (aj yg (aj yh (aj ym (aj uX (aj FL aw))))))
theorem uY:ZE.Ok Tryz.prog 182:=by
 refine(al.bb call182 fun x_ y_ Q H_=>?_).sym;obtain⟨p,q,_⟩:=x_;have hq:=H_.2;refine(au (tab:= [(214,hN mulC),(213,hN oW),(211,hN n7),(215,UQ kW),(187,uU fg),(219,e4Q qY)]) mixed FO func182 rfl (LT:= []) (ks:=kK) (aS.nil _)).use (D:= []) ?_ hq;show(bc _ _ _ _ ((UP).wr (p,q,())) [] _).sat _;rw[FN mulC oW n7 kW fg qY];exact⟨rfl,rfl⟩
abbrev JB:al:=uU cL
theorem uZ(add:Pt→Pt→Pt)(p:Pt):bc Tryz.prog [(182,US add)] [] f183 ((FH).wr (p,())) [] kK= .leaf (rJ.wr (add p p)) []:=by kernel_rfl
theorem u0:∀p_∈([(182,US dJ)]:List (FuncId×al)),p_.2.Ok Tryz.prog p_.1:=(aj uY aw)
theorem rk:JB.Ok Tryz.prog 183:=by
 refine(al.bb call183 fun x_ y_ Q H_=>?_).sym;obtain⟨p,_⟩:=x_;have hq:=H_.2;refine(au (tab:= [(182,US dJ)]) mixed u0 func183 rfl (LT:= []) (ks:=kK) (aS.nil _)).use (D:= []) ?_ hq;show(bc _ _ _ _ ((FH).wr (p,())) [] _).sat _;rw[uZ dJ];exact⟨rfl,rfl⟩
abbrev ZF:al:=uU qZ
theorem FQ(neg:Fe→Fe)(own:Pt→Pt)(p:Pt):bc Tryz.prog [(175,mQ neg),(187,uU own)] [] f142 ((FH).wr (p,())) [] kK= .leaf (rJ.wr (negFn neg own p)) []:=by kernel_rfl
theorem FR:∀p_∈([(175,mQ iU),(187,uU fg)]:List (FuncId×al)),p_.2.Ok Tryz.prog p_.1:=(aj rh (aj uX aw))
theorem OR:ZF.Ok Tryz.prog 142:=by
 refine(al.bb call142 fun x_ y_ Q H_=>?_).sym;obtain⟨p,_⟩:=x_;have hq:=H_.2;refine(au (tab:= [(175,mQ iU),(187,uU fg)]) mixed FR func142 rfl (LT:= []) (ks:=kK) (aS.nil _)).use (D:= []) ?_ hq;show(bc _ _ _ _ ((FH).wr (p,())) [] _).sat _;rw[FQ iU fg];exact⟨rfl,rfl⟩
def ePl(g:Pt→Fe×Fe):al:=al.cl [] FH ae fun x _=>.leaf none (.bV [.agg ((gf .u64 5).wr (g x.1).1),.agg ((gf .u64 5).wr (g x.1).2)]) []
abbrev OS:al:=ePl gg
theorem yr(mul:Fe→Fe→Fe)(inv:Fe→Fe)(own:Pt→Pt)(p:Pt):bc Tryz.prog [(214,hN mul),(218,mQ inv),(187,uU own)] [] f188 ((FH).wr (p,())) [] kK= .leaf (.bV [.agg ((gf .u64 5).wr (mul (own p).2.1 (inv (own p).2.2.2.1))),.agg ((gf .u64 5).wr (mul (own p).2.2.1 (inv (own p).2.2.2.1)))]) []:=by kernel_rfl
theorem yu:∀p_∈([(214,hN mulC),(218,mQ j8),(187,uU fg)]:List (FuncId×al)),p_.2.Ok Tryz.prog p_.1:=(aj fo (aj uT (aj uX aw)))
theorem FT:OS.Ok Tryz.prog 188:=by
 refine(al.bb call188 fun x_ y_ Q H_=>?_).sym;obtain⟨p,_⟩:=x_;have hq:=H_.2;refine(au (tab:= [(214,hN mulC),(218,mQ j8),(187,uU fg)]) mixed yu func188 rfl (LT:= []) (ks:=kK) (aS.nil _)).use (D:= []) ?_ hq;show(bc _ _ _ _ ((FH).wr (p,())) [] _).sat _;rw[yr mulC j8 fg];exact⟨rfl,rfl⟩
def ZG(g:Fe→List Int):al:=al.cl [] lG ae fun x _=>.leaf none (fX .u8 32 (g x.1)) []
def ZH(g:List Int→Bool):al:=al.cl [] mN ae fun x _=>.leaf (some (x.1.length=32)) (nB (g x.1)) []
def ZI(g:Pt→List Int):al:=al.cl [] FH ae fun x _=>.leaf none (fX .u8 32 (g x.1)) []
abbrev zA(r:Pt×Bool):LV:=.bV [.agg ((ab iv (mJ .u64 (mJ .u64 (mJ .u64 (gf .u64 5) 5) 5) 5)).wr r.1),.sc (.bool (.sym r.2))]
def ZJ(g:List Int→Pt×Bool):al:=al.cl [] mN ae fun x _=>.leaf (some (x.1.length=32)) (zA (g x.1)) []
def iY(x:Fe):List Int:=(dN x).toList
def n8(b:List Int):Bool:=iV (lC b)
def fI(p:Pt):List Int:=(C7 p).toList
def et(b:List Int):Pt×Bool:=Ou (lC b)
theorem FU:mP=ZG iY:=by kernel_rfl
theorem Ba:(ZG iY).Ok Tryz.prog 189:=FU▸kD
theorem FV:De=ZH n8:=by kernel_rfl
theorem Bb:(ZH n8).Ok Tryz.prog 173:=FV▸Fx
theorem OT{f:Int→Int}(v:dk):(Vec.zE f 31 v).toList=v.toList.set 31 (f (v.toList.getD 31 0)):=by
 have h:=Dc (Vec.dH v) (k:=31) (by omega) f;rw[uQ]at h;rw[← h,gk (by rw[List.length_set];exact Vec.dH v)]
theorem sZ(p:Pt):fI p=bif lE (gg p).1 then(iY (gg p).2).set 31 (bf .u8 ((iY (gg p).2).getD 31 0) 128)else iY (gg p).2:=by
 unfold fI C7 xX iY;simp only[eh];generalize dN (gg p).2=v
 cases lE (gg p).1
 ·rfl
 ·exact OT v
abbrev JD:al:=ZI fI
theorem u1(pl:Pt→Fe×Fe)(OU:Fe→List Int)(xV:Fe→Bool)(p:Pt):bc Tryz.prog [(188,ePl pl),(189,ZG OU),(190,zz xV)] [] f143 ((FH).wr (p,())) [] kK= .ite (xV (pl p).1) (.leaf (fX .u8 32 ((OU (pl p).2).set 31 (bf .u8 ((OU (pl p).2).getD 31 0) 128))) []) (.leaf (fX .u8 32 (OU (pl p).2)) []):=by kernel_rfl
theorem u2:∀p_∈([(188,ePl gg),(189,ZG iY),(190,zz lE)]:List (FuncId×al)),p_.2.Ok Tryz.prog p_.1:=(aj FT (aj Ba (aj yi aw)))
theorem Bc:JD.Ok Tryz.prog 143:=by
 refine(al.bb call143 fun x_ y_ Q H_=>?_).sym;obtain⟨p,_⟩:=x_;have hq:=H_.2;refine(au (tab:= [(188,ePl gg),(189,ZG iY),(190,zz lE)]) mixed u2 func143 rfl (LT:= []) (ks:=kK) (aS.nil _)).use (D:= []) ?_ hq;show(bc _ _ _ _ ((FH).wr (p,())) [] _).sat _;rw[u1 gg iY lE];exact Dj (fun h=>by rw[sZ,h];rfl) (fun h=>by rw[sZ,h];rfl)
theorem JE(neg:Fe→Fe)(Dh:Fe→Bool)(n4:dk→Fe)(canon:dk→Bool)(af:Fe→Fe→Pt)(root:Fe→Fe×Bool)(b:dk):
  qW neg Dh n4 canon af root b=bif (root (n4 b)).2 then(bif canon b then(bif uL b then(bif Dh (root (n4 b)).1 then(dC,false)else(af (neg (root (n4 b)).1) (n4 b),true))else(af (root (n4 b)).1 (n4 b),true))else(dC,false))else(dC,false):=by
 unfold qW;simp only[eh,qV];generalize root (n4 b)=r;generalize n4 b=y;obtain⟨x,ok⟩:=r;simp only
 cases ok<;>cases canon b<;>cases uL b<;>cases Dh x<;>rfl
theorem FW(b:List Int):et b=bif (gJ (fB b)).2 then(bif n8 b then(bif bl .u8 (b.getD 31 0) 128!=0 then(bif cb (gJ (fB b)).1 then(dC,false)else(cK (iU (gJ (fB b)).1) (fB b),true))else(cK (gJ (fB b)).1 (fB b),true))else(dC,false))else(dC,false):=JE iU cb j6 iV cK gJ (lC b)
theorem OV{p:Prop}{ok canon xV Dh:Bool}{P Q:Pt}(hp:p){r:Pt×Bool}(hr:r=bif ok then(bif canon then(bif xV then(bif Dh then(dC,false)else(P,true))else(Q,true))else(dC,false))else(dC,false)):
  (Ev.End.ite ((!ok)==false) (.need p (.ite ((!canon)==false) (.ite (xV==true) (.ite Dh (.leaf (zA (dC,false)) []) (.ite xV (.leaf (zA (P,true)) []) (.leaf (zA (Q,true)) []))) (.ite xV (.leaf (zA (P,true)) []) (.leaf (zA (Q,true)) []))) (.leaf (zA (dC,false)) []))) (.leaf (zA (dC,false)) [])).sat fun v cS=>v=zA r∧cS= []:=by
 subst hr
 cases ok
 ·exact⟨fun h=>(by cases h),fun _=>⟨rfl,rfl⟩⟩
 ·refine⟨fun _=>⟨hp,?_⟩,fun h=>(by cases h)⟩
  cases canon
  ·exact⟨fun h=>(by cases h),fun _=>⟨rfl,rfl⟩⟩
  ·refine⟨fun _=>?_,fun h=>(by cases h)⟩
   cases xV
   ·exact⟨fun h=>(by cases h),fun _=>⟨fun h=>(by cases h),fun _=>⟨rfl,rfl⟩⟩⟩
   ·refine⟨fun _=>?_,fun h=>(by cases h)⟩
    cases Dh
    ·exact⟨fun h=>(by cases h),fun _=>⟨fun _=>⟨rfl,rfl⟩,fun h=>(by cases h)⟩⟩
    ·exact⟨fun _=>⟨rfl,rfl⟩,fun h=>(by cases h)⟩
abbrev JF:al:=ZJ et
theorem u3(n4:List Int→Fe)(root:Fe→Fe×Bool)(canon:List Int→Bool)(Dh:Fe→Bool)(neg:Fe→Fe)(af:Fe→Fe→Pt)(b:List Int):bc Tryz.prog [(171,RI n4),(172,Jt root),(173,ZH canon),(174,zz Dh),(175,mQ neg),(176,MR af)] [] f138 ((mN).wr (b,())) [] kK= .ite ((!(root (n4 b)).2)==false) (.need (b.length=32) (.ite ((!canon b)==false) (.ite ((bl .u8 (b.getD 31 0) 128!=0)==true) (.ite (Dh (root (n4 b)).1) (.leaf (zA (dC,false)) []) (.ite (bl .u8 (b.getD 31 0) 128!=0) (.leaf (zA (af (neg (root (n4 b)).1) (n4 b),true)) []) (.leaf (zA (af (root (n4 b)).1 (n4 b),true)) []))) (.ite (bl .u8 (b.getD 31 0) 128!=0) (.leaf (zA (af (neg (root (n4 b)).1) (n4 b),true)) []) (.leaf (zA (af (root (n4 b)).1 (n4 b),true)) []))) (.leaf (zA (dC,false)) []))) (.leaf (zA (dC,false)) []):=by kernel_rfl
theorem u4:∀p_∈([(171,RI fB),(172,Jt gJ),(173,ZH n8),(174,zz cb),(175,mQ iU),(176,MR cK)]:List (FuncId×al)),p_.2.Ok Tryz.prog p_.1:=(aj sY (aj yo (aj Bb (aj sX (aj rh (aj lH aw))))))
theorem Bd:JF.Ok Tryz.prog 138:=by
 refine(al.bb call138 fun x_ y_ Q H_=>?_).sym;obtain⟨b,_⟩:=x_;obtain⟨hn,hq⟩:=H_;have hn:b.length=32:=hn;refine(au (tab:= [(171,RI fB),(172,Jt gJ),(173,ZH n8),(174,zz cb),(175,mQ iU),(176,MR cK)]) mixed u4 func138 rfl (LT:= []) (ks:=kK) (aS.nil _)).use (D:= []) ?_ hq;show(bc _ _ _ _ ((mN).wr (b,())) [] _).sat _;rw[u3 fB gJ n8 cb iU cK];exact OV hn (FW b)
abbrev biA:aH (List LV) (List Int×Int×Unit):=ab cB (ab (ak (ay .i64)) ae)
def ZK(g:List Int→Int→Int):al:=al.cl [] biA ae fun x _=>.leaf (some (x.1.length=32∧0≤x.2.1∧x.2.1<256)) (nI (g x.1 x.2.1)) []
def gx(a:List Int)(i:Int):Int:=qX (lC a) i.toNat
def RJ:al:=al.cl [] (biA) (ae) fun x_ y_=>(fun(a:List Int) (i:Int)=>.leaf (some (a.length=32∧0≤i∧i<256)) (nI (gx a i)) []) x_.1 x_.2.1
theorem FY(a:List Int)(i:Int):bc Tryz.prog [] [] f184 ((biA).wr (a,i,())) ((ae).wr ()) [.fr [.sym],.auto]=
 End.ite (decide (i<(0:Int))==false) (End.ite (decide ((256:Int)≤i)) (End.leaf (LV.one (VV.sc (SV.int i64 (SI.sym (0:Int))))) [])
 (End.need ((0:Int)≤i64.wrap (i.tdiv (8:Int))∧i64.wrap (i.tdiv (8:Int))<(32:Int)) (End.need ((0:Int)≤i.tmod (8:Int))
 (End.leaf (LV.one (VV.sc (SV.int i64 (SI.sym (i64.wrap (bl IntKind.u8 (shr IntKind.u8 ((List.take (32:Nat) (List.drop (0:Nat)
 a)).getD (i64.wrap (i.tdiv (8:Int))).toNat (0:Int)) (i.tmod (8:Int))) (1:Int))))))) [])))) (End.leaf (LV.one (VV.sc (SV.int i64
 (SI.sym (0:Int))))) []):=by kernel_rfl
theorem OW:RJ.Ok Tryz.prog 184:=by
 refine(al.bb call184 fun x_ y_ Q H_=>?_).sym;obtain⟨a,i,_⟩:=x_;obtain⟨hn,hq⟩:=H_;have hn:a.length=32∧0≤i∧i<256:=hn;refine(au mixed aw func184 rfl (LT:= []) (ks:= [.fr [.sym],.auto]) (aS.nil _)).use (D:= []) ?_ hq;show(bc _ _ _ _ ((biA).wr (a,i,())) ((ae).wr ()) _).sat _;rw[FY];obtain⟨ha,h0,h1⟩:=hn;obtain⟨k,rfl⟩:=Int.eq_ofNat_of_zero_le h0;have hk:k<256:=by omega
 have e1:i64.wrap ((k:Int).tdiv 8)=((k/8:Nat):Int):=fZ k 8 (by omega);have e2:(k:Int).tmod 8=((k%8:Nat):Int):=ra k 8
 have e:gx a (k:Int)=i64.wrap (bl .u8 (shr .u8 (a.getD (k/8) 0) ((k%8:Nat):Int)) 1):=by
  unfold gx qX;rw[Int.toNat_natCast,Dd a (show k/8<32 by omega)]
 rw[e1,e2,bM ha,Int.toNat_natCast,e];refine⟨fun _=>⟨fun h=>?_,fun _=>⟨by omega,by omega,rfl,rfl⟩⟩,fun h=>?_⟩
 ·have:=of_decide_eq_true h;omega
 ·exfalso;revert h;simp
abbrev iPt:aH (Option Ev.Item) Pt:=kJ 211 (ab iv (mJ .u64 (mJ .u64 (mJ .u64 (gf .u64 5) 5) 5) 5))
abbrev OX:aH Hp (Pt×Pt×Unit):=ab iPt (ab iPt ae)
abbrev OY(i:Nat):Wk:=.aZ i (List.replicate 21 .sym)
abbrev ZL:List (FuncId×al):= [(184,ZK gx),(183,uU cL),(182,US dJ)]
theorem OZ:RJ=ZK gx:=by kernel_rfl
theorem yw:(ZK gx).Ok Tryz.prog 184:=OZ▸OW
theorem JG:∀p∈ZL,p.2.Ok Tryz.prog p.1:=aj yw (aj rk (aj uY aw))
theorem rl{α:Type}{f g:Nat→α→α}{n:Nat}(h:∀k,k<n→∀r,f k r=g k r)(a:α):∀m,m≤n→nZ f m a=nZ g m a
 |0,_=>rfl
 |m+1,hm=>by
  show f m (nZ f m a)=g m (nZ g m a);rw[rl h a m (by omega),h m (by omega)]
abbrev Be:Func:=f140
abbrev UY:aH (List LV) (Int×Unit):=(jk 3 (aq (ak (a6 0 0)) (jk 1 (aq (ak (a6 1 0)) (aq (ak (a6 2 0)) (jk 1 (aq (ak (a6 3 0)) (aq (ak (a6 4 0)) (ab (ak (ay .i64)) (jk 32 ae))))))))))
abbrev ZM:Wk:=.fr (cR 43 [(3,.ao),(5,.ao),(6,.ao),(8,.ao),(9,.ao),(10,.sym)])
abbrev twX:aH (List LV) (Unit):=(jk 6 (aq (ak (a6 0 0)) (jk 2 (aq (ak (a6 1 0)) (jk 33 ae)))))
abbrev aeX:Wk:=.fr (cR 43 [(6,.ao),(9,.ao)])
abbrev ptC{Y:Type}(r:aH (List SV) Y):aH (List SV) (Pt×Y):=(ab iv (mJ .u64 (mJ .u64 (mJ .u64 (mJ .u64 r 5) 5) 5) 5)).jl (fun x=>((x.1,x.2.1,x.2.2.1,x.2.2.2.1,x.2.2.2.2.1),x.2.2.2.2.2)) (fun y=>(y.1.1,y.1.2.1,y.1.2.2.1,y.1.2.2.2.1,y.1.2.2.2.2,y.2)) (fun _=>rfl)
abbrev aeY:aH (List SV) (Pt×Pt×Pt×Pt×Unit):=ptC (ptC (ptC (ptC ae)))
abbrev UZ:aH Hp (List Int×List Int×Pt×(Pt×Pt×Pt×Pt×Unit)×Pt×Unit):=ab (jV 52 .u8 32) (ab (jV 52 .u8 32) (ab iPt (ab (kJ 255 aeY) (ab iPt ae))))
def twW:Exit→List Wk
 | .normal=> [ZM,OY 2,.aZ 3 (List.replicate 84 .sym),OY 4,.auto]
 | .exit 0=> [aeX,.auto]
 |_=> []
abbrev JH(bit:List Int→Int→Int)(a b:List Int)(i:Int):Int:=i64.wrap (bit a i+i64.wrap (2*bit b i))
theorem U0(bit:List Int→Int→Int)(MS:Pt→Pt)(add:Pt→Pt→Pt)(a b:List Int)(r p0 p1 p2 p3 o:Pt)(i:Int):gV Tryz.prog [(184,ZK bit),(183,uU MS),(182,US add)] [] Be 0 [] twW ((bq UY UZ).wr ((i,()),(a,b,r,(p0,p1,p2,p3,()),o,())))=
  .ite (decide (0≤i)) (.need (a.length=32∧0≤i∧i<256) (.need (b.length=32∧0≤i∧i<256) (.ite (decide (0<JH bit a b i))
   (.need (0≤JH bit a b i∧JH bit a b i<4) (.leaf .normal ((bq UY UZ).wr ((i64.wrap (i-1),()),(a,b,r,(p0,p1,p2,p3,()),add (MS o) (uM (JH bit a b i) [p0,p1,p2,p3]),())))))
   (.leaf .normal ((bq UY UZ).wr ((i64.wrap (i-1),()),(a,b,r,(p0,p1,p2,p3,()),MS o,())))))))
   (.leaf (.exit 0) ((bq twX OX).wr ((),(r,o,())))):=by kernel_rfl
def MT(bit:List Int→Int→Int)(MS:Pt→Pt)(add:Pt→Pt→Pt)(a b:List Int)(l:List Pt)(k:Nat)(r:Pt):Pt:=bif decide (0<JH bit a b (255-(k:Int)))then add (MS r) (uM (JH bit a b (255-(k:Int))) l)else MS r
abbrev twT:Type:=(Int×Unit)×List Int×List Int×Pt×(Pt×Pt×Pt×Pt×Unit)×Pt×Unit
def U1(w:List Int→List Int→Pt→Pt→Pt→Pt→Pt→Pt)(x:twT):aV:=.need (x.1.1=255∧x.2.1.length=32∧x.2.2.1.length=32) (.leaf (.exit 0) ((bq twX OX).wr ((),(x.2.2.2.1,w x.2.1 x.2.2.1 x.2.2.2.2.1.1 x.2.2.2.2.1.2.1 x.2.2.2.2.1.2.2.1 x.2.2.2.2.1.2.2.2.1 x.2.2.2.2.2.1,()))))
theorem Dk{a:List Int}{i:Int}:gx a i=0∨gx a i=1:=UF _
theorem FZ(a b:List Int)(i:Int):0≤JH gx a b i∧JH gx a b i<4:=by
 rcases Dk (a:=a) (i:=i)with h|h<;>rcases Dk (a:=b) (i:=i)with h'|h'<;>unfold JH<;>rw[h,h']<;>decide
theorem O0(x:twT):Ex Tryz.prog [] (.loop (aY Be 0)) ((bq UY UZ).wr x) (.need (x.1.1=255∧x.2.1.length=32∧x.2.2.1.length=32) (.leaf (.exit 0) ((bq twX OX).wr ((),(x.2.2.2.1,nZ (MT gx cL dJ x.2.1 x.2.2.1 [x.2.2.2.2.1.1,x.2.2.2.2.1.2.1,x.2.2.2.2.1.2.2.1,x.2.2.2.2.1.2.2.2.1]) 256 x.2.2.2.2.2.1,()))))):=by
 obtain⟨⟨i,_⟩,a,b,r,⟨p0,p1,p2,p3,_⟩,o,_⟩:=x;refine Ex.need fun⟨h1,h2,h3⟩=>?_;simp only at h1 h2 h3;subst h1
 have key:=eQ (fn:=Be) (id:=0) (j:=0) (ws:=twW) (hp:= []) mixed JG (aS.nil _) 256 (fun k o=>(bq UY UZ).wr ((255-(k:Int),()),(a,b,r,(p0,p1,p2,p3,()),o,()))) (fun o=>(bq twX OX).wr ((),(r,o,()))) (MT gx cL dJ a b [p0,p1,p2,p3]) (fun _ _=>True)
  (fun k o R hk _ hn hx=>?_) (fun _ _ _ _=>trivial) 0 o (by omega) trivial
 ·rw[Nat.sub_zero,n3]at key;exact key
 rw[U0];refine⟨fun hb=>?_,fun hb=>?_⟩
 ·have jv:k<256:=by have:=of_decide_eq_true hb;omega
  have rP:=hn jv;have e3:i64.wrap ((255-(k:Int))-1)=255-((k+1:Nat):Int):=by rw[ar (by omega) (by omega)];omega
  rw[e3];refine⟨⟨h2,by omega,by omega⟩,⟨h3,by omega,by omega⟩,fun hc=>⟨FZ _ _ _,?_⟩,fun hc=>?_⟩
  ·have:MT gx cL dJ a b [p0,p1,p2,p3] k o=dJ (cL o) (uM (JH gx a b (255-(k:Int))) [p0,p1,p2,p3]):=(by unfold MT;rw[hc];rfl);rw[this]at rP;exact rP
  ·have:MT gx cL dJ a b [p0,p1,p2,p3] k o=cL o:=(by unfold MT;rw[hc];rfl);rw[this]at rP;exact rP
 ·have:k=256:=by have:=of_decide_eq_false hb;omega
  exact hx this
abbrev U2(w:List Int→List Int→Pt→Pt→Pt→Pt→Pt→Pt):dd:= [(0,dA (bq UY UZ) 0 [ZM,.auto,OY 2,.aZ 3 (List.replicate 84 .sym),OY 4] (U1 w))]
abbrev twA:aH (List LV) (List Int×Pt×List Int×Unit):=ab cB (ab rJ (ab cB ae))
def ZN(g:List Int→Pt→List Int→Pt):al:=al.cl [] twA ae fun x _=>.leaf (some (x.1.length=32∧x.2.2.1.length=32)) (rJ.wr (g x.1 x.2.1 x.2.2.1)) []
abbrev JI(z b:Pt)(bit:List Int→Int→Int)(MS:Pt→Pt)(add:Pt→Pt→Pt):List (FuncId×al):= [(184,ZK bit),(183,uU MS),(182,US add),(181,UR z),(180,UR b)]
theorem F1(z b:Pt)(w:List Int→List Int→Pt→Pt→Pt→Pt→Pt→Pt)(bit:List Int→Int→Int)(MS:Pt→Pt)(add:Pt→Pt→Pt)(n m:List Int)(p:Pt):bc Tryz.prog (JI z b bit MS add) (U2 w) Be (twA.wr (n,p,m,())) [] kK=
  .need ((255:Int)=255∧n.length=32∧m.length=32) (.leaf (rJ.wr (w n m z p b (add p b) z)) []):=by kernel_rfl
theorem Dl:∃f:List Int→Pt→List Int→Pt,∀n p m,f n p m=Ow (lC n) p (lC m):=⟨fun n p m=>Ow (lC n) p (lC m),fun _ _ _=>rfl⟩
def u5:List Int→Pt→List Int→Pt:=Classical.choose Dl
theorem O1(n:List Int)(p:Pt)(m:List Int):u5 n p m=Ow (lC n) p (lC m):=Classical.choose_spec Dl n p m
def Bf(a b:List Int)(p0 p1 p2 p3 o:Pt):Pt:=nZ (MT gx cL dJ a b [p0,p1,p2,p3]) 256 o
theorem U3(a b:List Int)(l:Vec Pt 4)(k:Nat)(hk:k<256)(r:Pt):MT gx cL dJ a b l.toList k r=uN qX cL dJ (lC a) (lC b) l (255-(k:Int)) r:=by
 unfold MT uN UE JH gx;rw[qV];rfl
theorem O2(n m:List Int)(p:Pt):Bf n m gI p mL (dJ p mL) gI=u5 n p m:=by
 rw[O1];unfold Bf Ow Rz;exact rl (fun k hk r=>U3 n m (Zw gI p mL (dJ p mL)) k hk r) gI 256 (Nat.le_refl _)
theorem JJ{n m:List Int}{V W:Pt}(hn:n.length=32)(hm:m.length=32)(h:V=W):(Ev.End.need ((255:Int)=255∧n.length=32∧m.length=32) (.leaf (rJ.wr V) [])).sat fun v cS=>v=rJ.wr W∧cS= []:=by
 subst h;exact⟨⟨rfl,hn,hm⟩,rfl,rfl⟩
theorem JK(a b:List Int)(p0 p1 p2 p3 o:Pt):Bf a b p0 p1 p2 p3 o=nZ (MT gx cL dJ a b [p0,p1,p2,p3]) 256 o:=rfl
theorem JL(x:twT):Ex Tryz.prog [] (.loop (aY Be 0)) ((bq UY UZ).wr x) (U1 Bf x):=by
 unfold U1;rw[JK];exact O0 x
theorem U4:aS Tryz.prog [] (U2 Bf) (cE Be):=aS.bW (kQ rfl (b7 (hp:= []) JL) ly)
theorem U5:∀p∈JI gI mL gx cL dJ,p.2.Ok Tryz.prog p.1:=aj yw (aj rk (aj uY (aj yn (aj JA aw))))
abbrev ZO:al:=ZN u5
theorem O3:ZO.Ok Tryz.prog 140:=by
 refine(al.bb call140 fun x_ y_ Q H_=>?_).sym;obtain⟨n,p,m,_⟩:=x_;obtain⟨hn,hq⟩:=H_;have hn:n.length=32∧m.length=32:=hn
 have hc:fW Tryz.prog 140 (twA.wr (n,p,m,())) [] (bc Tryz.prog (JI gI mL gx cL dJ) (U2 Bf) Be (twA.wr (n,p,m,())) [] kK):=
  au mixed U5 func140 rfl U4
 rw[F1 gI mL Bf gx cL dJ]at hc;exact hc.use (D:= []) (JJ hn.1 hn.2 (O2 n m p)) hq
end Go.Proofs.YtmhcoaflmgajhaaGreat
end
noncomputable section
namespace Go.Ev
open Go
open Go.IntKind (i64 signed u32 u64 wrap wrap_u32)
def vd(B:Int):List Int→Int
 | []=>0
 |x::l=>x+B*vd B l
def dg(B:Int):Nat→Int→List Int
 |0,_=> []
 |n+1,x=>x%B::dg B n (x/B)
def eu(B:Int)(l:List Int):Prop:=∀z∈l,0≤z∧z<B
noncomputable section
variable {B:Int}
theorem eu.tail{x:Int}{l:List Int}(h:eu B (x::l)):eu B l:=fun z hz=>h z (List.mem_cons_of_mem _ hz)
theorem eu.head{x:Int}{l:List Int}(h:eu B (x::l)):0≤x∧x<B:=h x (by simp)
theorem eu.take{l:List Int}(h:eu B l)(n:Nat):eu B (l.take n):=fun z hz=>h z (List.mem_of_mem_take hz)
theorem eu.drop{l:List Int}(h:eu B l)(n:Nat):eu B (l.drop n):=fun z hz=>h z (List.mem_of_mem_drop hz)
theorem eu.append{l m:List Int}(h:eu B l)(h':eu B m):eu B (l++m):=fun z hz=>by
 rcases List.mem_append.1 hz with k|k
 ·exact h z k
 ·exact h' z k
theorem eu.set{l:List Int}(h:eu B l){i:Nat}{x:Int}(hx:0≤x∧x<B):eu B (l.set i x):=fun z hz=>by
 rcases List.mem_or_eq_of_mem_set hz with k|k
 ·exact h z k
 ·subst k;exact hx
theorem eu.ZP(hB:0<B)(n:Nat):eu B (List.replicate n 0):=fun z hz=>by
 rw[List.eq_of_mem_replicate hz];omega
theorem eu.getD{l:List Int}(hB:0<B)(h:eu B l)(i:Nat):0≤l.getD i 0∧l.getD i 0<B:=by
 rw[List.getD_eq_getElem?_getD];rcases Nat.lt_or_ge i l.length with h1|h1
 ·rw[List.getElem?_eq_getElem h1];exact h _ (List.getElem_mem h1)
 ·rw[List.getElem?_eq_none h1];exact⟨by simp,by simpa using hB⟩
theorem bY:∀ (n:Nat) (x:Int),(dg B n x).length=n
 |0,_=>rfl
 |n+1,x=>by simp[dg,bY n]
theorem mR(hB:0<B):∀ (n:Nat) (x:Int),eu B (dg B n x)
 |0,_=>fun z hz=>by cases hz
 |n+1,x=>fun z hz=>by
  rcases List.mem_cons.1 hz with rfl|hz
  ·exact⟨Int.emod_nonneg _ (by omega),Int.emod_lt_of_pos _ hB⟩
  ·exact mR hB n _ z hz
theorem JM(hB:0<B)(n:Nat):0<B ^ n:=Int.pow_pos hB
theorem dy(hB:0<B):∀ {l:List Int},eu B l→0≤vd B l
 | [],_=>by simp[vd]
 |x::l,h=>by
  have h1:=dy hB h.tail;have h2:=h.head;have:=Int.mul_nonneg (Int.le_of_lt hB) h1;simp only[vd];omega
theorem mS(hB:0<B):∀ {l:List Int},eu B l→vd B l<B ^ l.length
 | [],_=>by simp[vd]
 |x::l,h=>by
  have h1:=mS hB h.tail;have h2:=h.head;simp only[vd,List.length_cons];have h3:B*(vd B l+1)≤B*B ^ l.length:=Int.mul_le_mul_of_nonneg_left (by omega) (by omega);rw[Int.mul_add,Int.mul_one]at h3;rw[Int.pow_succ,Int.mul_comm (B ^ l.length)];omega
theorem s4(hB:0<B){x y:Int}(h:0≤x∧x<B):(x+B*y)/B=y∧(x+B*y)%B=x:=by
 rw[Int.add_mul_ediv_left _ _ (by omega),Int.add_mul_emod_self_left,Int.ediv_eq_zero_of_lt h.1 h.2,Int.emod_eq_of_lt h.1 h.2];exact⟨by omega,rfl⟩
theorem Dm(hB:0<B):∀ {l:List Int},eu B l→dg B l.length (vd B l)=l
 | [],_=>rfl
 |x::l,h=>by
  obtain⟨h1,h2⟩:=s4 hB (y:=vd B l) h.head;show(x+B*vd B l)%B::dg B l.length ((x+B*vd B l)/B)=x::l;rw[h1,h2,Dm hB h.tail]
theorem rn(hB:0<B){P:Int}(hP:0<P)(x:Int):x%B+B*(x/B%P)=x%(B*P):=by
 have h1:=Int.emod_nonneg x (show B≠0 by omega);have h2:=Int.emod_lt_of_pos x hB;have h3:=Int.emod_nonneg (x/B) (show P≠0 by omega);have h4:=Int.emod_lt_of_pos (x/B) hP;have e1:=Int.emod_add_mul_ediv x B;have e2:=Int.emod_add_mul_ediv (x/B) P
 have e:x=x%B+B*(x/B%P)+(B*P)*(x/B/P):=by
  rw[Int.mul_assoc,Int.add_assoc,← Int.mul_add,e2,e1]
 have dE:x%B+B*(x/B%P)<B*P:=by
  have:=Int.mul_le_mul_of_nonneg_left (show x/B%P+1≤P by omega) (show 0≤B by omega);rw[Int.mul_add,Int.mul_one]at this;omega
 have hnn:0≤x%B+B*(x/B%P):=by
  have:=Int.mul_nonneg (show 0≤B by omega) h3;omega
 have key:x%(B*P)=(x%B+B*(x/B%P))%(B*P):=by
  conv=>lhs;rw[e]
  rw[Int.add_mul_emod_self_left]
 rw[key,Int.emod_eq_of_lt hnn dE]
theorem mT(hB:0<B):∀ (n:Nat) (x:Int),vd B (dg B n x)=x%B ^ n
 |0,x=>by simp[dg,vd,Int.emod_one]
 |n+1,x=>by
  show x%B+B*vd B (dg B n (x/B))=_;rw[mT hB n,rn hB (JM hB n),Int.pow_succ,Int.mul_comm (B ^ n)]
theorem U6(hB:0<B){l m:List Int}(hl:eu B l)(hm:eu B m)(hn:l.length=m.length)(h:vd B l=vd B m):l=m:=by
 rw[← Dm hB hl,← Dm hB hm,hn,h]
theorem yx(hB:0<B){l:List Int}{n:Nat}{x:Int}(hl:eu B l)(hn:l.length=n)(h:vd B l=x%B ^ n):l=dg B n x:=
 U6 hB hl (mR hB n x) (by rw[bY,hn]) (by rw[mT hB,h])
theorem mU(hB:0<B):∀ {n:Nat} {x:Int} {k:Nat},k<n→(dg B n x).getD k 0=x/B ^ k%B
 |0,_,k,h=>absurd h (by omega)
 |n+1,x,0,_=>by simp[dg]
 |n+1,x,k+1,h=>by
  show(x%B::dg B n (x/B)).getD (k+1) 0=_;rw[List.getD_cons_succ,mU hB (by omega:k<n),Int.ediv_ediv_of_nonneg (by omega),Int.pow_succ,Int.mul_comm (B ^ k)]
theorem O4(hB:0<B){l:List Int}(h:eu B l){k:Nat}(hk:k<l.length):l.getD k 0=vd B l/B ^ k%B:=by
 conv=>lhs;rw[← Dm hB h]
 exact mU hB hk
theorem s5:∀ (l m:List Int),vd B (l++m)=vd B l+B ^ l.length*vd B m
 | [],m=>by simp[vd]
 |x::l,m=>by
  show x+B*vd B (l++m)=x+B*vd B l+B ^ (l.length+1)*vd B m;rw[s5 l m,Int.mul_add,Int.pow_succ,Int.mul_assoc,Int.mul_left_comm B,Int.add_assoc]
theorem Bg:∀ {l:List Int} {k:Nat} {x:Int},k<l.length→vd B (l.set k x)=vd B l+(x-l.getD k 0)*B ^ k
 | [],k,_,h=>absurd h (by simp)
 |y::l,0,x,_=>by
  simp only[List.set_cons_zero,vd,List.getD_cons_zero,Int.pow_zero];omega
 |y::l,k+1,x,h=>by
  simp only[List.set_cons_succ,vd,List.getD_cons_succ];rw[Bg (by simpa using h),Int.mul_add,Int.pow_succ,Int.mul_comm B ((x-l.getD k 0)*B ^ k),Int.mul_assoc,Int.add_assoc]
theorem JN(n:Nat):vd B (List.replicate n 0)=0:=by
 induction n with
 |zero=>rfl
 |succ n ih=>rw[List.replicate_succ];simp[vd,ih]
theorem dz{l:List Int}{k:Nat}(hk:k<l.length):vd B (l.take (k+1))=vd B (l.take k)+l.getD k 0*B ^ k:=by
 rw[List.take_add_one,List.getElem?_eq_getElem hk,s5,List.length_take,Nat.min_eq_left (by omega),List.getD_eq_getElem?_getD,List.getElem?_eq_getElem hk];simp[vd,Int.mul_comm]
theorem Dn(hB:0<B)(n:Nat):dg B n 0=List.replicate n 0:=
 (yx hB (eu.ZP hB n) (by simp) (by rw[JN];simp)).symm
end
theorem rY{x:Int}(A C:Int)(hA:0<A)(hC:0<C)(D:Int)(hDp:0<D)(hdiv:A*D∣C):x%C/A%D=x/A%D:=by
 obtain⟨q,rfl⟩:=hdiv
 have hq:0<q:=by
  rcases Int.lt_or_le 0 q with h|h
  ·exact h
  ·have:=Int.mul_nonneg (Int.le_of_lt (Int.mul_pos hA hDp)) (show 0≤ -q by omega);rw[Int.mul_neg]at this;omega
 have e:=rn (B:=A) (P:=D*q) hA (Int.mul_pos hDp hq) x;rw[← Int.mul_assoc]at e;rw[← e];have h1:=Int.emod_nonneg x (show A≠0 by omega);have h2:=Int.emod_lt_of_pos x hA;rw[(s4 hA ⟨h1,h2⟩).1,Int.emod_emod_of_dvd _ (Int.dvd_mul_right D q)]
theorem F2(V:Int)(k:Nat):V/2 ^ k=2*(V/2 ^ (k+1))+V/2 ^ k%2:=by
 have e:V/2 ^ (k+1)=V/2 ^ k/2:=by rw[Int.pow_succ,Int.ediv_ediv_of_nonneg (by exact Int.le_of_lt (Int.pow_pos (by decide)))]
 rw[e];omega
theorem JO{L r b:Int}(hL:0<L)(hr:0≤r∧r<L)(hb:0≤b∧b<2):(2*r+b)%L=if 2*r+b<L then 2*r+b else 2*r+b-L:=by
 split
 ·exact Int.emod_eq_of_lt (by omega) (by assumption)
 ·have e:2*r+b=(2*r+b-L)+L*1:=by omega
  conv=>lhs;rw[e]
  rw[Int.add_mul_emod_self_left,Int.emod_eq_of_lt (by omega) (by omega)]
theorem O5(L V b:Int):(2*V+b)%L=(2*(V%L)+b)%L:=by
 have e:=Int.emod_add_mul_ediv V L
 have:2*V+b=2*(V%L)+b+L*(2*(V/L)):=by
  conv=>lhs;rw[← e]
  rw[Int.mul_add,Int.mul_left_comm];omega
 rw[this,Int.add_mul_emod_self_left]
end Go.Ev
end
noncomputable section
namespace Go.Proofs.YtmhcoaflmgajhaaGreat
open Go Go.Ev BJ Go.Proofs.Tryz
open Go.IntKind (i64 signed u32 u64 wrap wrap_u32)
theorem F3{x y c:Int}(hx:U64 x)(hy:U64 y)(hc:c=0∨c=1):iA x y c=((x-y-c)%18446744073709551616,if x<y+c then 1 else 0):=by
 unfold U64 at hx hy;obtain⟨a,rfl⟩:=Int.eq_ofNat_of_zero_le hx.1;obtain⟨b,rfl⟩:=Int.eq_ofNat_of_zero_le hy.1;obtain⟨d,rfl⟩:∃d:Nat,c=(d:Int):=by rcases hc with rfl|rfl;exact⟨0,rfl⟩;exact⟨1,rfl⟩
 simp only[iA,Int.toNat_natCast];have e:(2:Nat) ^ 64=18446744073709551616:=by decide
 rw[e];refine Prod.ext ?_ ?_
 ·show(((a+18446744073709551616-b-d)%18446744073709551616:Nat):Int)=_;omega
 ·show(if a<b+d then(1:Int)else 0)=_
  by_cases h:a<b+d
  ·rw[if_pos h,if_pos (by omega)]
  ·rw[if_neg h,if_neg (by omega)]
theorem pq{B:Int}(hB:1≤B){a b:Nat}(h:a≤b):B ^ a≤B ^ b:=by
 obtain⟨d,rfl⟩:∃d,b=a+d:=⟨b-a,by omega⟩;rw[Int.pow_add];have h1:0<B ^ a:=Int.pow_pos (by omega);have h2:0<B ^ d:=Int.pow_pos (by omega);have:=Int.mul_le_mul_of_nonneg_left (show 1≤B ^ d by omega) (Int.le_of_lt h1);rwa [Int.mul_one]at this
theorem RK(k m:Nat):(k:Int).tmod (m:Int)=((k%m:Nat):Int):=by rw[Int.tmod_eq_emod_of_nonneg (by omega),← Int.natCast_emod]
abbrev qq:Int:=18446744073709551616
theorem bw:0<qq:=by decide
theorem u6:qq=256 ^ 8:=by decide
theorem ZQ:qq=2 ^ 64:=by decide
theorem mV(s:Nat):((2 ^ (s*8):Nat):Int)=256 ^ s:=by
 rw[Nat.mul_comm,Nat.pow_mul,Int.natCast_pow];rfl
theorem s6{b:Int}(hb:0<b){m:Nat}(hm:0<m){l:List Int}(h:eu (b ^ m) l){k:Nat}(hk:k/m<l.length):l.getD (k/m) 0/b ^ (k%m)%b=vd (b ^ m) l/b ^ k%b:=by
 have hB:0<b ^ m:=Int.pow_pos hb;rw[O4 hB h hk];have dE:=Nat.mod_lt k hm;have e1:(b ^ m)=b ^ (k%m)*b*b ^ (m-(k%m+1)):=by rw[← Int.pow_succ,← Int.pow_add];congr 1;omega
 rw[rY (b ^ (k%m)) (b ^ m) (Int.pow_pos hb) hB b hb ⟨_,e1⟩];rw[Int.ediv_ediv_of_nonneg (Int.le_of_lt (Int.pow_pos hB)),← Int.pow_mul,← Int.pow_add]
 congr 3
 have:=Nat.div_add_mod k m;exact this
theorem U7{B:Int}(hB:0<B)(n:Nat)(x:Int):(List.range n).map (fun i=>x/B ^ i%B)=dg B n x:=by
 apply List.ext_getElem?
 intro i;rcases Nat.lt_or_ge i n with h|h
 ·have e:=mU hB (x:=x) h;rw[List.getD_eq_getElem?_getD,List.getElem?_eq_getElem (by rw[bY];exact h)]at e;rw[List.getElem?_eq_getElem (l:=dg B n x) (by rw[bY];exact h),List.getElem?_map,List.getElem?_range h];simpa using e.symm
 ·rw[List.getElem?_eq_none (by simpa using h),List.getElem?_eq_none (by rw[bY];exact h)]
def pr(b:List Int):List Int:=dg qq 8 (vd 256 b)
def n9(w:List Int):List Int:=dg 256 32 (vd qq w)
theorem O6{b:List Int}(hb:aA b)(hl:b.length≤64){k:Nat}(hk:k<b.length):
  (pr (b.take k)).set (k/8) (bf .u64 ((pr (b.take k)).getD (k/8) 0) (shl .u64 (u64.wrap (b.getD k 0)) ((k%8*8:Nat):Int)))=pr (b.take (k+1)):=by
 have fx:eu 256 b:=hb;have hc:=eu.getD (by decide) fx k;have hV0:=dy (by decide) (fx.take k);have hV1:=mS (by decide) (fx.take k);rw[List.length_take,Nat.min_eq_left (by omega)]at hV1;unfold pr;rw[dz hk];generalize vd 256 (b.take k)=V at*;generalize b.getD k 0=c at*;have hi:k/8<8:=by omega
 have hs:k%8<8:=by omega
 have jv:k=8*(k/8)+k%8:=(Nat.div_add_mod k 8).symm;have hp:(256:Int) ^ k=qq ^ (k/8)*256 ^ (k%8):=by rw[u6,← Int.pow_mul,← Int.pow_add,← jv]
 have hQ:0<qq ^ (k/8):=Int.pow_pos bw
 have hle:(256:Int) ^ (k%8)*256≤qq:=by
  rw[← Int.pow_succ,u6];exact pq (by decide) (by omega)
 have hP:(0:Int)<256 ^ (k%8):=Int.pow_pos (by decide);have hdl:V/qq ^ (k/8)<256 ^ (k%8):=Int.ediv_lt_of_lt_mul hQ (by rw[Int.mul_comm,← hp];exact hV1);have hd0:0≤V/qq ^ (k/8):=Int.ediv_nonneg hV0 (Int.le_of_lt hQ)
 have eg:(dg qq 8 V).getD (k/8) 0=V/qq ^ (k/8):=by
  rw[mU bw hi,Int.emod_eq_of_lt hd0 (by omega)]
 rw[eg];have ew:u64.wrap c=c:=wrap_u64 hc.1 (by omega);have hcP:c*256 ^ (k%8)≤255*256 ^ (k%8):=Int.mul_le_mul_of_nonneg_right (by omega) (by omega);have ZR:0≤c*256 ^ (k%8):=Int.mul_nonneg hc.1 (by omega)
 have es:shl .u64 c ((k%8*8:Nat):Int)=c*256 ^ (k%8):=by
  rw[mu .u64 c _ (by simp[IntKind.bits];omega),mV,wrap_u64 ZR (by unfold qq at hle;omega)]
 have hdiv:c*256 ^ (k%8)%((2 ^ (k%8*8):Nat):Int)=0:=by rw[mV];exact Int.mul_emod_left _ _
 have eo:bf .u64 (V/qq ^ (k/8)) (c*256 ^ (k%8))=V/qq ^ (k/8)+c*256 ^ (k%8):=by
  rw[fY,tT (m:=k%8*8) ZR hdiv hd0 (by rw[mV];exact hdl) (by unfold qq at hle;omega),Int.add_comm]
 rw[ew,es,eo];refine yx bw ((mR bw 8 V).set ⟨by omega,by omega⟩) (by rw[List.length_set,bY]) ?_;rw[Bg (by rw[bY];exact hi),eg,mT bw];have e2:(256:Int) ^ 64=qq ^ 8:=by decide
 have hV2:V<qq ^ 8:=Int.lt_of_lt_of_le hV1 (by rw[← e2];exact pq (by decide) (by omega));rw[Int.emod_eq_of_lt hV0 hV2]
 have e3:(V/qq ^ (k/8)+c*256 ^ (k%8)-V/qq ^ (k/8))*qq ^ (k/8)=c*256 ^ k:=by
  rw[hp,Int.mul_comm (qq ^ (k/8)),← Int.mul_assoc];congr 1;omega
 rw[e3]
 have dE:V+c*256 ^ k<qq ^ 8:=by
  have h1:c*256 ^ k≤255*256 ^ k:=Int.mul_le_mul_of_nonneg_right (by omega) (Int.le_of_lt (Int.pow_pos (by decide)));have h2:(256:Int) ^ (k+1)≤256 ^ 64:=pq (by decide) (by omega);rw[Int.pow_succ]at h2;rw[← e2];omega
 exact(Int.emod_eq_of_lt (Int.add_nonneg hV0 (Int.mul_nonneg hc.1 (Int.le_of_lt (Int.pow_pos (by decide))))) dE).symm
theorem JP{w:List Int}(h:eu qq w)(hl:w.length=8){k:Nat}(hk:k<64):IntKind.u8.wrap (shr .u64 (w.getD (k/8) 0) ((k%8*8:Nat):Int))=vd qq w/256 ^ k%256:=by
 rw[o9 .u64 _ _ (by simp[IntKind.bits];omega),mV,wrap_u8];have h':eu (256 ^ 8) w:=by rw[← u6];exact h
 have:=s6 (b:=256) (by decide) (by decide:0<8) h' (k:=k) (by omega);rw[this,← u6]
def iZ(w:List Int)(i:Int):Int:=vd qq w/2 ^ i.toNat%2
theorem F4{w:List Int}(h:eu qq w)(hl:w.length=8){k:Nat}(hk:k<512):bl .u64 (shr .u64 (w.getD (k/64) 0) ((k%64:Nat):Int)) 1=iZ w (k:Int):=by
 rw[o9 .u64 _ _ (by simp[IntKind.bits];omega),CI (m:=1) (by decide) _ 1 (by decide)];have h':eu (2 ^ 64) w:=by rw[← ZQ];exact h
 have:=s6 (b:=2) (by decide) (by decide:0<64) h' (k:=k) (by omega);unfold iZ;rw[Int.toNat_natCast,ZQ,← this];simp
structure Part (k:Nat) (w o:List Int):Prop where
 len:o.length=8
 RL:eu qq o
 rest:∀j,k≤j→o.getD j 0=w.getD j 0
theorem Part.step{k:Nat}{w o:List Int}(h:Part k w o){z:Int}(hk:k<8)(hz:0≤z∧z<qq):Part (k+1) w (o.set k z)∧vd qq ((o.set k z).take (k+1))=vd qq (o.take k)+z*qq ^ k:=by
 obtain⟨h1,h2,h3⟩:=h;have hg:(o.set k z).getD k 0=z:=by rw[List.getD_eq_getElem?_getD];simp[show k<o.length by omega]
 refine⟨⟨by rw[List.length_set,h1],h2.set hz,fun j hj=>?_⟩,?_⟩
 ·rw[← h3 j (by omega),List.getD_eq_getElem?_getD,List.getD_eq_getElem?_getD,List.getElem?_set_ne (by omega)]
 ·rw[dz (by rw[List.length_set];omega),hg,List.take_set_of_le (Nat.le_refl _)]
def dL(w x:List Int):List Int×Int:=(dg qq 8 (vd qq w-vd qq x),if vd qq w<vd qq x then 1 else 0)
def iE(w x:List Int):List Int:=dg qq 8 (vd qq w+vd qq x)
def s7(sb:Int→Int→Int→Int×Int)(x:List Int)(k:Nat)(o:List Int×Int):List Int×Int:=(o.1.set k (sb (o.1.getD k 0) (x.getD k 0) o.2).1,(sb (o.1.getD k 0) (x.getD k 0) o.2).2)
def Dp(w x:List Int)(k:Nat)(o:List Int×Int):Prop:=Part k w o.1∧(o.2=0∨o.2=1)∧vd qq (o.1.take k)=vd qq (w.take k)-vd qq (x.take k)+o.2*qq ^ k
theorem s8{w x:List Int}(hw:eu qq w)(hx:eu qq x)(lw:w.length=8)(lx:x.length=8){k:Nat}{o:List Int×Int}(hk:k<8)(h:Dp w x k o):Dp w x (k+1) (s7 iA x k o):=by
 obtain⟨hp,hc,hv⟩:=h;obtain⟨o,c⟩:=o;simp only at hp hc hv;have h1:=eu.getD bw hp.RL k;have h2:=eu.getD bw hx k;have e:=F3 (x:=o.getD k 0) (y:=x.getD k 0) (c:=c) h1 h2 hc;have cG:=hp.rest k (Nat.le_refl _);unfold s7;rw[e];have hz:0≤(o.getD k 0-x.getD k 0-c)%18446744073709551616∧(o.getD k 0-x.getD k 0-c)%18446744073709551616<qq:=⟨Int.emod_nonneg _ (by decide),Int.emod_lt_of_pos _ (by decide)⟩;obtain⟨p1,p2⟩:=hp.step hk hz;refine⟨p1,by simp only;split<;>simp,?_⟩;simp only;rw[p2,hv,dz (by omega),dz (by omega),cG,Int.pow_succ,Int.mul_comm (qq ^ k) qq,← Int.mul_assoc];rw[cG]at h1;generalize w.getD k 0=a at*;generalize x.getD k 0=b at*
 have key:c+(a-b-c)%18446744073709551616=a-b+(if a<b+c then(1:Int)else 0)*qq:=by
  unfold qq at*
  split<;>omega
 have e2:c*qq ^ k+(a-b-c)%18446744073709551616*qq ^ k=(a-b+(if a<b+c then(1:Int)else 0)*qq)*qq ^ k:=by rw[← key,Int.add_mul]
 rw[Int.add_mul,Int.sub_mul]at e2;omega
theorem JQ{w x:List Int}(hw:eu qq w)(hx:eu qq x)(lw:w.length=8)(lx:x.length=8):upto (s7 iA x) 0 8 (w,0)=dL w x:=by
 have h:=mr (f:=s7 iA x) (Dp w x) (n:=8) (fun k o hk h=>s8 hw hx lw lx hk h) 8 0 (w,0) (by omega) ⟨⟨lw,hw,fun _ _=>rfl⟩,.inl rfl,by simp[vd]⟩;generalize upto (s7 iA x) 0 8 (w,0)=o at*;obtain⟨o,c⟩:=o;obtain⟨hp,hc,hv⟩:=h;simp only at hp hc hv;simp only[Nat.zero_add]at hp hv;rw[List.take_of_length_le (by rw[hp.len];decide),List.take_of_length_le (by omega),List.take_of_length_le (by omega)]at hv;have b1:=dy bw hp.RL;have b2:=mS bw hp.RL;have b3:=dy bw hw;have b4:=mS bw hw;have b5:=dy bw hx;have b6:=mS bw hx;rw[hp.len]at b2;rw[lw]at b4;rw[lx]at b6;unfold dL;refine Prod.ext (yx bw hp.RL hp.len ?_) ?_
 ·rw[hv];have:vd qq w-vd qq x+c*qq ^ 8=vd qq w-vd qq x+qq ^ 8*c:=by rw[Int.mul_comm]
  have e:vd qq o=vd qq o%qq ^ 8:=(Int.emod_eq_of_lt b1 b2).symm;rw[hv,this,Int.add_mul_emod_self_left]at e;rw[this];exact e
 ·simp only;rcases hc with rfl|rfl
  ·rw[if_neg (by omega)]
  ·rw[if_pos (by omega)]
def s9(ad:Int→Int→Int→Int×Int)(x:List Int)(k:Nat)(o:List Int×Int):List Int×Int:=(o.1.set k (ad (o.1.getD k 0) (x.getD k 0) o.2).1,(ad (o.1.getD k 0) (x.getD k 0) o.2).2)
def O7(w x:List Int)(k:Nat)(o:List Int×Int):Prop:=Part k w o.1∧(o.2=0∨o.2=1)∧vd qq (o.1.take k)+o.2*qq ^ k=vd qq (w.take k)+vd qq (x.take k)
theorem yy{w x:List Int}(hw:eu qq w)(hx:eu qq x)(lw:w.length=8)(lx:x.length=8){k:Nat}{o:List Int×Int}(hk:k<8)(h:O7 w x k o):O7 w x (k+1) (s9 cr x k o):=by
 obtain⟨hp,hc,hv⟩:=h;obtain⟨o,c⟩:=o;simp only at hp hc hv;have h1:=eu.getD bw hp.RL k;have h2:=eu.getD bw hx k;have e:=sU (x:=o.getD k 0) (y:=x.getD k 0) (c:=c) h1.1 h2.1 (by omega);have cG:=hp.rest k (Nat.le_refl _);unfold s9;rw[e];have hz:0≤(o.getD k 0+x.getD k 0+c)%18446744073709551616∧(o.getD k 0+x.getD k 0+c)%18446744073709551616<qq:=⟨Int.emod_nonneg _ (by decide),Int.emod_lt_of_pos _ (by decide)⟩;obtain⟨p1,p2⟩:=hp.step hk hz;refine⟨p1,by simp only;unfold qq at h1 h2;omega,?_⟩;simp only;rw[p2,dz (by omega),dz (by omega),cG,Int.pow_succ,Int.mul_comm (qq ^ k) qq,← Int.mul_assoc];rw[cG]at h1;generalize w.getD k 0=a at*;generalize x.getD k 0=b at*
 have key:(a+b+c)%18446744073709551616+(a+b+c)/18446744073709551616*qq=a+b+c:=by
  unfold qq at*;omega
 have e2:(a+b+c)%18446744073709551616*qq ^ k+(a+b+c)/18446744073709551616*qq*qq ^ k=(a+b+c)*qq ^ k:=by rw[← Int.add_mul,key]
 rw[Int.add_mul (a+b),Int.add_mul a]at e2;omega
theorem O8{w x:List Int}(hw:eu qq w)(hx:eu qq x)(lw:w.length=8)(lx:x.length=8):(upto (s9 cr x) 0 8 (w,0)).1=iE w x:=by
 have h:=mr (f:=s9 cr x) (O7 w x) (n:=8) (fun k o hk h=>yy hw hx lw lx hk h) 8 0 (w,0) (by omega) ⟨⟨lw,hw,fun _ _=>rfl⟩,.inl rfl,by simp[vd]⟩;generalize upto (s9 cr x) 0 8 (w,0)=o at*;obtain⟨o,c⟩:=o;obtain⟨hp,hc,hv⟩:=h;simp only at hp hc hv;simp only[Nat.zero_add]at hp hv;rw[List.take_of_length_le (by rw[hp.len];decide),List.take_of_length_le (by omega),List.take_of_length_le (by omega)]at hv;have b1:=dy bw hp.RL;have b2:=mS bw hp.RL;rw[hp.len]at b2;unfold iE;refine yx bw hp.RL hp.len ?_;rw[← hv,Int.mul_comm,Int.add_mul_emod_self_left,Int.emod_eq_of_lt b1 b2]
def cO:List Int:= [6346243789798364141,1503914060200516822,0,1152921504606846976,0,0,0,0]
def ll:Int:=7237005577332262213973186563042994240857116359379907606001950938285454250989
theorem ke:0<ll:=by decide
theorem ta:vd qq cO=ll:=by decide+kernel
theorem yz:cO.length=8∧eu qq cO:=⟨rfl,by unfold eu cO;decide⟩
def gZ(r:List Int)(b:Int):List Int:=r.set 0 (bf .u64 (r.getD 0 0) b)
def Bh(and:List Int→List Int→List Int)(less:List Int→List Int→List Int×Int)(bit:List Int→Int→Int)(o w:List Int)(k:Nat)(r:List Int):List Int:=
 bif (less (gZ (and r r) (bit w (511-(k:Int)))) o).2==0 then(less (gZ (and r r) (bit w (511-(k:Int)))) o).1 else gZ (and r r) (bit w (511-(k:Int)))
theorem O9(w:List Int)(i:Int):0≤iZ w i∧iZ w i<2:=by unfold iZ;omega
theorem ZS:(2:Int) ^ 254≤qq ^ 8:=by decide+kernel
theorem yA:ll+ll<2 ^ 254:=by decide+kernel
theorem Dq{R b:Int}(hR:0≤R∧R<ll)(hb:0≤b∧b<2):gZ (dg qq 8 (R+R)) b=dg qq 8 (2*R+b):=by
 have h1:2*R+b<qq ^ 8:=Int.lt_of_lt_of_le (by have:=yA;omega) ZS;have h2:R+R<qq ^ 8:=Int.lt_of_lt_of_le (by have:=yA;omega) ZS;have hg:(dg qq 8 (R+R)).getD 0 0=(R+R)%qq:=by rw[mU bw (by decide)];simp
 have hm:0≤(R+R)%qq:=Int.emod_nonneg (R+R) (show qq≠0 by decide);have hl:(R+R)%qq<18446744073709551616:=Int.emod_lt_of_pos (R+R) bw
 have hev:(R+R)%qq%2=0:=by
  show(R+R)%18446744073709551616%2=0;omega
 have hv:vd qq (dg qq 8 (R+R))=R+R:=by rw[mT bw,Int.emod_eq_of_lt (by omega) h2]
 unfold gZ;rw[hg];generalize (R+R)%qq=M at*;rw[tT (m:=1) hm (by simpa using hev) hb.1 (by simpa using hb.2) (by omega)];refine yx bw ((mR bw 8 _).set ⟨by omega,(by omega:M+b<18446744073709551616)⟩) (by rw[List.length_set,bY]) ?_;rw[Bg (by rw[bY];decide),hg,hv,Int.emod_eq_of_lt (by omega) h1,Int.pow_zero,Int.mul_one];omega
theorem JR{V:Int}{w:List Int}(hw:vd qq w=V){k:Nat}(hk:k<512):Bh iE dL iZ cO w k (dg qq 8 (V/2 ^ (512-k)%ll))=dg qq 8 (V/2 ^ (512-(k+1))%ll):=by
 have hlq:∀ {x:Int},x<ll+ll→x<qq ^ 8:=fun h=>Int.lt_of_lt_of_le (Int.lt_trans h yA) ZS;have e0:=F2 V (512-(k+1));rw[show 512-(k+1)+1=512-k from by omega]at e0
 have eb:iZ w (511-(k:Int))=V/2 ^ (512-(k+1))%2:=by
  unfold iZ;rw[hw,show(511-(k:Int)).toNat=512-(k+1)from by omega]
 have hb:0≤V/2 ^ (512-(k+1))%2∧V/2 ^ (512-(k+1))%2<2:=by omega
 have hR:0≤V/2 ^ (512-k)%ll∧V/2 ^ (512-k)%ll<ll:=⟨Int.emod_nonneg _ (by have:=ke;omega),Int.emod_lt_of_pos _ ke⟩
 have em:(V/2 ^ (512-(k+1)))%ll=(2*(V/2 ^ (512-k)%ll)+V/2 ^ (512-(k+1))%2)%ll:=by
  conv=>lhs;rw[e0]
  exact O5 _ _ _
 rw[em,JO ke hR hb]
 have es:iE (dg qq 8 (V/2 ^ (512-k)%ll)) (dg qq 8 (V/2 ^ (512-k)%ll))=dg qq 8 (V/2 ^ (512-k)%ll+V/2 ^ (512-k)%ll):=by
  unfold iE;rw[mT bw,Int.emod_eq_of_lt hR.1 (hlq (by omega))]
 unfold Bh;rw[eb,es,Dq hR hb];generalize V/2 ^ (512-k)%ll=R at*;generalize V/2 ^ (512-(k+1))%2=b at*
 have el:dL (dg qq 8 (2*R+b)) cO=(dg qq 8 (2*R+b-ll),if 2*R+b<ll then 1 else 0):=by
  unfold dL;rw[ta,mT bw,Int.emod_eq_of_lt (by omega) (hlq (by omega))]
 rw[el]
 by_cases h:2*R+b<ll
 ·rw[if_pos h,if_pos h];rfl
 ·rw[if_neg h,if_neg h];rfl
def yB(w:List Int):List Int:=dg 256 32 (vd qq w%ll)
theorem JS(b:List Int):(pr b).length=8∧eu qq (pr b):=⟨bY _ _,mR bw _ _⟩
theorem Dr{b:List Int}(hb:aA b)(hl:b.length≤64):vd qq (pr b)=vd 256 b:=by
 unfold pr;have h1:=dy (by decide) (show eu 256 b from hb);have h2:=mS (by decide) (show eu 256 b from hb);have e:(256:Int) ^ 64=qq ^ 8:=by decide+kernel
 have h3:(256:Int) ^ b.length≤256 ^ 64:=pq (by decide) hl;rw[mT bw,Int.emod_eq_of_lt h1 (by rw[← e];omega)]
end Go.Proofs.YtmhcoaflmgajhaaGreat
end
