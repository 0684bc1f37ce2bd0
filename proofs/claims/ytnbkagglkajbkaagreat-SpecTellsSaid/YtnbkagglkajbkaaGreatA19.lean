/- What the laws lean on, part 19: a reader of code, plain facts, and what each function gives; no conditions. -/
import Derived.Test.YtnbkagglkajbkaaGreatA18
set_option linter.unusedVariables false
set_option linter.unusedSimpArgs false
noncomputable section
namespace Go.Proofs.YtnbkagglkajbkaaGreat
open Go Go.Ev BJ Go.Proofs.Tryz
open Go.IntKind (i64 signed u16 u64 wrap)
set_option maxRecDepth 1000000
abbrev rPn:aM (List SV) Pn:=qH .i64 (qH .i64 (qH .i64 (ju .i64 16) 16) 16) 16
abbrev zp:aM LV Pn:=zh rPn
abbrev pnA:aM (List LV) (Pn×Unit):=ae zp ag
abbrev axU:aM (List LV) (Pn×Pn×Unit):=ae zp (ae zp ag)
abbrev PJ(r:Pn×Bool):LV:=.cj [.agg (rPn.wr r.1),.sc (.bool (.sym r.2))]
def e0P(c:Pn):an:=an.cl [] ag ag fun _ _=>.leaf none (zp.wr c) []
def aCL(g:Pn→Pn):an:=an.cl [] pnA ag fun x _=>.leaf none (zp.wr (g x.1)) []
def aCM(g:Pn→Pn→Pn):an:=an.cl [] axU ag fun x _=>.leaf none (zp.wr (g x.1 x.2.1)) []
def UT(g:Pn→Pn→Fn→Pn):an:=an.cl [] (ae zp (ae zp (ae tP ag))) ag fun x _=>.leaf none (zp.wr (g x.1 x.2.1 x.2.2.1)) []
def UU(g:Fn→Fn→Pn):an:=an.cl [] sB ag fun x _=>.leaf none (zp.wr (g x.1 x.2.1)) []
def eNE(g:Pn→List Int):an:=an.cl [] pnA ag fun x _=>.leaf none (dO .u8 32 (g x.1)) []
def eND(g:List Int→Pn×Bool):an:=an.cl [] kL ag fun x _=>.leaf (some (x.1.length=32)) (PJ (g x.1)) []
theorem Gk{u x:Pn}(h:x=u):(Ev.End.leaf (zp.wr u) []).sat fun v dB=>v=zp.wr x∧dB= []:=by subst h;exact⟨rfl,rfl⟩
theorem axW{u x:Fn×Bool}(h:x=u):(Ev.End.leaf (D3 u) []).sat fun v dB=>v=D3 x∧dB= []:=by subst h;exact⟨rfl,rfl⟩
theorem amr:dx=a8 (fc (bt 121665)) (c6 (bt 121666)):=by unfold dx;rfl
abbrev axX:an:=UJ dx
theorem UW(mul:Fn→Fn→Fn)(neg inv:Fn→Fn)(sm:Int→Fn):aG Tryz.prog [(216,lq mul),(284,oY neg),(214,oY inv),(223,Ge sm)] [] f219 ((ag).wr ()) [] kK= .leaf (tP.wr (mul (neg (sm 121665)) (inv (sm 121666)))) []:=by kernel_rfl
theorem UX:∀p_∈([(216,lq a8),(284,oY fc),(214,oY c6),(223,Ge bt)]:List (FuncId×an)),p_.2.Ok Tryz.prog p_.1:=(aj j5 (aj AA (aj AB (aj jX ax))))
theorem D7:axX.Ok Tryz.prog 219:=by
 refine(an.aN call219 fun x_ y_ Q H_=>?_).sym;have hq:=H_.2;refine(ar (tab:= [(216,lq a8),(284,oY fc),(214,oY c6),(223,Ge bt)]) mixed UX func219 rfl (LT:= []) (ks:=kK) (aH.nil _)).use (D:= []) ?_ hq;show(aG _ _ _ _ ((ag).wr ()) [] _).sat _;rw[UW a8 fc c6 bt];exact D5 amr
theorem ams:gA=(cw,bt 1,bt 1,cw):=by unfold gA TL;rfl
abbrev axY:an:=e0P gA
theorem UY(sm:Int→Fn):aG Tryz.prog [(223,Ge sm)] [] f220 ((ag).wr ()) [] kK= .leaf (zp.wr (cw,sm 1,sm 1,cw)) []:=by kernel_rfl
theorem UZ:∀p_∈([(223,Ge bt)]:List (FuncId×an)),p_.2.Ok Tryz.prog p_.1:=(aj jX ax)
theorem Pg:axY.Ok Tryz.prog 220:=by
 refine(an.aN call220 fun x_ y_ Q H_=>?_).sym;have hq:=H_.2;refine(ar (tab:= [(223,Ge bt)]) mixed UZ func220 rfl (LT:= []) (ks:=kK) (aH.nil _)).use (D:= []) ?_ hq;show(aG _ _ _ _ ((ag).wr ()) [] _).sat _;rw[UY bt];exact Gk ams
theorem axZ(x y:Fn):qT x y=(x,y,bt 1,a8 x y):=by unfold qT awM;rfl
abbrev aGw:an:=UU qT
theorem amt(mul:Fn→Fn→Fn)(sm:Int→Fn)(x y:Fn):aG Tryz.prog [(216,lq mul),(223,Ge sm)] [] f225 ((sB).wr (x,y,())) [] kK= .leaf (zp.wr (x,y,sm 1,mul x y)) []:=by kernel_rfl
theorem amu:∀p_∈([(216,lq a8),(223,Ge bt)]:List (FuncId×an)),p_.2.Ok Tryz.prog p_.1:=(aj j5 (aj jX ax))
theorem amv:aGw.Ok Tryz.prog 225:=by
 refine(an.aN call225 fun x_ y_ Q H_=>?_).sym;obtain⟨x,y,_⟩:=x_;have hq:=H_.2;refine(ar (tab:= [(216,lq a8),(223,Ge bt)]) mixed amu func225 rfl (LT:= []) (ks:=kK) (aH.nil _)).use (D:= []) ?_ hq;show(aG _ _ _ _ ((sB).wr (x,y,())) [] _).sat _;rw[amt a8 bt];exact Gk (axZ x y)
theorem arI(y:Fn):jl y=j4 (ji (a8 y y) (bt 1)) (fW (a8 dx (a8 y y)) (bt 1)):=by unfold jl ajM;rfl
abbrev aCN:an:=D4 jl
theorem adh(mul add sub:Fn→Fn→Fn)(sm:Int→Fn)(ratio:Fn→Fn→Fn×Bool)(ed:Fn)(y:Fn):aG Tryz.prog [(216,lq mul),(218,lq add),(285,lq sub),(223,Ge sm),(286,art ratio),(219,UJ ed)] [] f224 ((KG).wr (y,())) [] kK= .leaf (D3 (ratio (sub (mul y y) (sm 1)) (add (mul ed (mul y y)) (sm 1)))) []:=by kernel_rfl
theorem adi:∀p_∈([(216,lq a8),(218,lq fW),(285,lq ji),(223,Ge bt),(286,art j4),(219,UJ dx)]:List (FuncId×an)),p_.2.Ok Tryz.prog p_.1:=(aj j5 (aj Az (aj Km (aj jX (aj adg (aj D7 ax))))))
theorem YL:aCN.Ok Tryz.prog 224:=by
 refine(an.aN call224 fun x_ y_ Q H_=>?_).sym;obtain⟨y,_⟩:=x_;have hq:=H_.2;refine(ar (tab:= [(216,lq a8),(218,lq fW),(285,lq ji),(223,Ge bt),(286,art j4),(219,UJ dx)]) mixed adi func224 rfl (LT:= []) (ks:=kK) (aH.nil _)).use (D:= []) ?_ hq;show(aG _ _ _ _ ((KG).wr (y,())) [] _).sat _;rw[adh a8 fW ji bt j4 dx];exact axW (arI y)
theorem amw:mW=qT (jl (a8 (bt 4) (c6 (bt 5)))).1 (a8 (bt 4) (c6 (bt 5))):=by unfold mW Jq;rfl
abbrev ax0:an:=e0P mW
theorem U0(mul:Fn→Fn→Fn)(inv:Fn→Fn)(sm:Int→Fn)(xo:Fn→Fn×Bool)(of:Fn→Fn→Pn):aG Tryz.prog [(216,lq mul),(214,oY inv),(223,Ge sm),(224,D4 xo),(225,UU of)] [] f152 ((ag).wr ()) [] kK= .leaf (zp.wr (of (xo (mul (sm 4) (inv (sm 5)))).1 (mul (sm 4) (inv (sm 5))))) []:=by kernel_rfl
theorem U1:∀p_∈([(216,lq a8),(214,oY c6),(223,Ge bt),(224,D4 jl),(225,UU qT)]:List (FuncId×an)),p_.2.Ok Tryz.prog p_.1:=(aj j5 (aj AB (aj jX (aj YL (aj amv ax)))))
theorem amx:ax0.Ok Tryz.prog 152:=by
 refine(an.aN call152 fun x_ y_ Q H_=>?_).sym;have hq:=H_.2;refine(ar (tab:= [(216,lq a8),(214,oY c6),(223,Ge bt),(224,D4 jl),(225,UU qT)]) mixed U1 func152 rfl (LT:= []) (ks:=kK) (aH.nil _)).use (D:= []) ?_ hq;show(aG _ _ _ _ ((ag).wr ()) [] _).sat _;rw[U0 a8 c6 bt jl qT];exact Gk amw
theorem adj(p q:Pn)(d:Fn):cM p q d=Ak a8 fW ji p q d:=by unfold cM;rfl
abbrev arJ:an:=UT cM
theorem Ph(mul add sub:Fn→Fn→Fn)(p q:Pn)(d:Fn):aG Tryz.prog [(216,lq mul),(218,lq add),(285,lq sub)] [] f221 (((ae zp (ae zp (ae tP ag)))).wr (p,q,d,())) [] kK= .leaf (zp.wr (Ak mul add sub p q d)) []:=by kernel_rfl
theorem Pj:∀p_∈([(216,lq a8),(218,lq fW),(285,lq ji)]:List (FuncId×an)),p_.2.Ok Tryz.prog p_.1:=(aj j5 (aj Az (aj Km ax)))
theorem yC:arJ.Ok Tryz.prog 221:=by
 refine(an.aN call221 fun x_ y_ Q H_=>?_).sym;obtain⟨p,q,d,_⟩:=x_;have hq:=H_.2;refine(ar (tab:= [(216,lq a8),(218,lq fW),(285,lq ji)]) mixed Pj func221 rfl (LT:= []) (ks:=kK) (aH.nil _)).use (D:= []) ?_ hq;show(aG _ _ _ _ (((ae zp (ae zp (ae tP ag)))).wr (p,q,d,())) [] _).sat _;rw[Ph a8 fW ji];exact Gk (adj p q d)
theorem amy(p q:Pn):mX p q=cM p q (fW dx dx):=by unfold mX;rfl
abbrev ax1:an:=aCM mX
theorem U2(p3:Pn→Pn→Fn→Pn)(add:Fn→Fn→Fn)(ed:Fn)(p q:Pn):aG Tryz.prog [(221,UT p3),(218,lq add),(219,UJ ed)] [] f245 ((axU).wr (p,q,())) [] kK= .leaf (zp.wr (p3 p q (add ed ed))) []:=by kernel_rfl
theorem U3:∀p_∈([(221,UT cM),(218,lq fW),(219,UJ dx)]:List (FuncId×an)),p_.2.Ok Tryz.prog p_.1:=(aj yC (aj Az (aj D7 ax)))
theorem amz:ax1.Ok Tryz.prog 245:=by
 refine(an.aN call245 fun x_ y_ Q H_=>?_).sym;obtain⟨p,q,_⟩:=x_;have hq:=H_.2;refine(ar (tab:= [(221,UT cM),(218,lq fW),(219,UJ dx)]) mixed U3 func245 rfl (LT:= []) (ks:=kK) (aH.nil _)).use (D:= []) ?_ hq;show(aG _ _ _ _ ((axU).wr (p,q,())) [] _).sat _;rw[U2 cM fW dx];exact Gk (amy p q)
theorem amA(p:Pn):mY p=(fc p.1,p.2.1,p.2.2.1,fc p.2.2.2):=by unfold mY;rfl
abbrev ax2:an:=aCL mY
theorem U4(neg:Fn→Fn)(p:Pn):aG Tryz.prog [(284,oY neg)] [] f246 ((pnA).wr (p,())) [] kK= .leaf (zp.wr (neg p.1,p.2.1,p.2.2.1,neg p.2.2.2)) []:=by kernel_rfl
theorem U6:∀p_∈([(284,oY fc)]:List (FuncId×an)),p_.2.Ok Tryz.prog p_.1:=(aj AA ax)
theorem amB:ax2.Ok Tryz.prog 246:=by
 refine(an.aN call246 fun x_ y_ Q H_=>?_).sym;obtain⟨p,_⟩:=x_;have hq:=H_.2;refine(ar (tab:= [(284,oY fc)]) mixed U6 func246 rfl (LT:= []) (ks:=kK) (aH.nil _)).use (D:= []) ?_ hq;show(aG _ _ _ _ ((pnA).wr (p,())) [] _).sat _;rw[U4 fc];exact Gk (amA p)
def jq(p:Pn):List Int:=(wK p).toList
theorem D8(p:Pn):jq p=bif sx (a8 p.1 (c6 p.2.2.1))then(im (a8 p.2.1 (c6 p.2.2.1))).set 31 (IntKind.u8.wrap ((im (a8 p.2.1 (c6 p.2.2.1))).getD 31 0+128))else im (a8 p.2.1 (c6 p.2.2.1)):=by
 unfold jq wK yc im;simp only[bG];generalize oK (a8 p.2.1 (c6 p.2.2.1))=v
 cases sx (a8 p.1 (c6 p.2.2.1))
 ·rfl
 ·exact Yb v
abbrev amC:an:=eNE jq
theorem Kp(mul:Fn→Fn→Fn)(inv:Fn→Fn)(Yc:Fn→List Int)(su:Fn→Bool)(p:Pn):aG Tryz.prog [(216,lq mul),(214,oY inv),(215,eNY Yc),(217,UK su)] [] f150 ((pnA).wr (p,())) [] kK= .ite (su (mul p.1 (inv p.2.2.1))) (.leaf (dO .u8 32 ((Yc (mul p.2.1 (inv p.2.2.1))).set 31 (IntKind.u8.wrap ((Yc (mul p.2.1 (inv p.2.2.1))).getD 31 0+128)))) []) (.leaf (dO .u8 32 (Yc (mul p.2.1 (inv p.2.2.1)))) []):=by kernel_rfl
theorem Kq:∀p_∈([(216,lq a8),(214,oY c6),(215,eNY im),(217,UK sx)]:List (FuncId×an)),p_.2.Ok Tryz.prog p_.1:=(aj j5 (aj AB (aj Gi (aj YJ ax))))
theorem U7:amC.Ok Tryz.prog 150:=by
 refine(an.aN call150 fun x_ y_ Q H_=>?_).sym;obtain⟨p,_⟩:=x_;have hq:=H_.2;refine(ar (tab:= [(216,lq a8),(214,oY c6),(215,eNY im),(217,UK sx)]) mixed Kq func150 rfl (LT:= []) (ks:=kK) (aH.nil _)).use (D:= []) ?_ hq;show(aG _ _ _ _ ((pnA).wr (p,())) [] _).sat _;rw[Kp a8 c6 im sx];exact JQ (fun h=>by rw[D8,h];rfl) (fun h=>by rw[D8,h];rfl)
def gC(b:List Int):Pn×Bool:=qU (kP b)
theorem adk(neg:Fn→Fn)(ku:cR→Fn)(canon:cR→Bool)(z:Pn)(of:Fn→Fn→Pn)(xo:Fn→Fn×Bool)(b:cR):
  rR neg ku canon z of xo b=bif canon b then(bif (xo (ku b)).2 then(bif decide (127<b.get 31)then(bif m7 (xo (ku b)).1 cw then(z,false)else(of (neg (xo (ku b)).1) (ku b),true))else(of (xo (ku b)).1 (ku b),true))else(z,false))else(z,false):=by
 unfold rR;simp only[bG,Dn,gt_iff_lt];generalize xo (ku b)=r;generalize ku b=y;generalize decide (127<b.get 31)=t;obtain⟨x,ok⟩:=r;simp only
 cases canon b<;>cases ok<;>cases t<;>cases m7 x cw<;>rfl
theorem U8(b:List Int):gC b=bif iL b then(bif (jl (gU b)).2 then(bif decide (127<b.getD 31 0)then(bif m7 (jl (gU b)).1 cw then(gA,false)else(qT (fc (jl (gU b)).1) (gU b),true))else(qT (jl (gU b)).1 (gU b),true))else(gA,false))else(gA,false):=by
 unfold gC qU;rw[adk,Ap b (show 31<32 by decide)];rfl
theorem amD{p:Prop}{canon ok su KF:Bool}{Z P Q:Pn}(hp:p){r:Pn×Bool}(hr:r=bif canon then(bif ok then(bif su then(bif KF then(Z,false)else(P,true))else(Q,true))else(Z,false))else(Z,false)):
  (Ev.End.need p (.ite (!canon) (.leaf (PJ (Z,false)) []) (.ite ((!ok)==false) (.ite (KF==true) (.ite su (.leaf (PJ (Z,false)) []) (.ite su (.leaf (PJ (P,true)) []) (.leaf (PJ (Q,true)) []))) (.ite su (.leaf (PJ (P,true)) []) (.leaf (PJ (Q,true)) []))) (.leaf (PJ (Z,false)) [])))).sat fun v dB=>v=PJ r∧dB= []:=by
 subst hr;refine⟨hp,?_⟩
 cases canon
 ·exact⟨fun _=>⟨rfl,rfl⟩,fun h=>(by cases h)⟩
 ·refine⟨fun h=>(by cases h),fun _=>?_⟩
  cases ok
  ·exact⟨fun h=>(by cases h),fun _=>⟨rfl,rfl⟩⟩
  ·refine⟨fun _=>?_,fun h=>(by cases h)⟩
   cases KF
   ·refine⟨fun h=>(by cases h),fun _=>?_⟩
    cases su
    ·exact⟨fun h=>(by cases h),fun _=>⟨rfl,rfl⟩⟩
    ·exact⟨fun _=>⟨rfl,rfl⟩,fun h=>(by cases h)⟩
   ·refine⟨fun _=>?_,fun h=>(by cases h)⟩
    cases su
    ·exact⟨fun h=>(by cases h),fun _=>⟨fun h=>(by cases h),fun _=>⟨rfl,rfl⟩⟩⟩
    ·exact⟨fun _=>⟨rfl,rfl⟩,fun h=>(by cases h)⟩
abbrev amE:an:=eND gC
theorem Kr(canon:List Int→Bool)(z:Pn)(ku:List Int→Fn)(xo:Fn→Fn×Bool)(neg:Fn→Fn)(of:Fn→Fn→Pn)(b:List Int):aG Tryz.prog [(299,eNC canon),(220,e0P z),(300,eNF ku),(224,D4 xo),(284,oY neg),(225,UU of)] [] f243 ((kL).wr (b,())) [] kK= .need (b.length=32) (.ite (!(canon b)) (.leaf (PJ (z,false)) []) (.ite ((!(xo (ku b)).2)==false) (.ite (m7 (xo (ku b)).1 cw==true) (.ite (decide (127<b.getD 31 0)) (.leaf (PJ (z,false)) []) (.ite (decide (127<b.getD 31 0)) (.leaf (PJ (of (neg (xo (ku b)).1) (ku b),true)) []) (.leaf (PJ (of (xo (ku b)).1 (ku b),true)) []))) (.ite (decide (127<b.getD 31 0)) (.leaf (PJ (of (neg (xo (ku b)).1) (ku b),true)) []) (.leaf (PJ (of (xo (ku b)).1 (ku b),true)) []))) (.leaf (PJ (z,false)) []))):=by kernel_rfl
theorem Ks:∀p_∈([(299,eNC iL),(220,e0P gA),(300,eNF gU),(224,D4 jl),(284,oY fc),(225,UU qT)]:List (FuncId×an)),p_.2.Ok Tryz.prog p_.1:=(aj acU (aj Pg (aj O1 (aj YL (aj AA (aj amv ax))))))
theorem U9:amE.Ok Tryz.prog 243:=by
 refine(an.aN call243 fun x_ y_ Q H_=>?_).sym;obtain⟨b,_⟩:=x_;obtain⟨hn,hq⟩:=H_;have hn:b.length=32:=hn;refine(ar (tab:= [(299,eNC iL),(220,e0P gA),(300,eNF gU),(224,D4 jl),(284,oY fc),(225,UU qT)]) mixed Ks func243 rfl (LT:= []) (ks:=kK) (aH.nil _)).use (D:= []) ?_ hq;show(aG _ _ _ _ ((kL).wr (b,())) [] _).sat _;rw[Kr iL gA gU jl fc qT];exact amD hn (U8 b)
abbrev adl:Func:=f151
abbrev m9C:aM (List LV) (Int×Unit):=(jk 2 (ai (ah (aC 0 0)) (ai (ah (aC 1 0)) (ai (ah (aC 2 0)) (ai (ah (aC 3 0)) (ai (ah (aC 4 0)) (ae (ah (aA .i64)) (jk 21 ag))))))))
abbrev aCO:Wk:=.fr (cu 29 [(2,.al),(3,.al),(4,.al),(5,.al),(6,.al),(7,.sym)])
abbrev m9X:aM (List LV) (Unit):=(jk 4 (ai (ah (aC 0 0)) (jk 1 (ai (ah (aC 1 0)) (jk 22 ag)))))
abbrev iPn:aM (Option Ev.Item) Pn:=dH 222 rPn
abbrev m9H:aM Hp (List Int×Pn×Pn×Fn×Pn×Unit):=ae (gL 22 .u8 32) (ae iPn (ae iPn (ae iFn (ae iPn ag))))
abbrev ax4:aM Hp (Pn×Pn×Unit):=ae iPn (ae iPn ag)
abbrev YM(i:Nat):Wk:=.aW i (List.replicate 64 .sym)
def m9W:Exit→List Wk
 | .normal=> [aCO,YM 2,ac7 3,YM 4,.auto]
 | .exit 0=> [.fr (cu 29 [(4,.al),(6,.al)]),.auto]
 |_=> []
theorem ax5(bit:List Int→Int→Int)(p3:Pn→Pn→Fn→Pn)(n:List Int)(p z q:Pn)(d:Fn)(i:Int):cO Tryz.prog [(222,eBi bit),(221,UT p3)] [] adl 0 [] m9W ((aS m9C m9H).wr ((i,()),(n,p,z,d,q,())))=
 aK.ite (decide ((0:Int)≤i)) (aK.need (n.length=(32:Nat)∧(0:Int)≤i∧i<(256:Int)) (aK.ite (bit n i==(1:Int)) (aK.leaf Exit.normal ((aS m9C m9H).wr ((i64.wrap (i-(1:Int)),PUnit.unit),n,p,z,d,p3 (p3 q q d) p d,PUnit.unit)))
  (aK.leaf Exit.normal ((aS m9C m9H).wr ((i64.wrap (i-(1:Int)),PUnit.unit),n,p,z,d,p3 q q d,PUnit.unit))))) (aK.leaf (Exit.exit (0:Nat)) ((aS m9X ax4).wr (PUnit.unit,z,q,PUnit.unit))):=by kernel_rfl
def wZ(bit:List Int→Int→Int)(p3:Pn→Pn→Fn→Pn)(n:List Int)(p:Pn)(d:Fn)(k:Nat)(q:Pn):Pn:=bif bit n (255-(k:Int))==1 then p3 (p3 q q d) p d else p3 q q d
theorem amF:∀p∈([(222,eBi fg),(221,UT cM)]:List (FuncId×an)),p.2.Ok Tryz.prog p.1:=aj wY (aj yC ax)
abbrev m9T:Type:=(Int×Unit)×List Int×Pn×Pn×Fn×Pn×Unit
def aCP(w:List Int→Pn→Fn→Pn→Pn)(x:m9T):aK:=.need (x.1.1=255∧x.2.1.length=32) (.leaf (.exit 0) ((aS m9X ax4).wr ((),(x.2.2.2.1,w x.2.1 x.2.2.1 x.2.2.2.2.1 x.2.2.2.2.2.1,()))))
theorem Gl:∃f:List Int→Pn→Fn→Pn→Pn,∀ (n:List Int) (p:Pn) (d:Fn) (z:Pn),f n p d z=(gw (wZ fg cM n p d) 256 z):=⟨fun n p d z=>gw (wZ fg cM n p d) 256 z,fun _ _ _ _=>rfl⟩
def yD:List Int→Pn→Fn→Pn→Pn:=Classical.choose Gl
theorem Gm(n:List Int)(p:Pn)(d:Fn)(z:Pn):yD n p d z=(gw (wZ fg cM n p d) 256 z):=Classical.choose_spec Gl n p d z
theorem arK(x:m9T):Ex Tryz.prog [] (.loop (aO adl 0)) ((aS m9C m9H).wr x) (aCP yD x):=by
 obtain⟨⟨i,_⟩,n,p,z,d,q,_⟩:=x;refine Ex.need fun⟨h1,h2⟩=>?_;simp only at h1 h2;subst h1
 have key:=dN (fn:=adl) (id:=0) (j:=0) (ws:=m9W) (hp:= []) mixed amF (aH.nil _) 256 (fun k o=>(aS m9C m9H).wr ((255-(k:Int),()),(n,p,z,d,o,()))) (fun o=>(aS m9X ax4).wr ((),(z,o,()))) (wZ fg cM n p d) (fun _ _=>True)
  (fun k o R hk _ hn hx=>?_) (fun _ _ _ _=>trivial) 0 q (by omega) trivial
 ·rw[Nat.sub_zero,nP,← Gm]at key;exact key
 rw[ax5 fg cM];refine⟨fun hb=>?_,fun hb=>?_⟩
 ·have jz:k<256:=by have:=of_decide_eq_true hb;omega
  have ob:=hn jz;have e3:i64.wrap ((255-(k:Int))-1)=255-((k+1:Nat):Int):=by rw[ao (by omega) (by omega)];omega
  rw[e3];refine⟨⟨h2,by omega,by omega⟩,fun hc=>?_,fun hc=>?_⟩
  ·have:wZ fg cM n p d k o=cM (cM o o d) p d:=(by unfold wZ;rw[hc];rfl);rw[this]at ob;exact ob
  ·have:wZ fg cM n p d k o=cM o o d:=(by unfold wZ;rw[hc];rfl);rw[this]at ob;exact ob
 ·have:k=256:=by have:=of_decide_eq_false hb;omega
  exact hx this
abbrev arL:aM (List LV) (List Int×Pn×Unit):=ae cB (ae zp ag)
def eNM(g:List Int→Pn→Pn):an:=an.cl [] arL ag fun x _=>.leaf (some (x.1.length=32)) (zp.wr (g x.1 x.2.1)) []
abbrev ax6(w:List Int→Pn→Fn→Pn→Pn):dG:= [(0,dc (aS m9C m9H) 0 [aCO,.auto,YM 2,ac7 3,YM 4] (aCP w))]
abbrev auK(bit:List Int→Int→Int)(p3:Pn→Pn→Fn→Pn)(ed:Fn)(add:Fn→Fn→Fn)(z:Pn):List (FuncId×an):= [(222,eBi bit),(221,UT p3),(219,UJ ed),(218,lq add),(220,e0P z)]
theorem Va(w:List Int→Pn→Fn→Pn→Pn)(bit:List Int→Int→Int)(p3:Pn→Pn→Fn→Pn)(ed:Fn)(add:Fn→Fn→Fn)(z:Pn)(n:List Int)(p:Pn):aG Tryz.prog (auK bit p3 ed add z) (ax6 w) adl (arL.wr (n,p,())) [] kK=
  .need ((255:Int)=255∧n.length=32) (.leaf (zp.wr (w n p (add ed ed) z)) []):=by kernel_rfl
theorem Gn:∃f:List Int→Pn→Pn,∀ (n:List Int) (p:Pn),f n p=(DL (kP n) p):=⟨fun n p=>DL (kP n) p,fun _ _=>rfl⟩
def oZ:List Int→Pn→Pn:=Classical.choose Gn
theorem Gp(n:List Int)(p:Pn):oZ n p=(DL (kP n) p):=Classical.choose_spec Gn n p
abbrev ax7:an:=eNM oZ
theorem Vb(n:List Int)(p:Pn):yD n p (fW dx dx) gA=oZ n p:=by
 rw[Gm,Gp];unfold DL X3;refine oU (fun k hk r=>?_) _ 256 (Nat.le_refl _);unfold wZ r8 fg;rw[Dn]
theorem ax8:aH Tryz.prog [] (ax6 yD) (aF adl):=aH.bK (js rfl (bD (hp:= []) arK) jt)
theorem amG:ax7.Ok Tryz.prog 151:=by
 refine(an.aN call151 fun x_ y_ Q H_=>?_).sym;obtain⟨n,p,_⟩:=x_;obtain⟨hn,hq⟩:=H_;have hn:n.length=32:=hn;have hc:iq Tryz.prog 151 (arL.wr (n,p,())) [] (aG Tryz.prog (auK fg cM dx fW gA) (ax6 yD) adl (arL.wr (n,p,())) [] kK):=ar mixed (aj wY (aj yC (aj D7 (aj Az (aj Pg ax))))) func151 rfl ax8;rw[Va yD fg cM dx fW gA]at hc;exact hc.use (D:= []) (show(Ev.End.need _ _).sat _ from⟨⟨rfl,hn⟩,by rw[Vb],rfl⟩) hq
def hh:Int:=65536
theorem jr:0<hh:=by decide
theorem Vc:hh=256 ^ 2:=by decide
def ij(b:List Int):List Int:=dg hh 34 (vd 256 b)
theorem arM{b:List Int}(hb:ay b)(hl:b.length≤64):0≤vd 256 b∧vd 256 b<256 ^ 64:=by
 have h0:=eE (by decide) (show iN 256 b from hb);have h1:=pq (by decide) (show iN 256 b from hb);exact⟨h0,Int.lt_of_lt_of_le h1 (mG (by decide) hl)⟩
theorem Ve:(256:Int) ^ 64≤hh ^ 34:=by decide+kernel
theorem amH{b:List Int}(hb:ay b)(hl:b.length≤64){k:Nat}(hk:k<b.length):
  (ij (b.take k)).set (k/2) (i64.wrap ((ij (b.take k)).getD (k/2) 0+shl .i64 (i64.wrap (b.getD k 0)) ((k%2*8:Nat):Int)))=ij (b.take (k+1)):=by
 have gV:iN 256 b:=hb;have hc:=iN.getD (by decide) gV k;have hV0:=eE (by decide) (gV.take k);have hV1:=pq (by decide) (gV.take k);rw[List.length_take,Nat.min_eq_left (by omega)]at hV1;unfold ij;rw[fM hk];generalize vd 256 (b.take k)=V at*;generalize b.getD k 0=c at*;have hi:k/2<34:=by omega
 have hs:k%2<2:=by omega
 have jz:k=2*(k/2)+k%2:=(Nat.div_add_mod k 2).symm;have hp:(256:Int) ^ k=hh ^ (k/2)*256 ^ (k%2):=by rw[Vc,← Int.pow_mul,← Int.pow_add,← jz]
 have hQ:0<hh ^ (k/2):=Int.pow_pos jr
 have hle:(256:Int) ^ (k%2)*256≤hh:=by
  rw[← Int.pow_succ,Vc];exact mG (by decide) (by omega)
 have hP:(0:Int)<256 ^ (k%2):=Int.pow_pos (by decide);have hdl:V/hh ^ (k/2)<256 ^ (k%2):=Int.ediv_lt_of_lt_mul hQ (by rw[Int.mul_comm,← hp];exact hV1);have hd0:0≤V/hh ^ (k/2):=Int.ediv_nonneg hV0 (Int.le_of_lt hQ)
 have eg:(dg hh 34 V).getD (k/2) 0=V/hh ^ (k/2):=by
  rw[mF jr hi,Int.emod_eq_of_lt hd0 (by omega)]
 rw[eg];have ehh:hh=65536:=rfl;have ew:i64.wrap c=c:=ao (by omega) (by omega);have hcP:c*256 ^ (k%2)≤255*256 ^ (k%2):=Int.mul_le_mul_of_nonneg_right (by omega) (by omega);have axo:0≤c*256 ^ (k%2):=Int.mul_nonneg hc.1 (by omega)
 have es:shl .i64 c ((k%2*8:Nat):Int)=c*256 ^ (k%2):=by
  rw[gd .i64 c _ (by simp[IntKind.bits];omega),qY,ao (by omega) (by omega)]
 rw[ew,es,ao (by omega) (by omega)];refine F2 jr ((n5 jr 34 V).set ⟨by omega,by omega⟩) (by rw[List.length_set,bX]) ?_;rw[JZ (by rw[bX];exact hi),eg,mE jr];have hV2:V<hh ^ 34:=Int.lt_of_lt_of_le hV1 (Int.le_trans (mG (by decide) (by omega)) Ve);rw[Int.emod_eq_of_lt hV0 hV2]
 have e3:(V/hh ^ (k/2)+c*256 ^ (k%2)-V/hh ^ (k/2))*hh ^ (k/2)=c*256 ^ k:=by
  rw[hp,Int.mul_comm (hh ^ (k/2)),← Int.mul_assoc];congr 1;omega
 rw[e3]
 have dL:V+c*256 ^ k<hh ^ 34:=by
  have h1:c*256 ^ k≤255*256 ^ k:=Int.mul_le_mul_of_nonneg_right (by omega) (Int.le_of_lt (Int.pow_pos (by decide)));have h2:(256:Int) ^ (k+1)≤256 ^ 64:=mG (by decide) (by omega);have h3:=Ve;rw[Int.pow_succ]at h2;omega
 exact(Int.emod_eq_of_lt (Int.add_nonneg hV0 (Int.mul_nonneg hc.1 (Int.le_of_lt (Int.pow_pos (by decide))))) dL).symm
def Kt: {n:Nat}→Int→Vec Int n→Vec Int n
 |0,_,_=>()
 |_+1,c,v=>(cg (w (c+w (2*v.1))) 65535,Kt (down (w (c+w (2*v.1))) 16) v.2)
def D9: {n:Nat}→Nat→Vec Int n→List Int→Vec Int n
 |0,_,_,_=>()
 |_+1,k,v,l=>(w (v.1-l.getD k 0),D9 (k+1) v.2 l)
def AD:(n:Nat)→Int→Vec Int n
 |0,_=>()
 |n+1,x=>(x%65536,AD n (x/65536))
def dgT:(n:Nat)→Int→Vec Int (n+1)
 |0,x=>(x,())
 |n+1,x=>(x%65536,dgT n (x/65536))
def vdV: {n:Nat}→Vec Int n→Int
 |0,_=>0
 |_+1,v=>v.1+65536*vdV v.2
def Ea: {n:Nat}→Vec Int n→Prop
 |0,_=>True
 |_+1,v=>(-65536<v.1∧v.1<65536)∧Ea v.2
theorem amI:∀ (n:Nat) (x c:Int),0≤x→0≤c→c≤1→Kt c (AD n x)=AD n (2*x+c)
 |0,_,_,_,_,_=>rfl
 |n+1,x,c,hx,h0,h1=>by
  show(cg (w (c+w (2*(x%65536)))) 65535,Kt (down (w (c+w (2*(x%65536)))) 16) (AD n (x/65536)))=((2*x+c)%65536,AD n ((2*x+c)/65536));have e1:w (2*(x%65536))=2*(x%65536):=ao (by omega) (by omega);have e2:w (c+2*(x%65536))=c+2*(x%65536):=ao (by omega) (by omega);rw[e1,e2,TS,Jy,amI n (x/65536) _ (by omega) (by omega) (by omega)]
  congr 1
  ·omega
  ·congr 1;omega
theorem Pk:∀ (n k:Nat) (x Y:Int) (l:List Int),(∀j,j<n→l.getD (k+j) 0=Y/65536 ^ j%65536)→vdV (D9 k (AD n x) l)=x%65536 ^ n-Y%65536 ^ n∧Ea (D9 k (AD n x) l)
 |0,_,x,Y,_,_=>by simp[D9,vdV,Ea,Int.emod_one]
 |n+1,k,x,Y,l,h=>by
  have h0:=h 0 (by omega);simp only[Nat.add_zero,Int.pow_zero,Int.ediv_one]at h0
  obtain⟨i1,i2⟩:=Pk n (k+1) (x/65536) (Y/65536) l fun j hj=>by
   have:=h (j+1) (by omega);rw[show k+(j+1)=k+1+j from by omega]at this;rw[this,Int.pow_succ,Int.mul_comm,← Int.ediv_ediv_of_nonneg (by decide)]
  have e1:w (x%65536-l.getD k 0)=x%65536-Y%65536:=by rw[h0];exact ao (by omega) (by omega)
  show w (x%65536-l.getD k 0)+65536*vdV (D9 (k+1) (AD n (x/65536)) l)=_∧((-65536<w (x%65536-l.getD k 0)∧w (x%65536-l.getD k 0)<65536)∧Ea (D9 (k+1) (AD n (x/65536)) l));rw[e1,i1];refine⟨?_,⟨by omega,by omega⟩,i2⟩;have s1:=oV (B:=65536) (by decide) (P:=65536 ^ n) (Int.pow_pos (by decide)) x;have s2:=oV (B:=65536) (by decide) (P:=65536 ^ n) (Int.pow_pos (by decide)) Y;rw[Int.pow_succ,Int.mul_comm ((65536:Int) ^ n),← s1,← s2];omega
theorem Eb:∀ (n:Nat) (x:Int) (v:Vec Int n),-4294967296<x→x<4294967296→Ea v→ib x v=dgT n (x+65536*vdV v)
 |0,x,v,_,_,_=>by show(x,())=(x+65536*0,());rw[Int.mul_zero,Int.add_zero]
 |n+1,x,v,h1,h2,h3=>by
  obtain⟨h4,h5⟩:=h3;show(cg x 65535,ib (w (v.1+down x 16)) v.2)=((x+65536*(v.1+65536*vdV v.2))%65536,dgT n ((x+65536*(v.1+65536*vdV v.2))/65536));have e1:w (v.1+x/65536)=v.1+x/65536:=ao (by omega) (by omega);rw[TS,Jy,e1,Eb n _ v.2 (by omega) (by omega) h5];generalize vdV v.2=Z
  congr 1
  ·omega
  ·congr 1;omega
theorem YN:∀ (n:Nat) (x:Int),(dgT n x).get n=x/65536 ^ n
 |0,x=>by rw[Int.pow_zero,Int.ediv_one];rfl
 |n+1,x=>by
  show(dgT n (x/65536)).get n=_;rw[YN n,Int.pow_succ,Int.mul_comm,Int.ediv_ediv_of_nonneg (by decide)]
theorem amJ(n:Nat)(x:Int):dgT (n+1) x=(x%65536,dgT n (x/65536)):=rfl
theorem Pm(n:Nat)(x:Int):AD (n+1) x=(x%65536,AD n (x/65536)):=rfl
theorem arO(n:Nat):∀ (x:Int),0≤x→x<65536 ^ (n+1)→dgT n x=AD (n+1) x:=by
 induction n with
 |zero=>
  intro x h0 h1;rw[Pm,Int.emod_eq_of_lt h0 (by rwa [Int.pow_succ,Int.pow_zero,Int.one_mul]at h1)];rfl
 |succ n ih=>
  intro x h0 h1;rw[Int.pow_succ]at h1;have h2:x/65536<65536 ^ (n+1):=Int.ediv_lt_of_lt_mul (by decide) h1;rw[amJ,Pm,ih (x/65536) (by omega) h2]
def lV:List Int:=dg 256 32 ll
def adm(v:Vec Int 17):Vec Int 17:=ib v.1 v.2
theorem adn:vd 256 lV=ll:=by
 unfold lV;rw[mE (by decide)];exact Int.emod_eq_of_lt (by have:=fN;omega) (by decide+kernel)
theorem aCQ(j:Nat)(hj:j<17):(ij lV).getD (0+j) 0=ll/65536 ^ j%65536:=by
 unfold ij;rw[Nat.zero_add,mF jr (by omega),adn];rfl
theorem p17:ll+ll<65536 ^ 17:=by decide+kernel
theorem ax9{R c:Int}(hR:0≤R∧R<ll)(hc:0≤c∧c<2):
  (if 0≤(adm (D9 0 (Kt c (AD 17 R)) (ij lV))).get 16 then adm (D9 0 (Kt c (AD 17 R)) (ij lV))else Kt c (AD 17 R))=AD 17 ((2*R+c)%ll):=by
 have hp:=p17;rw[amI 17 R c hR.1 hc.1 (by omega)];obtain⟨v1,v2⟩:=Pk 17 0 (2*R+c) ll (ij lV) aCQ;rw[Int.emod_eq_of_lt (by omega) (by omega),Int.emod_eq_of_lt (by have:=fN;omega) (by have:=fN;omega)]at v1
 have ec:adm (D9 0 (AD 17 (2*R+c)) (ij lV))=dgT 16 (2*R+c-ll):=by
  unfold adm;rw[Eb 16 _ _ (by have:=v2.1.1;omega) (by have:=v2.1.2;omega) v2.2,← v1];rfl
 rw[ec,YN,Ot fN hR hc];have hq:(0:Int)<65536 ^ 16:=Int.pow_pos (by decide)
 by_cases h:2*R+c<ll
 ·rw[if_pos h,if_neg];intro h';have:=(Int.ediv_nonneg_iff_of_pos hq).1 h';omega
 ·rw[if_neg h,if_pos ((Int.ediv_nonneg_iff_of_pos hq).2 (by omega)),arO 16 _ (by omega) (by show _<(65536:Int) ^ 17;omega)]
abbrev arP:an:=e0B axz
theorem Po:aG Tryz.prog [] [] f280 ((ag).wr ()) [] [.gK 0 0 32 .u8,.auto]= .leaf (dO .u8 32 axz) []:=by kernel_rfl
theorem Pp:∀p_∈([]:List (FuncId×an)),p_.2.Ok Tryz.prog p_.1:=ax
theorem ado:arP.Ok Tryz.prog 280:=by
 refine(an.aN call280 fun x_ y_ Q H_=>?_).sym;have hq:=H_.2;refine(ar (tab:= []) mixed Pp func280 rfl (LT:= []) (ks:= [.gK 0 0 32 .u8,.auto]) (aH.nil _)).use (D:= []) ?_ hq;show(aG _ _ _ _ ((ag).wr ()) [] _).sat _;rw[Po];exact⟨rfl,rfl⟩
abbrev arQ:Func:=f213
abbrev dgC:aM (List LV) (List Int×Int×Unit):=(ae (ah (fh false false u8)) (jk 2 (ai (ah (ke 0 0)) (ae (ah (aA .i64)) (jk 28 ag)))))
abbrev aCS:Wk:=.fr (cu 33 [(0,.al),(3,.al),(4,.sym)])
abbrev dgX:aM (List LV) (Unit):=(jk 3 (ai (ah (ke 0 0)) (jk 29 ag)))
abbrev aGz:Wk:=.fr (cu 33 [(3,.al)])
abbrev zd:aM Hp (List Int×Unit):=ae (bS 0 (.int .i64)) ag
def dgW:Exit→List Wk
 | .normal=> [aCS,.auto]
 | .exit 0=> [aGz,.auto]
 |_=> []
theorem aya(b o:List Int)(i:Int):cO Tryz.prog [] [] arQ 0 [] dgW ((aS dgC zd).wr ((b,i,()),(o,())))=
 aK.ite (decide (i<(↑b.length:Int))) (aK.need ((0:Int)≤i64.wrap (i.tdiv (2:Int))∧i64.wrap (i.tdiv (2:Int))<(↑o.length
 :Int)) (aK.need ((0:Int)≤i∧i<(↑b.length:Int)) (aK.need ((0:Int)≤u64.wrap (i64.wrap ((8:Int)*i.tmod (2:Int))))
 (aK.need ((0:Int)≤i64.wrap (i.tdiv (2:Int))∧i64.wrap (i.tdiv (2:Int))<(↑o.length:Int)) (aK.leaf Exit.normal ((aS dgC
 zd).wr ((b,i64.wrap (i+(1:Int)),PUnit.unit),o.set (i64.wrap (i.tdiv (2:Int))).toNat (i64.wrap (o.getD
 (i64.wrap (i.tdiv (2:Int))).toNat (0:Int)+shl i64 (i64.wrap (b.getD i.toNat (0:Int))) (u64.wrap
 (i64.wrap ((8:Int)*i.tmod (2:Int)))))),PUnit.unit))))))) (aK.leaf (Exit.exit (0:Nat)) ((aS dgX zd).wr (PUnit.unit,o,
 PUnit.unit))):=by kernel_rfl
abbrev arR:Func:=f212
abbrev mdC:aM (List LV) (List Int×Int×Unit):=(ae (ah (fh false false (.int .i64))) (jk 1 (ai (ah (aC 0 0)) (jk 1 (ai (ah (ke 1 0)) (ai (ah (aC 2 0)) (ae (ah (aA .i64)) (jk 105 ag))))))))
abbrev aCT:Wk:=.fr (cu 112 [(0,.al),(2,.al),(4,.al),(5,.al),(6,.sym)])
abbrev mdX:aM (List LV) (Unit):=(jk 2 (ai (ah (aC 0 0)) (jk 2 (ai (ah (aC 1 0)) (jk 106 ag)))))
abbrev aGB:Wk:=.fr (cu 112 [(2,.al),(5,.al)])
abbrev V17:=Vec Int 17
abbrev aCU:aM (Option Ev.Item) V17:=dH 348 (ju .i64 17)
abbrev mdH:aM Hp (List Int×List Int×V17×Unit):=ae (gL 22 .u8 32) (ae (bS 0 (.int .i64)) (ae aCU ag))
abbrev ayb:aM Hp (List Int×V17×Unit):=ae (gL 22 .u8 32) (ae aCU ag)
def mdW:Exit→List Wk
 | .normal=> [aCT,.eG 0 0 32 .u8,.aW 2 (List.replicate 17 .sym),.auto]
 | .exit 0=> [aGB,.eG 0 0 32 .u8,.aW 2 (List.replicate 17 .sym),.auto]
 |_=> []
def aCV(g:List Int→List Int)(x:(List Int×Int×Unit)×List Int×Unit):aK:=.need (x.1.2.1=0∧ay x.1.1∧x.1.1.length≤64∧x.2.1=List.replicate 34 0) (.leaf (.exit 0) ((aS dgX zd).wr ((),(g x.1.1,()))))
theorem amK:ij []=List.replicate 34 0:=J0 jr 34
theorem arS(x):Ex Tryz.prog [] (.loop (aO arQ 0)) ((aS dgC zd).wr x) (aCV ij x):=by
 obtain⟨⟨b,i,_⟩,o,_⟩:=x;refine Ex.need fun⟨h1,h2,h3,h4⟩=>?_;simp only at h1 h2 h3 h4;subst h1 h4
 have key:=dN (fn:=arQ) (id:=0) (j:=0) (ws:=dgW) (hp:= []) mixed ax (aH.nil _) b.length (fun k (_:Unit)=>(aS dgC zd).wr ((b,(k:Int),()),(ij (b.take k),()))) (fun _=>(aS dgX zd).wr ((),(ij b,()))) (fun _ u=>u) (fun _ _=>True)
  (fun k o R hk _ hn hx=>?_) (fun _ _ _ _=>trivial) 0 () (by omega) trivial
 ·rw[List.take_zero,amK]at key;exact key
 rw[aya];have e1:i64.wrap ((k:Int).tdiv 2)=((k/2:Nat):Int):=fP k 2 (by omega)
 have e2:u64.wrap (i64.wrap (8*(k:Int).tmod 2))=((k%2*8:Nat):Int):=by
  rw[show(k:Int).tmod 2=((k%2:Nat):Int)from Ou k 2,ao (by omega) (by omega),wrap_u64 (by omega) (by omega)];omega
 have hl:(ij (b.take k)).length=34:=bX _ _;refine⟨fun hb=>?_,fun hb=>?_⟩
 ·have jz:k<b.length:=by have:=of_decide_eq_true hb;omega
  rw[e1,e2,Int.toNat_natCast,Int.toNat_natCast,amH h2 h3 jz,cJ k (by omega)];exact⟨by omega,by omega,by omega,by omega,hn jz⟩
 ·have:k=b.length:=by have:=of_decide_eq_false hb;omega
  subst this;have:=hx rfl;rw[List.take_length];exact this
abbrev aCW(g:List Int→List Int):dG:= [(0,dc (aS dgC zd) 0 [aCS,.auto] (aCV g))]
def eDg(g:List Int→List Int):an:=an.cl [some u8] bA ag fun x _=>.leaf (some (ay x.1∧x.1.length≤64)) (.one (.sc (.sl 0 0))) [(0,.own 0 (.int .i64) (g x.1))]
theorem adp(g:List Int→List Int)(b:List Int):aG Tryz.prog [] (aCW g) arQ (bA.wr (b,())) [] [.dh 0 (.int .i64),.auto,.aE]=
 End.need ((34:Int)=(34:Int)∧(0:Int)≤(34:Int)∧(272:Int)≤(70368744177664:Int)∧(34:Int)≤(70368744177664:Int)) (End.need ((0
 :Int)=(0:Int)∧ay b∧b.length≤(64:Nat)∧List.replicate (34:Nat) (0:Int)=List.replicate (34:Nat) (0:Int)) (End.leaf (LV.one
 (VV.sc (SV.sl (0:Nat) (0:Nat)))) [some (Item.own (0:Nat) (Ty.int i64) (g b))])):=by kernel_rfl
abbrev aCX:an:=eDg ij
theorem Ku:aCX.Ok Tryz.prog 213:=by
 refine(an.aN call213 fun x_ y_ Q H_=>?_).sym;obtain⟨b,_⟩:=x_;obtain⟨hn,hq⟩:=H_;refine(ar mixed ax func213 rfl (LT:=aCW ij) (ks:= [.dh 0 (.int .i64),.auto,.aE]) (aH.bK (js rfl (bD (hp:= []) arS) jt))).use (D:= [(0,.own 0 (.int .i64) (ij b))]) ?_ hq;show(aG _ _ _ _ (bA.wr (b,())) [] _).sat _;rw[adp];exact⟨by decide,⟨rfl,hn.1,hn.2,rfl⟩,rfl,rfl⟩
def amL(l:List Prop)(r:aK):aK:=l.foldr aK.need r
theorem Ec{R:Exit→St→Prop}:∀ {l:List Prop} {r:aK},(∀p∈l,p)→r.sat R→(amL l r).sat R
 | [],_,_,h=>h
 |p::l,r,hl,h=>⟨hl p (by simp),Ec (fun q hq=>hl q (by simp[hq])) h⟩
def Pq(d:List Int)(i:Int):Int:=aI .i64 (shr .i64 (d.getD (i64.wrap (i.tdiv 16)).toNat 0) (u64.wrap (i.tmod 16))) 1
theorem ayc(d o l:List Int)(r:V17)(i:Int):cO Tryz.prog [] [] arR 0 [] mdW ((aS mdC mdH).wr ((d,i,()),(o,l,r,())))=
 aK.ite (decide (0≤i)) (amL ([0≤i64.wrap (i.tdiv 16)∧i64.wrap (i.tdiv 16)<(d.length:Int),0≤u64.wrap (i.tmod 16)]++(List.range 17).map fun k:Nat=>(0≤(k:Int)∧(k:Int)<(l.length:Int)))
  (aK.ite (decide (0≤(adm (D9 0 (Kt (Pq d i) r) l)).get 16)) (aK.leaf .normal ((aS mdC mdH).wr ((d,i64.wrap (i-1),()),(o,l,adm (D9 0 (Kt (Pq d i) r) l),()))))
   (aK.leaf .normal ((aS mdC mdH).wr ((d,i64.wrap (i-1),()),(o,l,Kt (Pq d i) r,())))))) (aK.leaf (.exit 0) ((aS mdX ayb).wr ((),(o,r,())))):=by kernel_rfl
def okD(d:List Int):Prop:=d.length=34∧iN hh d
abbrev mdT:Type:=(List Int×Int×Unit)×List Int×List Int×V17×Unit
def aCY(g:List Int→V17)(LL:List Int)(x:mdT):aK:=.need (x.1.2.1=543∧okD x.1.1∧x.2.2.1=LL∧x.2.2.2.1=AD 17 0) (.leaf (.exit 0) ((aS mdX ayb).wr ((),(x.2.1,g x.1.1,()))))
def arT(d:List Int):V17:=AD 17 (vd hh d%ll)
theorem ayd{d:List Int}(h:okD d){i:Nat}(hi:i<544):Pq d (i:Int)=vd hh d/2 ^ i%2:=by
 have e1:i64.wrap ((i:Int).tdiv 16)=((i/16:Nat):Int):=fP i 16 (by omega)
 have e2:u64.wrap ((i:Int).tmod 16)=((i%16:Nat):Int):=by
  rw[show(i:Int).tmod 16=((i%16:Nat):Int)from Ou i 16,wrap_u64 (by omega) (by omega)]
 unfold Pq;rw[e1,e2,Int.toNat_natCast,ov (m:=1) (by decide) _ 1 (by decide),c9 .i64 _ (i%16) (by simp[IntKind.bits];omega)];have:=sg (b:=2) (by decide) (m:=16) (by decide) (l:=d) (show iN (2 ^ 16) d from h.2) (k:=i) (by rw[h.1];omega);have e3:(((2 ^ (i%16):Nat)):Int)=2 ^ (i%16):=by rw[Int.natCast_pow];rfl
 rw[e3];exact this
theorem arU(x:mdT):Ex Tryz.prog [] (.loop (aO arR 0)) ((aS mdC mdH).wr x) (aCY arT (ij lV) x):=by
 obtain⟨⟨d,i,_⟩,o,l,r,_⟩:=x;refine Ex.need fun⟨h1,h2,h3,h4⟩=>?_;simp only at h1 h2 h3 h4;subst h1 h3 h4;have hV0:=eE jr h2.2;have hV1:=pq jr h2.2;rw[h2.1,show hh ^ 34=2 ^ 544 from by decide+kernel]at hV1
 have key:=dN (fn:=arR) (id:=0) (j:=0) (ws:=mdW) (hp:= []) mixed ax (aH.nil _) 544 (fun k (_:Unit)=>(aS mdC mdH).wr ((d,543-(k:Int),()),(o,ij lV,AD 17 (vd hh d/2 ^ (544-k)%ll),()))) (fun _=>(aS mdX ayb).wr ((),(o,arT d,()))) (fun _ u=>u) (fun _ _=>True)
  (fun k u R hk _ hn hx=>?_) (fun _ _ _ _=>trivial) 0 () (by omega) trivial
 ·rw[show vd hh d/2 ^ (544-0)=0 from Int.ediv_eq_zero_of_lt hV0 hV1,Int.zero_emod]at key;exact key
 rw[ayc];refine⟨fun hb=>?_,fun hb=>?_⟩
 ·have jz:k<544:=by have:=of_decide_eq_true hb;omega
  have e0:(543-(k:Int))=((544-(k+1):Nat):Int):=by omega
  have e3:i64.wrap (543-(k:Int)-1)=543-((k+1:Nat):Int):=by rw[ao (by omega) (by omega)];omega
  have ob:=hn jz;have GN:=ayd h2 (i:=544-(k+1)) (by omega);have e1:i64.wrap ((543-(k:Int)).tdiv 16)=(((544-(k+1))/16:Nat):Int):=by rw[e0];exact fP _ 16 (by omega)
  have e2:u64.wrap ((543-(k:Int)).tmod 16)=(((544-(k+1))%16:Nat):Int):=by
   rw[e0,show(((544-(k+1):Nat):Int)).tmod 16=(((544-(k+1))%16:Nat):Int)from Ou _ 16,wrap_u64 (by omega) (by omega)]
  rw[← e0]at GN;have hs:=F4 (vd hh d) (544-(k+1));rw[show 544-(k+1)+1=544-k from by omega]at hs
  have em:(vd hh d/2 ^ (544-(k+1)))%ll=(2*(vd hh d/2 ^ (544-k)%ll)+vd hh d/2 ^ (544-(k+1))%2)%ll:=by
   conv=>lhs;rw[hs]
   exact Yg _ _ _
  have uc:0≤vd hh d/2 ^ (544-(k+1))%2∧vd hh d/2 ^ (544-(k+1))%2<2:=by omega
  have hR:0≤vd hh d/2 ^ (544-k)%ll∧vd hh d/2 ^ (544-k)%ll<ll:=⟨Int.emod_nonneg _ (by have:=fN;omega),Int.emod_lt_of_pos _ fN⟩;have hm:=ax9 hR uc;rw[← em]at hm;rw[← hm]at ob;rw[GN,e3];refine Ec (fun p hp=>?_) ⟨fun hc=>?_,fun hc=>?_⟩
  ·rcases List.mem_append.1 hp with hp|hp
   ·simp only[List.mem_cons,List.not_mem_nil,or_false]at hp;rcases hp with rfl|rfl
    ·rw[e1,h2.1];omega
    ·rw[e2];omega
   ·obtain⟨j,hj,rfl⟩:=List.mem_map.1 hp;have hj:=List.mem_range.1 hj;have:(ij lV).length=34:=bX _ _;rw[this];omega
  ·rw[if_pos (of_decide_eq_true hc)]at ob;exact ob
  ·rw[if_neg (of_decide_eq_false hc)]at ob;exact ob
 ·have:k=544:=by have:=of_decide_eq_false hb;omega
  subst this;have:=hx rfl;simp only[Nat.sub_self,Int.pow_zero,Int.ediv_one];exact this
abbrev aCZ(g:List Int→V17)(LL:List Int):dG:= [(0,dc (aS mdC mdH) 0 [aCT,.auto,.eG 0 0 32 .u8,.aW 2 (List.replicate 17 .sym)] (aCY g LL))]
def aye(v:V17):List Int:=(List.range 32).map fun i=>IntKind.u8.wrap (aI .i64 (shr .i64 (v.get (i/2)) ((8*(i%2):Nat):Int)) 255)
abbrev amM:aM (List LV) (List Int×Unit):=ae (ah (fh false false (.int .i64))) ag
def eMd(g:List Int→List Int):an:=an.cl [some (.int .i64)] amM ag fun x _=>.leaf (some (okD x.1)) (dO .u8 32 (g x.1)) []
theorem adq(g:List Int→V17)(LL o:List Int)(dig:List Int→List Int)(d:List Int):aG Tryz.prog [(280,e0B o),(213,eDg dig)] (aCZ g LL) arR (amM.wr (d,())) [] [.fr [.sym],.gK 0 0 32 .u8,.auto]=
  .need ((0:Int)≤0∧(0:Int)≤32∧(32:Int)≤32) (.need (ay (List.take 32 (List.drop 0 o))∧(List.take 32 (List.drop 0 o)).length≤64) (.need (i64.wrap (i64.wrap (16*(d.length:Int))-1)=543∧okD d∧dig (List.take 32 (List.drop 0 o))=LL∧(AD 17 0)=AD 17 0) (.leaf (dO .u8 32 (aye (g d))) []))):=by kernel_rfl
theorem YO:∀ (n:Nat) (x:Int) (k:Nat),k<n→(AD n x).get k=x/65536 ^ k%65536
 |0,_,_,h=>by omega
 |n+1,x,0,_=>by rw[Int.pow_zero,Int.ediv_one];rfl
 |n+1,x,k+1,h=>by
  have:=YO n (x/65536) k (by omega);rw[Int.pow_succ,Int.mul_comm,← Int.ediv_ediv_of_nonneg (by decide),← this];rfl
theorem ayg{R:Int}(hR:0≤R∧R<ll):aye (AD 17 R)=dg 256 32 R:=by
 rw[← ak4 (by decide) 32 R];unfold aye;refine List.map_congr_left fun i hi=>?_;have hi:=List.mem_range.1 hi;have hp:=p17;have hl:=fN;rw[YO 17 R (i/2) (by omega),ov (m:=8) (by decide) _ 255 (by decide),c9 .i64 _ (8*(i%2)) (by simp[IntKind.bits];omega)];have key:=sg (b:=256) (by decide) (m:=2) (by decide) (l:=dg hh 17 R) (show iN (256 ^ 2) _ from n5 jr 17 R) (k:=i) (by rw[bX];omega)
 rw[mF jr (by omega),show vd (256 ^ 2) (dg hh 17 R)=R from by
  rw[← Vc,mE jr];exact Int.emod_eq_of_lt hR.1 (by show R<(65536:Int) ^ 17;omega)]at key
 have e1:(((2 ^ (8*(i%2)):Nat)):Int)=256 ^ (i%2):=by rw[Nat.pow_mul,Int.natCast_pow];rfl
 have e2:(((2 ^ 8:Nat)):Int)=256:=by decide
 rw[e1,e2,wrap_u8,← key,Int.emod_emod_of_dvd _ (by decide)];rfl
def Ed(d:List Int):List Int:=dg 256 32 (vd hh d%ll)
abbrev aC0:an:=eMd Ed
theorem amN:List.take 32 (List.drop 0 axz)=lV:=aY (bX _ _)
theorem YP:aC0.Ok Tryz.prog 212:=by
 refine(an.aN call212 fun x_ y_ Q H_=>?_).sym;obtain⟨d,_⟩:=x_;obtain⟨hn,hq⟩:=H_;have hn:okD d:=hn;refine(ar mixed (aj ado (aj Ku ax)) func212 rfl (LT:=aCZ arT (ij lV)) (ks:= [.fr [.sym],.gK 0 0 32 .u8,.auto]) (aH.bK (js rfl (bD (hp:= []) arU) jt))).use (D:= []) ?_ hq;show(aG _ _ _ _ (amM.wr (d,())) [] _).sat _;rw[adq,amN];have ho:ay lV∧lV.length≤64:=⟨n5 (by decide) _ _,by rw[show lV.length=32 from bX _ _];decide⟩;refine⟨by decide,ho,⟨by rw[hn.1];decide,hn,rfl,rfl⟩,?_,rfl⟩;unfold arT Ed;rw[ayg ⟨Int.emod_nonneg _ (by have:=fN;omega),Int.emod_lt_of_pos _ fN⟩]
theorem YQ(b:List Int):okD (ij b):=⟨bX _ _,n5 jr _ _⟩
theorem YR{b:List Int}(hb:ay b)(hl:b.length≤64):vd hh (ij b)=vd 256 b:=by
 obtain⟨h0,h1⟩:=arM hb hl;have:=Ve;unfold ij;rw[mE jr,Int.emod_eq_of_lt h0 (by omega)]
abbrev amO:an:=acw qZ
theorem Kv(dig md:List Int→List Int)(b:List Int):aG Tryz.prog [(213,eDg dig),(212,eMd md)] [] f147 ((alf).wr (b,())) [] kR=
 End.need ((0:Int)≤(0:Int)∧(0:Int)≤(64:Int)∧(64:Int)≤(64:Int)) (End.need (ay (List.take (64:Nat) (List.drop (0:Nat) b))∧
 (List.take (64:Nat) (List.drop (0:Nat) b)).length≤(64:Nat)) (End.need (okD (dig (List.take (64:Nat) (List.drop (0:Nat) b)))) (End.leaf
 (LV.one (VV.agg [SV.arr (Ty.int IntKind.u8) (32:Nat) (md (dig (List.take (64:Nat) (List.drop (0:Nat) b))))])) []))):=by kernel_rfl
theorem Kw:∀p_∈([(213,eDg ij),(212,eMd Ed)]:List (FuncId×an)),p_.2.Ok Tryz.prog p_.1:=(aj Ku (aj YP ax))
theorem Vf:amO.Ok Tryz.prog 147:=by
 refine(an.aN call147 fun x_ y_ Q H_=>?_).sym;obtain⟨b,_⟩:=x_;obtain⟨hn,hq⟩:=H_;have hn:b.length=64∧ay b:=hn;refine(ar (tab:= [(213,eDg ij),(212,eMd Ed)]) mixed Kw func147 rfl (LT:= []) (ks:=kR) (aH.nil _)).use (D:= []) ?_ hq;show(aG _ _ _ _ ((alf).wr (b,())) [] _).sat _;rw[Kv ij Ed];rw[aY hn.1];have e:Ed (ij b)=qZ b:=by unfold Ed qZ;rw[YR hn.2 (by omega)]
 rw[e];exact⟨by decide,⟨hn.2,by rw[hn.1];decide⟩,YQ b,rfl,rfl⟩
abbrev aC1:an:=eBB tJ
theorem adr(dig md:List Int→List Int)(b:List Int):aG Tryz.prog [(213,eDg dig),(212,eMd md)] [] f244 ((kL).wr (b,())) [] kK=
 End.need ((0:Int)≤(0:Int)∧(0:Int)≤(32:Int)∧(32:Int)≤(32:Int)) (End.need (ay (List.take (32:Nat) (List.drop (0:Nat) b))∧
 (List.take (32:Nat) (List.drop (0:Nat) b)).length≤(64:Nat)) (End.need (okD (dig (List.take (32:Nat) (List.drop (0:Nat) b)))) (End.leaf
 (LV.one (VV.sc (SV.bool (SB.sym (decide (md (dig (List.take (32:Nat) (List.drop (0:Nat) b)))=b)))))) []))):=by kernel_rfl
theorem ads:∀p_∈([(213,eDg ij),(212,eMd Ed)]:List (FuncId×an)),p_.2.Ok Tryz.prog p_.1:=(aj Ku (aj YP ax))
theorem arV:aC1.Ok Tryz.prog 244:=by
 refine(an.aN call244 fun x_ y_ Q H_=>?_).sym;obtain⟨b,_⟩:=x_;obtain⟨hn,hq⟩:=H_;have hn:okB b:=hn;refine(ar (tab:= [(213,eDg ij),(212,eMd Ed)]) mixed ads func244 rfl (LT:= []) (ks:=kK) (aH.nil _)).use (D:= []) ?_ hq;show(aG _ _ _ _ ((kL).wr (b,())) [] _).sat _;rw[adr ij Ed];rw[aY hn.1];refine⟨by decide,⟨hn.2,by rw[hn.1];decide⟩,YQ b,CK ?_,rfl⟩;unfold Ed tJ;rw[YR hn.2 (by rw[hn.1];decide)];have h0:=hn.range;have hm:0≤vd 256 b%ll∧vd 256 b%ll<ll:=⟨Int.emod_nonneg _ (by have:=fN;omega),Int.emod_lt_of_pos _ fN⟩;have hp:ll<256 ^ 32:=by decide+kernel
 refine decide_eq_decide.2 ⟨fun h=>?_,fun h=>?_⟩
 ·have:=congrArg (vd 256) h;rw[mE (by decide),Int.emod_eq_of_lt hm.1 (by omega)]at this;show vd 256 b<ll;omega
 ·rw[Int.emod_eq_of_lt h0.1 h,← hn.1];exact Oq (by decide) hn.2
def eRo(g:List Int→List Int):an:=an.cl [some u8] bA ag fun x _=>.leaf (some (x.1.length≤17592186044416)) (dO .u8 64 (g x.1)) []
theorem ayh:awx=eRo kO:=by kernel_rfl
theorem YS:(eRo kO).Ok Tryz.prog 45:=ayh▸aju
abbrev aC2:an:=acz lp
theorem adt(c:List Int):aG Tryz.prog [] [] f149 (bA.wr (c,())) [] [.dh 0 u8,.auto,.aE]=
 End.ite (decide ((255:Int)<(↑c.length:Int))) (End.leaf (LV.one (VV.sc (SV.sl (0:Nat) (0:Nat)))) [some (Item.own (0:Nat) (Ty.int IntKind.u8)
 [])]) (End.need ((34:Nat)≤(70368744177664:Nat)∧(34:Nat)≤(70368744177664:Nat)) (End.need (((34:Nat)+c.length)*(1:Nat)≤
 (70368744177664:Nat)∧(34:Nat)+c.length≤(70368744177664:Nat)) (End.leaf (LV.one (VV.sc (SV.sl (0:Nat) (0:Nat)))) [some (Item.own (0:
 Nat) (Ty.int IntKind.u8) ([(83:Int),(105:Int),(103:Int),(69:Int),(100:Int),(50:Int),(53:Int),(53:Int),(49:Int),(57:Int),
 (32:Int),(110:Int),(111:Int),(32:Int),(69:Int),(100:Int),(50:Int),(53:Int),(53:Int),(49:Int),(57:Int),(32:Int),(99
 :Int),(111:Int),(108:Int),(108:Int),(105:Int),(115:Int),(105:Int),(111:Int),(110:Int),(115:Int)]++ [(1:Int),
 IntKind.u8.wrap (↑c.length:Int)]++c))]))):=by kernel_rfl
theorem arW:aC2.Ok Tryz.prog 149:=by
 refine(an.aN call149 fun x_ y_ Q H_=>?_).sym;obtain⟨c,_⟩:=x_;refine(ar mixed ax func149 rfl (LT:= []) (ks:= [.dh 0 u8,.auto,.aE]) (aH.nil _)).use (D:= [(0,.own 0 u8 (lp c))]) ?_ H_.2;show(aG _ _ _ _ (bA.wr (c,())) [] _).sat _;rw[adt];refine⟨fun h=>?_,fun h=>?_⟩
 ·have h:=of_decide_eq_true h;have e:lp c= []:=if_neg (by omega);rw[e];exact⟨rfl,rfl⟩
 ·have h:=of_decide_eq_false h;have e:lp c=Uv++([1,(c.length:Int)]++c):=if_pos (by omega);have ew:IntKind.u8.wrap (c.length:Int)=c.length:=by rw[wrap_u8];omega
  rw[e,ew];exact⟨by decide,⟨by omega,by omega⟩,rfl,rfl⟩
abbrev b4A:aM (List LV) (List Int×List Int×List Int×List Int×Unit):=ae (ah (fh false false u8)) (ae (ah (fh false false u8)) (ae (ah (fh false false u8)) (ae (ah (fh false false u8)) ag)))
def fq(a b c d:List Int):List Int:=a++b++c++d
def amP(a b c d:List Int):Prop:=a.length+b.length+c.length+d.length<1000000
def eJo(g:List Int→List Int→List Int→List Int→List Int):an:=an.cl [some u8,some u8,some u8,some u8] b4A ag fun x _=>.leaf (some (amP x.1 x.2.1 x.2.2.1 x.2.2.2.1)) (.one (.sc (.sl 0 0))) [(0,.own 0 u8 (g x.1 x.2.1 x.2.2.1 x.2.2.2.1))]
theorem Vg(a b c d:List Int):aG Tryz.prog [] [] f148 (b4A.wr (a,b,c,d,())) [] [.dh 0 u8,.auto,.aE]=
 End.need (a.length*(1:Nat)≤(70368744177664:Nat)∧a.length≤(70368744177664:Nat)) (End.need ((a.length+b.length)*(1:Nat)≤
 (70368744177664:Nat)∧a.length+b.length≤(70368744177664:Nat)) (End.need (((a++b).length+c.length)*(1:Nat)≤(70368744177664:Nat)∧
 (a++b).length+c.length≤(70368744177664:Nat)) (End.need (((a++b++c).length+d.length)*(1:Nat)≤(70368744177664:Nat)∧(a++b++
 c).length+d.length≤(70368744177664:Nat)) (End.leaf (LV.one (VV.sc (SV.sl (0:Nat) (0:Nat)))) [some (Item.own (0:Nat) (Ty.int IntKind.u8) (a
 ++b++c++d))])))):=by kernel_rfl
abbrev ayi:an:=eJo fq
theorem amQ:ayi.Ok Tryz.prog 148:=by
 refine(an.aN call148 fun x_ y_ Q H_=>?_).sym;obtain⟨a,b,c,d,_⟩:=x_;obtain⟨hn,hq⟩:=H_;have hn:a.length+b.length+c.length+d.length<1000000:=hn;refine(ar mixed ax func148 rfl (LT:= []) (ks:= [.dh 0 u8,.auto,.aE]) (aH.nil _)).use (D:= [(0,.own 0 u8 (fq a b c d))]) ?_ hq;show(aG _ _ _ _ (b4A.wr (a,b,c,d,())) [] _).sat _;rw[Vg];refine⟨⟨by omega,by omega⟩,⟨by omega,by omega⟩,⟨?_,?_⟩,⟨?_,?_⟩,rfl,rfl⟩<;>simp only[List.length_append]<;>omega
abbrev adu:aM (Option Ev.Item) (List Int):=gL 22 .u8 32
abbrev ayj:aM (Option Ev.Item) (List Int):=gL 41 .u8 64
abbrev adv:Func:=f171
abbrev v9C:aM (List LV) (List Int×Bool×Int×Unit):=(jk 1 (ae (ah (fh false false u8)) (jk 2 (ai (ah (aC 0 0)) (jk 1 (ai (ah (aC 1 0)) (ai (ah (aC 2 0)) (jk 1 (ai (ah (aC 3 0)) (ae (ah yX) (ai (ah (aC 4 0)) (ai (ah (aC 5 0)) (ae (ah (aA .i64)) (jk 54 ag))))))))))))))
abbrev aC4:Wk:=.fr (cu 68 [(1,.al),(4,.al),(6,.al),(7,.al),(9,.al),(10,.sym),(11,.al),(12,.al),(13,.sym)])
abbrev v9X:aM (List LV) (List Int×Bool×Unit):=(jk 1 (ae (ah (fh false false u8)) (jk 2 (ai (ah (aC 0 0)) (jk 1 (ai (ah (aC 1 0)) (jk 2 (ai (ah (aC 2 0)) (ae (ah yX) (ai (ah (aC 3 0)) (ai (ah (aC 4 0)) (jk 55 ag))))))))))))
abbrev aGF:Wk:=.fr (cu 68 [(1,.al),(4,.al),(6,.al),(9,.al),(10,.sym),(11,.al),(12,.al)])
abbrev v9H:aM Hp (List Int×List Int×List Int×Pn×List Int×List Int×Unit):=ae adu (ae ayj (ae ayj (ae iPn (ae adu (ae adu ag)))))
abbrev ayk:aM Hp (List Int×List Int×Pn×List Int×List Int×Unit):=ae adu (ae ayj (ae iPn (ae adu (ae adu ag))))
def v9W:Exit→List Wk
 | .normal=> [aC4,.auto]
 | .exit 0=> [aGF,.auto]
 |_=> []
theorem ayl(c p m g:List Int)(a:Pn)(ok:Bool)(r s:List Int)(i:Int):cO Tryz.prog [] [] adv 0 [] v9W ((aS v9C v9H).wr ((c,ok,i,()),(p,m,g,a,r,s,())))=
 .ite (decide (i<32)) (.need (0≤i∧i<64) (.need (0≤i∧i<32) (.need (0≤i64.wrap (32+i)∧i64.wrap (32+i)<64) (.need (0≤i∧i<32) (.leaf .normal ((aS v9C v9H).wr ((c,ok,i64.wrap (i+1),()),(p,m,g,a,r.set (0+i.toNat) ((List.take 64 (List.drop 0 g)).getD i.toNat 0),s.set (0+i.toNat) ((List.take 64 (List.drop 0 g)).getD (i64.wrap (32+i)).toNat 0),()))))))))
  (.leaf (.exit 0) ((aS v9X ayk).wr ((c,ok,()),(p,m,a,r,s,())))):=by kernel_rfl
abbrev v9T:Type:=(List Int×Bool×Int×Unit)×List Int×List Int×List Int×Pn×List Int×List Int×Unit
def aC6(x:v9T):aK:=.need (x.1.2.2.1=0∧x.2.2.2.1.length=64∧x.2.2.2.2.2.1.length=32∧x.2.2.2.2.2.2.1.length=32) (.leaf (.exit 0) ((aS v9X ayk).wr ((x.1.1,x.1.2.1,()),(x.2.1,x.2.2.1,x.2.2.2.2.1,x.2.2.2.1.take 32,x.2.2.2.1.drop 32,()))))
theorem arX(x:v9T):Ex Tryz.prog [] (.loop (aO adv 0)) ((aS v9C v9H).wr x) (aC6 x):=by
 obtain⟨⟨c,ok,i,_⟩,p,m,g,a,r,s,_⟩:=x;refine Ex.need fun⟨h1,h2,h3,h4⟩=>?_;simp only at h1 h2 h3 h4;subst h1
 have key:=dN (fn:=adv) (id:=0) (j:=0) (ws:=v9W) (hp:= []) mixed ax (aH.nil _) 32 (fun k (o:List Int×List Int)=>(aS v9C v9H).wr ((c,ok,(k:Int),()),(p,m,g,a,o.1,o.2,()))) (fun o=>(aS v9X ayk).wr ((c,ok,()),(p,m,a,o.1,o.2,())))
  (fun k (o:List Int×List Int)=>(o.1.set k (g.getD (0+k) 0),o.2.set k (g.getD (32+k) 0))) (fun _ o=>o.1.length=32∧o.2.length=32)
  (fun k o R hk ho hn hx=>?_) (fun k o hk hh=>by simpa using hh) 0 (r,s) (by omega) ⟨h3,h4⟩
 ·rw[Nat.sub_zero,xx (fun k (o:List Int)=>o.set k (g.getD (0+k) 0)) (fun k (o:List Int)=>o.set k (g.getD (32+k) 0)),jJ (fun k=>g.getD (0+k) 0) h3,jJ (fun k=>g.getD (32+k) 0) h4,hY (by omega),hY (by omega)]at key;rw[List.drop_zero,List.take_of_length_le (l:=g.drop 32) (by rw[List.length_drop];omega)]at key;exact key
 rw[ayl];refine⟨fun hb=>?_,fun hb=>?_⟩
 ·have jz:k<32:=by have:=of_decide_eq_true hb;omega
  have e1:i64.wrap (32+(k:Int))=((32+k:Nat):Int):=by rw[ao (by omega) (by omega)];omega
  have ob:=hn jz;rw[Nat.zero_add]at ob;rw[e1,aY h2,Int.toNat_natCast,Int.toNat_natCast,Nat.zero_add,cJ k (by omega)];exact⟨by omega,by omega,by omega,by omega,ob⟩
 ·have:k=32:=by have:=of_decide_eq_false hb;omega
  exact hx this
abbrev aym:dG:= [(0,dc (aS v9C v9H) 0 [aC4,.auto,.eG 4 0 32 .u8,.eG 5 0 32 .u8] aC6)]
abbrev YT(de:List Int→Pn×Bool)(can:List Int→Bool)(pre Ga red:List Int→List Int)(jo:List Int→List Int→List Int→List Int→List Int)(en:Pn→List Int)(mu:List Int→Pn→Pn)(b0:Pn)(pl:Pn→Pn→Pn)(tu:Pn→Pn):List (FuncId×an):=
 [(243,eND de),(244,eBB can),(149,acz pre),(148,eJo jo),(45,eRo Ga),(147,acw red),(150,eNE en),(151,eNM mu),(152,e0P b0),(245,aCM pl),(246,aCL tu)]
abbrev jk9(pre:List Int→List Int)(jo:List Int→List Int→List Int→List Int→List Int)(p c m g:List Int):List Int:=jo (pre c) (List.take 32 (List.drop 0 (List.take 32 g))) (List.take 32 (List.drop 0 p)) (List.take 64 (List.drop 0 m))
theorem adw(de:List Int→Pn×Bool)(can:List Int→Bool)(pre Ga red:List Int→List Int)(jo:List Int→List Int→List Int→List Int→List Int)(en:Pn→List Int)(mu:List Int→Pn→Pn)(b0:Pn)(pl:Pn→Pn→Pn)(tu:Pn→Pn)(p c m g:List Int):aG Tryz.prog (YT de can pre Ga red jo en mu b0 pl tu) aym adv (veA.wr (p,c,m,g,())) [] kK=
 .need (p.length=32) (.need ((0:Int)=0∧g.length=64∧(List.replicate 32 (0:Int)).length=32∧(List.replicate 32 (0:Int)).length=32) (.ite (decide (255<(c.length:Int))==false) (.ite ((!(de p).2)==false) (.need (okB (g.drop 32)) (.ite (!(can (g.drop 32))) (.leaf (nB false) [])
  (.need ((0:Int)≤0∧(0:Int)≤32∧(32:Int)≤32) (.need ((0:Int)≤0∧(0:Int)≤32∧(32:Int)≤32) (.need ((0:Int)≤0∧(0:Int)≤64∧(64:Int)≤64) (.need (amP (pre c) (List.take 32 (List.drop 0 (List.take 32 g))) (List.take 32 (List.drop 0 p)) (List.take 64 (List.drop 0 m))) (.need ((jk9 pre jo p c m g).length≤17592186044416)
   (.need ((Ga (jk9 pre jo p c m g)).length=64∧ay (Ga (jk9 pre jo p c m g))) (.need ((g.drop 32).length=32) (.need ((red (Ga (jk9 pre jo p c m g))).length=32) (.leaf (nB (decide (en (pl (mu (g.drop 32) b0) (tu (mu (red (Ga (jk9 pre jo p c m g))) (de p).1)))=g.take 32))) []))))))))))) (.leaf (nB false) [])) (.leaf (nB false) []))):=by kernel_rfl
def EK(q:Pn)(P:BJ.Pt):Prop:=∃p:E4,q=pn p∧KE p P
theorem amR{q:Pn}{P:BJ.Pt}(h:EK q P):jq q=arc P:=by
 obtain⟨p,rfl,hp⟩:=h;unfold jq arc;rw[TW];unfold apY aqf;rw[at9 hp,aua hp]
theorem adx:EK mW lS:=⟨Dv,akg,NV⟩
theorem Gq{n:List Int}(hn:okB n){q:Pn}{P:BJ.Pt}(h:EK q P):EK (oZ n q) (mZ (sc n) P):=by
 obtain⟨p,rfl,hp⟩:=h;obtain⟨h1,h2⟩:=Ar hn;refine⟨aj2 (bx (kP n)).toNat p,by rw[Gp,akq h1],?_⟩;have:=akp (TY h1) hp;unfold sc;rw[← h2];exact this
theorem ady{q r:Pn}{P Q:BJ.Pt}(h:EK q P)(h':EK r Q):EK (mX q r) (P.add Q):=by
 obtain⟨p,rfl,hp⟩:=h;obtain⟨p',rfl,dB⟩:=h';exact⟨wy p p',akh p p',Ao hp dB⟩
theorem adz{q:Pn}{P:BJ.Pt}(h:EK q P):EK (mY q) P.neg:=by
 obtain⟨p,rfl,hp⟩:=h;exact⟨ajY p,aki p,X2 hp⟩
theorem arY{b:List Int}(hb:okB b):(gC b).2=(gm b).2∧∃P,EK (gC b).1 P∧NW (gm b).1 P:=by
 obtain⟨h1,_⟩:=Ar hb;obtain⟨d1,d2,d3⟩:=abA h1;have e:=TV h1;obtain⟨P,hP⟩:=awV (kP b);unfold gC;rw[e];exact⟨d3.symm,P,⟨_,rfl,hP⟩,⟨d1,by rw[show(gm b).1=(rV (kP b)).1 from rfl,d2];exact hP⟩⟩
theorem amS(b:List Int):(kO b).length=64:=qG _
theorem arZ(b:List Int):ay (kO b):=by
 have key:∀ (l:List Nat) (s a:List Int),ay a→ay (l.foldl (fun a i=>a++ck (s.getD i 0)) a):=by
  intro l s
  induction l with
  |nil=>exact fun a h=>h
  |cons i l ih=>exact fun a h=>ih _ (h.append (OK _))
 exact key _ _ [] (fun z hz=>by cases hz)
theorem Pr(a b c d:List Int):(fq a b c d).length=a.length+b.length+c.length+d.length:=by unfold fq;simp only[List.length_append]
abbrev ayn(pre Ga red:List Int→List Int)(jo:List Int→List Int→List Int→List Int→List Int)(r p c m:List Int):List Int:=red (Ga (jo (pre c) r p m))
theorem auO{b:List Int}(h:b.length≤17592186044416):kO b=gp b:=(Tx h).symm
theorem ar0{r p c m:List Int}(hr:r.length=32)(dB:p.length=32)(hm:m.length=64):ayn lp kO qZ fq r p c m=pr c r p m:=by
 have hp:=J4 c;have e:fq (lp c) r p m=lp c++(r++(p++m)):=by unfold fq;rw[List.append_assoc,List.append_assoc]
 show qZ (kO (fq (lp c) r p m))=pr c r p m;rw[auO (by rw[Pr,hr,dB,hm];omega),e];unfold pr;rfl
theorem amT(de:List Int→Pn×Bool)(can:List Int→Bool)(pre Ga red:List Int→List Int)(jo:List Int→List Int→List Int→List Int→List Int)(en:Pn→List Int)(mu:List Int→Pn→Pn)(b0:Pn)(pl:Pn→Pn→Pn)(tu:Pn→Pn){p c m g:List Int}(hp:p.length=32)(hm:m.length=64)(hg:g.length=64)(hb:ay g)(h1:∀b,(Ga b).length=64)(h2:∀b,ay (Ga b))(h3:∀b,okB (red b))(h9:(pre c).length≤289)(hj:∀a b c d,(jo a b c d).length=a.length+b.length+c.length+d.length):
  ∃t_:Ev.End,aG Tryz.prog (YT de can pre Ga red jo en mu b0 pl tu) aym adv (veA.wr (p,c,m,g,())) [] kK=t_∧t_.sat fun v dB=>v=nB ((de p).2&&(decide (c.length≤255)&&(can (g.drop 32)&&decide (en (pl (mu (g.drop 32) b0) (tu (mu (ayn pre Ga red jo (g.take 32) p c m) (de p).1)))=g.take 32))))∧dB= []:=by
 refine⟨_,adw ..,?_⟩;have l1:(g.take 32).length=32:=by rw[List.length_take,hg];decide
 have l2:(g.drop 32).length=32:=by rw[List.length_drop,hg]
 have ej:jk9 pre jo p c m g=jo (pre c) (g.take 32) p m:=by show jo _ _ _ _=_;rw[aY l1,aY hp,aY hm]
 rw[ej,aY l1,aY hp,aY hm];have hbd:ay (g.drop 32):=hb.drop 32;have j1:=hj (pre c) (g.take 32) p m;have l3:=h3 (Ga (jo (pre c) (g.take 32) p m));generalize de p=d at*;generalize g.take 32=r at*;generalize g.drop 32=s at*;obtain⟨a,ok⟩:=d;refine⟨hp,⟨rfl,hg,rfl,rfl⟩,fun h=>?_,fun h=>?_⟩
 ·have h:c.length≤255:=by simp at h;omega
  rw[decide_eq_true h]
  cases ok
  ·exact⟨fun h=>(by cases h),fun _=>⟨rfl,rfl⟩⟩
  ·refine⟨fun _=>⟨⟨l2,hbd⟩,fun h'=>?_,fun h'=>⟨by decide,by decide,by decide,?_,by rw[j1];omega,⟨h1 _,h2 _⟩,l2,l3.1,?_,rfl⟩⟩,fun h=>(by cases h)⟩
   ·have h':can s=false:=(by simpa using h');rw[h'];exact⟨rfl,rfl⟩
   ·show(pre c).length+r.length+p.length+m.length<1000000;omega
   ·have h':can s=true:=(by simpa using h');rw[h'];rfl
 ·have h:¬c.length≤255:=by simp at h;omega
  rw[decide_eq_false h]
  cases ok<;>exact⟨rfl,rfl⟩
theorem ar1{p c m g:List Int}(hp:okB p)(hm:m.length=64)(hg:g.length=64)(hb:ay g):
  ((gC p).2&&(decide (c.length≤255)&&(tJ (g.drop 32)&&decide (jq (mX (oZ (g.drop 32) mW) (mY (oZ (ayn lp kO qZ fq (g.take 32) p c m) (gC p).1)))=g.take 32))))=pH p c m g:=by
 obtain⟨e1,P,r9,r⟩:=arY hp;have l1:(g.take 32).length=32:=by rw[List.length_take,hg];decide
 have os:okB (g.drop 32):=⟨by rw[List.length_drop,hg],hb.drop 32⟩;have ok:=OL c (g.take 32) p m;rw[Yn,e1,ar0 l1 hp.1 hm,amR (ady (Gq os adx) (adz (Gq ok r9))),axD (aln ok os (aqe r)),aqb,BJ.Pt.add_comm]
def aC7(g:List Int→List Int→List Int→List Int→Bool):an:=an.cl [none,some u8,none,none] veA ag fun x _=>.leaf (some (okB x.1∧x.2.2.1.length=64∧x.2.2.2.1.length=64∧ay x.2.2.2.1)) (nB (g x.1 x.2.1 x.2.2.1 x.2.2.2.1)) []
theorem amU:∀p∈YT gC tJ lp kO qZ fq jq oZ mW mX mY,p.2.Ok Tryz.prog p.1:=aj U9 (aj arV (aj arW (aj amQ (aj YS (aj Vf (aj U7 (aj amG (aj amx (aj amz (aj amB ax))))))))))
abbrev aC8:an:=aC7 pH
theorem ar2:aC8.Ok Tryz.prog 171:=by
 refine(an.aN call171 fun x_ y_ Q H_=>?_).sym;obtain⟨p,c,m,g,_⟩:=x_;obtain⟨hn,hq⟩:=H_;have hn:okB p∧m.length=64∧g.length=64∧ay g:=hn;have hc:iq Tryz.prog 171 (veA.wr (p,c,m,g,())) [] (aG Tryz.prog (YT gC tJ lp kO qZ fq jq oZ mW mX mY) aym adv (veA.wr (p,c,m,g,())) [] kK):=ar mixed amU func171 rfl (aH.bK (js rfl (bD (hp:= []) arX) jt));obtain⟨t_,ht,hs⟩:=amT gC tJ lp kO qZ fq jq oZ mW mX mY (c:=c) hn.1.1 hn.2.1 hn.2.2.1 hn.2.2.2 amS arZ Yl (J4 c) Pr;rw[ar1 hn.1 hn.2.1 hn.2.2.1 hn.2.2.2]at hs;rw[ht]at hc;exact hc.use (D:= []) hs hq
theorem adA:aG Tryz.prog [] [] f94 [] [] [.auto,.aE]=
 End.leaf (LV.one (VV.sc (SV.sl (0:Nat) (0:Nat)))) [some (Item.own (0:Nat) (Ty.int IntKind.u8) [(98:Int),(111:Int),(111:Int),(116:Int),
 (106:Int),(97:Int),(99:Int),(107:Int)])]:=by kernel_rfl
theorem ar3:aaP.Ok Tryz.prog 94:=by
 refine an.aN call94 fun x y Q h=>?_;refine(ar mixed ax func94 rfl (LT:= []) (ks:= [.auto,.aE]) (aH.nil _)).use (D:= [(0,.own 0 u8 [98,111,111,116,106,97,99,107])]) ?_ h.2;show(aG _ _ _ _ [] [] _).sat _;rw[adA];exact⟨rfl,rfl⟩
abbrev adB:Func:=f119
abbrev clC:aM (List LV) (List (List Int)×List Int×Int×Unit):=(ae (ah (fh false false (.arr u8 32))) (ae (ah (fh false false u8)) (jk 2 (ai (ah (aC 0 0)) (jk 1 (ai (ah (aC 1 0)) (ai (ah (aC 2 0)) (jk 1 (ai (ah (aC 3 0)) (ae (ah (aA .i64)) (jk 61 ag)))))))))))
abbrev aDa:Wk:=.fr (cu 72 [(0,.al),(1,.al),(4,.al),(6,.al),(7,.al),(9,.al),(10,.sym)])
abbrev clX:aM (List LV) (List (List Int)×List Int×Unit):=(ae (ah (fh false false (.arr u8 32))) (ae (ah (fh false false u8)) (jk 2 (ai (ah (aC 0 0)) (jk 1 (ai (ah (aC 1 0)) (ai (ah (aC 2 0)) (jk 1 (ai (ah (aC 3 0)) (jk 62 ag))))))))))
abbrev aGH:Wk:=.fr (cu 72 [(0,.al),(1,.al),(4,.al),(6,.al),(7,.al),(9,.al)])
abbrev ayo:aM (Option Ev.Item) cK:=dH 45 axE
abbrev clH:aM Hp (cK×cK×(Int×Int×Unit)×cK×Unit):=ae ayo (ae ayo (ae (dH 40 (vN ag)) (ae ayo ag)))
abbrev ayp(i:Nat):Wk:=.aW i [.sym,.sym,.sym,.sym,.sym,.al,.al,.al]
def clW:Exit→List Wk
 | .normal=> [aDa,.auto]
 | .exit 0=> [aGH,.auto]
 |_=> []
theorem ayq(ks:List (List Int))(b:List Int)(i:Int)(r n:cK)(x y:Int)(l:cK):cO Tryz.prog [] [] adB 0 [] clW ((aS clC clH).wr ((ks,b,i,()),(r,n,(x,y,()),l,())))=
 aK.ite (decide (i<(64:Int))) (aK.need ((0:Int)≤i64.wrap ((160:Int)+i)∧i64.wrap ((160:Int)+i)<(↑b.length:Int))
 (aK.need ((0:Int)≤i∧i<(64:Int)) (aK.leaf Exit.normal ((aS clC clH).wr ((ks,b,i64.wrap (i+(1:Int)),PUnit.unit),r,n,(x,y,
 PUnit.unit),{key:=l.key,blocks:=l.blocks,bz:=l.bz,sign:=l.sign.set ((0:Nat)+i.toNat) (b.getD (i64.wrap ((160:Int)+i)).toNat (0:Int))},
 PUnit.unit))))) (aK.leaf (Exit.exit (0:Nat)) ((aS clX clH).wr ((ks,b,PUnit.unit),r,n,(x,y,PUnit.unit),l,PUnit.unit))):=by kernel_rfl
abbrev clT:Type:=(List (List Int)×List Int×Int×Unit)×cK×cK×(Int×Int×Unit)×cK×Unit
def clS(b:List Int)(l:cK):cK:= {l with sign:=b.drop 160}
def aDb(x:clT):aK:=.need (x.1.2.2.1=0∧x.1.2.1.length=224∧x.2.2.2.2.1.sign.length=64) (.leaf (.exit 0) ((aS clX clH).wr ((x.1.1,x.1.2.1,()),(x.2.1,x.2.2.1,x.2.2.2.1,clS x.1.2.1 x.2.2.2.2.1,()))))
theorem ar4(x:clT):Ex Tryz.prog [] (.loop (aO adB 0)) ((aS clC clH).wr x) (aDb x):=by
 obtain⟨⟨ks,b,i,_⟩,r,n,⟨x,y,_⟩,l,_⟩:=x;refine Ex.need fun⟨h1,h2,h3⟩=>?_;simp only at h1 h2 h3;subst h1
 have key:=dN (fn:=adB) (id:=0) (j:=0) (ws:=clW) (hp:= []) mixed ax (aH.nil _) 64 (fun k (o:List Int)=>(aS clC clH).wr ((ks,b,(k:Int),()),(r,n,(x,y,()),{l with sign:=o},()))) (fun(o:List Int)=>(aS clX clH).wr ((ks,b,()),(r,n,(x,y,()),{l with sign:=o},()))) (fun k o=>o.set k (b.getD (160+k) 0)) (fun _ o=>o.length=64)
  (fun k o R hk ho hn hx=>?_) (fun _ _ _ h=>by simpa using h) 0 l.sign (by omega) h3
 ·rw[Nat.sub_zero,jJ (fun k=>b.getD (160+k) 0) h3,hY (by omega),List.take_of_length_le (by rw[List.length_drop];omega)]at key;exact key
 rw[ayq];refine⟨fun hb=>?_,fun hb=>?_⟩
 ·have jz:k<64:=by have:=of_decide_eq_true hb;omega
  have e1:i64.wrap (160+(k:Int))=((160+k:Nat):Int):=by rw[ao (by omega) (by omega)];omega
  rw[e1,cJ k (by omega)];simp only[Int.toNat_natCast,Nat.zero_add];exact⟨by omega,by omega,hn jz⟩
 ·have:k=64:=by have:=of_decide_eq_false hb;omega
  exact hx this
abbrev ayr:dG:= [(0,dc (aS clC clH) 0 [aDa,.auto,ayp 0,ayp 1,.aW 2 [.sym,.sym],ayp 3] aDb)]
def ze(ks:List (List Int)):Prop:=∀k:Nat,k<ks.length→okB (ks.getD k k0)
def aDc(g:List (List Int)→List Int→cK×Int):an:=an.cl [some (.arr u8 32),some u8] ckA ag fun x _=>.leaf (some (ay x.2.1∧x.2.1.length<4294967296∧ze x.1)) (acD (g x.1 x.2.1)) []
abbrev YU(ver:List Int→List Int→List Int→List Int→Bool):List (FuncId×an):= [(100,km),(171,aC7 ver),(94,aaP),(95,Np),(172,at0)]
theorem Ps(ver:List Int→List Int→List Int→List Int→Bool)(ks:List (List Int))(b:List Int):aG Tryz.prog (YU ver) ayr adB (ckA.wr (ks,b,())) [] [.fr [.sym],.auto]=
 End.ite ((↑b.length:Int)!=(224:Int)) (End.leaf (LV.cj [VV.agg [SV.int i64 (SI.sym (0:Int)),SV.int i64 (SI.sym (0:Int)),
 SV.int u64 (SI.sym (0:Int)),SV.int u64 (SI.sym (0:Int)),SV.int i64 (SI.sym (0:Int)),SV.arr (Ty.int IntKind.u8) (64:
 Nat) (List.replicate (64:Nat) (0:Int)),SV.arr (Ty.int IntKind.u8) (64:Nat) (List.replicate (64:Nat) (0:Int)),SV.arr (Ty.int IntKind.u8) (64
 :Nat) (List.replicate (64:Nat) (0:Int))],VV.sc (SV.int i64 (SI.sym (6:Int)))]) []) (End.need ((0:Int)≤(0:Int)∧(0:Int)≤(8:
 Int)∧(8:Int)≤(↑b.length:Int)) (End.ite (!(aD (List.take (8:Nat) (List.drop (0:Nat) b))).snd) (End.leaf (LV.cj [VV.agg [SV.int
 i64 (SI.sym (0:Int)),SV.int i64 (SI.sym (0:Int)),SV.int u64 (SI.sym (0:Int)),SV.int u64 (SI.sym (0:Int)),
 SV.int i64 (SI.sym (0:Int)),SV.arr (Ty.int IntKind.u8) (64:Nat) (List.replicate (64:Nat) (0:Int)),SV.arr (Ty.int IntKind.u8) (64:
 Nat) (List.replicate (64:Nat) (0:Int)),SV.arr (Ty.int IntKind.u8) (64:Nat) (List.replicate (64:Nat) (0:Int))],VV.sc (SV.int i64
 (SI.sym (6:Int)))]) []) (End.ite (decide ((↑ks.length:Int)≤(aD (List.take (8:Nat) (List.drop (0:Nat) b))).fst.fst)) (End.leaf (LV.cj
 [VV.agg [SV.int i64 (SI.sym (0:Int)),SV.int i64 (SI.sym (0:Int)),SV.int u64 (SI.sym (0:Int)),SV.int u64
 (SI.sym (0:Int)),SV.int i64 (SI.sym (0:Int)),SV.arr (Ty.int IntKind.u8) (64:Nat) (List.replicate (64:Nat) (0:Int)),SV.arr (Ty.int
 IntKind.u8) (64:Nat) (List.replicate (64:Nat) (0:Int)),SV.arr (Ty.int IntKind.u8) (64:Nat) (List.replicate (64:Nat) (0:Int))],VV.sc
 (SV.int i64 (SI.sym (15:Int)))]) []) (End.need ((0:Int)=(0:Int)∧b.length=(224:Nat)∧(64:Nat)=(64:Nat)) (End.need ((0:
 Int)≤(aD (List.take (8:Nat) (List.drop (0:Nat) b))).fst.fst∧(aD (List.take (8:Nat) (List.drop (0:Nat) b))).fst.fst<
 (↑ks.length:Int)) (End.need (b.length<(4294967296:Nat)) (End.need (okB (ks.getD (aD (List.take (8:Nat) (List.drop (0:Nat)
 b))).fst.fst.toNat (List.replicate (32:Nat) (0:Int)))∧(64:Nat)=(64:Nat)∧(List.drop (160:Nat) b).length=(64:Nat)∧ay (List.drop
 (160:Nat) b)) (End.ite (!ver (ks.getD (aD (List.take (8:Nat) (List.drop (0:Nat) b))).fst.fst.toNat (List.replicate (32:Nat) (0:Int)))
 [(98:Int),(111:Int),(111:Int),(116:Int),(106:Int),(97:Int),(99:Int),(107:Int)] (fI b) (List.drop (160:Nat) b)) (End.leaf
 (LV.cj [VV.agg [SV.int i64 (SI.sym (0:Int)),SV.int i64 (SI.sym (0:Int)),SV.int u64 (SI.sym (0:Int)),SV.int
 u64 (SI.sym (0:Int)),SV.int i64 (SI.sym (0:Int)),SV.arr (Ty.int IntKind.u8) (64:Nat) (List.replicate (64:Nat) (0:Int)),
 SV.arr (Ty.int IntKind.u8) (64:Nat) (List.replicate (64:Nat) (0:Int)),SV.arr (Ty.int IntKind.u8) (64:Nat) (List.replicate (64:Nat) (0:
 Int))],VV.sc (SV.int i64 (SI.sym (8:Int)))]) []) (End.need ((0:Int)≤(8:Int)∧(8:Int)≤(160:Int)∧(160:Int)≤(↑b.length:
 Int)) (End.need (ay (List.take (152:Nat) (List.drop (8:Nat) b))) (End.ite (!(gP (List.take (152:Nat) (List.drop (8:Nat) b))).snd)
 (End.leaf (LV.cj [VV.agg [SV.int i64 (SI.sym (0:Int)),SV.int i64 (SI.sym (0:Int)),SV.int u64 (SI.sym (0:Int)),SV.int
 u64 (SI.sym (0:Int)),SV.int i64 (SI.sym (0:Int)),SV.arr (Ty.int IntKind.u8) (64:Nat) (List.replicate (64:Nat) (0:Int)),
 SV.arr (Ty.int IntKind.u8) (64:Nat) (List.replicate (64:Nat) (0:Int)),SV.arr (Ty.int IntKind.u8) (64:Nat) (List.replicate (64:Nat) (0:
 Int))],VV.sc (SV.int i64 (SI.sym (6:Int)))]) []) (End.leaf (LV.cj [VV.agg [SV.int i64 (SI.sym (aD (List.take (8:Nat)
 (List.drop (0:Nat) b))).fst.fst),SV.int i64 (SI.sym (aD (List.take (8:Nat) (List.drop (0:Nat) b))).fst.snd),SV.int u64
 (SI.sym (gP (List.take (152:Nat) (List.drop (8:Nat) b))).fst.ver),SV.int u64 (SI.sym (gP (List.take (152:Nat) (List.drop (8:Nat)
 b))).fst.lh),SV.int i64 (SI.sym (gP (List.take (152:Nat) (List.drop (8:Nat) b))).fst.len),SV.arr (Ty.int IntKind.u8) (64:Nat) (gP
 (List.take (152:Nat) (List.drop (8:Nat) b))).fst.list,SV.arr (Ty.int IntKind.u8) (64:Nat) (gP (List.take (152:Nat) (List.drop (8:Nat)
 b))).fst.plain,SV.arr (Ty.int IntKind.u8) (64:Nat) (List.drop (160:Nat) b)],VV.sc (SV.int i64 (SI.sym (0:Int)))]) [])))))))))))):=by kernel_rfl
theorem Vh{ver:List Int→List Int→List Int→List Int→Bool}{ks:List (List Int)}{b:List Int}(hb:ay b)(hl:b.length<4294967296)(hk:ze ks):
  ∃t_:Ev.End,aG Tryz.prog (YU ver) ayr adB (ckA.wr (ks,b,())) [] [.fr [.sym],.auto]=t_∧t_.sat fun v dB=>v=acD (cS ver ks b)∧dB= []:=by
 refine⟨_,Ps ..,?_⟩;have e0:List.drop 0 b=b:=rfl;rw[e0];refine⟨fun h=>?_,fun h=>?_⟩
 ·have hn:¬ (b.length=224∧(aD (b.take 8)).2=true):=fun⟨h',_⟩=>by rw[h']at h;simp at h
  exact⟨kM (r:=(dW,6)) (by unfold cS;rw[if_neg hn]),rfl⟩
 have PC:b.length=224:=by have:((b.length:Int)!=224)=false:=h
                          simp at this;omega
 have l1:(b.drop 160).length=64:=by rw[List.length_drop,PC]
 obtain⟨k1,k2⟩:=zb (l:=b.take 8);have by1:=hb.drop 160;have by2:ay (List.take 152 (List.drop 8 b)):=(hb.drop 8).take 152;refine⟨by omega,fun h1=>?_,fun h1=>?_⟩
 ·have hn:¬ (b.length=224∧(aD (b.take 8)).2=true):=fun⟨_,h'⟩=>by rw[h']at h1;simp at h1
  exact⟨kM (r:=(dW,6)) (by unfold cS;rw[if_neg hn]),rfl⟩
 have hp:b.length=224∧(aD (b.take 8)).2=true:=⟨PC,by simpa using h1⟩;refine⟨fun h2=>?_,fun h2=>?_⟩
 ·have h2:=of_decide_eq_true h2;exact⟨kM (r:=(dW,15)) (by unfold cS;rw[if_pos hp,if_pos h2]),rfl⟩
 have h2:=of_decide_eq_false h2;refine⟨⟨rfl,PC,rfl⟩,by omega,by omega,⟨hk _ (by omega),rfl,l1,by1⟩,fun h3=>?_,fun h3=>?_⟩
 ·have h3:¬ver (ks.getD (aD (b.take 8)).1.1.toNat k0) J6 (fI b) (b.drop 160)=true:=fun h'=>by
   have EM:(!ver (ks.getD (aD (b.take 8)).1.1.toNat k0) J6 (fI b) (b.drop 160))=true:=h3;rw[h']at EM;cases EM
  exact⟨kM (r:=(dW,8)) (by unfold cS;rw[if_pos hp,if_neg h2,if_neg h3]),rfl⟩
 have EM:ver (ks.getD (aD (b.take 8)).1.1.toNat k0) J6 (fI b) (b.drop 160)=true:=by
  have EM:(!ver (ks.getD (aD (b.take 8)).1.1.toNat k0) J6 (fI b) (b.drop 160))=false:=h3;simpa using EM
 refine⟨by omega,by2,fun h4=>?_,fun h4=>?_⟩
 ·have h4:¬ (gP ((b.drop 8).take 152)).2=true:=fun h'=>by rw[h']at h4;cases h4
  exact⟨kM (r:=(dW,6)) (by unfold cS;rw[if_pos hp,if_neg h2,if_pos EM,if_neg h4]),rfl⟩
 ·have h4:(gP ((b.drop 8).take 152)).2=true:=by simpa using h4
  exact⟨kM (r:=(alo b,0)) (by unfold cS;rw[if_pos hp,if_neg h2,if_pos EM,if_pos h4]),rfl⟩
theorem amV:∀p∈YU pH,p.2.Ok Tryz.prog p.1:=aj y5 (aj ar2 (aj ar3 (aj TA (aj apJ ax))))
theorem adC:(aDc (cS pH)).Ok Tryz.prog 119:=by
 refine(an.aN call119 fun x_ y_ Q h=>?_).sym;obtain⟨ks,b,_⟩:=x_;obtain⟨hn,hq⟩:=h;have hc:iq Tryz.prog 119 (ckA.wr (ks,b,())) [] (aG Tryz.prog (YU pH) ayr adB (ckA.wr (ks,b,())) [] [.fr [.sym],.auto]):=ar mixed amV func119 rfl (aH.bK (js rfl (bD (hp:= []) ar4) jt));obtain⟨t,ht,hs⟩:=Vh (ver:=pH) hn.1 hn.2.1 hn.2.2;rw[ht]at hc;exact hc.use (D:= []) hs hq
theorem ar5{ks:List (List Int)}(h:ze ks):Ux ks:=fun k hk=>(h k hk).1
end Go.Proofs.YtnbkagglkajbkaaGreat
end
