/- What the laws lean on, part 17: a reader of code, plain facts, and what each function gives; no conditions. -/
import Derived.Test.YtcbjpiangpjbgaaGreatA16
set_option linter.unusedVariables false
set_option linter.unusedSimpArgs false
noncomputable section
namespace Go.Proofs.YtcbjpiangpjbgaaGreat
open Go Go.Ev Go.Proofs.Tryz
open Go.IntKind (i64 signed u32 u64 wrap wrap_u32)
set_option maxRecDepth 1000000
abbrev smA:aY (List LV) (HH×(Int×Int)×Int×Unit):=ag (iD cHH) (ag (iD cRg) (ag (ah (aC .i64)) ae))
abbrev Ur:Type:=Int×Int×Int×Int×Int×(List Int)×(List Int)×(List Int)×Int
abbrev auL(x:Ur):LV:=LV.cG [VV.agg [SV.int i64 (SI.sym x.1),SV.int i64 (SI.sym x.2.1),SV.int u64
 (SI.sym x.2.2.1),SV.int u64 (SI.sym x.2.2.2.1),SV.int i64 (SI.sym x.2.2.2.2.1),SV.arr (Ty.int IntKind.u8) 64 x.2.2.2.2.2.1,SV.arr
 (Ty.int IntKind.u8) 64 x.2.2.2.2.2.2.1,SV.arr (Ty.int IntKind.u8) 64 x.2.2.2.2.2.2.2.1],VV.sc (SV.int i64 (SI.sym x.2.2.2.2.2.2.2.2))]
abbrev auM(x:Ur):List (Nat×Ev.Item):= []
def ajy(c:List (List Int)×Int)(fl:Int)(b:List Int):Tr (Ur):=(.need (ax b∧b.length<1152921504606846976∧F6
 c.fst) (.ite ((mr c.fst b).snd !=0) (.ret (0,0,0,0,0,List.replicate 64 (0:Int),List.replicate 64 (0:Int),List.replicate 64 (0:Int),(mr
 c.fst b).snd)) (.need (zG c) (.ite (decide (bo c<(mr c.fst b).fst.cM.len)) (.ret (0,0,0,0,0,List.replicate 64 (0:Int),
 List.replicate 64 (0:Int),List.replicate 64 (0:Int),10)) (.ite (decide ((mr c.fst b).fst.cM.ver<fl)) (.ret (0,0,0,0,0,List.replicate 64
 (0:Int),List.replicate 64 (0:Int),List.replicate 64 (0:Int),9)) (.ret ((mr c.fst b).fst.key,(mr c.fst b).fst.blocks,(mr c.fst
 b).fst.cM.ver,(mr c.fst b).fst.cM.lu,(mr c.fst b).fst.cM.len,(mr c.fst b).fst.cM.list,(mr c.fst b).fst.cM.plain,(mr c.fst b).fst.sign,
 0)))))))
theorem YI(c:List (List Int)×Int)(fl:Int)(b:List Int):aN Tryz.prog [(41,ay1),(42,abR)] [] f22 (((ag (iD ZZ) (ag (ah (aC .u64)) (ag (ah (fR false false u8)) ae)))).wr (c,fl,b,())) ((ae).wr (())) [.fr [.sym],.syms,.auto,.aE]=(ajy c fl b).end auL auM ((ae).wr (())):=by kernel_rfl
theorem ajz(c:List (List Int)×Int)(fl:Int)(b:List Int):aJ Tryz.prog ((ae).wr (())) [] (aD f22):=(aJ.nil _)
abbrev F7(c:List (List Int)×Int)(fl:Int)(b:List Int):Prop:=ax b∧b.length<4294967296∧F6 c.1
abbrev ajA(c:List (List Int)×Int)(fl:Int)(b:List Int):Ur:=ajx (b9 c.1 fl (bo c) b)
def auN:ao:=cd [some (.arr u8 32),none,some u8] ((ag (iD ZZ) (ag (ah (aC .u64)) (ag (ah (fR false false u8)) ae)))) (ae) (fun x_ y_=>F7 x_.1 x_.2.1 x_.2.2.1) (fun x_ y_=>ajA x_.1 x_.2.1 x_.2.2.1) auL auM
theorem aqD(c:List (List Int)×Int)(fl:Int)(b:List Int)(h_:F7 c fl b):(ajy c fl b).Is (ajA c fl b):=by
 delta ajA;simp only[ajy,b9,ai,aH,aS,bb,aP,ay,aG,aT,aM,aQ,bl,bf,aK,aF,ak]
 try simp only[aA,ai,aH,aS,bb,aP,ay,aG,aT,aM,aQ,bl,bf,aK,aF,ak]
 generalize mr c.1 b=x;grind [aEI,aEJ]
theorem aqE:auN.Ok Tryz.prog 22:=
 br mixed ((aj ay2 (aj abT aw))) func22 (by kernel_rfl) call22 (fun x_ y_=>ajz x_.1 x_.2.1 x_.2.2.1) (fun x_ y_=>YI x_.1 x_.2.1 x_.2.2.1) (fun x_ y_ h=>aqD x_.1 x_.2.1 x_.2.2.1 h)
abbrev jHs:aY Ev.Item HH:=oT 76 cHH
abbrev jRg:aY Ev.Item (Int×Int):=oT 64 cRg
abbrev ajB:Type:=Int×Int×(Int×Bool×Bool×Int)×(List Int)×(List Int)×HH×(Int×Int)×(List Int)
abbrev ajC:aY St ajB:=(bg (jk 2 (ag (ah (aC i64)) (aq (ah (aU (3) (0))) (aq (ah (aU (4) (0))) (jk 1
 (aq (ah (aU (5) (0))) (jk 1 (ag (ah (aC i64)) (jk 25 ae))))))))) (ag (eV jFl) (ag (eX (0) (Ty.int IntKind.u8))
 (ag (eX (0) (Ty.int i64)) (ag (eV jHs) (ag (eV jRg) (ag (kY (37) ((ag (tc (Ty.int IntKind.u8) (64)) ae)))
 ae))))))).kB (fun y=>(y.1.1,y.1.2.1,y.2.1,y.2.2.1,y.2.2.2.1,y.2.2.2.2.1,y.2.2.2.2.2.1,y.2.2.2.2.2.2.1.1)) (fun x=>((x.1,(x.2.1,())),
 (x.2.2.1,(x.2.2.2.1,(x.2.2.2.2.1,(x.2.2.2.2.2.1,(x.2.2.2.2.2.2.1,((x.2.2.2.2.2.2.2,()),())))))))) (fun _=>rfl)
abbrev ay3:List Wk:= [.fr (cC 34 [(2,.al),(3,.al),(4,.al),(6,.al),(8,.al)]),.syms,.auto,.aE]
abbrev aEK:Exit→List Wk:=w6 ay3 0 [.fr (cC 34 [(3,.al),(6,.al)]),.syms,.auto,.aE] [.fr (cC 34 [(6,.al),(7,.al)]),.syms,
 .auto,.aE]
def CG(n:Int)(at_:Int)(f:Int×Bool×Bool×Int)(b:List Int)(er:List Int)(h:HH)(r:Int×Int)(z:List Int):
 Int:=if i64.wrap (n-at_)<1024 then i64.wrap (n-at_)else 1024
def CH(n:Int)(at_:Int)(f:Int×Bool×Bool×Int)(b:List Int)(er:List Int)(h:HH)(r:Int×Int)(z:List Int):
 List Int×Int:=if f.snd.fst=true then([],5)else if 0≤i64.wrap (2048+at_)∧0≤CG n at_ f b er h r z∧i64.wrap (2048+
 at_)+CG n at_ f b er h r z≤1024*r.snd then(b8 b (1024*r.fst+i64.wrap (2048+at_)) (CG n at_ f b er h r z),0)else([],2)
abbrev ajD:Type:=Int×(Int×Bool×Bool×Int)×(List Int)×(List Int)×(List Int)
abbrev auO(x:ajD):Exit×St:=(Exit.ret,⟨(ir 6 (LV.one (VV.sc (SV.ptr 3 0))::(LV.one (VV.sc (SV.int i64 (SI.sym
 x.1)))::(ir 26 [])))),[some (jFl.wr x.2.1),some (Item.own 0 (Ty.int IntKind.u8) x.2.2.1),some (Item.own 0 (Ty.int i64) x.2.2.2.1),some
 (Item.bH [SV.arr (Ty.int IntKind.u8) 64 x.2.2.2.2] 37)]⟩)
abbrev ajE:Type:=(Int×Bool×Bool×Int)×(List Int)×(List Int)×HH×(List Int)
abbrev auP(x:ajE):Exit×St:=(Exit.exit 0,⟨(ir 3 (LV.one (VV.sc (SV.ptr 3 0))::(ir 2 (LV.one (VV.sc (SV.ptr 4 0))::(ir
 27 []))))),[some (jFl.wr x.1),some (Item.own 0 (Ty.int IntKind.u8) x.2.1),some (Item.own 0 (Ty.int i64) x.2.2.1),some (jHs.wr x.2.2.2.1),
 some (Item.bH [SV.arr (Ty.int IntKind.u8) 64 x.2.2.2.2] 37)]⟩)
def YJ(n:Int)(at_:Int)(f:Int×Bool×Bool×Int)(b:List Int)(er:List Int)(h:HH)(r:Int×Int)(z:List Int):Tr
 (ajB⊕(ajD⊕ajE)):=(.ite (decide (at_<n)) (.need (ik r (i64.wrap (2048+at_)) (CG n at_ f b er h r z) f b er) (.ite
 ((CH n at_ f b er h r z).snd !=0) (.ret (.inr (.inl ((CH n at_ f b er h r z).snd,f,b,er,List.replicate 64 (0:Int))))) (.need (oq h∧h.n
 +(↑(CH n at_ f b er h r z).fst.length:Int)<2305843009213693952) (.ret (.inl (n,i64.wrap (at_+1024),f,b,er,cf h (CH n at_ f
 b er h r z).fst,r,z)))))) (.ret (.inr (.inr (f,b,er,h,z)))))
theorem ajF(h':HH)(r':Int×Int)(n':Int)(f':Fl)(b' w7:List Int)(n:Int)(at_:Int)(f:Int×Bool×Bool×Int)(b:List Int)(er:List Int)(h:HH)(r:Int×Int)(z:List Int):cY Tryz.prog [(21,tk),(25,zX),(43,an8)] [] f23 0 ((eP).wr (f',b',w7,())) aEK (ajC.wr (n,at_,f,b,er,h,r,z))=(YJ n at_ f b er h r z).res ajC.wr (Sum.elim auO auP):=by kernel_rfl
abbrev F8(n:Int)(at_:Int)(f:Int×Bool×Bool×Int)(b:List Int)(er:List Int)(h:HH)(r:Int×Int)(z:List Int):Prop:=jZ b er∧xl r er∧0≤at_∧0≤n∧2048+n≤1024*r.2∧oq h∧h.n+(n-at_)<1152921504606846976
abbrev ay4(n:Int)(at_:Int)(f:Int×Bool×Bool×Int)(b:List Int)(er:List Int)(h:HH)(r:Int×Int)(z:List Int):Bool:=decide (at_<n∧f.2.1=true)
abbrev ay5(n:Int)(at_:Int)(f:Int×Bool×Bool×Int)(b:List Int)(er:List Int)(h:HH)(r:Int×Int)(z:List Int):ajD:=(5,f,b,er,List.replicate 64 0)
abbrev ay6(n:Int)(at_:Int)(f:Int×Bool×Bool×Int)(b:List Int)(er:List Int)(h:HH)(r:Int×Int)(z:List Int):ajE:=(f,b,er,cf h (b8 b (1024*r.1+2048+at_) (n-at_)),z)
abbrev ay7:ajB→aW:=rL (fun x_=>F8 x_.1 x_.2.1 x_.2.2.1 x_.2.2.2.1 x_.2.2.2.2.1 x_.2.2.2.2.2.1 x_.2.2.2.2.2.2.1 x_.2.2.2.2.2.2.2) (fun x_=>ay4 x_.1 x_.2.1 x_.2.2.1 x_.2.2.2.1 x_.2.2.2.2.1 x_.2.2.2.2.2.1 x_.2.2.2.2.2.2.1 x_.2.2.2.2.2.2.2) (fun x_=>ay5 x_.1 x_.2.1 x_.2.2.1 x_.2.2.2.1 x_.2.2.2.2.1 x_.2.2.2.2.2.1 x_.2.2.2.2.2.2.1 x_.2.2.2.2.2.2.2) (fun x_=>ay6 x_.1 x_.2.1 x_.2.2.1 x_.2.2.2.1 x_.2.2.2.2.1 x_.2.2.2.2.2.1 x_.2.2.2.2.2.2.1 x_.2.2.2.2.2.2.2) auO auP
theorem ay8(n:Int)(at_:Int)(f:Int×Bool×Bool×Int)(b:List Int)(er:List Int)(h:HH)(r:Int×Int)(z:List Int)(h_:F8 n at_ f b er h r z):dV (fun x_:ajB=>YJ x_.1 x_.2.1 x_.2.2.1 x_.2.2.2.1 x_.2.2.2.2.1 x_.2.2.2.2.2.1 x_.2.2.2.2.2.2.1 x_.2.2.2.2.2.2.2) (n,at_,f,b,er,h,r,z) (bif ay4 n at_ f b er h r z then .inl (ay5 n at_ f b er h r z)else .inr (ay6 n at_ f b er h r z)):=by
 delta ay4 ay5 ay6;obtain⟨⟨a1,a2,a3⟩,⟨b1,b2,b3⟩,h3,h4,h5,h6,h7⟩:=h_;obtain⟨j,hj⟩:∃j:Nat,(n-at_).toNat≤1024*j:=⟨(n-at_).toNat,by omega⟩
 induction j generalizing at_ h with
 |zero=>
  have c:¬at_<n:=by omega
  refine .stop ?_;rw[vG b _ (by omega)];simp[YJ,c,aA,ak,cf]
 |succ j ih=>
  by_cases c:at_<n
  ·by_cases c2:f.2.1=true
   ·refine .stop ?_;simp only[YJ,CG,CH,ai,aH,aS,bb,aP,ay,aG,aT,aM,aQ,bl,bf,aK,aF,ak]
    try simp only[aA,ai,aH,aS,bb,aP,ay,aG,aT,aM,aQ,bl,bf,aK,aF,ak]
    grind [ar]
   ·obtain⟨m,hm,m1,m2⟩:∃m,(if n-at_<1024 then n-at_ else 1024)=m∧0≤m∧m≤n-at_:=⟨_,rfl,by split<;>omega,by split<;>omega⟩
    have e2:b8 b (1024*r.1+2048+at_) (n-at_)=b8 b (1024*r.1+2048+at_) m++b8 b (1024*r.1+2048+(at_+1024)) (n-(at_+1024)):=by
     by_cases c3:n-at_<1024
     ·rw[vG b _ (by omega:n-(at_+1024)≤0),List.append_nil,← hm,if_pos c3]
     ·rw[if_neg c3]at hm;subst hm;rw[show n-at_=1024+(n-(at_+1024)) by omega,abp b (by omega) (by omega) (by omega)]
      congr 2<;>omega
    have l2:=iF (b:=b) (p:=1024*r.1+2048+at_) (m:=m) ⟨by omega,by omega,by omega⟩;have n2:=k9 (b8 b (1024*r.1+2048+at_) m) h;have o2:=jK (b8 b (1024*r.1+2048+at_) m) h6;have w:=ih (at_+1024) (cf h (b8 b (1024*r.1+2048+at_) m)) (by omega) o2 (by split at hm<;>omega) (by omega);rw[← gv,← e2]at w;have c3:decide (at_+1024<n∧f.2.1=true)=decide (at_<n∧f.2.1=true):=(by grind);rw[c3]at w;refine .go ?_ w;have e3:i64.wrap (n-at_)=n-at_:=ar (by omega) (by omega);have e4:i64.wrap (2048+at_)=2048+at_:=ar (by omega) (by omega);have e5:1024*r.1+(2048+at_)=1024*r.1+2048+at_:=(by omega);simp only[YJ,CG,CH,e3,e4,e5,hm,ai,aH,aS,bb,aP,ay,aG,aT,aM,aQ,bl,bf,aK,aF,ak]
    try simp only[aA,ai,aH,aS,bb,aP,ay,aG,aT,aM,aQ,bl,bf,aK,aF,ak]
    grind [ar]
  ·refine .stop ?_;rw[vG b _ (by omega)];simp[YJ,c,aA,ak,cf]
theorem aqF(h':HH)(r':Int×Int)(n':Int)(f':Fl)(b' w7:List Int):∀x:ajB,Ex Tryz.prog ((eP).wr (f',b',w7,())) (.loop (a9 f23 0)) (ajC.wr x) (ay7 x):=
 cQ mixed ((aj p9 (aj tw (aj N8 aw)))) (ws:=aEK) (aJ.nil _) (fun x_=>ajF h' r' n' f' b' w7 x_.1 x_.2.1 x_.2.2.1 x_.2.2.2.1 x_.2.2.2.2.1 x_.2.2.2.2.2.1 x_.2.2.2.2.2.2.1 x_.2.2.2.2.2.2.2) (fun z=>by cases z<;>(intro e;cases e)) vF (fun x_ h=>ay8 x_.1 x_.2.1 x_.2.2.1 x_.2.2.2.1 x_.2.2.2.2.1 x_.2.2.2.2.2.1 x_.2.2.2.2.2.2.1 x_.2.2.2.2.2.2.2 h)
def Us(h:HH)(r:Int×Int)(n:Int)(b:List Int):HH:=cf h (b8 b (1024*r.fst+(2048:Int)+0) (n-0))
abbrev aqG:Type:=(List Int)×Int
abbrev aEL(x:aqG):LV:=LV.cG [VV.agg [SV.arr (Ty.int IntKind.u8) 64 x.1],VV.sc (SV.int i64 (SI.sym x.2))]
abbrev aEM(x:aqG):List (Nat×Ev.Item):= []
def ay9(h:HH)(r:Int×Int)(n:Int)(f:Int×Bool×Bool×Int)(b:List Int)(er:List Int):Tr (aqG):=(.need (F8 n
 0 f b er h r (List.replicate 64 (0:Int))) (.ite (decide (0<n∧f.snd.fst=true)) (.ret (List.replicate 64 (0:Int),5)) (.need (oq (Us h r n
 b)∧(Us h r n b).n<1152921504606846976) (.ret (Jh (Us h r n b),0)))))
theorem ajG(h:HH)(r:Int×Int)(n:Int)(f:Fl)(b er:List Int):aN Tryz.prog [(21,tk),(25,zX),(43,an8)] [(0,cg ajC ((eP).wr (f,b,er,())) ay3 (ay7))] f23 ((smA).wr (h,r,n,())) ((eP).wr (f,b,er,())) [.fr [.sym],.syms,.auto,.aE]=(ay9 h r n f b er).end aEL aEM ((eP).wr (f,b,er,())):=by kernel_rfl
theorem aqH(h:HH)(r:Int×Int)(n:Int)(f:Fl)(b er:List Int):aJ Tryz.prog ((eP).wr (f,b,er,())) [(0,cg ajC ((eP).wr (f,b,er,())) ay3 (ay7))] (aD f23):=(aJ.bW (jc (by kernel_rfl) (ck (hp:=(eP).wr (f,b,er,())) (aqF h r n f b er)) jh))
def YK(f:Fl)(b:List Int)(h:HH)(r:Int×Int)(n:Int):List Int×Int:=if 0<n∧f.2.1=true then(List.replicate 64 0,5)else(Jh (cf h (b8 b (1024*r.1+2048) n)),0)
abbrev AJ(h:HH)(r:Int×Int)(n:Int)(f:Fl)(b er:List Int):Prop:=jZ b er∧xl r er∧0≤n∧2048+n≤1024*r.2∧oq h∧h.n+n<1152921504606846976
abbrev aza(h:HH)(r:Int×Int)(n:Int)(f:Fl)(b er:List Int):aqG:=YK f b h r n
def aEN:ao:=cd [] (smA) (eP) (fun x_ y_=>AJ x_.1 x_.2.1 x_.2.2.1 y_.1 y_.2.1 y_.2.2.1) (fun x_ y_=>aza x_.1 x_.2.1 x_.2.2.1 y_.1 y_.2.1 y_.2.2.1) aEL aEM
theorem azb(h:HH)(r:Int×Int)(n:Int)(f:Fl)(b er:List Int)(h_:AJ h r n f b er):(ay9 h r n f b er).Is (aza h r n f b er):=by
 delta aza;obtain⟨h1,h2,h4,h5,h6,h7⟩:=h_;have p0:F8 n 0 f b er h r (List.replicate 64 0):=⟨h1,h2,by omega,h4,h5,h6,by omega⟩;have l2:((b8 b (1024*r.1+2048) n).length:Int)=n:=iF ⟨by omega,by omega,by omega⟩;have n2:=k9 (b8 b (1024*r.1+2048) n) h;have o2:=jK (b8 b (1024*r.1+2048) n) h6;simp only[ay9,Us,YK,Int.sub_zero,Int.add_zero,ai,aH,aS,bb,aP,ay,aG,aT,aM,aQ,bl,bf,aK,aF,ak]
 try simp only[aA,ai,aH,aS,bb,aP,ay,aG,aT,aM,aQ,bl,bf,aK,aF,ak]
 refine⟨p0,?_⟩;grind
theorem azc:aEN.Ok Tryz.prog 23:=
 br mixed ((aj p9 (aj tw (aj N8 aw)))) func23 (by kernel_rfl) call23 (fun x_ y_=>aqH x_.1 x_.2.1 x_.2.2.1 y_.1 y_.2.1 y_.2.2.1) (fun x_ y_=>ajG x_.1 x_.2.1 x_.2.2.1 y_.1 y_.2.1 y_.2.2.1) (fun x_ y_ h=>azb x_.1 x_.2.1 x_.2.2.1 y_.1 y_.2.1 y_.2.2.1 h)
def mm(f:Int×Bool×Bool×Int):Int×Bool×Bool×Int:=f
def cr(c:List (List Int)×Int)(slot:Int)(fl:Int)(f:Int×Bool×Bool×Int)(b:List Int)(er:List Int):List Int×
 Int:=if f.snd.fst=true then([],5)else if(0:Int)≤0∧(0:Int)≤224∧(224:Int)≤1024*c.snd then(b8 b (1024*(2+slot*c.snd)+
 0) 224,0)else([],2)
def uN(c:List (List Int)×Int)(slot:Int)(fl:Int)(f:Int×Bool×Bool×Int)(b:List Int)(er:List Int):List Int×
 Int:=YK (mm f) b {begun:=true,s:=jA,n:=0,wait:=List.replicate 128 (0:Int)} (2+slot*c.snd,c.snd) (b9 c.fst fl (bo
 c) (cr c slot fl f b er).fst).fst.cM.len
def lY(c:List (List Int)×Int)(slot:Int)(fl:Int)(f:Int×Bool×Bool×Int)(b:List Int)(er:List Int):List Int
 :=k8 (b9 c.fst fl (bo c) (cr c slot fl f b er).fst).fst.cM.ver (b9 c.fst fl (bo c) (cr c slot fl f b er).fst).fst.cM.lu (b9
 c.fst fl (bo c) (cr c slot fl f b er).fst).fst.cM.len (b9 c.fst fl (bo c) (cr c slot fl f b er).fst).fst.cM.list (b9 c.fst fl
 (bo c) (cr c slot fl f b er).fst).fst.cM.plain
def F9(c:List (List Int)×Int)(slot:Int)(fl:Int)(f:Int×Bool×Bool×Int)(b:List Int)(er:List Int):HH:=cf
 {begun:=true,s:=jA,n:=0,wait:=List.replicate 128 (0:Int)} (lY c slot fl f b er)
def uO(c:List (List Int)×Int)(slot:Int)(fl:Int)(f:Int×Bool×Bool×Int)(b:List Int)(er:List Int):List Int×
 Int:=YK (mm f) b (F9 c slot fl f b er) (2+slot*c.snd,c.snd) (b9 c.fst fl (bo c) (cr c slot fl f b er).fst).fst.cM.len
abbrev Ld:Type:=Int×Int×Int×Int×Int×(List Int)×(List Int)×(List Int)×(List Int)×Int
abbrev auQ(x:Ld):LV:=LV.cG [VV.agg [SV.int i64 (SI.sym x.1),SV.int i64 (SI.sym x.2.1),SV.int u64
 (SI.sym x.2.2.1),SV.int u64 (SI.sym x.2.2.2.1),SV.int i64 (SI.sym x.2.2.2.2.1),SV.arr (Ty.int IntKind.u8) 64 x.2.2.2.2.2.1,SV.arr
 (Ty.int IntKind.u8) 64 x.2.2.2.2.2.2.1,SV.arr (Ty.int IntKind.u8) 64 x.2.2.2.2.2.2.2.1],VV.agg [SV.arr (Ty.int IntKind.u8) 64 x.2.2.2.2.2.2.2.2.1],
 VV.sc (SV.int i64 (SI.sym x.2.2.2.2.2.2.2.2.2))]
abbrev auR(x:Ld):List (Nat×Ev.Item):= []
def ajH(c:List (List Int)×Int)(slot:Int)(fl:Int)(f:Int×Bool×Bool×Int)(b:List Int)(er:List Int):Tr (Ld)
 :=(.ite (!decide (((1≤c.fst.length∧c.fst.length≤8∧3≤c.snd∧c.snd≤100)∧(2:Int)+2*c.snd≤(↑er.length:Int))∧0≤slot∧slot<
 2)) (.need (kZ c slot (mm f) b er) (.ret (0,0,0,0,0,List.replicate 64 (0:Int),List.replicate 64 (0:Int),List.replicate 64 (0:
 Int),List.replicate 64 (0:Int),1))) (.need (kZ c slot (mm f) b er) (.need (ik (2+slot*c.snd,c.snd) 0 224 (mm f) b er)
 (.ite ((cr c slot fl f b er).snd !=0) (.ret (0,0,0,0,0,List.replicate 64 (0:Int),List.replicate 64 (0:Int),List.replicate 64 (0:
 Int),List.replicate 64 (0:Int),(cr c slot fl f b er).snd)) (.need (F7 c fl (cr c slot fl f b er).fst) (.ite ((b9 c.fst fl (bo
 c) (cr c slot fl f b er).fst).snd !=0) (.ret (0,0,0,0,0,List.replicate 64 (0:Int),List.replicate 64 (0:Int),List.replicate 64 (0:
 Int),List.replicate 64 (0:Int),(b9 c.fst fl (bo c) (cr c slot fl f b er).fst).snd)) (.need (AJ {begun:=true,s:=jA,n:=0,wait:=List.replicate 128 (0:Int)}
 (2+slot*c.snd,c.snd) (b9 c.fst fl (bo c) (cr c slot fl f b er).fst).fst.cM.len (mm f) b er) (.ite ((uN c slot fl f b er).snd
 !=0) (.ret (0,0,0,0,0,List.replicate 64 (0:Int),List.replicate 64 (0:Int),List.replicate 64 (0:Int),List.replicate 64 (0:Int),
 (uN c slot fl f b er).snd)) (.ite (!decide ((uN c slot fl f b er).fst=(b9 c.fst fl (bo c) (cr c slot fl f b
 er).fst).fst.cM.plain)) (.ret (0,0,0,0,0,List.replicate 64 (0:Int),List.replicate 64 (0:Int),List.replicate 64 (0:Int),List.replicate 64
 (0:Int),7)) (.need (0≤(b9 c.fst fl (bo c) (cr c slot fl f b er).fst).fst.cM.ver∧(b9 c.fst fl (bo c) (cr c slot fl f b
 er).fst).fst.cM.ver<18446744073709551616∧0≤(b9 c.fst fl (bo c) (cr c slot fl f b er).fst).fst.cM.lu∧(b9 c.fst fl (bo c)
 (cr c slot fl f b er).fst).fst.cM.lu<18446744073709551616) (.need (oq {begun:=true,s:=jA,n:=0,wait:=List.replicate 128 (0:Int)}
 ∧0+(↑(lY c slot fl f b er).length:Int)<2305843009213693952) (.need (AJ (F9 c slot fl f b er) (2+slot*c.snd,c.snd) (b9 c.fst
 fl (bo c) (cr c slot fl f b er).fst).fst.cM.len (mm f) b er) (.ite ((uO c slot fl f b er).snd !=0) (.ret (0,0,0,0,0,
 List.replicate 64 (0:Int),List.replicate 64 (0:Int),List.replicate 64 (0:Int),List.replicate 64 (0:Int),(uO c slot fl f b er).snd))
 (.ret ((b9 c.fst fl (bo c) (cr c slot fl f b er).fst).fst.key,(b9 c.fst fl (bo c) (cr c slot fl f b er).fst).fst.blocks,(b9
 c.fst fl (bo c) (cr c slot fl f b er).fst).fst.cM.ver,(b9 c.fst fl (bo c) (cr c slot fl f b er).fst).fst.cM.lu,(b9 c.fst fl
 (bo c) (cr c slot fl f b er).fst).fst.cM.len,(b9 c.fst fl (bo c) (cr c slot fl f b er).fst).fst.cM.list,(b9 c.fst fl (bo c)
 (cr c slot fl f b er).fst).fst.cM.plain,(b9 c.fst fl (bo c) (cr c slot fl f b er).fst).fst.sign,(uO c slot fl f b er).fst,
 0)))))))))))))))
theorem YL(c:List (List Int)×Int)(slot fl:Int)(f:Fl)(b er:List Int):aN Tryz.prog [(20,Np),(21,tk),(22,auN),(24,ae8),(23,aEN),(26,ac2),(25,zX)] [] f9 (((aq (ah (aU 0 0)) (ag (iD ZZ) (ag (ah (aC .i64)) (ag (ah (aC .u64)) ae))))).wr (c,slot,fl,())) ((eP).wr (f,b,er,())) [.fr [.sym],.syms,.auto,.aE]=(ajH c slot fl f b er).end auQ auR ((eP).wr (f,b,er,())):=by kernel_rfl
theorem ajI(c:List (List Int)×Int)(slot fl:Int)(f:Fl)(b er:List Int):aJ Tryz.prog ((eP).wr (f,b,er,())) [] (aD f9):=(aJ.nil _)
def qY(f:Fl)(b er:List Int)(c:List (List Int)×Int)(slot fl:Int):rr×List Int×Int:=
 if ¬ (rb c er∧0≤slot∧slot<2)then(kJ,List.replicate 64 0,1)
 else if f.2.1=true then(kJ,List.replicate 64 0,5)
 else if(b9 c.1 fl (bo c) (b8 b (1024*(2+slot*c.2)) 224)).2≠0 then(kJ,List.replicate 64 0,(b9 c.1 fl (bo c) (b8 b (1024*(2+slot*c.2)) 224)).2)
 else(fun(l:rr) (d:List Int)=>if la d≠l.cM.plain then(kJ,List.replicate 64 0,7)else(l,la (k8 l.cM.ver l.cM.lu l.cM.len l.cM.list l.cM.plain++d),0))
  (b9 c.1 fl (bo c) (b8 b (1024*(2+slot*c.2)) 224)).1 (b8 b (1024*(2+slot*c.2)+2048) (b9 c.1 fl (bo c) (b8 b (1024*(2+slot*c.2)) 224)).1.cM.len)
def azd(x:rr×List Int×Int):Ld:=(x.1.key,x.1.blocks,x.1.cM.ver,x.1.cM.lu,x.1.cM.len,x.1.cM.list,x.1.cM.plain,x.1.sign,x.2.1,x.2.2)
theorem xe(m:List Int)(e:Int):azd (kJ,m,e)=(0,0,0,0,0,List.replicate 64 0,List.replicate 64 0,List.replicate 64 0,m,e):=rfl
abbrev uP(c:List (List Int)×Int)(slot fl:Int)(f:Fl)(b er:List Int):Prop:=jZ b er∧ax b∧F6 c.1
abbrev ajJ(c:List (List Int)×Int)(slot fl:Int)(f:Fl)(b er:List Int):Ld:=azd (qY f b er c slot fl)
def Ut:ao:=cd [none,some (.arr u8 32),none,none] ((aq (ah (aU 0 0)) (ag (iD ZZ) (ag (ah (aC .i64)) (ag (ah (aC .u64)) ae))))) (eP) (fun x_ y_=>uP x_.1 x_.2.1 x_.2.2.1 y_.1 y_.2.1 y_.2.2.1) (fun x_ y_=>ajJ x_.1 x_.2.1 x_.2.2.1 y_.1 y_.2.1 y_.2.2.1) auQ auR
theorem aqI(c:List (List Int)×Int)(slot fl:Int)(f:Fl)(b er:List Int)(h_:uP c slot fl f b er):(ajH c slot fl f b er).Is (ajJ c slot fl f b er):=by
 delta ajJ;obtain⟨h1,h2,h3⟩:=h_
 have hr:(rb c er∧0≤slot∧slot<2)→xl (2+slot*c.2,c.2) er:=fun⟨⟨⟨a,b,c1,d⟩,e⟩,h,i⟩=>by
  rcases(by omega:slot=0∨slot=1)with rfl|rfl<;>exact⟨by simp only;omega,by simp only;omega,by simp only;omega⟩
 simp only[ajH,mm,bb,ai,aG,ak];refine⟨fun c1=>⟨h1,by rw[qY,if_pos c1];exact(xe _ _).symm⟩,fun c1=>⟨h1,⟨h1,hr c1⟩,?_⟩⟩;obtain⟨r1,r2,r3⟩:=hr c1;simp only at r1 r2 r3;rw[qY,if_neg (fun h=>h c1)]
 cases c2:f.2.1 with
 |true=>
  have Le:cr c slot fl f b er=([],5):=by unfold cr;rw[if_pos c2]
  rw[Le,if_pos rfl];exact⟨fun h=>by simp at h,fun _=>(xe _ _).symm⟩
 |false=>
  rw[if_neg (by decide)]
  have Le:cr c slot fl f b er=(b8 b (1024*(2+slot*c.2)) 224,0):=by
   unfold cr;rw[if_neg (by rw[c2];decide),if_pos (by omega),Int.add_zero]
  have l1:=iF (b:=b) (p:=1024*(2+slot*c.2)) (m:=224) (by omega);have e12:∀d,F9 c slot fl f b er=cf o5 (lY c slot fl f b er)∧Jh (cf (cf o5 (lY c slot fl f b er)) d)=la (lY c slot fl f b er++d):=fun d=>⟨rfl,by rw[← gv];rfl⟩;have e14:∀h n,YK f b h (2+slot*c.2,c.2) n=(Jh (cf h (b8 b (1024*(2+slot*c.2)+2048) n)),0):=fun h n=>by unfold YK;rw[if_neg (by rw[c2];simp)]
  have e11:uN c slot fl f b er=(la (b8 b (1024*(2+slot*c.2)+2048) (b9 c.1 fl (bo c) (b8 b (1024*(2+slot*c.2)) 224)).1.cM.len),0):=by unfold uN mm;rw[e14,Le];rfl
  have e15:uO c slot fl f b er=(la (lY c slot fl f b er++b8 b (1024*(2+slot*c.2)+2048) (b9 c.1 fl (bo c) (b8 b (1024*(2+slot*c.2)) 224)).1.cM.len),0):=by
   unfold uO mm;rw[e14,Le,(e12 []).1,(e12 _).2]
  have e16:=AI (b9 c.1 fl (bo c) (b8 b (1024*(2+slot*c.2)) 224)).1.cM.ver (b9 c.1 fl (bo c) (b8 b (1024*(2+slot*c.2)) 224)).1.cM.lu (b9 c.1 fl (bo c) (b8 b (1024*(2+slot*c.2)) 224)).1.cM.len (b9 c.1 fl (bo c) (b8 b (1024*(2+slot*c.2)) 224)).1.cM.list (b9 c.1 fl (bo c) (b8 b (1024*(2+slot*c.2)) 224)).1.cM.plain;have e17:lY c slot fl f b er=k8 (b9 c.1 fl (bo c) (b8 b (1024*(2+slot*c.2)) 224)).1.cM.ver (b9 c.1 fl (bo c) (b8 b (1024*(2+slot*c.2)) 224)).1.cM.lu (b9 c.1 fl (bo c) (b8 b (1024*(2+slot*c.2)) 224)).1.cM.len (b9 c.1 fl (bo c) (b8 b (1024*(2+slot*c.2)) 224)).1.cM.list (b9 c.1 fl (bo c) (b8 b (1024*(2+slot*c.2)) 224)).1.cM.plain:=by unfold lY;rw[Le]
  rw[e15,e11,(e12 []).1,e17,Le];have hf:=Uq (ks:=c.1) (fl:=fl) (rm:=bo c) (b:=b8 b (1024*(2+slot*c.2)) 224);have hb:=ny h2 (1024*(2+slot*c.2)) 224;have hm:bo c=1024*(c.2-2):=if_pos c1.1.1;clear Le e11 e12 e14 e15 e17;generalize b8 b (1024*(2+slot*c.2)) 224=x at*;generalize b9 c.1 fl (bo c) x=y at*
  have hs:∀h:HH,y.2=0→oq h→h.n≤1024→AJ h (2+slot*c.2,c.2) y.1.cM.len f b er:=fun h h0 h5 h6=>by
   obtain⟨g1,g2,g3,g4,g5,g6,g7⟩:=hf h0;rw[g1];exact⟨h1,⟨by simp only;omega,by simp only;omega,by simp only;omega⟩,g5,by simp only;omega,h5,by simp only;omega⟩
  have ho:=jK (k8 y.1.cM.ver y.1.cM.lu y.1.cM.len y.1.cM.list y.1.cM.plain) qe;have hn:=k9 (k8 y.1.cM.ver y.1.cM.lu y.1.cM.len y.1.cM.list y.1.cM.plain) o5;have xB:o5.n=0:=rfl;refine⟨fun _=>⟨⟨hb,by simp only;omega,h3⟩,fun c3=>?_,fun c3=>?_⟩,fun h=>absurd rfl h⟩
  ·rw[if_neg (by simpa using c3)];obtain⟨g1,g2,g3,g4,g5,g6,g7⟩:=hf c3;have g7:CF y.1.cM:=(by rw[g1];exact g7);refine⟨hs _ c3 qe (by decide),fun _=>⟨fun c4=>?_,fun c4=>⟨g7,⟨qe,by omega⟩,hs _ c3 ho (by omega),fun _=>?_,fun h=>absurd rfl h⟩⟩,fun h=>absurd rfl h⟩
   ·simp only;rw[if_pos c4];exact(xe _ _).symm
   ·simp only;rw[if_neg (by simpa using c4)];rfl
  ·rw[if_pos c3];exact(xe _ _).symm
theorem Ga:Ut.Ok Tryz.prog 9:=
 br mixed ((aj Ih (aj p9 (aj aqE (aj S5 (aj azc (aj awE (aj tw aw)))))))) func9 (by kernel_rfl) call9 (fun x_ y_=>ajI x_.1 x_.2.1 x_.2.2.1 y_.1 y_.2.1 y_.2.2.1) (fun x_ y_=>YL x_.1 x_.2.1 x_.2.2.1 y_.1 y_.2.1 y_.2.2.1) (fun x_ y_ h=>aqI x_.1 x_.2.1 x_.2.2.1 y_.1 y_.2.1 y_.2.2.1 h)
def lq(f:Int×Bool×Bool×Int):Int×Bool×Bool×Int:=f
abbrev Uu:Type:=Int×Int×Int×Int×(List Int)×Int
abbrev auS(x:Uu):LV:=LV.cG [VV.agg [SV.int i64 (SI.sym x.1),SV.int u64 (SI.sym x.2.1),SV.int u64
 (SI.sym x.2.2.1),SV.int i64 (SI.sym x.2.2.2.1),SV.arr (Ty.int IntKind.u8) 64 x.2.2.2.2.1],VV.sc (SV.int i64 (SI.sym x.2.2.2.2.2))]
abbrev auT(x:Uu):List (Nat×Ev.Item):= []
def Lf(c:List (List Int)×Int)(f:Int×Bool×Bool×Int)(b:List Int)(er:List Int):Tr (Uu):=(.ite (!decide (((1≤
 c.fst.length∧c.fst.length≤8∧3≤c.snd∧c.snd≤100)∧(2:Int)+2*c.snd≤(↑er.length:Int))∧(0:Int)≤0∧(0:Int)<2)) (.need
 (kZ c 0 (lq f) b er) (.ret (0,0,0,0,List.replicate 64 (0:Int),1))) (.need (kZ c 0 (lq f) b er) (.ite (!decide ((1:Int)≤2
 ∧(0:Int)≤0∧2≤(↑er.length:Int))) (.need (nA 0 2 (lq f) b er) (.ret (0,0,0,0,List.replicate 64 (0:Int),1))) (.need (nA 0
 2 (lq f) b er) (.ite (decide ¬(2:Int)=2) (.need (fa (0,2) (lq f) b er) (.ret (0,0,0,0,List.replicate 64 (0:Int),1))) (.ite
 (f.snd.fst) (.need (fa (0,2) (lq f) b er) (.ite ((5:Int)!=0) (.ret (0,0,0,0,List.replicate 64 (0:Int),5)) .fail)) (.need
 (fa (0,2) (lq f) b er) (.need (ye (((rk (bE iZ (bn b (0,2)).snd) (bn b (0,2))).fst,(rk (bE iZ (bn b (0,2)).snd)
 (bn b (0,2))).snd.fst,(rk (bE iZ (bn b (0,2)).snd) (bn b (0,2))).snd.snd.fst,(rk (bE iZ (bn b (0,2)).snd) (bn b (0,
 2))).snd.snd.snd.fst,(rk (bE iZ (bn b (0,2)).snd) (bn b (0,2))).snd.snd.snd.snd.fst),(rk (bE iZ (bn b (0,2)).snd) (bn b (0,
 2))).snd.snd.snd.snd.snd.fst,(rk (bE iZ (bn b (0,2)).snd) (bn b (0,2))).snd.snd.snd.snd.snd.snd.fst,(rk (bE iZ (bn b (0,2)).snd)
 (bn b (0,2))).snd.snd.snd.snd.snd.snd.snd.fst,(rk (bE iZ (bn b (0,2)).snd) (bn b (0,2))).snd.snd.snd.snd.snd.snd.snd.snd.fst,(rk
 (bE iZ (bn b (0,2)).snd) (bn b (0,2))).snd.snd.snd.snd.snd.snd.snd.snd.snd.fst,(rk (bE iZ (bn b (0,2)).snd) (bn b (0,
 2))).snd.snd.snd.snd.snd.snd.snd.snd.snd.snd.fst,(rk (bE iZ (bn b (0,2)).snd) (bn b (0,
 2))).snd.snd.snd.snd.snd.snd.snd.snd.snd.snd.snd.fst) (((rk (bE iZ (bn b (0,2)).snd) (bn b (0,
 2))).snd.snd.snd.snd.snd.snd.snd.snd.snd.snd.snd.snd.fst,(rk (bE iZ (bn b (0,2)).snd) (bn b (0,
 2))).snd.snd.snd.snd.snd.snd.snd.snd.snd.snd.snd.snd.snd.fst),(rk (bE iZ (bn b (0,2)).snd) (bn b (0,
 2))).snd.snd.snd.snd.snd.snd.snd.snd.snd.snd.snd.snd.snd.snd.fst,(rk (bE iZ (bn b (0,2)).snd) (bn b (0,
 2))).snd.snd.snd.snd.snd.snd.snd.snd.snd.snd.snd.snd.snd.snd.snd.fst,(rk (bE iZ (bn b (0,2)).snd) (bn b (0,
 2))).snd.snd.snd.snd.snd.snd.snd.snd.snd.snd.snd.snd.snd.snd.snd.snd.fst,(rk (bE iZ (bn b (0,2)).snd) (bn b (0,
 2))).snd.snd.snd.snd.snd.snd.snd.snd.snd.snd.snd.snd.snd.snd.snd.snd.snd.fst,(rk (bE iZ (bn b (0,2)).snd) (bn b (0,
 2))).snd.snd.snd.snd.snd.snd.snd.snd.snd.snd.snd.snd.snd.snd.snd.snd.snd.snd.fst) (lq f) b er (rk (bE iZ (bn b (0,2)).snd) (bn b (0,
 2))).snd.snd.snd.snd.snd.snd.snd.snd.snd.snd.snd.snd.snd.snd.snd.snd.snd.snd.snd) (.ret ((rk (bE iZ (bn b (0,2)).snd) (bn b (0,2))).fst,
 (rk (bE iZ (bn b (0,2)).snd) (bn b (0,2))).snd.fst,(rk (bE iZ (bn b (0,2)).snd) (bn b (0,2))).snd.snd.fst,(rk (bE iZ (bn
 b (0,2)).snd) (bn b (0,2))).snd.snd.snd.fst,(rk (bE iZ (bn b (0,2)).snd) (bn b (0,2))).snd.snd.snd.snd.fst,0))))))))))
theorem YM(c:List (List Int)×Int)(f:Fl)(b er:List Int):aN Tryz.prog [(20,Np),(37,abJ),(61,TC),(62,aue)] [] f33 ((Bf).wr (c,())) ((eP).wr (f,b,er,())) [.fr [.sym],.syms,.auto,.aE]=(Lf c f b er).end auS auT ((eP).wr (f,b,er,())):=by kernel_rfl
theorem ajK(c:List (List Int)×Int)(f:Fl)(b er:List Int):aJ Tryz.prog ((eP).wr (f,b,er,())) [] (aD f33):=(aJ.nil _)
def fZ(b:List Int):Sg:=bE iZ (bn b (0,2)).2
def gg(f:Fl)(b er:List Int)(c:List (List Int)×Int):Cm×Int:=if ¬rb c er then(xp,1)else if f.2.1=true then(xp,5)else((fZ b).1,0)
abbrev yn(c:List (List Int)×Int)(f:Fl)(b er:List Int):Prop:=jZ b er∧ax b
abbrev ajL(c:List (List Int)×Int)(f:Fl)(b er:List Int):Uu:=((gg f b er c).1.1,(gg f b er c).1.2.1,(gg f b er c).1.2.2.1,(gg f b er c).1.2.2.2.1,(gg f b er c).1.2.2.2.2,(gg f b er c).2)
def ajM:ao:=cd [none,some (.arr u8 32)] (Bf) (eP) (fun x_ y_=>yn x_.1 y_.1 y_.2.1 y_.2.2.1) (fun x_ y_=>ajL x_.1 y_.1 y_.2.1 y_.2.2.1) auS auT
theorem aqJ(c:List (List Int)×Int)(f:Fl)(b er:List Int)(h_:yn c f b er):(Lf c f b er).Is (ajL c f b er):=by
 delta ajL;obtain⟨h1,h2⟩:=h_;have hs:kZ c 0 (lq f) b er:=h1;have ho:nA 0 2 (lq f) b er:=h1
 by_cases c1:rb c er
 ·have hg:xl (0,2) er:=⟨by decide,by decide,by show(0:Int)+2≤er.length;omega⟩;have h2':(2:Int)≤er.length:=by omega
  have hl:fa (0,2) (lq f) b er:=⟨h1,h2,hg⟩;have hm:=(tR (bn b (0,2)).2 OJ).mid;have hq:∀j f' b' w7 l,ye (fZ b) j f' b' w7 l:=fun _ _ _ _ _=>by show(fZ b).2.2.2.2.2.2.2.length≤_;unfold fZ;omega
  cases c2:f.2.1 with
  |true=>simp[Lf,gg,c1,c2,h2',aA,ai,ak,xp];exact⟨h1,h2,hg⟩
  |false=>
   have U9:(rk (bE iZ (bn b (0,2)).2) (bn b (0,2))).2.2.2.2.2.2.2.2.2.2.2.1.length≤70368744177664:=(by show(bE iZ (bn b (0,2)).2).2.2.2.2.2.2.2.length≤_;omega);simp[Lf,gg,c1,c2,h2',aA,ai,ak];exact⟨h1,hl,U9,rfl,rfl,rfl,rfl,rfl⟩
 ·simp[Lf,gg,c1,aA,ai,ak,xp];exact hs
theorem Uv:ajM.Ok Tryz.prog 33:=
 br mixed ((aj Ih (aj RQ (aj Xk (aj aoS aw))))) func33 (by kernel_rfl) call33 (fun x_ y_=>ajK x_.1 y_.1 y_.2.1 y_.2.2.1) (fun x_ y_=>YM x_.1 y_.1 y_.2.1 y_.2.2.1) (fun x_ y_ h=>aqJ x_.1 y_.1 y_.2.1 y_.2.2.1 h)
abbrev jCf:aY Ev.Item (List (List Int)×Int):=oT 24 ZZ
abbrev aIE:aY (List SV) Cm:=(cCm ae).kB (fun x=>(x.1,x.2.1,x.2.2.1,x.2.2.2.1,x.2.2.2.2.1)) (fun y=>(y.1,y.2.1,y.2.2.1,y.2.2.2.1,y.2.2.2.2,())) (fun _=>rfl)
abbrev jCm:aY Ev.Item Cm:=oT 92 aIE
def xu(f:Fl)(b er:List Int)(c:List (List Int)×Int)(fl:Int):List Int→Int×List Int×Int
 | []=>(-1,List.replicate 64 0,13)
 |s::l=>if(qY f b er c s fl).2.2=0 then(s,(qY f b er c s fl).2.1,0)else xu f b er c fl l
theorem Lg{f:Fl}{b er:List Int}{c:List (List Int)×Int}{fl:Int}:∀ {l:List Int},(xu f b er c fl l).2.2≠0→xu f b er c fl l=(-1,List.replicate 64 0,13)
 | [],_=>rfl
 |s::l,h=>by
  rw[xu]at h ⊢
  split at h
  ·exact absurd rfl h
  ·rename_i c2;rw[if_neg c2];exact Lg h
abbrev Lh:Type:=Int×Int×(Int×Bool×Bool×Int)×(List Int)×(List Int)×(List (List Int)×Int)×(List Int)×(Int×Int×Int×Int
 ×List Int)×(List Int)
abbrev Li:aY St Lh:=(bg (aq (ah (aU (0) (0))) (jk 2 (aq (ah (aU (3) (0))) (jk 1 (aq (ah (aU (4) (0)))
 (jk 1 (aq (ah (aU (5) (0))) (jk 27 (aq (ah (u5 (6) (0))) (ag (ah (aC i64)) (ag (ah (aC i64)) (jk 19
 ae)))))))))))) (ag (eV jFl) (ag (eX (0) (Ty.int IntKind.u8)) (ag (eX (0) (Ty.int i64)) (ag (eV jCf) (ag (kY (37)
 ((ag (tc (Ty.int IntKind.u8) (64)) ae))) (ag (eV jCm) (ag (eX (0) (Ty.int i64)) ae)))))))).kB (fun y=>(y.1.1,y.1.2.1,
 y.2.1,y.2.2.1,y.2.2.2.1,y.2.2.2.2.1,y.2.2.2.2.2.1.1,y.2.2.2.2.2.2.1,y.2.2.2.2.2.2.2.1)) (fun x=>((x.1,(x.2.1,())),(x.2.2.1,(x.2.2.2.1,
 (x.2.2.2.2.1,(x.2.2.2.2.2.1,((x.2.2.2.2.2.2.1,()),(x.2.2.2.2.2.2.2.1,(x.2.2.2.2.2.2.2.2,()))))))))) (fun _=>rfl)
abbrev ajN:List Wk:= [.fr (cC 57 [(0,.al),(3,.al),(5,.al),(7,.al),(35,.al),(36,.al),(37,.al)]),.syms,.auto,.aE]
abbrev auU:Exit→List Wk:=w6 ajN 1 [.fr (cC 57 [(5,.al)]),.syms,.auto,.aE] [.fr (cC 57 [(4,.al),(5,.al),(6,.al)]),
 .syms,.auto,.aE]
def Gb(f:Int×Bool×Bool×Int):Int×Bool×Bool×Int:=f
def ajO(i:Int)(f:Int×Bool×Bool×Int)(b:List Int)(er:List Int)(c:List (List Int)×Int)(x:Int×Int×Int×Int
 ×List Int) (l:List Int):rr×List Int×Int:=qY (Gb f) b er c (l.getD i.toNat 0) x.snd.snd.fst
abbrev P0:Type:=Int×Int×(Int×Bool×Bool×Int)×(List Int)×(List Int)×(List Int)
abbrev ajP(x:P0):Exit×St:=(Exit.ret,⟨(ir 4 (LV.one (VV.sc (SV.int i64 (SI.sym x.1)))::(LV.one (VV.sc (SV.ptr
 3 0))::(LV.one (VV.sc (SV.int i64 (SI.sym x.2.1)))::(ir 50 []))))),[some (jFl.wr x.2.2.1),some (Item.own 0 (Ty.int IntKind.u8)
 x.2.2.2.1),some (Item.own 0 (Ty.int i64) x.2.2.2.2.1),some (Item.bH [SV.arr (Ty.int IntKind.u8) 64 x.2.2.2.2.2] 37)]⟩)
abbrev P1:Type:=(Int×Bool×Bool×Int)×(List Int)×(List Int)×(List Int)
abbrev ajQ(x:P1):Exit×St:=(Exit.exit 1,⟨(ir 5 (LV.one (VV.sc (SV.ptr 3 0))::(ir 51 []))),[some (jFl.wr x.1),some
 (Item.own 0 (Ty.int IntKind.u8) x.2.1),some (Item.own 0 (Ty.int i64) x.2.2.1),some (Item.bH [SV.arr (Ty.int IntKind.u8) 64 x.2.2.2] 37)]⟩)
def Lj(n:Int)(i:Int)(f:Int×Bool×Bool×Int)(b:List Int)(er:List Int)(c:List (List Int)×Int)(z:List Int)(x
 :Int×Int×Int×Int×List Int) (l:List Int):Tr (Lh⊕(P0⊕P1)):=(.ite (decide (i<n)) (.need (0≤i∧i<(↑l.length:Int))
 (.need (uP c (l.getD i.toNat 0) x.snd.snd.fst (Gb f) b er) (.ite ((ajO i f b er c x l).snd.snd==0) (.ret (.inr (.inl (l.getD i.toNat 0,
 0,f,b,er,(ajO i f b er c x l).snd.fst)))) (.ret (.inl (n,i64.wrap (i+1),f,b,er,c,z,x,l)))))) (.ret (.inr (.inr (f,b,er,
 z)))))
theorem YN(c':List (List Int)×Int)(f':Fl)(b' w7:List Int)(n:Int)(i:Int)(f:Int×Bool×Bool×Int)(b:List Int)(er:List Int)(c:List (List Int)×Int)(z:List Int)(x:Int×Int×Int×Int×List Int)(l:List Int):cY Tryz.prog [(33,ajM),(9,Ut)] [] f12 1 ((eP).wr (f',b',w7,())) auU (Li.wr (n,i,f,b,er,c,z,x,l))=(Lj n i f b er c z x l).res Li.wr (Sum.elim ajP ajQ):=by kernel_rfl
abbrev yo(n:Int)(i:Int)(f:Int×Bool×Bool×Int)(b:List Int)(er:List Int)(c:List (List Int)×Int)(z:List Int)(x:Int×Int×Int×Int×List Int)(l:List Int):Prop:=0≤i∧i≤n∧n=l.length∧n<1099511627776∧jZ b er∧ax b∧F6 c.1
abbrev ajR(n:Int)(i:Int)(f:Int×Bool×Bool×Int)(b:List Int)(er:List Int)(c:List (List Int)×Int)(z:List Int)(x:Int×Int×Int×Int×List Int)(l:List Int):Bool:=decide ((xu f b er c x.2.2.1 (l.drop i.toNat)).2.2=0)
abbrev ajS(n:Int)(i:Int)(f:Int×Bool×Bool×Int)(b:List Int)(er:List Int)(c:List (List Int)×Int)(z:List Int)(x:Int×Int×Int×Int×List Int)(l:List Int):P0:=((xu f b er c x.2.2.1 (l.drop i.toNat)).1,0,f,b,er,(xu f b er c x.2.2.1 (l.drop i.toNat)).2.1)
abbrev ajT(n:Int)(i:Int)(f:Int×Bool×Bool×Int)(b:List Int)(er:List Int)(c:List (List Int)×Int)(z:List Int)(x:Int×Int×Int×Int×List Int)(l:List Int):P1:=(f,b,er,z)
abbrev ajU:Lh→aW:=rL (fun x_=>yo x_.1 x_.2.1 x_.2.2.1 x_.2.2.2.1 x_.2.2.2.2.1 x_.2.2.2.2.2.1 x_.2.2.2.2.2.2.1 x_.2.2.2.2.2.2.2.1 x_.2.2.2.2.2.2.2.2) (fun x_=>ajR x_.1 x_.2.1 x_.2.2.1 x_.2.2.2.1 x_.2.2.2.2.1 x_.2.2.2.2.2.1 x_.2.2.2.2.2.2.1 x_.2.2.2.2.2.2.2.1 x_.2.2.2.2.2.2.2.2) (fun x_=>ajS x_.1 x_.2.1 x_.2.2.1 x_.2.2.2.1 x_.2.2.2.2.1 x_.2.2.2.2.2.1 x_.2.2.2.2.2.2.1 x_.2.2.2.2.2.2.2.1 x_.2.2.2.2.2.2.2.2) (fun x_=>ajT x_.1 x_.2.1 x_.2.2.1 x_.2.2.2.1 x_.2.2.2.2.1 x_.2.2.2.2.2.1 x_.2.2.2.2.2.2.1 x_.2.2.2.2.2.2.2.1 x_.2.2.2.2.2.2.2.2) ajP ajQ
theorem aqK(n:Int)(i:Int)(f:Int×Bool×Bool×Int)(b:List Int)(er:List Int)(c:List (List Int)×Int)(z:List Int)(x:Int×Int×Int×Int×List Int)(l:List Int)(h_:yo n i f b er c z x l):dV (fun x_:Lh=>Lj x_.1 x_.2.1 x_.2.2.1 x_.2.2.2.1 x_.2.2.2.2.1 x_.2.2.2.2.2.1 x_.2.2.2.2.2.2.1 x_.2.2.2.2.2.2.2.1 x_.2.2.2.2.2.2.2.2) (n,i,f,b,er,c,z,x,l) (bif ajR n i f b er c z x l then .inl (ajS n i f b er c z x l)else .inr (ajT n i f b er c z x l)):=by
 delta ajR ajS ajT;obtain⟨h1,h2,rfl,h4,h5⟩:=h_;obtain⟨k,rfl⟩:∃m:Nat,i=m:=⟨i.toNat,by omega⟩;obtain⟨j,hj⟩:∃j,l.length-k=j:=⟨_,rfl⟩;rw[Int.toNat_natCast]
 induction j generalizing k with
 |zero=>
  refine .stop ?_;have c:¬ (k:Int)<l.length:=by omega
  rw[List.drop_of_length_le (by omega)];simp[Lj,c,aA,ak,xu]
 |succ j ih=>
  have c1:(k:Int)<l.length:=by omega
  rw[bY 0 (by omega),xu];have hp:∀s g,uP c s g f b er:=fun _ _=>h5
  by_cases c2:(qY f b er c (l.getD k 0) x.2.2.1).2.2=0
  ·rw[if_pos c2];refine .stop ?_;simp only[Lj,Gb,ay,ai,aK,ak,Int.toNat_natCast];exact⟨fun _=>⟨by omega,hp _ _,fun _=>rfl,fun h=>absurd c2 h⟩,fun h=>absurd c1 h⟩
  ·rw[if_neg c2];refine .go ?_ (ih (k+1) (by omega) (by omega) (by omega));simp only[Lj,Gb,ay,ai,aK,ak,Int.toNat_natCast];exact⟨fun _=>⟨by omega,hp _ _,fun h=>absurd h c2,fun _=>by rw[ar (by omega) (by omega)];rfl⟩,fun h=>absurd c1 h⟩
theorem ajV(c':List (List Int)×Int)(f':Fl)(b' w7:List Int):∀x:Lh,Ex Tryz.prog ((eP).wr (f',b',w7,())) (.loop (a9 f12 1)) (Li.wr x) (ajU x):=
 cQ mixed ((aj Uv (aj Ga aw))) (ws:=auU) (aJ.nil _) (fun x_=>YN c' f' b' w7 x_.1 x_.2.1 x_.2.2.1 x_.2.2.2.1 x_.2.2.2.2.1 x_.2.2.2.2.2.1 x_.2.2.2.2.2.2.1 x_.2.2.2.2.2.2.2.1 x_.2.2.2.2.2.2.2.2) (fun z=>by cases z<;>(intro e;cases e)) vF (fun x_ h=>aqK x_.1 x_.2.1 x_.2.2.1 x_.2.2.2.1 x_.2.2.2.2.1 x_.2.2.2.2.2.1 x_.2.2.2.2.2.2.1 x_.2.2.2.2.2.2.2.1 x_.2.2.2.2.2.2.2.2 h)
def kl(f:Int×Bool×Bool×Int):Int×Bool×Bool×Int:=f
def P2(c:List (List Int)×Int)(f:Int×Bool×Bool×Int)(b:List Int)(er:List Int):List Int:= [(gg (kl f) b er
 c).fst.fst,i64.wrap (1-(gg (kl f) b er c).fst.fst)]
def Gc(c:List (List Int)×Int)(f:Int×Bool×Bool×Int)(b:List Int)(er:List Int):Int×List Int×Int:=xu
 (kl f) b er c (gg (kl f) b er c).fst.snd.snd.fst (List.drop 0 (P2 c f b er))
abbrev Uw:Type:=Int×(List Int)×Int
abbrev auV(x:Uw):LV:=LV.cG [VV.sc (SV.int i64 (SI.sym x.1)),VV.agg [SV.arr (Ty.int IntKind.u8) 64 x.2.1],VV.sc
 (SV.int i64 (SI.sym x.2.2))]
abbrev auW(x:Uw):List (Nat×Ev.Item):= []
def ajW(c:List (List Int)×Int)(f:Int×Bool×Bool×Int)(b:List Int)(er:List Int):Tr (Uw):=(.need (yn c
 (kl f) b er) (.ite ((gg (kl f) b er c).snd !=0) (.ret ((-1),List.replicate 64 (0:Int),(gg (kl f) b er c).snd)) (.ite ((gg
 (kl f) b er c).fst.fst==(-1)) (.ret ((-1),List.replicate 64 (0:Int),13)) (.need (yo 2 0 (kl f) b er c (List.replicate 64 (0:Int))
 (gg (kl f) b er c).fst (P2 c f b er)) (.ite (decide ((Gc c f b er).snd.snd=0)) (.ret ((Gc c f b er).fst,(Gc c f b er).snd.fst,
 0)) (.ret ((-1),List.replicate 64 (0:Int),13)))))))
theorem YO(c:List (List Int)×Int)(f:Fl)(b er:List Int):aN Tryz.prog [(33,ajM),(9,Ut)] [(1,cg Li ((eP).wr (f,b,er,())) ajN (ajU))] f12 ((Bf).wr (c,())) ((eP).wr (f,b,er,())) [.fr [.sym],.syms,.auto,.aE]=(ajW c f b er).end auV auW ((eP).wr (f,b,er,())):=by kernel_rfl
theorem ajX(c:List (List Int)×Int)(f:Fl)(b er:List Int):aJ Tryz.prog ((eP).wr (f,b,er,())) [(1,cg Li ((eP).wr (f,b,er,())) ajN (ajU))] (aD f12):=(aJ.bW (jc (by kernel_rfl) (ck (hp:=(eP).wr (f,b,er,())) (ajV c f b er)) jh))
def uQ(f:Fl)(b er:List Int)(c:List (List Int)×Int):Int×List Int×Int:=
 if(gg f b er c).2≠0 then(-1,List.replicate 64 0,(gg f b er c).2)else if(gg f b er c).1.1= -1 then(-1,List.replicate 64 0,13)else xu f b er c (gg f b er c).1.2.2.1 [(gg f b er c).1.1,1-(gg f b er c).1.1]
abbrev uR(c:List (List Int)×Int)(f:Fl)(b er:List Int):Prop:=jZ b er∧ax b∧F6 c.1
abbrev ajY(c:List (List Int)×Int)(f:Fl)(b er:List Int):Uw:=uQ f b er c
def ajZ:ao:=cd [none,some (.arr u8 32)] (Bf) (eP) (fun x_ y_=>uR x_.1 y_.1 y_.2.1 y_.2.2.1) (fun x_ y_=>ajY x_.1 y_.1 y_.2.1 y_.2.2.1) auV auW
theorem aqL(c:List (List Int)×Int)(f:Fl)(b er:List Int)(h_:uR c f b er):(ajW c f b er).Is (ajY c f b er):=by
 delta ajY;obtain⟨h1,h2,h3⟩:=h_;have hb:yn c (kl f) b er:=⟨h1,h2⟩;have e1:kl f=f:=rfl
 have hs: -1≤(gg f b er c).1.1∧(gg f b er c).1.1≤1:=by
  unfold gg
  split
  ·exact⟨by decide,by decide⟩
  ·split
   ·exact⟨by decide,by decide⟩
   ·exact(tR (bn b (0,2)).2 OJ).slot
 have hw:i64.wrap (1-(gg f b er c).1.1)=1-(gg f b er c).1.1:=ar (by omega) (by omega);have hp:yo 2 0 f b er c (List.replicate 64 0) (gg f b er c).1 [(gg f b er c).1.1,1-(gg f b er c).1.1]:=⟨by decide,by decide,rfl,by decide,h1,h2,h3⟩;simp only[ajW,P2,Gc,e1,hw,List.drop_zero,ai,aG,aK,ay,ak,uQ];refine⟨hb,fun c1=>⟨fun c2=>?_,fun c2=>⟨hp,fun c3=>?_,fun c3=>?_⟩⟩,fun c1=>?_⟩
 ·rw[if_neg (by simpa using c1),if_pos c2]
 ·rw[if_neg (by simpa using c1),if_neg c2];exact Prod.ext rfl (Prod.ext rfl c3.symm)
 ·rw[if_neg (by simpa using c1),if_neg c2];exact(Lg c3).symm
 ·rw[if_pos c1]
theorem Ux:ajZ.Ok Tryz.prog 12:=
 br mixed ((aj Uv (aj Ga aw))) func12 (by kernel_rfl) call12 (fun x_ y_=>ajX x_.1 y_.1 y_.2.1 y_.2.2.1) (fun x_ y_=>YO x_.1 y_.1 y_.2.1 y_.2.2.1) (fun x_ y_ h=>aqL x_.1 y_.1 y_.2.1 y_.2.2.1 h)
theorem aj0{m b:List Int}{k o:Nat}(h1:k<m.length)(h2:o+k<b.length):(m.set k (b.getD (o+k) 0)).take (k+1)++b.drop (o+(k+1))=m.take k++b.drop (o+k):=by
 rw[List.take_add_one,List.take_set_of_le (Nat.le_refl _),List.getElem?_set_self h1,bY (l:=b) (k:=o+k) 0 h2];simp[Nat.add_assoc]
abbrev Lk:Type:=(List Int)×Int×(Int×Int×Int×Int×List Int)×(Int×Int×Int×Int×List Int)
abbrev Ll:aY St Lk:=(bg (ag (ah (fR false false (Ty.int IntKind.u8))) (jk 1 (aq (ah (aU (0) (0))) (jk 1 (aq
 (ah (aU (1) (0))) (ag (ah (aC i64)) (jk 39 ae))))))) (ag (eV jCm) (ag (eV jCm) ae))).kB (fun y=>(y.1.1,y.1.2.1,
 y.2.1,y.2.2.1)) (fun x=>((x.1,(x.2.1,())),(x.2.2.1,(x.2.2.2,())))) (fun _=>rfl)
abbrev aj1:List Wk:= [.fr (cC 45 [(0,.al),(2,.al),(4,.al),(5,.al)]),.syms,.auto,.aE]
abbrev auX:Exit→List Wk:=w6 aj1 0 [.fr (cC 45 [(0,.al),(2,.al),(4,.al)]),.syms,.auto,.aE] [.fr (cC 45 [(2,.al),(3,
 .al)]),.syms,.auto,.aE]
abbrev aj2:Type:=(List Int)×(Int×Int×Int×Int×List Int)×(Int×Int×Int×Int×List Int)
abbrev auY(x:aj2):Exit×St:=(Exit.exit 0,⟨(LV.one (VV.sc (SV.rd false false (Ty.int IntKind.u8) x.1))::(ir 1 (LV.one
 (VV.sc (SV.ptr 0 0))::(ir 1 (LV.one (VV.sc (SV.ptr 1 0))::(ir 40 [])))))),[some (jCm.wr x.2.1),some (jCm.wr x.2.2)]⟩)
def Uy(b:List Int)(i:Int)(z:Int×Int×Int×Int×List Int)(c:Int×Int×Int×Int×List Int):Tr (Lk⊕(aj2))
 :=(.ite (decide (i<64)) (.need (0≤i64.wrap (32+i)∧i64.wrap (32+i)<(↑b.length:Int)) (.need (0≤i∧i<64) (.ret (.inl
 (b,i64.wrap (i+1),z,(c.fst,c.snd.fst,c.snd.snd.fst,c.snd.snd.snd.fst,c.snd.snd.snd.snd.set (0+i.toNat) (b.getD (i64.wrap (32
 +i)).toNat 0))))))) (.ret (.inr (b,z,c))))
theorem YP(b':List Int)(b:List Int)(i:Int)(z:Int×Int×Int×Int×List Int)(c:Int×Int×Int×Int×List Int):cY Tryz.prog [(121,B3),(181,ON)] [] f133 0 ((ae).wr (())) auX (Ll.wr (b,i,z,c))=(Uy b i z c).res Ll.wr auY:=by kernel_rfl
abbrev yp(b:List Int)(i:Int)(z:Int×Int×Int×Int×List Int)(c:Int×Int×Int×Int×List Int):Prop:=0≤i∧i≤64∧b.length=96∧c.2.2.2.2.length=64
abbrev aj3(b:List Int)(i:Int)(z:Int×Int×Int×Int×List Int)(c:Int×Int×Int×Int×List Int):aj2:=(b,z,(c.1,c.2.1,c.2.2.1,c.2.2.2.1,c.2.2.2.2.take i.toNat++b.drop (32+i.toNat)))
abbrev aj4:Lk→aW:=eS (fun x_=>yp x_.1 x_.2.1 x_.2.2.1 x_.2.2.2) (fun x_=>aj3 x_.1 x_.2.1 x_.2.2.1 x_.2.2.2) auY
theorem aqM(b:List Int)(i:Int)(z:Int×Int×Int×Int×List Int)(c:Int×Int×Int×Int×List Int)(h_:yp b i z c):dV (fun x_:Lk=>Uy x_.1 x_.2.1 x_.2.2.1 x_.2.2.2) (b,i,z,c) (aj3 b i z c):=by
 delta aj3;obtain⟨h1,h2,h3,h4⟩:=h_;obtain⟨c1,c2,c3,c4,m⟩:=c;simp only at h4;obtain⟨k,rfl⟩:∃m:Nat,i=m:=⟨i.toNat,by omega⟩;obtain⟨j,hj⟩:∃j,64-k=j:=⟨_,rfl⟩;rw[Int.toNat_natCast]
 induction j generalizing k m with
 |zero=>
  refine .stop ?_;have c:¬ (k:Int)<64:=by omega
  have e:m.take k++b.drop (32+k)=m:=by rw[List.take_of_length_le (by omega),List.drop_of_length_le (by omega),List.append_nil]
  simp[Uy,c,aA,ak,e]
 |succ j ih=>
  have c:(k:Int)<64:=by omega
  have w:=ih (m.set k (b.getD (32+k) 0)) (by rw[List.length_set];exact h4) (k+1) (by omega) (by omega) (by omega);simp only at w ⊢;rw[aj0 (by omega) (by omega)]at w;refine .go ?_ w;have e1:(32+(k:Int)).toNat=32+k:=by omega
  simp only[Uy,ay,ai,ak,Int.toNat_natCast,Nat.zero_add];rw[ar (n:=32+(k:Int)) (by omega) (by omega),ar (n:=(k:Int)+1) (by omega) (by omega),e1];exact⟨fun _=>⟨by omega,by omega,rfl⟩,fun h=>absurd c h⟩
theorem aj5(b':List Int):∀x:Lk,Ex Tryz.prog ((ae).wr (())) (.loop (a9 f133 0)) (Ll.wr x) (aj4 x):=
 cQ mixed ((aj tq (aj JL aw))) (ws:=auX) (aJ.nil _) (fun x_=>YP b' x_.1 x_.2.1 x_.2.2.1 x_.2.2.2) (fun z e=>by cases e) eY (fun x_ h=>aqM x_.1 x_.2.1 x_.2.2.1 x_.2.2.2 h)
def yq(b:List Int):Int×Int×Int×Int×List Int:=(i64.wrap (b.getD 0 0),aZ (List.take 8 (List.drop 8 b)),aZ
 (List.take 8 (List.drop 16 b)),i64.wrap (aZ (List.take 8 (List.drop 24 b))),List.take 0 (List.replicate 64 (0:Int))++List.drop 32 b)
abbrev Gd:Type:=Int×Int×Int×Int×(List Int)×Bool
abbrev aj6(x:Gd):LV:=LV.cG [VV.agg [SV.int i64 (SI.sym x.1),SV.int u64 (SI.sym x.2.1),SV.int u64
 (SI.sym x.2.2.1),SV.int i64 (SI.sym x.2.2.2.1),SV.arr (Ty.int IntKind.u8) 64 x.2.2.2.2.1],VV.sc (SV.bool (SB.sym x.2.2.2.2.2))]
abbrev aj7(x:Gd):List (Nat×Ev.Item):= []
def Ge(b:List Int):Tr (Gd):=(.ite ((↑b.length:Int)!=96) (.ret (0,0,0,0,List.replicate 64 (0:Int),false)) (.need
 ((0:Int)≤0∧0<(↑b.length:Int)) (.need ((0:Int)≤8∧(8:Int)≤16∧16≤(↑b.length:Int)) (.need ((List.take 8 (List.drop 8 b)).length≤
 70368744177664) (.need ((0:Int)≤16∧(16:Int)≤24∧24≤(↑b.length:Int)) (.need ((List.take 8 (List.drop 16 b)).length≤70368744177664)
 (.need ((0:Int)≤24∧(24:Int)≤32∧32≤(↑b.length:Int)) (.need ((List.take 8 (List.drop 24 b)).length≤70368744177664) (.need (yp b 0
 (0,0,0,0,List.replicate 64 (0:Int)) (i64.wrap (b.getD 0 0),aZ (List.take 8 (List.drop 8 b)),aZ (List.take 8 (List.drop 16 b)),
 i64.wrap (aZ (List.take 8 (List.drop 24 b))),List.replicate 64 (0:Int))) (.need (tS (yq b)) (.ite (!cV (vN (yq b)) b)
 (.ret (0,0,0,0,List.replicate 64 (0:Int),false)) (.ret (i64.wrap (b.getD 0 0),aZ (List.take 8 (List.drop 8 b)),aZ (List.take 8
 (List.drop 16 b)),i64.wrap (aZ (List.take 8 (List.drop 24 b))),List.take 0 (List.replicate 64 (0:Int))++List.drop 32 b,
 true)))))))))))))
theorem P3(b:List Int):aN Tryz.prog [(121,B3),(181,ON)] [(0,cg Ll ((ae).wr (())) aj1 (aj4))] f133 ((bA).wr (b,())) ((ae).wr (())) [.fr [.sym],.syms,.auto,.aE]=(Ge b).end aj6 aj7 ((ae).wr (())):=by kernel_rfl
theorem YQ(b:List Int):aJ Tryz.prog ((ae).wr (())) [(0,cg Ll ((ae).wr (())) aj1 (aj4))] (aD f133):=(aJ.bW (jc (by kernel_rfl) (ck (hp:=(ae).wr (())) (aj5 b)) jh))
theorem Lm{c:Cm}(h:¬Bm c):vN c= []:=if_neg h
theorem uS{b:List Int}(h:b≠ []):cV [] b=false:=by
 cases hs:cV [] b with
 |false=>rfl
 |true=>exact absurd (List.eq_nil_of_length_eq_zero (mS hs).symm) h
theorem pJ(b:List Int):(nE b=i64.wrap (aZ (b.take 8)))∨(nE b= -1∧¬ (0≤i64.wrap (aZ (b.take 8))∧i64.wrap (aZ (b.take 8))≤2147483647)):=by
 have h:=kD (b.take 8);unfold nE
 by_cases c:aZ (b.take 8)≤2147483647
 ·left;rw[if_pos c,ar (by omega) (by omega)]
 ·right;rw[if_neg c];refine⟨rfl,?_⟩;rw[IntKind.wrap_i64];omega
abbrev uT(b:List Int):Prop:=ax b∧b.length<1099511627776
abbrev P4(b:List Int):Gd:=cmT (iq b)
def P5:ao:=cd [some u8] (bA) (ae) (fun x_ y_=>uT x_.1) (fun x_ y_=>P4 x_.1) aj6 aj7
theorem aj8(b:List Int)(h_:uT b):(Ge b).Is (P4 b):=by
 delta P4;obtain⟨h1,h2⟩:=h_;have b0:=h1.getD 0;have w0:i64.wrap (b.getD 0 0)=b.getD 0 0:=by unfold By at b0;rw[ar (by omega) (by omega)]
 by_cases c:b.length=96
 ·have c':(b.length:Int)=96:=by omega
  have e32:(b.drop 32).take 64=b.drop 32:=List.take_of_length_le (by rw[List.length_drop];omega);have ea:yq b=(b.getD 0 0,aZ ((b.drop 8).take 8),aZ ((b.drop 16).take 8),i64.wrap (aZ ((b.drop 24).take 8)),b.drop 32):=by unfold yq;rw[w0];rfl
  have l8:(List.take 8 (List.drop 8 b)).length≤8:=by rw[List.length_take];omega
  have l16:(List.take 8 (List.drop 16 b)).length≤8:=by rw[List.length_take];omega
  have l24:(List.take 8 (List.drop 24 b)).length≤8:=by rw[List.length_take];omega
  have hk:∀z x,yp b 0 z (x,aZ ((b.drop 8).take 8),aZ ((b.drop 16).take 8),i64.wrap (aZ ((b.drop 24).take 8)),List.replicate 64 0):=fun _ _=>⟨by decide,by decide,c,by simp⟩;have hp:∀x y,tS (x,aZ ((b.drop 8).take 8),aZ ((b.drop 16).take 8),y):=fun _ _=>⟨kD _,kD _⟩;simp only[Ge,w0,ea,List.take_zero,List.nil_append,ai,aG,aF,ak];refine⟨fun h=>?_,fun h=>?_⟩
  ·clear h;rcases pJ (b.drop 24)with hl|⟨hl,hb⟩
   ·have e:(b.getD 0 0,aZ ((b.drop 8).take 8),aZ ((b.drop 16).take 8),i64.wrap (aZ ((b.drop 24).take 8)),b.drop 32)=vO b:=(by unfold vO;rw[hl,e32]);have hp:=hp (b.getD 0 0) (i64.wrap (aZ ((b.drop 24).take 8)),b.drop 32);rw[e]at hp ⊢
    by_cases hs:cV (vN (vO b)) b=true
    ·have hg:iq b=(vO b,true):=if_pos ⟨c,hs⟩;rw[hg];exact⟨by omega,by omega,by omega,by omega,by omega,by omega,by omega,hk _ _,hp,fun _=>by rw[← e],fun h=>absurd hs (by rw[h];decide)⟩
    ·have hg:iq b=(xp,false):=if_neg fun h=>hs h.2;rw[hg];exact⟨by omega,by omega,by omega,by omega,by omega,by omega,by omega,hk _ _,hp,fun h=>absurd h hs,fun _=>rfl⟩
   ·have hn:b≠ []:=fun h=>by rw[h]at c;cases c
    have hg:iq b=(xp,false):=by
     refine if_neg fun h=>?_;have hk:¬Bm (vO b):=fun hc=>(by have:=hc.2.2.1;unfold vO at this;simp only[hl]at this;omega);rw[Lm hk,uS hn]at h;exact absurd h.2 (by decide)
    have hd:cV (vN (b.getD 0 0,aZ ((b.drop 8).take 8),aZ ((b.drop 16).take 8),i64.wrap (aZ ((b.drop 24).take 8)),b.drop 32)) b=false:=by
     rw[Lm fun hc=>hb ⟨hc.2.2.1,hc.2.2.2⟩,uS hn]
    rw[hg,hd];exact⟨by omega,by omega,by omega,by omega,by omega,by omega,by omega,hk _ _,⟨kD _,kD _⟩,fun h=>(by cases h),fun _=>rfl⟩
  ·exact absurd c' h
 ·have c':¬ (b.length:Int)=96:=by omega
  have:iq b=(xp,false):=by unfold iq;rw[if_neg (fun h=>c h.1)]
  rw[this];simp[Ge,c',aA,ak,xp]
theorem Ln:P5.Ok Tryz.prog 133:=
 br mixed ((aj tq (aj JL aw))) func133 (by kernel_rfl) call133 (fun x_ y_=>YQ x_.1) (fun x_ y_=>P3 x_.1) (fun x_ y_ h=>aj8 x_.1 h)
def kL(b:List Int):List Int:= [b.getD 24 0,b.getD 25 0,b.getD 26 0,b.getD 27 0,b.getD 28 0,b.getD 29 0,b.getD 30 0,
 b.getD 31 0]
abbrev Gf:Type:=Int×Int×Int×Int×(List Int)×(List Int)×Bool
abbrev aj9(x:Gf):LV:=LV.cG [VV.agg [SV.int i64 (SI.sym x.1),SV.int i64 (SI.sym x.2.1),SV.int i64
 (SI.sym x.2.2.1),SV.int i64 (SI.sym x.2.2.2.1),SV.arr (Ty.int IntKind.u8) 8 x.2.2.2.2.1,SV.rd true false (Ty.int IntKind.u8) x.2.2.2.2.2.1],
 VV.sc (SV.bool (SB.sym x.2.2.2.2.2.2))]
abbrev aka(x:Gf):List (Nat×Ev.Item):= []
def Gg(b:List Int):Tr (Gf):=(.ite ((↑b.length:Int)!=232) (.ret (0,0,0,0,[0,0,0,0,0,0,0,0],[],false))
 (.need ((0:Int)≤0∧0<(↑b.length:Int)) (.need ((0:Int)≤1∧1<(↑b.length:Int)) (.need ((0:Int)≤8∧(8:Int)≤16∧16≤(↑b.length
 :Int)) (.need ((List.take 8 (List.drop 8 b)).length≤70368744177664) (.need ((0:Int)≤16∧(16:Int)≤24∧24≤(↑b.length:Int)) (.need
 ((List.take 8 (List.drop 16 b)).length≤70368744177664) (.need ((0:Int)≤32∧32≤(↑b.length:Int)∧(↑b.length:Int)≤(↑b.length:Int))
 (.need ((List.take ((↑b.length:Int)-32).toNat (List.drop 32 b)).length*1≤70368744177664∧(List.take ((↑b.length:Int)-32).toNat (List.drop
 32 b)).length≤70368744177664) (.need ((0:Int)≤24∧24<(↑b.length:Int)) (.need ((0:Int)≤25∧25<(↑b.length:Int)) (.need ((0:Int)≤
 26∧26<(↑b.length:Int)) (.need ((0:Int)≤27∧27<(↑b.length:Int)) (.need ((0:Int)≤28∧28<(↑b.length:Int)) (.need ((0:Int)≤29∧
 29<(↑b.length:Int)) (.need ((0:Int)≤30∧30<(↑b.length:Int)) (.need ((0:Int)≤31∧31<(↑b.length:Int)) (.need (tW
 (i64.wrap (b.getD 0 0),i64.wrap (b.getD 1 0),i64.wrap (aZ (List.take 8 (List.drop 8 b))),i64.wrap (aZ (List.take
 8 (List.drop 16 b))),kL b,List.take ((↑b.length:Int)-32).toNat (List.drop 32 b))) (.ite (!cV (tF (i64.wrap (b.getD 0 0),
 i64.wrap (b.getD 1 0),i64.wrap (aZ (List.take 8 (List.drop 8 b))),i64.wrap (aZ (List.take 8 (List.drop 16 b))),id8
 (kL b),List.take ((↑b.length:Int)-32).toNat (List.drop 32 b))) b) (.ret (0,0,0,0,[0,0,0,0,0,0,0,0],[],false)) (.ret
 (i64.wrap (b.getD 0 0),i64.wrap (b.getD 1 0),i64.wrap (aZ (List.take 8 (List.drop 8 b))),i64.wrap (aZ (List.take
 8 (List.drop 16 b))),kL b,List.take ((↑b.length:Int)-32).toNat (List.drop 32 b),true)))))))))))))))))))))
theorem P6(b:List Int):aN Tryz.prog [(121,B3),(182,ahz)] [] f134 ((bA).wr (b,())) ((ae).wr (())) [.fQ 0 4 8 .u8,.nt,.fr [.rd true u8],.fr [.sym],.syms,.auto,.aE]=(Gg b).end aj9 aka ((ae).wr (())):=by kernel_rfl
theorem YR(b:List Int):aJ Tryz.prog ((ae).wr (())) [] (aD f134):=(aJ.nil _)
abbrev uU(b:List Int):Prop:=ax b∧b.length<1099511627776
abbrev P7(b:List Int):Gf:=ckT (mT b)
def P8:ao:=cd [some u8] (bA) (ae) (fun x_ y_=>uU x_.1) (fun x_ y_=>P7 x_.1) aj9 aka
theorem akb(b:List Int)(h_:uU b):(Gg b).Is (P7 b):=by
 delta P7;obtain⟨h1,h2⟩:=h_
 by_cases c:b.length=232
 ·have c':(b.length:Int)=232:=by omega
  have b0:=h1.getD 0;have b1:=h1.getD 1;have w0:i64.wrap (b.getD 0 0)=b.getD 0 0:=by unfold By at b0;rw[ar (by omega) (by omega)]
  have w1:i64.wrap (b.getD 1 0)=b.getD 1 0:=by unfold By at b1;rw[ar (by omega) (by omega)]
  have e24:(b.drop 24).take 8=kL b:=by
   rw[bY 0 (by omega),bY 0 (by omega),bY 0 (by omega),bY 0 (by omega),bY 0 (by omega),bY 0 (by omega),bY 0 (by omega),bY 0 (by omega)];rfl
  have e8:id8 (kL b)=kL b:=rfl;have l8:(List.take 8 (List.drop 8 b)).length≤8:=by rw[List.length_take];omega
  have l16:(List.take 8 (List.drop 16 b)).length≤8:=by rw[List.length_take];omega
  have l32:(b.drop 32).length=200:=by rw[List.length_drop];omega
  have hp:∀x y z w v,tW (x,y,z,w,v,b.drop 32):=fun _ _ _ _ _=>by show(b.drop 32).length<_;omega
  have hn:b≠ []:=fun h=>by rw[h]at c;cases c
  simp only[Gg,w0,w1,e8,jB,Int.reduceToNat,ai,aG,aF,ak];refine⟨fun _=>?_,fun h=>absurd c' h⟩
  by_cases hl:nE (b.drop 8)=i64.wrap (aZ ((b.drop 8).take 8))∧nE (b.drop 16)=i64.wrap (aZ ((b.drop 16).take 8))
  ·have e:(b.getD 0 0,b.getD 1 0,i64.wrap (aZ ((b.drop 8).take 8)),i64.wrap (aZ ((b.drop 16).take 8)),kL b,b.drop 32)=rR b:=(by unfold rR;rw[hl.1,hl.2,e24]);have hp:=hp (b.getD 0 0) (b.getD 1 0) (i64.wrap (aZ ((b.drop 8).take 8))) (i64.wrap (aZ ((b.drop 16).take 8))) (kL b);rw[e]at hp ⊢
   by_cases hs:cV (tF (rR b)) b=true
   ·have hg:mT b=(rR b,true):=if_pos ⟨c,hs⟩;rw[hg];exact⟨by omega,by omega,by omega,by omega,by omega,by omega,by omega,⟨by omega,by omega⟩,by omega,by omega,by omega,by omega,by omega,by omega,by omega,by omega,hp,fun _=>(by rw[← e]),fun h=>absurd hs (by rw[h];decide)⟩
   ·have hg:mT b=(vQ,false):=if_neg fun h=>hs h.2;rw[hg];exact⟨by omega,by omega,by omega,by omega,by omega,by omega,by omega,⟨by omega,by omega⟩,by omega,by omega,by omega,by omega,by omega,by omega,by omega,by omega,hp,fun h=>absurd h hs,fun _=>rfl⟩
  ·have hb:∀x y v w,¬vP (x,y,i64.wrap (aZ ((b.drop 8).take 8)),i64.wrap (aZ ((b.drop 16).take 8)),v,w):=fun x y v w hc=>by
    rcases pJ (b.drop 8)with h8|⟨_,h8⟩
    ·rcases pJ (b.drop 16)with G5|⟨_,G5⟩
     ·exact hl ⟨h8,G5⟩
     ·exact G5 ⟨hc.2.2.2.2.2.2.1,hc.2.2.2.2.2.2.2.1⟩
    ·exact h8 ⟨hc.2.2.2.2.1,hc.2.2.2.2.2.1⟩
   have hk:¬vP (rR b):=fun hc=>by
    rcases pJ (b.drop 8)with h8|⟨h8,_⟩
    ·rcases pJ (b.drop 16)with G5|⟨G5,_⟩
     ·exact hl ⟨h8,G5⟩
     ·have:=hc.2.2.2.2.2.2.1;unfold rR at this;simp only[G5]at this;omega
    ·have:=hc.2.2.2.2.1;unfold rR at this;simp only[h8]at this;omega
   have hg:mT b=(vQ,false):=if_neg fun h=>by
    have h:=h.2;rw[show tF (rR b)= []from if_neg hk,uS hn]at h
    cases h
   have hd:cV (tF (b.getD 0 0,b.getD 1 0,i64.wrap (aZ ((b.drop 8).take 8)),i64.wrap (aZ ((b.drop 16).take 8)),kL b,b.drop 32)) b=false:=by
    rw[show tF _= []from if_neg (hb _ _ _ _),uS hn]
   rw[hg,hd];exact⟨by omega,by omega,by omega,by omega,by omega,by omega,by omega,⟨by omega,by omega⟩,by omega,by omega,by omega,by omega,by omega,by omega,by omega,by omega,hp _ _ _ _ _,fun h=>(by cases h),fun _=>rfl⟩
 ·have c':¬ (b.length:Int)=232:=by omega
  have:mT b=(vQ,false):=by unfold mT;rw[if_neg (fun h=>c h.1)]
  rw[this];simp[Gg,c',aA,ak,vQ]
theorem Lo:P8.Ok Tryz.prog 134:=
 br mixed ((aj tq (aj ahB aw))) func134 (by kernel_rfl) call134 (fun x_ y_=>YR x_.1) (fun x_ y_=>P6 x_.1) (fun x_ y_ h=>akb x_.1 h)
abbrev Uz:Type:=Int×Int×Int×Int×(List Int)×Bool×Int×Int×Int×Int×(List Int)×(List Int)
abbrev auZ(x:Uz):LV:=LV.one (VV.agg [SV.int i64 (SI.sym x.1),SV.int u64 (SI.sym x.2.1),SV.int u64
 (SI.sym x.2.2.1),SV.int i64 (SI.sym x.2.2.2.1),SV.arr (Ty.int IntKind.u8) 64 x.2.2.2.2.1,SV.bool (SB.sym x.2.2.2.2.2.1),SV.int i64
 (SI.sym x.2.2.2.2.2.2.1),SV.int i64 (SI.sym x.2.2.2.2.2.2.2.1),SV.int i64 (SI.sym x.2.2.2.2.2.2.2.2.1),SV.int i64 (SI.sym
 x.2.2.2.2.2.2.2.2.2.1),SV.arr (Ty.int IntKind.u8) 8 x.2.2.2.2.2.2.2.2.2.2.1,SV.rd true false (Ty.int IntKind.u8) x.2.2.2.2.2.2.2.2.2.2.2])
abbrev au0(x:Uz):List (Nat×Ev.Item):= []
def au1:Tr (Uz):=(.ret ((-1),0,0,0,List.replicate 64 (0:Int),false,0,0,0,0,[0,0,0,0,0,0,0,0],[]))
theorem YS:aN Tryz.prog [] [] f132 ((ae).wr (())) ((ae).wr (())) [.fQ 0 10 8 .u8,.fr [.rd true u8],.fr [.sym],.syms,.auto,.aE]=(au1).end auZ au0 ((ae).wr (())):=by kernel_rfl
theorem akc:aJ Tryz.prog ((ae).wr (())) [] (aD f132):=(aJ.nil _)
abbrev Gh:Prop:=True
abbrev akd:Uz:=sgT iZ
def ake:ao:=cd [] (ae) (ae) (fun _ _=>Gh) (fun _ _=>akd) auZ au0
theorem aqN(h_:Gh):(au1).Is (akd):=by
 delta akd;exact rfl
theorem UA:ake.Ok Tryz.prog 132:=
 br mixed aw func132 (by kernel_rfl) call132 (fun x_ y_=>akc) (fun x_ y_=>YS) (fun x_ y_ h=>aqN h)
abbrev Lp:Type:=(List (Int×Int×List Int))×Int×((Int×Int×Int×Int×List Int)×Bool×Int×Int×Int×Int×List Int×List Int)
 ×((Int×Int×Int×Int×List Int)×Bool×Int×Int×Int×Int×List Int×List Int)
abbrev Lq:aY St Lp:=(bg (ag (ah (fR false false ((Ty.int i64).pair ((Ty.int i64).pair (Ty.int
 IntKind.u8).sl)))) (jk 1 (aq (ah (aU (0) (0))) (aq (ah (aU (1) (0))) (ag (ah (aC i64)) (jk 61 ae)))))) (ag (eV
 jSg) (ag (eV jSg) ae))).kB (fun y=>(y.1.1,y.1.2.1,y.2.1,y.2.2.1)) (fun x=>((x.1,(x.2.1,())),(x.2.2.1,(x.2.2.2,())))) (fun _=>
 rfl)
abbrev akf:List Wk:= [.db 0 10 8 .u8,.db 1 10 8 .u8,.bH 0 [.sym,.sym,.sym,.sym,.al,.sym,.sym,.sym,.sym,.sym,.al,.rd true
 u8],.bH 1 [.sym,.sym,.sym,.sym,.al,.sym,.sym,.sym,.sym,.sym,.al,.rd true u8],.fr (cC 66 [(0,.al),(2,.al),(3,.al),(4,
 .al)]),.syms,.auto,.aE]
abbrev au2:Exit→List Wk:=w6 akf 0 [.db 0 10 8 .u8,.db 1 10 8 .u8,.bH 0 [.sym,.sym,.sym,.sym,.al,.sym,.sym,.sym,.sym,.sym,
 .al,.rd true u8],.bH 1 [.sym,.sym,.sym,.sym,.al,.sym,.sym,.sym,.sym,.sym,.al,.rd true u8],.fr (cC 66 [(2,.al),(3,.al)]),
 .syms,.auto,.aE] [.db 0 10 8 .u8,.db 1 10 8 .u8,.bH 0 [.sym,.sym,.sym,.sym,.al,.sym,.sym,.sym,.sym,.sym,.al,.rd true u8],
 .bH 1 [.sym,.sym,.sym,.sym,.al,.sym,.sym,.sym,.sym,.sym,.al,.rd true u8],.fr (cC 66 [(2,.al)]),.syms,.auto,.aE]
def sr(l:List (Int×Int×List Int))(i:Int):(Int×Int×Int×Int×List Int)×Bool:=iq (l.getD i.toNat (0,0,
 [])).snd.snd
def P9(l:List (Int×Int×List Int))(i:Int):(Int×Int×Int×Int×List Int×List Int)×Bool:=mT (l.getD i.toNat (0,
 0,[])).snd.snd
abbrev akg:Type:=((Int×Int×Int×Int×List Int)×Bool×Int×Int×Int×Int×List Int×List Int)×((Int×Int×Int×Int×List Int)
 ×Bool×Int×Int×Int×Int×List Int×List Int)
abbrev au3(x:akg):Exit×St:=(Exit.exit 0,⟨(ir 2 (LV.one (VV.sc (SV.ptr 0 0))::(LV.one (VV.sc (SV.ptr 1 0))::(ir 62
 [])))),[some (jSg.wr x.1),some (jSg.wr x.2)]⟩)
def UB(l:List (Int×Int×List Int))(i:Int)(z:(Int×Int×Int×Int×List Int)×Bool×Int×Int×Int×Int×List Int×
 List Int) (s:(Int×Int×Int×Int×List Int)×Bool×Int×Int×Int×Int×List Int×List Int):Tr (Lp⊕(akg)):=(.ite (decide (i<
 (↑l.length:Int))) (.need (0≤i∧i<(↑l.length:Int)) (.ite ((l.getD i.toNat (0,0,[])).fst==2) (.need (0≤i∧i<(↑l.length:Int)) (.need
 (uT (l.getD i.toNat (0,0,[])).snd.snd) (.ite ((sr l i).snd) (.ite (decide ((sr l i).fst.snd.snd.fst<s.fst.snd.snd.fst)) (.ret (.inl
 (l,i64.wrap (i+1),z,(((sr l i).fst.fst,(sr l i).fst.snd.fst,s.fst.snd.snd.fst,(sr l i).fst.snd.snd.snd),false,0,0,0,0,
 [0,0,0,0,0,0,0,0],[])))) (.ret (.inl (l,i64.wrap (i+1),z,((sr l i).fst,false,0,0,0,0,[0,0,0,0,0,0,0,0],[])))))
 (.ret (.inl (l,i64.wrap (i+1),z,s)))))) (.ite ((l.getD i.toNat (0,0,[])).fst==3) (.need (0≤i∧i<(↑l.length:Int)) (.need
 (uU (l.getD i.toNat (0,0,[])).snd.snd) (.ite ((P9 l i).snd) (.ret (.inl (l,i64.wrap (i+1),z,(s.fst,true,(P9 l i).fst))))
 (.ret (.inl (l,i64.wrap (i+1),z,s)))))) (.ite ((l.getD i.toNat (0,0,[])).fst==4) (.ret (.inl (l,i64.wrap (i+1),z,(s.fst,
 false,0,0,0,0,[0,0,0,0,0,0,0,0],[])))) (.ret (.inl (l,i64.wrap (i+1),z,s))))))) (.ret (.inr (z,s))))
theorem YT(l':List (Int×Int×List Int))(l:List (Int×Int×List Int))(i:Int)(z:(Int×Int×Int×Int×List Int)×Bool×Int×Int×Int×Int×List Int×List Int)(s:(Int×Int×Int×Int×List Int)×Bool×Int×Int×Int×Int×List Int×List Int):cY Tryz.prog [(132,ake),(133,P5),(134,P8)] [] f94 0 ((ae).wr (())) au2 (Lq.wr (l,i,z,s))=(UB l i z s).res Lq.wr au3:=by kernel_rfl
abbrev Gi(l:List (Int×Int×List Int))(i:Int)(z:(Int×Int×Int×Int×List Int)×Bool×Int×Int×Int×Int×List Int×List Int)(s:(Int×Int×Int×Int×List Int)×Bool×Int×Int×Int×Int×List Int×List Int):Prop:=0≤i∧i≤l.length∧l.length<1099511627776∧nF l
abbrev akh(l:List (Int×Int×List Int))(i:Int)(z:(Int×Int×Int×Int×List Int)×Bool×Int×Int×Int×Int×List Int×List Int)(s:(Int×Int×Int×Int×List Int)×Bool×Int×Int×Int×Int×List Int×List Int):akg:=(z,bE s (l.drop i.toNat))
abbrev aki:Lp→aW:=eS (fun x_=>Gi x_.1 x_.2.1 x_.2.2.1 x_.2.2.2) (fun x_=>akh x_.1 x_.2.1 x_.2.2.1 x_.2.2.2) au3
theorem aqO(l:List (Int×Int×List Int))(i:Int)(z:(Int×Int×Int×Int×List Int)×Bool×Int×Int×Int×Int×List Int×List Int)(s:(Int×Int×Int×Int×List Int)×Bool×Int×Int×Int×Int×List Int×List Int)(h_:Gi l i z s):dV (fun x_:Lp=>UB x_.1 x_.2.1 x_.2.2.1 x_.2.2.2) (l,i,z,s) (akh l i z s):=by
 delta akh;obtain⟨h1,h2,h4,h5⟩:=h_;obtain⟨k,rfl⟩:∃m:Nat,i=m:=⟨i.toNat,by omega⟩;obtain⟨j,hj⟩:∃j,l.length-k=j:=⟨_,rfl⟩;rw[Int.toNat_natCast]
 induction j generalizing k s with
 |zero=>
  refine .stop ?_;have c:¬ (k:Int)<l.length:=by omega
  rw[List.drop_of_length_le (by omega)];simp[UB,c,aA,ak,bE]
 |succ j ih=>
  have c:(k:Int)<l.length:=by omega
  have w:=ih (tI s (l.getD k (0,0,[]))) (k+1) (by omega) (by omega) (by omega);rw[bY (0,0,[]) (by omega),bE,List.foldl_cons];refine .go ?_ w;have hx:=h5 k (by omega);have hw:i64.wrap ((k:Int)+1)=((k+1:Nat):Int):=by rw[ar (by omega) (by omega)];rfl
  have hk:(0:Int)≤k∧(k:Int)<l.length:=⟨by omega,c⟩;simp only[UB,sr,P9,Int.toNat_natCast,hw,tI];have hc:uT (l.getD k (0,0,[])).2.2:=hx;have hg:uU (l.getD k (0,0,[])).2.2:=hx;clear w;have ez:([0,0,0,0,0,0,0,0]:List Int)=List.replicate 8 0:=rfl;simp only[ay,ai,aK,ak,ez];refine⟨fun _=>⟨hk,fun c1=>⟨hk,hc,?_⟩,fun c1=>⟨fun c2=>⟨hk,hg,?_⟩,fun c2=>⟨fun c3=>?_,fun c3=>?_⟩⟩⟩,fun h=>absurd c h⟩
  ·refine aA.2 ⟨fun d=>?_,fun d=>?_⟩
   ·rw[if_pos c1,if_pos d];refine ay.2 ⟨fun e=>?_,fun e=>?_⟩
    ·rw[if_pos e];rfl
    ·rw[if_neg e];rfl
   ·rw[if_pos c1,if_neg (by rw[d];decide)];rfl
  ·rw[if_neg c1,if_pos c2];refine aA.2 ⟨fun d=>?_,fun d=>?_⟩
   ·rw[if_pos d];rfl
   ·rw[if_neg (by rw[d];decide)];rfl
  ·rw[if_neg c1,if_neg c2,if_pos c3];rfl
  ·rw[if_neg c1,if_neg c2,if_neg c3]
theorem akj(l':List (Int×Int×List Int)):∀x:Lp,Ex Tryz.prog ((ae).wr (())) (.loop (a9 f94 0)) (Lq.wr x) (aki x):=
 cQ mixed ((aj UA (aj Ln (aj Lo aw)))) (ws:=au2) (aJ.nil _) (fun x_=>YT l' x_.1 x_.2.1 x_.2.2.1 x_.2.2.2) (fun z e=>by cases e) eY (fun x_ h=>aqO x_.1 x_.2.1 x_.2.2.1 x_.2.2.2 h)
def iR:(Int×Int×Int×Int×List Int)×Bool×Int×Int×Int×Int×List Int×List Int:=((iZ.fst.fst,0,0,0,
 iZ.fst.snd.snd.snd.snd),iZ.snd.fst,0,0,0,0,iZ.snd.snd.snd.snd.snd.snd)
abbrev UC:Type:=Int×Int×Int×Int×(List Int)×Bool×Int×Int×Int×Int×(List Int)×(List Int)
abbrev au4(x:UC):LV:=LV.one (VV.agg [SV.int i64 (SI.sym x.1),SV.int u64 (SI.sym x.2.1),SV.int u64
 (SI.sym x.2.2.1),SV.int i64 (SI.sym x.2.2.2.1),SV.arr (Ty.int IntKind.u8) 64 x.2.2.2.2.1,SV.bool (SB.sym x.2.2.2.2.2.1),SV.int i64
 (SI.sym x.2.2.2.2.2.2.1),SV.int i64 (SI.sym x.2.2.2.2.2.2.2.1),SV.int i64 (SI.sym x.2.2.2.2.2.2.2.2.1),SV.int i64 (SI.sym
 x.2.2.2.2.2.2.2.2.2.1),SV.arr (Ty.int IntKind.u8) 8 x.2.2.2.2.2.2.2.2.2.2.1,SV.rd true false (Ty.int IntKind.u8) x.2.2.2.2.2.2.2.2.2.2.2])
abbrev au5(x:UC):List (Nat×Ev.Item):= []
def akk(l:List (Int×Int×List Int)):Tr (UC):=(.need (Gh) (.need (Gi l 0 ((0,0,0,0,List.replicate 64 (0:
 Int)),false,0,0,0,0,[0,0,0,0,0,0,0,0],[]) iR) (.ret ((bE iR (List.drop 0 l)).fst.fst,(bE iR (List.drop 0
 l)).fst.snd.fst,(bE iR (List.drop 0 l)).fst.snd.snd.fst,(bE iR (List.drop 0 l)).fst.snd.snd.snd.fst,(bE iR (List.drop 0
 l)).fst.snd.snd.snd.snd,(bE iR (List.drop 0 l)).snd.fst,(bE iR (List.drop 0 l)).snd.snd.fst,(bE iR (List.drop 0
 l)).snd.snd.snd.fst,(bE iR (List.drop 0 l)).snd.snd.snd.snd.fst,(bE iR (List.drop 0 l)).snd.snd.snd.snd.snd.fst,(bE iR
 (List.drop 0 l)).snd.snd.snd.snd.snd.snd.fst,(bE iR (List.drop 0 l)).snd.snd.snd.snd.snd.snd.snd))))
theorem YU(l:List (Int×Int×List Int)):aN Tryz.prog [(132,ake),(133,P5),(134,P8)] [(0,cg Lq ((ae).wr (())) akf (aki))] f94 ((Tp).wr (l,())) ((ae).wr (())) [.db 0 10 8 .u8,.db 1 10 8 .u8,.bH 0 [.sym,.sym,.sym,.sym,.al,.sym,.sym,.sym,.sym,.sym,.al,.rd true u8],.bH 1 [.sym,.sym,.sym,.sym,.al,.sym,.sym,.sym,.sym,.sym,.al,.rd true u8],.fr [.sym],.syms,.auto,.aE]=(akk l).end au4 au5 ((ae).wr (())):=by kernel_rfl
theorem akl(l:List (Int×Int×List Int)):aJ Tryz.prog ((ae).wr (())) [(0,cg Lq ((ae).wr (())) akf (aki))] (aD f94):=(aJ.bW (jc (by kernel_rfl) (ck (hp:=(ae).wr (())) (akj l)) jh))
abbrev yr(l:List (Int×Int×List Int)):Prop:=nF l∧l.length<1099511627776
abbrev akm(l:List (Int×Int×List Int)):UC:=sgT (bE iZ l)
def au6:ao:=cd [some (.pair (.int .i64) (.pair (.int .i64) (.sl u8)))] (Tp) (ae) (fun x_ y_=>yr x_.1) (fun x_ y_=>akm x_.1) au4 au5
theorem aqP(l:List (Int×Int×List Int))(h_:yr l):(akk l).Is (akm l):=by
 delta akm;obtain⟨h1,h2⟩:=h_;have e:iR=iZ:=rfl;simp only[akk,ai,ak,e,List.drop_zero];exact⟨trivial,⟨by decide,by omega,by omega,h1⟩,rfl⟩
theorem aqQ:au6.Ok Tryz.prog 94:=
 br mixed ((aj UA (aj Ln (aj Lo aw)))) func94 (by kernel_rfl) call94 (fun x_ y_=>akl x_.1) (fun x_ y_=>YU x_.1) (fun x_ y_ h=>aqP x_.1 h)
abbrev UD:Type:=Int
abbrev au7(x:UD):LV:=LV.one (VV.sc (SV.int i64 (SI.sym x)))
abbrev au8(x:UD):List (Nat×Ev.Item):= []
def akn(b:List Int):Tr (UD):=(.need (xY b) (.ite ((!(bP b).snd.snd)==false) (.ite (((bP b).fst.fst !=1)==false)
 (.ite (decide (0<(↑(bP b).fst.snd.snd.length:Int))) (.ret (0)) (.ret ((bP b).fst.snd.fst))) (.ret (0))) (.ret (0))))
theorem YV(b:List Int):aN Tryz.prog [(130,SW)] [] f129 ((bA).wr (b,())) ((ae).wr (())) [.fr [.sym],.syms,.auto,.aE]=(akn b).end au7 au8 ((ae).wr (())):=by kernel_rfl
theorem ako(b:List Int):aJ Tryz.prog ((ae).wr (())) [] (aD f129):=(aJ.nil _)
abbrev qG(b:List Int):Prop:=ax b∧b.length<1099511627776
abbrev akp(b:List Int):UD:=o7 b
def akq:ao:=cd [some u8] (bA) (ae) (fun x_ y_=>qG x_.1) (fun x_ y_=>akp x_.1) au7 au8
theorem aqR(b:List Int)(h_:qG b):(akn b).Is (akp b):=by
 delta akp;have h:ax b∧b.length<1099511627776:=h_;have e:(bP b).1.2.2= []↔(bP b).1.2.2.length=0:=List.length_eq_zero_iff.symm;simp only[akn,o7,ai,aH,aS,bb,aP,ay,aG,aT,aM,aQ,bl,bf,aK,aF,ak]
 try simp only[aA,ai,aH,aS,bb,aP,ay,aG,aT,aM,aQ,bl,bf,aK,aF,ak]
 refine⟨h,?_⟩;generalize bP b=x at*;grind
theorem UE:akq.Ok Tryz.prog 129:=
 br mixed ((aj EE aw)) func129 (by kernel_rfl) call129 (fun x_ y_=>ako x_.1) (fun x_ y_=>YV x_.1) (fun x_ y_ h=>aqR x_.1 h)
abbrev cJk(l:aY SV Unit):aY (List SV) Jn:=(aq (aU 0 0) (ag (aC .i64) (ag (aC .i64) (aq l (ag (aC .i64) (ag (aC .i64) (ag jX (ag (aC .i64) (ag (aC .i64) ae))))))))).kB (fun x=>((x.1,x.2.1),x.2.2.2.1,x.2.2.1,x.2.2.2.2.2.1,x.2.2.2.2.1,x.2.2.2.2.2.2.1)) (fun y=>(y.1.1,y.1.2,y.2.2.1,y.2.1,y.2.2.2.2.1,y.2.2.2.1,y.2.2.2.2.2,())) (fun _=>rfl)
abbrev aze:aY Ev.Item Jn:=oT 156 (cJk (u5 4 0))
abbrev Lr:Type:=(List Int)×(Int×Int×Bool)×(List Int)×(List Int)×((Int×Int)×Int×Int×Int×Bool×Int)×(List (Int×Int×
 List Int))
abbrev CI:aY St Lr:=(bg (jk 6 (aq (ah (aU (3) (0))) (jk 2 (ag (ah (fR true false (Ty.int IntKind.u8))) (jk 116
 ae))))) (ag (eV jFk) (ag (eX (0) (Ty.int IntKind.u8)) (ag (eX (0) (Ty.int i64)) (ag (eV aze) (ag (eX (0) ((Ty.int
 i64).pair ((Ty.int i64).pair (Ty.int IntKind.u8).sl))) ae)))))).kB (fun y=>(y.1.1,y.2.1,y.2.2.1,y.2.2.2.1,y.2.2.2.2.1,
 y.2.2.2.2.2.1)) (fun x=>((x.1,()),(x.2.1,(x.2.2.1,(x.2.2.2.1,(x.2.2.2.2.1,(x.2.2.2.2.2,()))))))) (fun _=>rfl)
abbrev UF:List Wk:= [.fr (cC 126 [(6,.al),(9,.al)]),.auto,.dw 3 3 dK,.fr (cC 126 [(6,.al),(9,.al)]),.syms,.auto,.aE]
abbrev au9:Exit→List Wk:=w6 UF 2 [.fr (cC 126 [(6,.al),(9,.al)]),.auto,.dw 3 3 dK,.fr (cC 126 [(6,.al),(9,.al)]),
 .syms,.auto,.aE] [.fr (cC 126 [(6,.al),(9,.al)]),.auto,.dw 3 3 dK,.fr (cC 126 [(2,.al),(3,.al)]),.syms,.auto,.aE]
def su(s:List Int)(j:(Int×Int)×Int×Int×Int×Bool×Int):List Int:=List.take ((↑s.length:Int)-
 j.snd.snd.snd.fst).toNat (List.drop j.snd.snd.snd.fst.toNat s)
abbrev akr:Type:=(List Int)×(Int×Int×Bool)×(List Int)×(List Int)×((Int×Int)×Int×Int×Int×Bool×Int)×(List (Int×Int×
 List Int))
abbrev ava(x:akr):Exit×St:=(Exit.exit 2,⟨(ir 6 (LV.one (VV.sc (SV.ptr 3 0))::(ir 2 (LV.one (VV.sc (SV.rd true false
 (Ty.int IntKind.u8) x.1))::(ir 116 []))))),[some (jFk.wr x.2.1),some (Item.own 0 (Ty.int IntKind.u8) x.2.2.1),some (Item.own 0 (Ty.int
 i64) x.2.2.2.1),some (aze.wr x.2.2.2.2.1),some (Item.own 0 ((Ty.int i64).pair ((Ty.int i64).pair (Ty.int IntKind.u8).sl))
 x.2.2.2.2.2)]⟩)
def Ls(s:List Int)(f:Int×Int×Bool)(b:List Int)(er:List Int)(j:(Int×Int)×Int×Int×Int×Bool×Int)(l:List
 (Int×Int×List Int)):Tr (Lr⊕(akr)):=(.need (0≤j.snd.snd.snd.fst∧j.snd.snd.snd.fst≤(↑s.length:Int)∧(↑s.length:Int)≤
 (↑s.length:Int)) (.need (xY (su s j)) (.ite ((!(bP (su s j)).snd.snd)==false) (.ite ((bP (su s j)).fst.fst==1) (.ret (.inr
 (s,f,b,er,j,l))) (.need ((l.length+1)*40≤70368744177664∧l.length+1≤70368744177664) (.ret (.inl (s,f,b,er,(j.fst,j.snd.fst,
 j.snd.snd.fst,i64.wrap (j.snd.snd.snd.fst+(bP (su s j)).snd.fst),j.snd.snd.snd.snd),l++ [(bP (su s j)).fst]))))) (.ret (.inr
 (s,f,b,er,j,l))))))
theorem YW(r:Int×Int)(f':Fk)(b' w7:List Int)(s:List Int)(f:Int×Int×Bool)(b:List Int)(er:List Int)(j:(Int×Int)×Int×Int×Int×Bool×Int)(l:List (Int×Int×List Int)):cY Tryz.prog [(51,So),(28,Sq),(129,akq),(130,SW),(131,aeL)] [] f93 2 ((gS).wr (f',b',w7,())) au9 (CI.wr (s,f,b,er,j,l))=(Ls s f b er j l).res CI.wr ava:=by kernel_rfl
abbrev qH(s:List Int)(f:Int×Int×Bool)(b:List Int)(er:List Int)(j:(Int×Int)×Int×Int×Int×Bool×Int)(l:List (Int×Int×List Int)):Prop:=ax s∧s.length≤1024∧0≤j.2.2.2.1∧j.2.2.2.1≤s.length∧l.length≤j.2.2.2.1
abbrev aks(s:List Int)(f:Int×Int×Bool)(b:List Int)(er:List Int)(j:(Int×Int)×Int×Int×Int×Bool×Int)(l:List (Int×Int×List Int)):akr:=(s,f,b,er,(j.1,j.2.1,j.2.2.1,j.2.2.2.1+(bZ s.length (s.drop j.2.2.2.1.toNat)).2,j.2.2.2.2),l++(bZ s.length (s.drop j.2.2.2.1.toNat)).1)
abbrev UG:Lr→aW:=eS (fun x_=>qH x_.1 x_.2.1 x_.2.2.1 x_.2.2.2.1 x_.2.2.2.2.1 x_.2.2.2.2.2) (fun x_=>aks x_.1 x_.2.1 x_.2.2.1 x_.2.2.2.1 x_.2.2.2.2.1 x_.2.2.2.2.2) ava
theorem aqS(s:List Int)(f:Int×Int×Bool)(b:List Int)(er:List Int)(j:(Int×Int)×Int×Int×Int×Bool×Int)(l:List (Int×Int×List Int))(h_:qH s f b er j l):dV (fun x_:Lr=>Ls x_.1 x_.2.1 x_.2.2.1 x_.2.2.2.1 x_.2.2.2.2.1 x_.2.2.2.2.2) (s,f,b,er,j,l) (aks s f b er j l):=by
 delta aks;obtain⟨h1,h2,h3,h4,h5⟩:=h_;obtain⟨r,ep,cur,u,z⟩:=j;simp only at h3 h4 h5 ⊢;obtain⟨n,hn⟩:∃n:Nat,(s.drop u.toNat).length≤16*n:=⟨(s.drop u.toNat).length,by omega⟩;have hd:∀x:Int,(s.drop x.toNat).length=s.length-x.toNat:=fun x=>List.length_drop;rw[rT s.length n _ (by rw[hd];omega) hn]
 have e0:∀x:Int,0≤x→su s (r,ep,cur,x,z)=s.drop x.toNat:=fun x hx=>by
  unfold su;exact List.take_of_length_le (by rw[List.length_drop];simp only;omega)
 induction n generalizing u l with
 |zero=>
  have hk:¬ (bP (s.drop u.toNat)).2.2=true:=fun h=>by have:=kE h;omega
  refine .stop ?_;simp only[Ls,e0 u h3,ai,aA,ak];have h6:=hd u;simp[hk,bZ];exact⟨by omega,h1.drop _,by omega⟩
 |succ n ih=>
  have h6:=hd u
  by_cases c:(bP (s.drop u.toNat)).2.2=true∧(bP (s.drop u.toNat)).1.1≠1
  ·have hk:=kE c.1;have h7:=hd (u+(bP (s.drop u.toNat)).2.1);have w:=ih (l++ [(bP (s.drop u.toNat)).1]) (u+(bP (s.drop u.toNat)).2.1) (by omega) (by omega) (by rw[List.length_append,List.length_singleton];omega) (by omega);rw[bZ,if_pos c,List.drop_drop,show u.toNat+(bP (s.drop u.toNat)).2.1.toNat=(u+(bP (s.drop u.toNat)).2.1).toNat by omega];rw[List.append_assoc,List.singleton_append,Int.add_assoc]at w;refine .go ?_ w;simp only[Ls,e0 u h3,ai,aA,ak];have hw:i64.wrap (u+(bP (s.drop u.toNat)).2.1)=u+(bP (s.drop u.toNat)).2.1:=ar (by omega) (by omega);simp[c.1,c.2,hw];exact⟨by omega,⟨h1.drop _,by omega⟩,by omega⟩
  ·refine .stop ?_;rw[bZ,if_neg c];simp only[Ls,e0 u h3,ai,aA,ak];refine⟨by omega,⟨h1.drop _,by omega⟩,?_⟩;simp;grind
theorem akt(r:Int×Int)(f':Fk)(b' w7:List Int):∀x:Lr,Ex Tryz.prog ((gS).wr (f',b',w7,())) (.loop (a9 f93 2)) (CI.wr x) (UG x):=
 cQ mixed ((aj D8 (aj D9 (aj UE (aj EE (aj SY aw)))))) (ws:=au9) (aJ.nil _) (fun x_=>YW r f' b' w7 x_.1 x_.2.1 x_.2.2.1 x_.2.2.2.1 x_.2.2.2.2.1 x_.2.2.2.2.2) (fun z e=>by cases e) eY (fun x_ h=>aqS x_.1 x_.2.1 x_.2.2.1 x_.2.2.2.1 x_.2.2.2.2.1 x_.2.2.2.2.2 h)
def bO(r:Int×Int)(f:Int×Int×Bool)(b:List Int)(er:List Int):List Int×Int:=if f.snd.snd=true then([],5)
 else if(0:Int)≤0∧(0:Int)≤1024*r.snd∧(0:Int)+1024*r.snd≤1024*r.snd then(b8 b (1024*r.fst+0) (1024*r.snd),0)else([],
 2)
def jH(r:Int×Int)(f:Int×Int×Bool)(b:List Int)(er:List Int):List (Int×Int×List Int)×Int:=bZ (List.take
 1024 (List.drop 1024 (bO r f b er).fst)).length (List.drop 16 (List.take 1024 (List.drop 1024 (bO r f b er).fst)))
def nV(r:Int×Int)(f:Int×Int×Bool)(b:List Int)(er:List Int):List (Int×Int×List Int)×Int:=bZ (List.take
 1024 (List.drop 0 (bO r f b er).fst)).length (List.drop 16 (List.take 1024 (List.drop 0 (bO r f b er).fst)))
def qI(r:Int×Int)(f:Int×Int×Bool)(b:List Int)(er:List Int):List Int:=List.take ((↑(List.take 1024 (List.drop
 1024 (bO r f b er).fst)).length:Int)-(16+(jH r f b er).snd)).toNat (List.drop (16+(jH r f b er).snd).toNat (List.take 1024
 (List.drop 1024 (bO r f b er).fst)))
def yu(r:Int×Int)(f:Int×Int×Bool)(b:List Int)(er:List Int):List Int:=List.take ((↑(List.take 1024 (List.drop 0
 (bO r f b er).fst)).length:Int)-(16+(nV r f b er).snd)).toNat (List.drop (16+(nV r f b er).snd).toNat (List.take 1024 (List.drop 0
 (bO r f b er).fst)))
abbrev Qa:Type:=Unit
abbrev Gj(x:Qa):LV:=LV.cG [VV.sc (SV.fO (Value.pointer none)),VV.sc (SV.int i64 (SI.lit 1))]
abbrev Gk(x:Qa):List (Nat×Ev.Item):= []
abbrev Qb:Type:=Int
abbrev Gl(x:Qb):LV:=LV.cG [VV.sc (SV.fO (Value.pointer none)),VV.sc (SV.int i64 (SI.sym x))]
abbrev Gm(x:Qb):List (Nat×Ev.Item):= []
abbrev Qc:Type:=((Int×Int)×Int×Int×Int×Bool×Int)×(List (Int×Int×List Int))
abbrev Gn(x:Qc):LV:=LV.cG [VV.sc (SV.ptr 3 0),VV.sc (SV.int i64 (SI.lit 0))]
abbrev Gp(x:Qc):List (Nat×Ev.Item):= [(3,aze.wr x.1),(4,Item.own 0 ((Ty.int i64).pair ((Ty.int
 i64).pair (Ty.int IntKind.u8).sl)) x.2)]
def CJ(r:Int×Int)(f:Int×Int×Bool)(b:List Int)(er:List Int):Tr (Qa⊕Qb⊕Qc):=(.ite (r.snd !=2)
 (.ret (.inl ())) (.need (tl r f b er) (.need (qc r 0 (1024*r.snd) f b er) (.ite ((bO r f b er).snd !=0) (.ret (.inr (.inl ((bO r f
 b er).snd)))) (.need ((0:Int)≤0∧(0:Int)≤1024∧1024≤(↑(bO r f b er).fst.length:Int)) (.need (qG (List.take 1024 (List.drop 0
 (bO r f b er).fst))) (.ite (decide (0<o7 (List.take 1024 (List.drop 0 (bO r f b er).fst)))) (.need ((0:Int)≤1024∧(1024:Int)≤2048∧
 2048≤(↑(bO r f b er).fst.length:Int)) (.need (qG (List.take 1024 (List.drop 1024 (bO r f b er).fst))) (.ite (decide (o7 (List.take
 1024 (List.drop 0 (bO r f b er).fst))<o7 (List.take 1024 (List.drop 1024 (bO r f b er).fst)))) (.need ((0:Int)≤1024∧(1024:Int)≤
 2048∧2048≤(↑(bO r f b er).fst.length:Int)) (.need (qH (List.take 1024 (List.drop 1024 (bO r f b er).fst)) f b er (r,o7 (List.take
 1024 (List.drop 1024 (bO r f b er).fst)),1,16,false,0) []) (.need ((0:Int)≤16+(jH r f b er).snd∧16+(jH r f b er).snd≤
 (↑(List.take 1024 (List.drop 1024 (bO r f b er).fst)).length:Int)∧(↑(List.take 1024 (List.drop 1024 (bO r f b er).fst)).length:Int)≤
 (↑(List.take 1024 (List.drop 1024 (bO r f b er).fst)).length:Int)) (.need (qd (qI r f b er)) (.ret (.inr (.inr ((r,o7 (List.take 1024
 (List.drop 1024 (bO r f b er).fst)),1,16+(jH r f b er).snd,!c7 (qI r f b er),0),[]++(jH r f b er).fst)))))))) (.need ((0
 :Int)≤0∧(0:Int)≤1024∧1024≤(↑(bO r f b er).fst.length:Int)) (.need (qH (List.take 1024 (List.drop 0 (bO r f b er).fst)) f b
 er (r,o7 (List.take 1024 (List.drop 0 (bO r f b er).fst)),0,16,false,0) []) (.need ((0:Int)≤16+(nV r f b er).snd∧16+(nV r f
 b er).snd≤(↑(List.take 1024 (List.drop 0 (bO r f b er).fst)).length:Int)∧(↑(List.take 1024 (List.drop 0 (bO r f b er).fst)).length:Int)
 ≤(↑(List.take 1024 (List.drop 0 (bO r f b er).fst)).length:Int)) (.need (qd (yu r f b er)) (.ret (.inr (.inr ((r,o7 (List.take 1024
 (List.drop 0 (bO r f b er).fst)),0,16+(nV r f b er).snd,!c7 (yu r f b er),0),[]++(nV r f b er).fst))))))))))) (.need ((0
 :Int)≤1024∧(1024:Int)≤2048∧2048≤(↑(bO r f b er).fst.length:Int)) (.need (qG (List.take 1024 (List.drop 1024 (bO r f b
 er).fst))) (.ite (decide (0<o7 (List.take 1024 (List.drop 1024 (bO r f b er).fst)))) (.need ((0:Int)≤1024∧(1024:Int)≤2048∧2048≤
 (↑(bO r f b er).fst.length:Int)) (.need (qH (List.take 1024 (List.drop 1024 (bO r f b er).fst)) f b er (r,o7 (List.take 1024
 (List.drop 1024 (bO r f b er).fst)),1,16,false,0) []) (.need ((0:Int)≤16+(jH r f b er).snd∧16+(jH r f b er).snd≤
 (↑(List.take 1024 (List.drop 1024 (bO r f b er).fst)).length:Int)∧(↑(List.take 1024 (List.drop 1024 (bO r f b er).fst)).length:Int)≤
 (↑(List.take 1024 (List.drop 1024 (bO r f b er).fst)).length:Int)) (.need (qd (qI r f b er)) (.ret (.inr (.inr ((r,o7 (List.take 1024
 (List.drop 1024 (bO r f b er).fst)),1,16+(jH r f b er).snd,!c7 (qI r f b er),0),[]++(jH r f b er).fst)))))))) (.ret (.inr
 (.inr ((r,0,(-1),0,false,0),[]))))))))))))))
theorem YX(r:Int×Int)(f:Fk)(b er:List Int):aN Tryz.prog [(51,So),(28,Sq),(129,akq),(130,SW),(131,aeL)] [(2,cg CI ((gS).wr (f,b,er,())) UF (UG))] f93 ((G7).wr (r,())) ((gS).wr (f,b,er,())) [.auto,.aE,.bH 3 [.al,.sym,.sym,.al,.sym,.sym,.sym,.sym,.sym],.dw 3 3 dK]=(CJ r f b er).end (Sum.elim Gj (Sum.elim Gl Gn)) (Sum.elim Gk (Sum.elim Gm Gp)) ((gS).wr (f,b,er,())):=by kernel_rfl
theorem aku(r:Int×Int)(f:Fk)(b er:List Int):aJ Tryz.prog ((gS).wr (f,b,er,())) [(2,cg CI ((gS).wr (f,b,er,())) UF (UG))] (aD f93):=(aJ.bW (jc (by kernel_rfl) (ck (hp:=(gS).wr (f,b,er,())) (akt r f b er)) jh))
abbrev iS(r:Int×Int)(f:Fk)(b er:List Int):Prop:=jZ b er∧ax b∧xl r er
def avb:ao:=ao.cH [] (G7) (gS) fun x_ y_=>.ite ((fun(r:Int×Int) (f:Fk) (b er:List Int)=>decide (r.2≠2)) x_.1 y_.1 y_.2.1 y_.2.2.1) (.leaf (some ((fun(r:Int×Int) (f:Fk) (b er:List Int)=>iS r f b er) x_.1 y_.1 y_.2.1 y_.2.2.1)) (Gj ((fun(r:Int×Int) (f:Fk) (b er:List Int)=>()) x_.1 y_.1 y_.2.1 y_.2.2.1)) (Gk ((fun(r:Int×Int) (f:Fk) (b er:List Int)=>()) x_.1 y_.1 y_.2.1 y_.2.2.1))) (.ite ((fun(r:Int×Int) (f:Fk) (b er:List Int)=>f.2.2) x_.1 y_.1 y_.2.1 y_.2.2.1) (.leaf (some ((fun(r:Int×Int) (f:Fk) (b er:List Int)=>iS r f b er) x_.1 y_.1 y_.2.1 y_.2.2.1)) (Gl ((fun(r:Int×Int) (f:Fk) (b er:List Int)=>5) x_.1 y_.1 y_.2.1 y_.2.2.1)) (Gm ((fun(r:Int×Int) (f:Fk) (b er:List Int)=>5) x_.1 y_.1 y_.2.1 y_.2.2.1))) (.leaf (some ((fun(r:Int×Int) (f:Fk) (b er:List Int)=>iS r f b er) x_.1 y_.1 y_.2.1 y_.2.2.1)) (Gn ((fun(r:Int×Int) (f:Fk) (b er:List Int)=>bn b r) x_.1 y_.1 y_.2.1 y_.2.2.1)) (Gp ((fun(r:Int×Int) (f:Fk) (b er:List Int)=>bn b r) x_.1 y_.1 y_.2.1 y_.2.2.1))))
theorem Gq(r:Int×Int)(f:Fk)(b er:List Int)(h_:iS r f b er):((decide (r.2≠2))=true→(CJ r f b er).Is (.inl (())))∧((decide (r.2≠2))=false→(f.2.2)=true→(CJ r f b er).Is (.inr (.inl (5))))∧((decide (r.2≠2))=false→(f.2.2)=false→(CJ r f b er).Is (.inr (.inr (bn b r)))):=by
 obtain⟨h1,h2,h3⟩:=h_;have hs:tl r f b er:=⟨by omega,by omega⟩;have hr:qc r 0 (1024*r.2) f b er:=⟨h1,h3⟩;simp only[CJ,ai,aG,ay,ak];refine⟨fun c=>⟨fun e=>absurd e (by simpa using c),fun _=>trivial⟩,fun c c2=>?_,fun c c2=>?_⟩
 all_goals have c':r.2=2:=by simpa using c
 all_goals refine⟨fun _=>⟨hs,hr,?_⟩,fun h=>absurd c' h⟩
 ·have e7:bO r f b er=([],5):=by unfold bO;rw[if_pos c2]
  rw[e7];exact⟨fun h=>by simp at h,fun _=>rfl⟩
 ·have e7:bO r f b er=(b8 b (1024*r.1) 2048,0):=by
   unfold bO;rw[if_neg (by rw[c2];decide),if_pos (by omega),c',Int.add_zero];rfl
  have h4:1024*r.1+2048≤b.length:=by omega
  have t0:List.take 1024 (List.drop 0 (bO r f b er).1)=dD b r 0:=by
   rw[e7];show List.take 1024 (List.take 2048 _)=_;rw[List.take_take];show List.take 1024 (List.drop (1024*r.1).toNat b)=List.take 1024 (List.drop (1024*r.1+1024*0).toNat b)
   congr 2;omega
  have t1:List.take 1024 (List.drop 1024 (bO r f b er).1)=dD b r 1:=by
   rw[e7];show List.take 1024 (List.drop 1024 (List.take 2048 (List.drop (1024*r.1).toNat b)))=_;rw[List.drop_take,List.take_take,List.drop_drop];show List.take 1024 (List.drop _ b)=List.take 1024 (List.drop (1024*r.1+1024*1).toNat b)
   congr 2;omega
  have l7:((bO r f b er).1.length:Int)=2048:=by rw[e7];exact iF ⟨by omega,by omega,by omega⟩
  have z7:(bO r f b er).2=0:=by rw[e7]
  have e8:jH r f b er=bZ (dD b r 1).length ((dD b r 1).drop 16):=by unfold jH;rw[t1]
  have e9:nV r f b er=bZ (dD b r 0).length ((dD b r 0).drop 16):=by unfold nV;rw[t0]
  have l0:(dD b r 0).length=1024:=by have:=iF (b:=b) (p:=1024*r.1+1024*0) (m:=1024) (by omega);show(b8 _ _ _).length=_;omega
  have l1:(dD b r 1).length=1024:=by have:=iF (b:=b) (p:=1024*r.1+1024*1) (m:=1024) (by omega);show(b8 _ _ _).length=_;omega
  have Le:qI r f b er=(dD b r 1).drop (16+(jH r f b er).2).toNat:=by
   unfold qI;rw[t1];exact List.take_of_length_le (by rw[List.length_drop];omega)
  have e11:yu r f b er=(dD b r 0).drop (16+(nV r f b er).2).toNat:=by
   unfold yu;rw[t0];exact List.take_of_length_le (by rw[List.length_drop];omega)
  have a0:=ny h2 (1024*r.1+1024*0) 1024;have a1:=ny h2 (1024*r.1+1024*1) 1024;rw[t0,t1,Le,e11,e8,e9,l7,z7];unfold bn xq
  change ax (dD b r 0)at a0
  change ax (dD b r 1)at a1
  clear e7 e8 e9 Le e11 l7 z7 t0 t1 hs hr
  have q:∀s:List Int,ax s→s.length=1024→qG s∧(∀e c,qH s f b er (r,e,c,16,false,0) [])∧(0≤16+(bZ s.length (s.drop 16)).2∧16+(bZ s.length (s.drop 16)).2≤(s.length:Int)∧(s.length:Int)≤(s.length:Int))∧qd (s.drop (16+(bZ s.length (s.drop 16)).2).toNat):=fun s ha hl=>by
   have hp:=qg s.length (s.drop 16);rw[List.length_drop]at hp;exact⟨⟨ha,by omega⟩,fun e c=>⟨ha,by omega,by simp only;omega,by simp only;omega,by simp⟩,⟨by omega,by omega,by omega⟩,by show(_:Nat)<_;rw[List.length_drop];omega⟩
  obtain⟨q1,q2,q3,q4⟩:=q (dD b r 0) a0 l0;obtain⟨p1,p2,p3,p4⟩:=q (dD b r 1) a1 l1;refine⟨fun _=>⟨by omega,q1,fun k0=>⟨by omega,p1,fun k1=>⟨by omega,p2 _ _,p3,p4,?_⟩,fun k1=>⟨by omega,q2 _ _,q3,q4,?_⟩⟩,fun k0=>⟨by omega,p1,fun k1=>⟨by omega,p2 _ _,p3,p4,?_⟩,fun k1=>?_⟩⟩,fun h=>absurd rfl h⟩
  ·simp only[if_pos k0,if_pos k1];rw[if_neg (by decide)];rfl
  ·simp only[if_pos k0,if_neg k1];rw[if_neg (by decide)];rfl
  ·simp only[if_neg k0,if_pos k1];rw[if_neg (by decide)];rfl
  ·simp only[if_neg k0,if_neg k1];rfl
theorem aqT:avb.Ok Tryz.prog 93:=by
 refine zx (tys:= []) (A:=G7) (H:=gS) (LT:=fun x_ y_=>(fun(r:Int×Int) (f:Fk) (b er:List Int)=> [(2,cg CI ((gS).wr (f,b,er,())) UF (UG))]) x_.1 y_.1 y_.2.1 y_.2.2.1) (ks:= [.auto,.aE,.bH 3 [.al,.sym,.sym,.al,.sym,.sym,.sym,.sym,.sym],.dw 3 3 dK]) (V:=Sum.elim Gj (Sum.elim Gl Gn)) (D:=Sum.elim Gk (Sum.elim Gm Gp)) (T:=fun x_ y_=>CJ x_.1 y_.1 y_.2.1 y_.2.2.1) (out:=fun x_ y_=>.ite ((fun(r:Int×Int) (f:Fk) (b er:List Int)=>decide (r.2≠2)) x_.1 y_.1 y_.2.1 y_.2.2.1) (.leaf (some ((fun(r:Int×Int) (f:Fk) (b er:List Int)=>iS r f b er) x_.1 y_.1 y_.2.1 y_.2.2.1)) (Gj ((fun(r:Int×Int) (f:Fk) (b er:List Int)=>()) x_.1 y_.1 y_.2.1 y_.2.2.1)) (Gk ((fun(r:Int×Int) (f:Fk) (b er:List Int)=>()) x_.1 y_.1 y_.2.1 y_.2.2.1))) (.ite ((fun(r:Int×Int) (f:Fk) (b er:List Int)=>f.2.2) x_.1 y_.1 y_.2.1 y_.2.2.1) (.leaf (some ((fun(r:Int×Int) (f:Fk) (b er:List Int)=>iS r f b er) x_.1 y_.1 y_.2.1 y_.2.2.1)) (Gl ((fun(r:Int×Int) (f:Fk) (b er:List Int)=>5) x_.1 y_.1 y_.2.1 y_.2.2.1)) (Gm ((fun(r:Int×Int) (f:Fk) (b er:List Int)=>5) x_.1 y_.1 y_.2.1 y_.2.2.1))) (.leaf (some ((fun(r:Int×Int) (f:Fk) (b er:List Int)=>iS r f b er) x_.1 y_.1 y_.2.1 y_.2.2.1)) (Gn ((fun(r:Int×Int) (f:Fk) (b er:List Int)=>bn b r) x_.1 y_.1 y_.2.1 y_.2.2.1)) (Gp ((fun(r:Int×Int) (f:Fk) (b er:List Int)=>bn b r) x_.1 y_.1 y_.2.1 y_.2.2.1))))) mixed ((aj D8 (aj D9 (aj UE (aj EE (aj SY aw)))))) func93 (by kernel_rfl) call93 (fun x_ y_=>aku x_.1 y_.1 y_.2.1 y_.2.2.1) (fun x_ y_=>YX x_.1 y_.1 y_.2.1 y_.2.2.1) (fun x_ y_ Q_ h_=>?_)
 cases ou:(fun(r:Int×Int) (f:Fk) (b er:List Int)=>decide (r.2≠2)) x_.1 y_.1 y_.2.1 y_.2.2.1 with
 |true=>exact⟨_,(Gq x_.1 y_.1 y_.2.1 y_.2.2.1 (h_.1 ou).1).1 ou,(h_.1 ou).2⟩
 |false=>
  have yd:=h_.2 ou
  cases qh:(fun(r:Int×Int) (f:Fk) (b er:List Int)=>f.2.2) x_.1 y_.1 y_.2.1 y_.2.2.1 with
  |true=>exact⟨_,(Gq x_.1 y_.1 y_.2.1 y_.2.2.1 (yd.1 qh).1).2.1 ou qh,(yd.1 qh).2⟩
  |false=>exact⟨_,(Gq x_.1 y_.1 y_.2.1 y_.2.2.1 (yd.2 qh).1).2.2 ou qh,(yd.2 qh).2⟩
end Go.Proofs.YtcbjpiangpjbgaaGreat
end
noncomputable section
namespace Go.Proofs.YtcbjpiangpjbgaaGreat
open Go Go.Ev BJ Go.Proofs.Tryz
open Go.IntKind (i64 signed u32 u64 wrap wrap_u32)
set_option maxRecDepth 1000000
end Go.Proofs.YtcbjpiangpjbgaaGreat
end
