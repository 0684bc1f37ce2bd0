/- What the laws lean on, part 8: a reader of code, plain facts, and what each function gives; no conditions. -/
import Derived.WalkKit
import Derived.Lib.Walk
import Derived.Lib.SliceRun
import Derived.Lib.AppendZerosOnto
import Derived.Test.YtnbkagglkajbkaaGreatB7
set_option linter.unusedVariables false
set_option linter.unusedSimpArgs false
noncomputable section
namespace Go.Proofs.YtnbkagglkajbkaaGreat
open Go Go.Ev Go.Proofs.Tryz
open Go.IntKind (i64 signed u16 u64 wrap)
set_option maxRecDepth 1000000
abbrev wI:Type:=Int×Int×(List Int)
abbrev Au:aW St wI:=(bD (jk 3 (ak (ah (aP (0) (0))) (jk 12 (ae (ah (ay i64)) (ae (ah (ay
 i64)) (jk 10 ag)))))) (ak (iF (332) ((ak (tJ (1) (0)) ag))) (ae (eG (0) (Ty.int u16)) ag))).nH (fun y=>(y.1.1,
 y.1.2.1,y.2.1)) (fun x=>((x.1,(x.2.1,())),(x.2.2,()))) (fun _=>rfl)
abbrev Nr:List Wk:= [.fr (dK 28 [(3,.an),(16,.an),(17,.an)]),.syms,.auto,.aN]
abbrev ZJ:Exit→List Wk:=Di Nr 0 [.fr (dK 28 [(3,.an)]),.syms,.auto,.aN] [.fr (dK 28 [(2,.an)]),.syms,.auto,.aN]
abbrev Ns:Type:=List Int
abbrev ZK(x:Ns):Exit×St:=(Exit.exit 0,⟨(jK 3 (LV.one (VV.sc (SV.ptr 0 0))::(jK 24 []))),[some (Item.bm [SV.sl 1
 0] 332),some (Item.own 0 (Ty.int u16) x)]⟩)
def Av(n:Int)(i:Int)(p:List Int):Tr (wI⊕(Ns)):=(.ite (decide (i<n)) (.need (0≤i∧i<(↑p.length:Int))
 (.ret (.inl (n,i64.wrap (i+1),p.set i.toNat 1024)))) (.ret (.inr (p))))
theorem Nt(b:Int)(n:Int)(i:Int)(p:List Int):ee Tryz.prog [] [] f181 0 ((ag).wr (())) ZJ (Au.wr (n,i,p))=(Av n i p).res Au.wr ZK:=by kernel_rfl
abbrev Aw(n:Int)(i:Int)(p:List Int):Prop:=i=0∧p=List.replicate p.length 0∧p.length<1000000∧n=p.length
abbrev Nu(n:Int)(i:Int)(p:List Int):Ns:=List.replicate p.length 1024
abbrev Nv:wI→aZ:=hY (fun x_=>Aw x_.1 x_.2.1 x_.2.2) (fun x_=>Nu x_.1 x_.2.1 x_.2.2) ZK
theorem ZL(n:Int)(i:Int)(p:List Int)(h_:Aw n i p):dO (fun x_:wI=>Av x_.1 x_.2.1 x_.2.2) (n,i,p) (Nu n i p):=by
 delta Nu;obtain⟨rfl,h1,h2,rfl⟩:=h_;generalize hm:p.length=m at*;subst h1;have hl:∀k,k≤m→(List.replicate k (1024:Int)++List.replicate (m-k) 0).length=m:=fun k hk=>by simp;omega
 have key:=dO.iter (L:=fun x_:wI=>Av x_.1 x_.2.1 x_.2.2) (z:=List.replicate m 1024) (fun k=>((m:Int),(k:Int),List.replicate k 1024++List.replicate (m-k) 0)) m (fun k hk=>?_) ?_
 ·exact key
 ·simp only[Av,bl,ao,aq,hl k (by omega)];refine⟨fun _=>⟨by omega,?_⟩,fun h=>by omega⟩;rw[ax (by omega) (by omega),Int.toNat_natCast,List.set_append_right _ _ (by simp),List.length_replicate,Nat.sub_self,show m-k=(m-(k+1))+1 from by omega,List.replicate_succ,List.set_cons_zero,List.replicate_succ' (n:=k),List.append_assoc];rfl
 ·simp only[Av,bl,ao,aq,hl m (by omega),Nat.sub_self,List.replicate_zero,List.append_nil];exact⟨fun h=>by omega,fun _=>trivial⟩
theorem U9(b:Int):∀x:wI,Ex Tryz.prog ((ag).wr (())) (.loop (aV f181 0)) (Au.wr x) (Nv x):=
 du mixed aE (ws:=ZJ) (aO.nil _) (fun x_=>Nt b x_.1 x_.2.1 x_.2.2) (fun z e=>by cases e) iH (fun x_ h=>ZL x_.1 x_.2.1 x_.2.2 h)
def ca(k:Nat):List Int:=List.replicate (2 ^ k) 1024
def mi(b:Int):Int:=if 1<if 8<b then 8 else b then if 8<b then 8 else b else 1
abbrev RT:Type:=List Int
abbrev akB(x:RT):LV:=LV.one (VV.sc (SV.ptr 0 0))
abbrev akC(x:RT):List (Nat×Ev.Item):= [(0,Item.bm [SV.sl 1 0] 332),(1,Item.own 0 (Ty.int u16) x)]
def ZM(b:Int):Tr (RT):=(.need (0≤mi b) (.need (shl i64 1 (mi b)=shl i64 1 (mi b)∧0≤shl
 i64 1 (mi b)∧2*shl i64 1 (mi b)≤70368744177664∧shl i64 1 (mi b)≤70368744177664) (.need (Aw
 (↑(List.replicate (shl i64 1 (mi b)).toNat (0:Int)).length:Int) 0 (List.replicate (shl i64 1 (mi b)).toNat (0:Int)))
 (.ret (List.replicate (List.replicate (shl i64 1 (mi b)).toNat (0:Int)).length (1024:Int))))))
theorem Va(b:Int):aT Tryz.prog [] [(0,cV Au ((ag).wr (())) Nr (Nv))] f181 ((inA).wr (b,())) ((ag).wr (())) [.fr [.sym],.syms,.auto,.aN]=(ZM b).end akB akC ((ag).wr (())):=by kernel_rfl
theorem ZN(b:Int):aO Tryz.prog ((ag).wr (())) [(0,cV Au ((ag).wr (())) Nr (Nv))] (aG f181):=(aO.cU (nJ (by kernel_rfl) (cJ (hp:=(ag).wr (())) (U9 b)) oI))
abbrev uf(b:Int):Prop:=1≤b∧b≤8
abbrev ZO(b:Int):RT:=ca b.toNat
def akD:ar:=dm [] (inA) (ag) (fun x_ y_=>uf x_.1) (fun x_ y_=>ZO x_.1) akB akC
theorem agT(b:Int)(h_:uf b):(ZM b).Is (ZO b):=by
 delta ZO;obtain⟨h1,h2⟩:=h_
 have e0:(if 1<if 8<b then 8 else b then if 8<b then 8 else b else 1)=b:=by
  rw[if_neg (by omega:¬ 8<b)];split<;>omega
 obtain⟨k,rfl⟩:∃k:Nat,b=k:=⟨b.toNat,by omega⟩;have h3:(2:Nat) ^ k≤256:=Nat.le_trans (Nat.pow_le_pow_right (by omega) (show k≤8 by omega)) (by decide);have e3:shl .i64 1 (k:Int)=((2 ^ k:Nat):Int):=nN k (by omega);simp only[ZM,mi,ao,aq,e0,e3,ca,Int.toNat_natCast,List.length_replicate];generalize (2:Nat) ^ k=m at*;exact⟨by omega,⟨trivial,by omega,by omega,by omega⟩,⟨rfl,by rw[List.length_replicate],by rw[List.length_replicate];omega,by rw[List.length_replicate]⟩,trivial⟩
theorem agU:akD.Ok Tryz.prog 181:=
 bY mixed aE func181 (by kernel_rfl) call181 (fun x_ y_=>ZN x_.1) (fun x_ y_=>Va x_.1) (fun x_ y_ h=>agT x_.1 h)
abbrev jT(i:Nat):aW Ev.Item Unit:=wz 332 (ak (tJ i 0) ag)
abbrev yu:Type:=(List Int)×Int×(List Int)×(List Int)×(List Int)
abbrev RU(x:yu):LV:=LV.one (VV.agg [SV.arr (Ty.int i64) 2 x.1,SV.int i64 (SI.sym x.2.1),SV.ptr 0 0,
 SV.ptr 2 0,SV.ptr 4 0])
abbrev RV(x:yu):List (Nat×Ev.Item):= [(0,Item.bm [SV.sl 1 0] 332),(1,Item.own 0 (Ty.int u16) x.2.2.1),(2,
 Item.bm [SV.sl 3 0] 332),(3,Item.own 0 (Ty.int u16) x.2.2.2.1),(4,Item.bm [SV.sl 5 0] 332),(5,Item.own 0 (Ty.int u16)
 x.2.2.2.2)]
def RW:Tr (yu):=(.need (uf 8) (.need (uf 8) (.need (uf 6) (.ret ([1024,1024],0,ca 8,ca 8,ca
 6)))))
theorem Jj:aT Tryz.prog [(181,akD)] [] f126 ((ag).wr (())) ((ag).wr (())) [.fr [.sym],.syms,.auto,.aN,.mT 0 0 2 .i64]=(RW).end RU RV ((ag).wr (())):=by kernel_rfl
theorem Nw:aO Tryz.prog ((ag).wr (())) [] (aG f126):=(aO.nil _)
abbrev qT:Prop:=True
abbrev Fs:yu:=([1024,1024],0,ca 8,ca 8,ca 6)
def yw:ar:=dm [] (ag) (ag) (fun _ _=>qT) (fun _ _=>Fs) RU RV
theorem Vb(h_:qT):(RW).Is (Fs):=by
 delta Fs;exact⟨⟨by decide,by decide⟩,⟨by decide,by decide⟩,⟨by decide,by decide⟩,rfl⟩
theorem wJ:yw.Ok Tryz.prog 126:=
 bY mixed ((aj agU aE)) func126 (by kernel_rfl) call126 (fun x_ y_=>Nw) (fun x_ y_=>Jj) (fun x_ y_ h=>Vb h)
abbrev jSt(a b c:Nat):aW Ev.Item (List Int×Int):=(wz 196 (ae (se (.int .i64) 2) (ae (ay .i64) (ak (aP a 0) (ak (aP b 0) (ak (aP c 0) ag)))))).nH (fun x=>(x.1,x.2.1)) (fun y=>(y.1,y.2,())) (fun _=>rfl)
abbrev auQ:aW Ev.Item Int:=(wz 249 (ak (tJ 8 0) (ae (ay .u64) ag))).nH (fun x=>x.1) (fun w=>(w,())) (fun _=>rfl)
abbrev Nx:=jSt 1 3 5
abbrev jT2:=jT 2
abbrev jT4:=jT 4
abbrev jT6:=jT 6
abbrev Ft:aW Hp ((List Int×Int)×List Int×List Int×List Int×Int×List Int×Unit):=
 ae (dF (jSt 1 3 5)) (ak (dF (jT 2)) (ae (eG 0 (.int .u16)) (ak (dF (jT 4)) (ae (eG 0 (.int .u16)) (ak (dF (jT 6)) (ae (eG 0 (.int .u16)) (ae (dF auQ) (ae (eG 0 u8) ag))))))))
abbrev Ax:Type:=Int×Int×(List Int×Int)×(List Int)×(List Int)×(List Int)×Int×(List Int)
abbrev Ay:aW St Ax:=(bD (jk 1 (ak (ah (aP (7) (0))) (jk 5 (ae (ah (ay i64)) (ae (ah (ay
 i64)) (jk 68 ag)))))) (ae (dF Nx) (ak (iF (332) ((ak (tJ (2) (1)) ag))) (ae (eG (1) (Ty.int u16)) (ak
 (iF (332) ((ak (tJ (4) (1)) ag))) (ae (eG (1) (Ty.int u16)) (ak (iF (332) ((ak (tJ (6) (1)) ag))) (ae (eG (1)
 (Ty.int u16)) (ae (iF (249) ((ak (tJ (8) (1)) (ae (ay u64) ag)))) (ae (eG (1) (Ty.int IntKind.u8))
 ag)))))))))).nH (fun y=>(y.1.1,y.1.2.1,y.2.1,y.2.2.1,y.2.2.2.1,y.2.2.2.2.1,y.2.2.2.2.2.1.1,y.2.2.2.2.2.2.1)) (fun x=>((x.1,(x.2.1,())),
 (x.2.2.1,(x.2.2.2.1,(x.2.2.2.2.1,(x.2.2.2.2.2.1,((x.2.2.2.2.2.2.1,()),(x.2.2.2.2.2.2.2,())))))))) (fun _=>rfl)
abbrev Ny:List Wk:= [.one 2,.one 4,.one 6,.one 8,.fr (dK 77 [(1,.an),(7,.an),(8,.an)]),.syms,.auto,.aN]
abbrev ZP:Exit→List Wk:=Di Ny 0 [.one 2,.one 4,.one 6,.one 8,.fr (dK 77 []),.syms,.auto,.aN] [.one 2,.one 4,.one 6,.one 8,
 .fr (dK 77 []),.syms,.auto,.aN]
abbrev Nz:Type:=(List Int×Int)×(List Int)×(List Int)×(List Int)×Int×(List Int)
abbrev ZQ(x:Nz):Exit×St:=(Exit.exit 0,⟨(jK 77 []),[some (Nx.wr x.1),some (Item.bm [SV.sl 2 1] 332),some
 (Item.own 1 (Ty.int u16) x.2.1),some (Item.bm [SV.sl 4 1] 332),some (Item.own 1 (Ty.int u16) x.2.2.1),some (Item.bm [SV.sl 6 1]
 332),some (Item.own 1 (Ty.int u16) x.2.2.2.1),some (Item.bm [SV.sl 8 1,SV.int u64 (SI.sym x.2.2.2.2.1)] 249),some (Item.own 1
 (Ty.int IntKind.u8) x.2.2.2.2.2)]⟩)
def Fu(d:Int)(i:Int)(s':List Int×Int)(q1:List Int)(q2:List Int)(q3:List Int)(w':Int)(l':List Int):Tr
 (Ax⊕(Nz)):=(.ite (decide (0≤i)) (.need (0≤i) (.need (Ah (bg i64 (shr i64 d i) 1) w' l') (.ret (.inl (d,
 i64.wrap (i-1),s',q1,q2,q3,(cP (bg i64 (shr i64 d i) 1) w' l').fst,(cP (bg i64 (shr i64
 d i) 1) w' l').snd))))) (.ret (.inr (s',q1,q2,q3,w',l'))))
theorem NA(t:dc)(s:List Int×Int)(p1:List Int)(p2:List Int)(p3:List Int)(w:Int)(l:List Int)(d:Int)(i:Int)(s':List Int×Int)(q1:List Int)(q2:List Int)(q3:List Int)(w':Int)(l':List Int):ee Tryz.prog [(182,IW),(184,M8),(183,Ni)] [] f127 0 ((Ft).wr (s,p1,p2,p3,w,l,())) ZP (Ay.wr (d,i,s',q1,q2,q3,w',l'))=(Fu d i s' q1 q2 q3 w' l').res Ay.wr ZQ:=by kernel_rfl
def cD:Nat→Int→Int→List Int→Int×List Int
 |0,_,w,l=>(w,l)
 |k+1,d,w,l=>cD k d (cP (d/2 ^ k%2) w l).1 (cP (d/2 ^ k%2) w l).2
abbrev Az(d:Int)(i:Int)(s':List Int×Int)(q1:List Int)(q2:List Int)(q3:List Int)(w':Int)(l':List Int):Prop:=tU w' l'∧0≤d∧ -1≤i∧i≤5∧l'.length<1099511000000
abbrev NB(d:Int)(i:Int)(s':List Int×Int)(q1:List Int)(q2:List Int)(q3:List Int)(w':Int)(l':List Int):Nz:=(s',q1,q2,q3,(cD (i+1).toNat d w' l').1,(cD (i+1).toNat d w' l').2)
abbrev NC:Ax→aZ:=hY (fun x_=>Az x_.1 x_.2.1 x_.2.2.1 x_.2.2.2.1 x_.2.2.2.2.1 x_.2.2.2.2.2.1 x_.2.2.2.2.2.2.1 x_.2.2.2.2.2.2.2) (fun x_=>NB x_.1 x_.2.1 x_.2.2.1 x_.2.2.2.1 x_.2.2.2.2.1 x_.2.2.2.2.2.1 x_.2.2.2.2.2.2.1 x_.2.2.2.2.2.2.2) ZQ
theorem ZR(d:Int)(i:Int)(s':List Int×Int)(q1:List Int)(q2:List Int)(q3:List Int)(w':Int)(l':List Int)(h_:Az d i s' q1 q2 q3 w' l'):dO (fun x_:Ax=>Fu x_.1 x_.2.1 x_.2.2.1 x_.2.2.2.1 x_.2.2.2.2.1 x_.2.2.2.2.2.1 x_.2.2.2.2.2.2.1 x_.2.2.2.2.2.2.2) (d,i,s',q1,q2,q3,w',l') (NB d i s' q1 q2 q3 w' l'):=by
 delta NB;obtain⟨h1,h2,h3,h4,h5⟩:=h_;obtain⟨k,hk⟩:∃k:Nat,i=(k:Int)-1:=⟨(i+1).toNat,by omega⟩;subst hk;clear h3;rw[show((k:Int)-1+1).toNat=k from by omega];have h6:l'.length+k<1099511000010:=by omega
 clear h5
 induction k generalizing w' l' with
 |zero=>
  refine .stop ?_;simp only[Fu,bl,ao,aq,cD];exact⟨fun h=>by omega,fun _=>trivial⟩
 |succ k ih=>
  have hb:bg .i64 (shr .i64 d k) 1=d/2 ^ k%2:=Zx h2 k (by omega);have e2:(((k+1:Nat):Int)-1)=(k:Int):=by omega
  have hl:=mW (d/2 ^ k%2) w' l';have Dj:=ih (cP (d/2 ^ k%2) w' l').1 (cP (d/2 ^ k%2) w' l').2 (wB h1 (by omega)) (by omega) (by omega);rw[e2];refine .go ?_ Dj;simp only[Fu,bl,ao,aq,hb];refine⟨fun _=>⟨by omega,h1,?_⟩,fun h=>by omega⟩;rw[ax (by omega) (by omega)]
theorem Vc(t:dc)(s:List Int×Int)(p1:List Int)(p2:List Int)(p3:List Int)(w:Int)(l:List Int):∀x:Ax,Ex Tryz.prog ((Ft).wr (s,p1,p2,p3,w,l,())) (.loop (aV f127 0)) (Ay.wr x) (NC x):=
 du mixed ((aj ym (aj IX (aj I3 aE)))) (ws:=ZP) (aO.nil _) (fun x_=>NA t s p1 p2 p3 w l x_.1 x_.2.1 x_.2.2.1 x_.2.2.2.1 x_.2.2.2.2.1 x_.2.2.2.2.2.1 x_.2.2.2.2.2.2.1 x_.2.2.2.2.2.2.2) (fun z e=>by cases e) iH (fun x_ h=>ZR x_.1 x_.2.1 x_.2.2.1 x_.2.2.2.1 x_.2.2.2.2.1 x_.2.2.2.2.2.1 x_.2.2.2.2.2.2.1 x_.2.2.2.2.2.2.2 h)
def gK(t:Int×Int×Int):Int:=if 1<t.fst then 1 else t.fst
def AA(t:Int×Int×Int)(s:List Int×Int):List Int:=s.fst.set (0+s.snd.toNat) (eH ((List.take 2 (List.drop 0
 s.fst)).getD s.snd.toNat 0) (gK t))
def AB(t:Int×Int×Int)(s:List Int×Int)(p1:List Int)(w:Int)(l:List Int):Int×List Int×List Int:=bC (lg
 p1) (i64.wrap t.snd.snd) 1 (bV ((List.take 2 (List.drop 0 s.fst)).getD s.snd.toNat 0) (gK t) w l).fst (bV ((List.take 2 (List.drop 0
 s.fst)).getD s.snd.toNat 0) (gK t) w l).snd p1
def mj(t:Int×Int×Int)(s:List Int×Int)(p2:List Int)(w:Int)(l:List Int):Int×List Int×List Int:=bC (lg
 p2) (i64.wrap (t.fst-2)) 1 (bV ((List.take 2 (List.drop 0 s.fst)).getD s.snd.toNat 0) (gK t) w l).fst (bV ((List.take 2 (List.drop
 0 s.fst)).getD s.snd.toNat 0) (gK t) w l).snd p2
def mm(t:Int×Int×Int)(s:List Int×Int)(p2:List Int)(p3:List Int)(w:Int)(l:List Int):Int×List Int×List
 Int:=bC (lg p3) (shr i64 (i64.wrap (t.snd.fst-1)) 6) 1 (mj t s p2 w l).fst (mj t s p2 w l).snd.fst p3
def Fv(t:Int×Int×Int)(s:List Int×Int)(p2:List Int)(p3:List Int)(w:Int)(l:List Int):Int×List Int:=
 cD 6 (i64.wrap (t.snd.fst-1)) (mm t s p2 p3 w l).fst (mm t s p2 p3 w l).snd.fst
abbrev RX:Type:=(List Int×Int)×(List Int)×(List Int)×(List Int)×Int×(List Int)
abbrev akE(x:RX):LV:=LV.cT []
abbrev akF(x:RX):List (Nat×Ev.Item):= [(0,Nx.wr x.1),(1,Item.bm [SV.sl 2 1] 332),(2,Item.own 1 (Ty.int
 u16) x.2.1),(3,Item.bm [SV.sl 4 1] 332),(4,Item.own 1 (Ty.int u16) x.2.2.1),(5,Item.bm [SV.sl 6 1] 332),(6,Item.own 1 (Ty.int
 u16) x.2.2.2.1),(7,Item.bm [SV.sl 8 1,SV.int u64 (SI.sym x.2.2.2.2.1)] 249),(8,Item.own 1 (Ty.int IntKind.u8) x.2.2.2.2.2)]
def ZS(t:Int×Int×Int)(s:List Int×Int)(p1:List Int)(p2:List Int)(p3:List Int)(w:Int)(l:List Int):Tr
 (RX):=(.need (0≤s.snd∧s.snd<2) (.need (yl ((List.take 2 (List.drop 0 s.fst)).getD s.snd.toNat 0) (gK t) w l) (.need (0≤s.snd∧
 s.snd<2) (.ite (gK t==0) (.need (pr (i64.wrap t.snd.snd) (bV ((List.take 2 (List.drop 0 s.fst)).getD s.snd.toNat 0) (gK t)
 w l).fst (bV ((List.take 2 (List.drop 0 s.fst)).getD s.snd.toNat 0) (gK t) w l).snd p1) (.ret ((AA t s,gK t),(AB t s p1 w
 l).snd.snd,p2,p3,(AB t s p1 w l).fst,(AB t s p1 w l).snd.fst))) (.need (pr (i64.wrap (t.fst-2)) (bV ((List.take 2
 (List.drop 0 s.fst)).getD s.snd.toNat 0) (gK t) w l).fst (bV ((List.take 2 (List.drop 0 s.fst)).getD s.snd.toNat 0) (gK t) w l).snd p2)
 (.need (pr (shr i64 (i64.wrap (t.snd.fst-1)) 6) (mj t s p2 w l).fst (mj t s p2 w l).snd.fst p3) (.need (Az
 (i64.wrap (t.snd.fst-1)) 5 (AA t s,gK t) p1 (mj t s p2 w l).snd.snd (mm t s p2 p3 w l).snd.snd (mm t s p2 p3 w l).fst
 (mm t s p2 p3 w l).snd.fst) (.ret ((AA t s,gK t),p1,(mj t s p2 w l).snd.snd,(mm t s p2 p3 w l).snd.snd,(Fv t s p2 p3 w
 l).fst,(Fv t s p2 p3 w l).snd)))))))))
theorem Ve(t:dc)(s:List Int×Int)(p1:List Int)(p2:List Int)(p3:List Int)(w:Int)(l:List Int):aT Tryz.prog [(182,IW),(184,M8),(183,Ni)] [(0,cV Ay ((Ft).wr (s,p1,p2,p3,w,l,())) Ny (NC))] f127 (((ak (ah (aP 0 0)) (ak (ah (aP 7 0)) (ae U1 ag)))).wr (t,())) ((Ft).wr (s,p1,p2,p3,w,l,())) [.one 2,.one 4,.one 6,.one 8,.fr [.sym],.syms,.auto,.aN]=(ZS t s p1 p2 p3 w l).end akE akF ((Ft).wr (s,p1,p2,p3,w,l,())):=by kernel_rfl
theorem ZT(t:dc)(s:List Int×Int)(p1:List Int)(p2:List Int)(p3:List Int)(w:Int)(l:List Int):aO Tryz.prog ((Ft).wr (s,p1,p2,p3,w,l,())) [(0,cV Ay ((Ft).wr (s,p1,p2,p3,w,l,())) Ny (NC))] (aG f127):=(aO.cU (nJ (by kernel_rfl) (cJ (hp:=(Ft).wr (s,p1,p2,p3,w,l,())) (Vc t s p1 p2 p3 w l)) oI))
def lC(t:dc)(s:List Int×Int)(p1 p2 p3:List Int)(w:Int)(l:List Int):(List Int×Int)×List Int×List Int×List Int×Int×List Int:=
 let c:=bV (s.1.getD s.2.toNat 0) (if t.1=0 then 0 else 1) w l
 let s':=(s.1.set s.2.toNat (eH (s.1.getD s.2.toNat 0) (if t.1=0 then 0 else 1)),(if t.1=0 then 0 else 1))
 if t.1=0 then
  let r:=bC (lg p1) t.2.2 1 c.1 c.2 p1
  (s',r.2.2,p2,p3,r.1,r.2.1)
 else
  let r:=bC (lg p2) (t.1-2) 1 c.1 c.2 p2
  let r2:=bC (lg p3) ((t.2.1-1)/64) 1 r.1 r.2.1 p3
  let h:=cD 6 (t.2.1-1) r2.1 r2.2.1
  (s',p1,r.2.2,r2.2.2,h.1,h.2)
theorem fG:∀ (k:Nat) (v node w:Int) (l p:List Int),tU w l→l.length+k<1099511627775→tU (bC k v node w l p).1 (bC k v node w l p).2.1∧(bC k v node w l p).2.1.length≤l.length+k
 |0,_,_,_,_,_,h,_=>⟨h,by simp[bC]⟩
 |k+1,v,node,w,l,p,h,hl=>by
  have h1:=gV (kf p node) (v/2 ^ k%2) w l;have h2:=mV (p:=kf p node) (b:=v/2 ^ k%2) h (by omega);have:=fG k v (2*node+v/2 ^ k%2) _ _ (dA p node (v/2 ^ k%2)) h2 (by omega);rw[bC];exact⟨this.1,by have:=this.2;omega⟩
theorem ug:∀ (k:Nat) (v node w:Int) (l p:List Int),UW p→UW (bC k v node w l p).2.2∧lg (bC k v node w l p).2.2=lg p
 |0,_,_,_,_,_,h=>⟨h,rfl⟩
 |k+1,v,node,w,l,p,h=>by
  have:=ug k v (2*node+v/2 ^ k%2) (bV (kf p node) (v/2 ^ k%2) w l).1 (bV (kf p node) (v/2 ^ k%2) w l).2 _ (I2 h node (v/2 ^ k%2));rw[qO]at this;exact this
theorem AD:∀ (k:Nat) (d w:Int) (l:List Int),tU w l→l.length+k<1099511627775→tU (cD k d w l).1 (cD k d w l).2∧(cD k d w l).2.length≤l.length+k
 |0,_,_,_,h,_=>⟨h,by simp[cD]⟩
 |k+1,d,w,l,h,hl=>by
  have h1:=mW (d/2 ^ k%2) w l;have:=AD k d _ _ (wB (b:=d/2 ^ k%2) h (by omega)) (by omega);rw[cD];exact⟨this.1,by have:=this.2;omega⟩
structure XY (s:List Int×Int) (p1 p2 p3:List Int):Prop where
 len:s.1.length=2
 bh:s.2=0∨s.2=1
 t1:UW p1
 l1:lg p1=8
 t2:UW p2
 l2:lg p2=8
 t3:UW p3
 l3:lg p3=6
def akG(t:dc):Prop:=(t.1=0∧0≤t.2.2∧t.2.2<256)∨(2≤t.1∧t.1≤257∧1≤t.2.1∧t.2.1≤4096)
abbrev Fw(t:dc)(s:List Int×Int)(p1:List Int)(p2:List Int)(p3:List Int)(w:Int)(l:List Int):Prop:=XY s p1 p2 p3∧tU w l∧akG t∧l.length<1099500000000
abbrev ZU(t:dc)(s:List Int×Int)(p1:List Int)(p2:List Int)(p3:List Int)(w:Int)(l:List Int):RX:=lC t s p1 p2 p3 w l
def ZV:ar:=dm [] ((ak (ah (aP 0 0)) (ak (ah (aP 7 0)) (ae U1 ag)))) (Ft) (fun x_ y_=>Fw x_.1 y_.1 y_.2.1 y_.2.2.1 y_.2.2.2.1 y_.2.2.2.2.1 y_.2.2.2.2.2.1) (fun x_ y_=>ZU x_.1 y_.1 y_.2.1 y_.2.2.1 y_.2.2.2.1 y_.2.2.2.2.1 y_.2.2.2.2.2.1) akE akF
theorem agV(t:dc)(s:List Int×Int)(p1:List Int)(p2:List Int)(p3:List Int)(w:Int)(l:List Int)(h_:Fw t s p1 p2 p3 w l):(ZS t s p1 p2 p3 w l).Is (ZU t s p1 p2 p3 w l):=by
 delta ZU;obtain⟨hs,hc,ht,hl⟩:=h_
 have e0:gK t=if t.1=0 then 0 else 1:=by
  unfold gK;rcases ht with⟨h,_⟩|⟨h,_⟩
  ·rw[if_pos h,if_neg (by omega),h]
  ·rw[if_neg (show ¬t.1=0 by omega),if_pos (by omega)]
 have e1:(List.take 2 (List.drop 0 s.1)).getD s.2.toNat 0=s.1.getD s.2.toNat 0:=by rw[List.drop_zero,List.take_of_length_le (by rw[hs.len];exact Nat.le_refl _)]
 have hb:0≤s.2∧s.2<2:=by have:=hs.bh;omega
 have h1:=mV (p:=s.1.getD s.2.toNat 0) (b:=if t.1=0 then 0 else 1) hc (by omega);have h2:=gV (s.1.getD s.2.toNat 0) (if t.1=0 then 0 else 1) w l
 have Ma:AA t s=s.1.set s.2.toNat (eH (s.1.getD s.2.toNat 0) (if t.1=0 then 0 else 1)):=by
  unfold AA;rw[e0,e1,Nat.zero_add]
 have p8:(2:Int) ^ 8=256:=by decide
 have p6:(2:Int) ^ 6=64:=by decide
 simp only[ZS,ao,aq,fT,e0,e1,Ma];refine⟨hb,hc,hb,fun e=>?_,fun e=>?_⟩
 ·have e:t.1=0:=Classical.byContradiction fun h=>by rw[if_neg h]at e;omega
  have ht:0≤t.2.2∧t.2.2<256:=by rcases ht with⟨_,h⟩|⟨h,_⟩<;>omega
  have e2:i64.wrap t.2.2=t.2.2:=ax (by omega) (by omega)
  have ea2:AB t s p1 w l=bC (lg p1) t.2.2 1 (bV (s.1.getD s.2.toNat 0) 0 w l).1 (bV (s.1.getD s.2.toNat 0) 0 w l).2 p1:=by
   unfold AB;rw[e0,e1,e2,if_pos e]
  simp only[lC,if_pos e]at h1 h2 ⊢;rw[e2,ea2];exact⟨⟨hs.t1,h1,ht.1,by rw[hs.l1,p8];exact ht.2,by rw[hs.l1];omega,by omega⟩,rfl⟩
 ·have e:¬t.1=0:=fun h=>by rw[if_pos h]at e;omega
  have ht:2≤t.1∧t.1≤257∧1≤t.2.1∧t.2.1≤4096:=by rcases ht with⟨h,_⟩|h<;>omega
  have e2:i64.wrap (t.1-2)=t.1-2:=ax (by omega) (by omega);have e3:i64.wrap (t.2.1-1)=t.2.1-1:=ax (by omega) (by omega);have e4:shr .i64 (t.2.1-1) 6=(t.2.1-1)/64:=ft .i64 _ 6 (by decide)
  have ea3:mj t s p2 w l=bC (lg p2) (t.1-2) 1 (bV (s.1.getD s.2.toNat 0) 1 w l).1 (bV (s.1.getD s.2.toNat 0) 1 w l).2 p2:=by
   unfold mj;rw[e0,e1,e2,if_neg e]
  have ea4:mm t s p2 p3 w l=bC (lg p3) ((t.2.1-1)/64) 1 (mj t s p2 w l).1 (mj t s p2 w l).2.1 p3:=by
   unfold mm;rw[e3,e4]
  have ea5:Fv t s p2 p3 w l=cD 6 (t.2.1-1) (mm t s p2 p3 w l).1 (mm t s p2 p3 w l).2.1:=by
   unfold Fv;rw[e3]
  simp only[lC,if_neg e]at h1 h2 ⊢;rw[e2,e3,e4];have h3:=fG (lg p2) (t.1-2) 1 _ _ p2 h1 (by rw[hs.l2];omega);rw[← ea3]at h3;have h4:=fG (lg p3) ((t.2.1-1)/64) 1 _ _ p3 h3.1 (by rw[hs.l2]at h3;rw[hs.l3];omega);rw[← ea4]at h4;have k3:=h3.2;have k4:=h4.2;rw[hs.l2]at k3;rw[hs.l3]at k4;refine⟨⟨hs.t2,h1,by omega,by rw[hs.l2,p8];omega,by rw[hs.l2];omega,by omega⟩,⟨hs.t3,h3.1,by omega,by rw[hs.l3,p6];omega,by rw[hs.l3];omega,by omega⟩,⟨h4.1,by omega,by omega,by omega,by omega⟩,?_⟩;rw[ea5,ea4,ea3]
theorem RY:ZV.Ok Tryz.prog 127:=
 bY mixed ((aj ym (aj IX (aj I3 aE)))) func127 (by kernel_rfl) call127 (fun x_ y_=>ZT x_.1 y_.1 y_.2.1 y_.2.2.1 y_.2.2.2.1 y_.2.2.2.2.1 y_.2.2.2.2.2.1) (fun x_ y_=>Ve x_.1 y_.1 y_.2.1 y_.2.2.1 y_.2.2.2.1 y_.2.2.2.2.1 y_.2.2.2.2.2.1) (fun x_ y_ h=>agV x_.1 y_.1 y_.2.1 y_.2.2.1 y_.2.2.2.1 y_.2.2.2.2.1 y_.2.2.2.2.2.1 h)
theorem AE{t:dc}{s:List Int×Int}{p1 p2 p3:List Int}{w:Int}{l:List Int}(hs:XY s p1 p2 p3)(hc:tU w l)(hl:l.length<1099500000000):
  let r:=lC t s p1 p2 p3 w l
  XY r.1 r.2.1 r.2.2.1 r.2.2.2.1∧tU r.2.2.2.2.1 r.2.2.2.2.2∧r.2.2.2.2.2.length≤l.length+21:=by
 have h1:=mV (p:=s.1.getD s.2.toNat 0) (b:=if t.1=0 then 0 else 1) hc (by omega);have h2:=gV (s.1.getD s.2.toNat 0) (if t.1=0 then 0 else 1) w l;unfold lC
 split
 ·rename_i e;simp only[if_pos e]at h1 h2 ⊢;obtain⟨h3,h4⟩:=fG (lg p1) t.2.2 1 _ _ p1 h1 (by rw[hs.l1];omega);obtain⟨h5,h6⟩:=ug (lg p1) t.2.2 1 (bV (s.1.getD s.2.toNat 0) 0 w l).1 (bV (s.1.getD s.2.toNat 0) 0 w l).2 p1 hs.t1;rw[hs.l1]at h3 h4 h5 h6 ⊢;exact⟨⟨by simp[hs.len],.inl rfl,h5,h6,hs.t2,hs.l2,hs.t3,hs.l3⟩,h3,by omega⟩
 ·rename_i e;simp only[if_neg e]at h1 h2 ⊢;obtain⟨h3,h4⟩:=fG (lg p2) (t.1-2) 1 _ _ p2 h1 (by rw[hs.l2];omega);obtain⟨h5,h6⟩:=ug (lg p2) (t.1-2) 1 (bV (s.1.getD s.2.toNat 0) 1 w l).1 (bV (s.1.getD s.2.toNat 0) 1 w l).2 p2 hs.t2;rw[hs.l2]at h3 h4 h5 h6 ⊢;generalize bC 8 (t.1-2) 1 (bV (s.1.getD s.2.toNat 0) 1 w l).1 (bV (s.1.getD s.2.toNat 0) 1 w l).2 p2=r at*;obtain⟨k3,k4⟩:=fG (lg p3) ((t.2.1-1)/64) 1 _ _ p3 h3 (by rw[hs.l3];omega);obtain⟨k5,k6⟩:=ug (lg p3) ((t.2.1-1)/64) 1 r.1 r.2.1 p3 hs.t3;rw[hs.l3]at k3 k4 k5 k6 ⊢;generalize bC 6 ((t.2.1-1)/64) 1 r.1 r.2.1 p3=r2 at*;obtain⟨m3,m4⟩:=AD 6 (t.2.1-1) _ _ k3 (by omega);exact⟨⟨by simp[hs.len],.inr rfl,hs.t1,hs.l1,h5,h6,k5,k6⟩,m3,by omega⟩
def fH:List dc→(List Int×Int)→List Int→List Int→List Int→Int→List Int→Int×List Int
 | [],_,_,_,_,w,l=>(w,l)
 |t::r,s,p1,p2,p3,w,l=>
  let x:=lC t s p1 p2 p3 w l
  fH r x.1 x.2.1 x.2.2.1 x.2.2.2.1 x.2.2.2.2.1 x.2.2.2.2.2
def uh(l:List dc):Prop:=∀t∈l,0≤t.2.2∧t.2.2<256
theorem agX{t:dc}{made:Int}(h:kt t made=true)(hb:0≤t.2.2∧t.2.2<256):akG t:=by
 unfold kt at h
 split at h
 ·rename_i e;exact .inl ⟨e,hb⟩
 ·have:=of_decide_eq_true h;exact .inr ⟨this.2.1,this.2.2.1,this.2.2.2.1,this.2.2.2.2.1⟩
abbrev ui:Type:=(List (Int×Int×Int))×Int×Int×Int×(List Int)×(List Int)×Int×(List Int)×(List Int)×(List Int)
abbrev uj:aW St ui:=(bD (jk 3 (ak (ah (aP (0) (0))) (ak (ah (aP (2) (0))) (jk 7 (ae (ah (e9 false
 false ((Ty.int i64).pair ((Ty.int i64).pair (Ty.int IntKind.u8))))) (ae (ah (ay i64)) (ae (ah (ay i64))
 (jk 9 ag)))))))) (ae (iF (249) ((ak (tJ (1) (0)) (ae (ay u64) ag)))) (ae (eG (0) (Ty.int IntKind.u8)) (ae (iF (196)
 ((ae (se (Ty.int i64) (2)) (ae (ay i64) (ak (aP (3) (0)) (ak (aP (5) (0)) (ak (aP (7) (0)) ag))))))) (ak
 (iF (332) ((ak (tJ (4) (0)) ag))) (ae (eG (0) (Ty.int u16)) (ak (iF (332) ((ak (tJ (6) (0)) ag))) (ae (eG (0)
 (Ty.int u16)) (ak (iF (332) ((ak (tJ (8) (0)) ag))) (ae (eG (0) (Ty.int u16)) ag)))))))))).nH (fun y=>(y.1.1,
 y.1.2.1,y.1.2.2.1,y.2.1.1,y.2.2.1,y.2.2.2.1.1,y.2.2.2.1.2.1,y.2.2.2.2.1,y.2.2.2.2.2.1,y.2.2.2.2.2.2.1)) (fun x=>((x.1,(x.2.1,(x.2.2.1,
 ()))),((x.2.2.2.1,()),(x.2.2.2.2.1,((x.2.2.2.2.2.1,(x.2.2.2.2.2.2.1,())),(x.2.2.2.2.2.2.2.1,(x.2.2.2.2.2.2.2.2.1,(x.2.2.2.2.2.2.2.2.2,
 ())))))))) (fun _=>rfl)
abbrev Fx:List Wk:= [.fr (dK 24 [(3,.an),(4,.an),(12,.an),(13,.an),(14,.an)]),.syms,.auto,.aN,.j7 2 0 2 .i64]
abbrev RZ:Exit→List Wk:=Di Fx 0 [.fr (dK 24 [(3,.an)]),.syms,.auto,.aN,.j7 2 0 2 .i64] [.fr (dK 24 [(2,.an)]),.syms,
 .auto,.aN,.j7 2 0 2 .i64]
def iI(l':List (Int×Int×Int))(i:Int):Int×Int×Int:=l'.getD i.toNat (0,0,0)
abbrev Fy:Type:=Int×(List Int)
abbrev R5(x:Fy):Exit×St:=(Exit.exit 0,⟨(jK 3 (LV.one (VV.sc (SV.ptr 0 0))::(jK 20 []))),[some (Item.bm [SV.sl 1
 0,SV.int u64 (SI.sym x.1)] 249),some (Item.own 0 (Ty.int IntKind.u8) x.2)]⟩)
def yx(l':List (Int×Int×Int))(n:Int)(i:Int)(w:Int)(o:List Int)(cs:List Int)(bh:Int)(p1:List Int)(p2:
 List Int) (p3:List Int):Tr (ui⊕(Fy)):=(.ite (decide (i<n)) (.need (0≤i∧i<(↑l'.length:Int)) (.need (Fw (iI l' i)
 (cs,bh) p1 p2 p3 w o) (.ret (.inl (l',n,i64.wrap (i+1),(lC (iI l' i) (cs,bh) p1 p2 p3 w o).snd.snd.snd.snd.fst,(lC (iI
 l' i) (cs,bh) p1 p2 p3 w o).snd.snd.snd.snd.snd,(lC (iI l' i) (cs,bh) p1 p2 p3 w o).fst.fst,(lC (iI l' i) (cs,bh) p1 p2 p3 w
 o).fst.snd,(lC (iI l' i) (cs,bh) p1 p2 p3 w o).snd.fst,(lC (iI l' i) (cs,bh) p1 p2 p3 w o).snd.snd.fst,(lC (iI l' i) (cs,
 bh) p1 p2 p3 w o).snd.snd.snd.fst))))) (.ret (.inr (w,o))))
theorem Jk(l:List dc)(l':List (Int×Int×Int))(n:Int)(i:Int)(w:Int)(o:List Int)(cs:List Int)(bh:Int)(p1:List Int)(p2:List Int)(p3:List Int):ee Tryz.prog [(124,qQ),(125,Zs),(126,yw),(127,ZV)] [] f74 0 ((ag).wr (())) RZ (uj.wr (l',n,i,w,o,cs,bh,p1,p2,p3))=(yx l' n i w o cs bh p1 p2 p3).res uj.wr R5:=by kernel_rfl
abbrev wK(l':List (Int×Int×Int))(n:Int)(i:Int)(w:Int)(o:List Int)(cs:List Int)(bh:Int)(p1:List Int)(p2:List Int)(p3:List Int):Prop:=n=l'.length∧0≤i∧i≤n∧(∃made,bE made (l'.drop i.toNat)=true)∧uh l'∧XY (cs,bh) p1 p2 p3∧tU w o∧o.length+21*(n-i)<1099500000000∧n<1099500000000
abbrev Fz(l':List (Int×Int×Int))(n:Int)(i:Int)(w:Int)(o:List Int)(cs:List Int)(bh:Int)(p1:List Int)(p2:List Int)(p3:List Int):Fy:=fH (l'.drop i.toNat) (cs,bh) p1 p2 p3 w o
abbrev FA:ui→aZ:=hY (fun x_=>wK x_.1 x_.2.1 x_.2.2.1 x_.2.2.2.1 x_.2.2.2.2.1 x_.2.2.2.2.2.1 x_.2.2.2.2.2.2.1 x_.2.2.2.2.2.2.2.1 x_.2.2.2.2.2.2.2.2.1 x_.2.2.2.2.2.2.2.2.2) (fun x_=>Fz x_.1 x_.2.1 x_.2.2.1 x_.2.2.2.1 x_.2.2.2.2.1 x_.2.2.2.2.2.1 x_.2.2.2.2.2.2.1 x_.2.2.2.2.2.2.2.1 x_.2.2.2.2.2.2.2.2.1 x_.2.2.2.2.2.2.2.2.2) R5
theorem Vf(l':List (Int×Int×Int))(n:Int)(i:Int)(w:Int)(o:List Int)(cs:List Int)(bh:Int)(p1:List Int)(p2:List Int)(p3:List Int)(h_:wK l' n i w o cs bh p1 p2 p3):dO (fun x_:ui=>yx x_.1 x_.2.1 x_.2.2.1 x_.2.2.2.1 x_.2.2.2.2.1 x_.2.2.2.2.2.1 x_.2.2.2.2.2.2.1 x_.2.2.2.2.2.2.2.1 x_.2.2.2.2.2.2.2.2.1 x_.2.2.2.2.2.2.2.2.2) (l',n,i,w,o,cs,bh,p1,p2,p3) (Fz l' n i w o cs bh p1 p2 p3):=by
 delta Fz;obtain⟨rfl,h1,h2,⟨made,h3⟩,h4,h5,h6,h7,h8⟩:=h_;obtain⟨k,rfl⟩:∃k:Nat,i=k:=⟨i.toNat,by omega⟩;rw[Int.toNat_natCast]at h3 ⊢;obtain⟨m,hm⟩:∃m,l'.length=k+m:=⟨l'.length-k,by omega⟩;clear h2
 induction m generalizing k made w o cs bh p1 p2 p3 with
 |zero=>
  refine .stop ?_;rw[List.drop_of_length_le (by omega)];simp only[yx,bl,ao,aq,fH];exact⟨fun h=>by omega,fun _=>trivial⟩
 |succ m ih=>
  have hk:k<l'.length:=by omega
  rw[lN (0,0,0) hk,bE,Bool.and_eq_true,Bool.and_eq_true]at h3;obtain⟨⟨k1,k2⟩,k3⟩:=h3;rw[lN (0,0,0) hk,fH]
  have Iq:l'.getD k (0,0,0)∈l':=by
   rw[List.getD_eq_getElem?_getD,List.getElem?_eq_getElem hk];exact List.getElem_mem hk
  have hx:iI l' (k:Int)=l'.getD k (0,0,0):=rfl;generalize l'.getD k (0,0,0)=x at*;obtain⟨q1,q2,q3⟩:=AE (t:=x) h5 h6 (by omega);have Dj:=ih _ _ _ _ _ _ _ _ q1 q2 (k+1) (by omega) k3 (by omega) (by omega);refine .go ?_ Dj;have hi:i64.wrap ((k:Int)+1)=k+1:=ax (by omega) (by omega);simp only[yx,bl,ao,aq,hx,hi];exact⟨fun _=>⟨⟨by omega,by omega⟩,⟨h5,h6,agX k1 (h4 _ Iq),by omega⟩,rfl⟩,fun h=>by omega⟩
theorem ND(l:List dc):∀x:ui,Ex Tryz.prog ((ag).wr (())) (.loop (aV f74 0)) (uj.wr x) (FA x):=
 du mixed ((aj mY (aj RG (aj wJ (aj RY aE))))) (ws:=RZ) (aO.nil _) (fun x_=>Jk l x_.1 x_.2.1 x_.2.2.1 x_.2.2.2.1 x_.2.2.2.2.1 x_.2.2.2.2.2.1 x_.2.2.2.2.2.2.1 x_.2.2.2.2.2.2.2.1 x_.2.2.2.2.2.2.2.2.1 x_.2.2.2.2.2.2.2.2.2) (fun z e=>by cases e) iH (fun x_ h=>Vf x_.1 x_.2.1 x_.2.2.1 x_.2.2.2.1 x_.2.2.2.2.1 x_.2.2.2.2.2.1 x_.2.2.2.2.2.2.1 x_.2.2.2.2.2.2.2.1 x_.2.2.2.2.2.2.2.2.1 x_.2.2.2.2.2.2.2.2.2 h)
abbrev FB:Type:=List Int
abbrev ZW(x:FB):LV:=LV.one (VV.sc (SV.rd true false (Ty.int IntKind.u8) x))
abbrev ZX(x:FB):List (Nat×Ev.Item):= []
def ZY(w:Int)(l:List Int):Tr (FB):=(.need (l.length≤70368744177664) (.ret (l)))
theorem NF(w:Int)(l:List Int):aT Tryz.prog [(177,ZH)] [] f128 ((mh).wr (())) ((x8).wr (w,l,())) [.fr [.sym],.syms,.auto,.aN]=(ZY w l).end ZW ZX ((x8).wr (w,l,())):=by kernel_rfl
theorem Vg(w:Int)(l:List Int):aO Tryz.prog ((x8).wr (w,l,())) [] (aG f128):=(aO.nil _)
abbrev AF(w:Int)(l:List Int):Prop:=l.length<1099511627776
abbrev NG(w:Int)(l:List Int):FB:=l
def ZZ:ar:=dm [] (mh) (x8) (fun x_ y_=>AF y_.1 y_.2.1) (fun x_ y_=>NG y_.1 y_.2.1) ZW ZX
theorem Z0(w:Int)(l:List Int)(h_:AF w l):(ZY w l).Is (NG w l):=by
 delta NG;exact⟨by omega,rfl⟩
theorem Z3:ZZ.Ok Tryz.prog 128:=
 bY mixed ((aj ZI aE)) func128 (by kernel_rfl) call128 (fun x_ y_=>Vg y_.1 y_.2.1) (fun x_ y_=>NF y_.1 y_.2.1) (fun x_ y_ h=>Z0 y_.1 y_.2.1 h)
def yy(l:List (Int×Int×Int)):Int×List Int:=fH (List.drop 0 l) ([1024,1024],0) (ca 8) (ca 8) (ca 6)
 4294967295 [0,0,0,0]
abbrev FC:Type:=List Int
abbrev Z4(x:FC):LV:=LV.one (VV.sc (SV.rd true false (Ty.int IntKind.u8) x))
abbrev Z5(x:FC):List (Nat×Ev.Item):= []
def NH(l:List (Int×Int×Int)):Tr (FC):=(.need (qP l) (.ite (!bE 0 l) (.ret ([])) (.need (EX) (.need
 (qT) (.need (wK l (↑l.length:Int) 0 4294967295 [0,0,0,0] [1024,1024] 0 (ca 8) (ca 8) (ca 6)) (.need (AF (yy l).fst
 (yy l).snd) (.ret ((yy l).snd))))))))
theorem NI(l:List dc):aT Tryz.prog [(124,qQ),(125,Zs),(126,yw),(127,ZV),(128,ZZ)] [(0,cV uj ((ag).wr (())) Fx (FA))] f74 ((U2).wr (l,())) ((ag).wr (())) [.fr [.rd true u8],.fr [.sym],.syms,.auto,.aN]=(NH l).end Z4 Z5 ((ag).wr (())):=by kernel_rfl
theorem Vh(l:List dc):aO Tryz.prog ((ag).wr (())) [(0,cV uj ((ag).wr (())) Fx (FA))] (aG f74):=(aO.cU (nJ (by kernel_rfl) (cJ (hp:=(ag).wr (())) (ND l)) oI))
theorem uk:∀ (l:List dc) {s:List Int×Int} {p1 p2 p3:List Int} {w:Int} {o:List Int},XY s p1 p2 p3→tU w o→o.length+21*l.length<1099500000000→
  tU (fH l s p1 p2 p3 w o).1 (fH l s p1 p2 p3 w o).2∧(fH l s p1 p2 p3 w o).2.length≤o.length+21*l.length
 | [],_,_,_,_,_,_,_,h,_=>⟨h,by simp[fH]⟩
 |t::r,s,p1,p2,p3,w,o,hs,hc,hl=>by
  rw[List.length_cons]at hl;obtain⟨q1,q2,q3⟩:=AE (t:=t) hs hc (by omega);have:=uk r q1 q2 (by omega);rw[fH,List.length_cons];exact⟨this.1,by have:=this.2;omega⟩
theorem kT(k:Nat)(h:k≤8):UW (ca k)∧lg (ca k)=k:=by
 have hl:(ca k).length=2 ^ k:=by simp[ca]
 have e:lg (ca k)=k:=by unfold lg;rw[hl,Nat.log2_two_pow]
 refine⟨⟨by rw[e];exact h,by rw[e,hl],fun i=>?_,fun i _ hi=>?_⟩,e⟩
 ·unfold ca;rw[List.getD_eq_getElem?_getD,List.getElem?_replicate]
  split<;>simp
 ·rw[e]at hi;unfold ca;rw[List.getD_eq_getElem?_getD,List.getElem?_replicate,if_pos hi];simp
theorem FD:XY ([1024,1024],0) (ca 8) (ca 8) (ca 6):=
 ⟨rfl,.inl rfl,(kT 8 (by omega)).1,(kT 8 (by omega)).2,(kT 8 (by omega)).1,(kT 8 (by omega)).2,(kT 6 (by omega)).1,(kT 6 (by omega)).2⟩
theorem NJ:tU 4294967295 [0,0,0,0]:=⟨by omega,by omega,fun z hz=>by simp at hz;subst hz;exact⟨by omega,by omega⟩,by simp⟩
def ef(l:List dc):List Int:=if bE 0 l then(fH l ([1024,1024],0) (ca 8) (ca 8) (ca 6) 4294967295 [0,0,0,0]).2 else []
abbrev kU(l:List dc):Prop:=l.length<1000000000∧uh l
abbrev NK(l:List dc):FC:=ef l
def NL:ar:=dm [some nO] (U2) (ag) (fun x_ y_=>kU x_.1) (fun x_ y_=>NK x_.1) Z4 Z5
theorem Z6(l:List dc)(h_:kU l):(NH l).Is (NK l):=by
 delta NK;obtain⟨h1,h2⟩:=h_;have ht:=uk l FD NJ (by simp;omega);have ea:yy l=fH l ([1024,1024],0) (ca 8) (ca 8) (ca 6) 4294967295 [0,0,0,0]:=rfl;simp only[NH,ao,aq,cO,ef,ea];refine⟨by show _<_;omega,fun h=>?_,fun h=>⟨trivial,trivial,⟨rfl,by omega,by omega,⟨0,by simpa using h⟩,h2,FD,NJ,by simp;omega,by omega⟩,?_,?_⟩⟩
 ·rw[if_neg (by simpa using h)]
 ·have:=ht.2;simp only[List.length_cons,List.length_nil]at this;show _<_;omega
 ·rw[if_pos (by simpa using h)]
theorem Jl:NL.Ok Tryz.prog 74:=
 bY mixed ((aj mY (aj RG (aj wJ (aj RY (aj Z3 aE)))))) func74 (by kernel_rfl) call74 (fun x_ y_=>Vh x_.1) (fun x_ y_=>NI x_.1) (fun x_ y_ h=>Z6 x_.1 h)
abbrev Dc:Type:=Int×Int×Int
abbrev cDc:aW (List SV) Dc:=(ae (ay .u64) (ae (ay .u64) (ae (ay .i64) ag))).nH (fun x=>(x.1,x.2.1,x.2.2.1)) (fun y=>(y.1,y.2.1,y.2.2,())) (fun _=>rfl)
abbrev NM:aW Ev.Item Dc:=wz 383 cDc
abbrev mZ:aW Hp (Dc×Unit):=ae (dF NM) ag
abbrev aqC:aW (List LV) (Int×Unit):=ak (ah (aP 0 0)) (ae (ah (ay .u8)) ag)
abbrev akH:aW (List LV) (Int×Int×Unit):=ak (ah (aP 0 0)) (ae (ah (ay .u64)) (ae (ah (ay .u64)) ag))
def xO(d:Dc):Prop:=0≤d.1∧16777216≤d.2.1∧d.2.1<4294967296∧
 ((d.2.2=0∧d.1<4294967296)∨(d.2.2=1∧d.1<16777216)∨(d.2.2=2∧d.1<65536)∨(d.2.2=3∧d.1<256)∨(d.2.2=4∧d.1=0))
def kV(d:Dc)(b:Int):Dc:=if d.2.2=0 then d else(d.1*256+b,d.2.1,d.2.2-1)
def xP(d:Dc):Bool:=decide (d.2.2=0∧d.2.1≤d.1)
def FE(d:Dc):Bool:=decide (d.2.2=0∧d.1<d.2.1)
def AG(c w:Int):Dc:=if w<16777216 then(c,w*256,1)else(c,w,0)
def iJ(d:Dc)(bound jM:Int):Int×Dc:=if d.1<bound then(0,AG d.1 bound)else(1,AG (d.1-bound) jM)
def bF(p:Int)(d:Dc):Int×Int×Dc:=
 if FE d=true then
  let r:=iJ d (d.2.1/2048*bd p) (d.2.1-d.2.1/2048*bd p)
  (r.1,eH p r.1,r.2)
 else(0,bd p,d)
def dy(d:Dc):Int×Dc:=if FE d=true then iJ d (d.2.1/2) (d.2.1/2)else(0,d)
abbrev R6:Type:=Int×Int×Int
abbrev akI(x:R6):LV:=LV.one (VV.sc (SV.ptr 0 0))
abbrev akJ(x:R6):List (Nat×Ev.Item):= [(0,NM.wr x)]
def akK:Tr (R6):=(.ret ((0,4294967295,4)))
theorem Vi:aT Tryz.prog [] [] f315 ((ag).wr (())) ((ag).wr (())) [.fr [.sym],.syms,.auto,.aN]=(akK).end akI akJ ((ag).wr (())):=by kernel_rfl
theorem Z7:aO Tryz.prog ((ag).wr (())) [] (aG f315):=(aO.nil _)
abbrev FF:Prop:=True
abbrev Z8:R6:=(0,4294967295,4)
def Z9:ar:=dm [] (ag) (ag) (fun _ _=>FF) (fun _ _=>Z8) akI akJ
theorem agY(h_:FF):(akK).Is (Z8):=by
 delta Z8;exact rfl
theorem R7:Z9.Ok Tryz.prog 315:=
 bY mixed aE func315 (by kernel_rfl) call315 (fun x_ y_=>Z7) (fun x_ y_=>Vi) (fun x_ y_ h=>agY h)
abbrev FG:Type:=Bool
abbrev aaa(x:FG):LV:=LV.one (VV.sc (SV.bool (SB.sym x)))
abbrev aab(x:FG):List (Nat×Ev.Item):= []
def aac(d:Int×Int×Int):Tr (FG):=(.ret (decide (0<d.snd.snd)))
theorem NN(d:Dc):aT Tryz.prog [] [] f332 ((mh).wr (())) ((mZ).wr (d,())) [.fr [.sym],.syms,.auto,.aN]=(aac d).end aaa aab ((mZ).wr (d,())):=by kernel_rfl
theorem Vj(d:Dc):aO Tryz.prog ((mZ).wr (d,())) [] (aG f332):=(aO.nil _)
abbrev um(d:Dc):Prop:=True
abbrev NO(d:Dc):FG:=decide (0<d.2.2)
def FH:ar:=dm [] (mh) (mZ) (fun x_ y_=>um y_.1) (fun x_ y_=>NO y_.1) aaa aab
theorem aad(d:Dc)(h_:um d):(aac d).Is (NO d):=by
 delta NO;exact rfl
theorem AH:FH.Ok Tryz.prog 332:=
 bY mixed aE func332 (by kernel_rfl) call332 (fun x_ y_=>Vj y_.1) (fun x_ y_=>NN y_.1) (fun x_ y_ h=>aad y_.1 h)
abbrev FI:Type:=Bool×(Int×Int×Int)
abbrev aae(x:FI):LV:=LV.one (VV.sc (SV.bool (SB.sym x.1)))
abbrev aaf(x:FI):List (Nat×Ev.Item):= [(0,NM.wr x.2)]
def NP(b:Int)(d:Int×Int×Int):Tr (FI):=(.need (um d) (.ite (!decide (0<d.snd.snd)) (.ret (false,d)) (.ret
 (true,(bp u64 (shl u64 d.fst 8) (u64.wrap b),d.snd.fst,i64.wrap (d.snd.snd-1))))))
theorem NQ(b:Int)(d:Dc):aT Tryz.prog [(332,FH)] [] f333 ((aqC).wr (b,())) ((mZ).wr (d,())) [.fr [.sym],.syms,.auto,.aN]=(NP b d).end aae aaf ((mZ).wr (d,())):=by kernel_rfl
theorem Vk(b:Int)(d:Dc):aO Tryz.prog ((mZ).wr (d,())) [] (aG f333):=(aO.nil _)
abbrev AI(b:Int)(d:Dc):Prop:=xO d∧By b
abbrev NR(b:Int)(d:Dc):FI:=(decide (0<d.2.2),kV d b)
def NS:ar:=dm [] (aqC) (mZ) (fun x_ y_=>AI x_.1 y_.1) (fun x_ y_=>NR x_.1 y_.1) aae aaf
theorem aag(b:Int)(d:Dc)(h_:AI b d):(NP b d).Is (NR b d):=by
 delta NR;obtain⟨⟨h1,h2,h3,h4⟩,h5,h6⟩:=h_;have e0:u64.wrap b=b:=wrap_u64 h5 (by omega)
 have e1:shl .u64 d.1 8=d.1*256:=by
  have:=g6 .u64 d.1 8 (by decide);rw[show((8:Nat):Int)=8 from rfl]at this;rw[this,wrap_u64]<;>omega
 have e2:bp .u64 (d.1*256) b=d.1*256+b:=nK (m:=8) (by omega) (by omega) h5 (by omega) (by omega);have e3:i64.wrap (d.2.2-1)=d.2.2-1:=ax (by omega) (by omega);simp only[NP,kV,ao,fU,aq,e0,e1,e2,e3,decide_eq_true_eq,decide_eq_false_iff_not];refine⟨trivial,fun h=>?_,fun h=>?_⟩
 ·rw[if_neg (by omega),decide_eq_true h]
 ·rw[if_pos (by omega),decide_eq_false h]
theorem Jm:NS.Ok Tryz.prog 333:=
 bY mixed ((aj AH aE)) func333 (by kernel_rfl) call333 (fun x_ y_=>Vk x_.1 y_.1) (fun x_ y_=>NQ x_.1 y_.1) (fun x_ y_ h=>aag x_.1 y_.1 h)
abbrev FJ:Type:=Bool
abbrev aah(x:FJ):LV:=LV.one (VV.sc (SV.bool (SB.sym x)))
abbrev aai(x:FJ):List (Nat×Ev.Item):= []
def NT(d:Int×Int×Int):Tr (FJ):=(.ite ((d.snd.snd==0)==true) (.ret (decide (d.snd.fst≤d.fst))) (.ret (false)))
theorem NU(d:Dc):aT Tryz.prog [] [] f334 ((mh).wr (())) ((mZ).wr (d,())) [.fr [.sym],.syms,.auto,.aN]=(NT d).end aah aai ((mZ).wr (d,())):=by kernel_rfl
theorem Vl(d:Dc):aO Tryz.prog ((mZ).wr (d,())) [] (aG f334):=(aO.nil _)
abbrev AJ(d:Dc):Prop:=True
abbrev NV(d:Dc):FJ:=xP d
def NW:ar:=dm [] (mh) (mZ) (fun x_ y_=>AJ y_.1) (fun x_ y_=>NV y_.1) aah aai
theorem aaj(d:Dc)(h_:AJ d):(NT d).Is (NV d):=by
 delta NV;simp only[NT,xP,cO,aq,pn,beq_iff_eq,beq_eq_false_iff_ne];exact⟨fun h=>decide_eq_decide.2 (by omega),fun h=>(decide_eq_false (by omega)).symm⟩
theorem Jn:NW.Ok Tryz.prog 334:=
 bY mixed aE func334 (by kernel_rfl) call334 (fun x_ y_=>Vl y_.1) (fun x_ y_=>NU y_.1) (fun x_ y_ h=>aaj y_.1 h)
abbrev R8:Type:=Bool
abbrev akL(x:R8):LV:=LV.one (VV.sc (SV.bool (SB.sym x)))
abbrev akM(x:R8):List (Nat×Ev.Item):= []
def aak(d:Int×Int×Int):Tr (R8):=(.ite ((d.snd.snd==0)==true) (.ret (decide (d.fst<d.snd.fst))) (.ret (false)))
theorem Vm(d:Dc):aT Tryz.prog [] [] f351 ((mh).wr (())) ((mZ).wr (d,())) [.fr [.sym],.syms,.auto,.aN]=(aak d).end akL akM ((mZ).wr (d,())):=by kernel_rfl
theorem aal(d:Dc):aO Tryz.prog ((mZ).wr (d,())) [] (aG f351):=(aO.nil _)
abbrev yz(d:Dc):Prop:=True
abbrev aam(d:Dc):R8:=FE d
def aan:ar:=dm [] (mh) (mZ) (fun x_ y_=>yz y_.1) (fun x_ y_=>aam y_.1) akL akM
theorem agZ(d:Dc)(h_:yz d):(aak d).Is (aam d):=by
 delta aam;simp only[aak,FE,cO,aq,pn,beq_iff_eq,beq_eq_false_iff_ne];exact⟨fun h=>decide_eq_decide.2 (by omega),fun h=>(decide_eq_false (by omega)).symm⟩
theorem R9:aan.Ok Tryz.prog 351:=
 bY mixed aE func351 (by kernel_rfl) call351 (fun x_ y_=>aal y_.1) (fun x_ y_=>Vm y_.1) (fun x_ y_ h=>agZ y_.1 h)
abbrev Sa:Type:=Int×Int×Int
abbrev akN(x:Sa):LV:=LV.cT []
abbrev akO(x:Sa):List (Nat×Ev.Item):= [(0,NM.wr x)]
def aao(d:Int×Int×Int):Tr (Sa):=(.ite (decide (d.snd.fst<16777216)) (.ret ((d.fst,shl u64 d.snd.fst 8,1)))
 (.ret (d)))
theorem Vn(d:Dc):aT Tryz.prog [] [] f354 ((mh).wr (())) ((mZ).wr (d,())) [.fr [.sym],.syms,.auto,.aN]=(aao d).end akN akO ((mZ).wr (d,())):=by kernel_rfl
theorem aap(d:Dc):aO Tryz.prog ((mZ).wr (d,())) [] (aG f354):=(aO.nil _)
abbrev yA(d:Dc):Prop:=0≤d.2.1∧d.2.1<4294967296∧d.2.2=0
abbrev aaq(d:Dc):Sa:=AG d.1 d.2.1
def akP:ar:=dm [] (mh) (mZ) (fun x_ y_=>yA y_.1) (fun x_ y_=>aaq y_.1) akN akO
theorem ag0(d:Dc)(h_:yA d):(aao d).Is (aaq d):=by
 delta aaq;obtain⟨h1,h2,h3⟩:=h_;obtain⟨c,w,n⟩:=d;simp only at h1 h2 h3;subst h3;simp only[aao,AG,bl,aq];refine⟨fun h=>?_,fun h=>by rw[if_neg h]⟩;have:=g6 .u64 w 8 (by decide);rw[show((8:Nat):Int)=8 from rfl]at this;rw[this,wrap_u64 (by omega) (by omega),if_pos h];rfl
theorem ag1:akP.Ok Tryz.prog 354:=
 bY mixed aE func354 (by kernel_rfl) call354 (fun x_ y_=>aap y_.1) (fun x_ y_=>Vn y_.1) (fun x_ y_ h=>ag0 y_.1 h)
abbrev yB:Type:=Int×(Int×Int×Int)
abbrev Sb(x:yB):LV:=LV.one (VV.sc (SV.int i64 (SI.sym x.1)))
abbrev Sc(x:yB):List (Nat×Ev.Item):= [(0,NM.wr x.2)]
def FK(bound:Int)(jM:Int)(d:Int×Int×Int):Tr (yB):=(.ite (decide (d.fst<bound)) (.need (yA (d.fst,
 bound,d.snd.snd)) (.ret (0,AG d.fst bound))) (.need (yA (u64.wrap (d.fst-bound),jM,d.snd.snd)) (.ret (1,AG (u64.wrap
 (d.fst-bound)) jM))))
theorem Jo(bound jM:Int)(d:Dc):aT Tryz.prog [(354,akP)] [] f352 ((akH).wr (bound,jM,())) ((mZ).wr (d,())) [.fr [.sym],.syms,.auto,.aN]=(FK bound jM d).end Sb Sc ((mZ).wr (d,())):=by kernel_rfl
theorem NX(bound jM:Int)(d:Dc):aO Tryz.prog ((mZ).wr (d,())) [] (aG f352):=(aO.nil _)
abbrev qU(bound jM:Int)(d:Dc):Prop:=xO d∧d.2.2=0∧65536≤bound∧bound<4294967296∧65536≤jM∧jM<4294967296
abbrev FL(bound jM:Int)(d:Dc):yB:=iJ d bound jM
def FN:ar:=dm [] (akH) (mZ) (fun x_ y_=>qU x_.1 x_.2.1 y_.1) (fun x_ y_=>FL x_.1 x_.2.1 y_.1) Sb Sc
theorem Vo(bound jM:Int)(d:Dc)(h_:qU bound jM d):(FK bound jM d).Is (FL bound jM d):=by
 delta FL;obtain⟨⟨h1,h2,h3,h4⟩,h5,h6,h7,h8,h9⟩:=h_;simp only[FK,iJ,bl,ao,aq];refine⟨fun h=>⟨⟨by simp only;omega,h7,h5⟩,by rw[if_pos h]⟩,fun h=>?_⟩;have e:u64.wrap (d.1-bound)=d.1-bound:=wrap_u64 (by omega) (by omega);rw[e];exact⟨⟨by simp only;omega,h9,h5⟩,by rw[if_neg h]⟩
theorem Dn:FN.Ok Tryz.prog 352:=
 bY mixed ((aj ag1 aE)) func352 (by kernel_rfl) call352 (fun x_ y_=>NX x_.1 x_.2.1 y_.1) (fun x_ y_=>Jo x_.1 x_.2.1 y_.1) (fun x_ y_ h=>Vo x_.1 x_.2.1 y_.1 h)
theorem Vp(p:Int):bd (bd p)=bd p:=by
 have:=hS p;rw[bd,if_neg (by omega),if_neg (by omega)]
theorem NY(p b:Int):eH (bd p) b=eH p b:=by unfold eH;rw[Vp]
theorem uo(d:Dc):FE d=true↔d.2.2=0∧d.1<d.2.1:=by unfold FE;simp
def AK(p:Int)(d:Int×Int×Int):Int×Int×Int×Int:=iJ d (u64.wrap (shr u64 d.snd.fst 11*
 u64.wrap (bd p))) (u64.wrap (d.snd.fst-u64.wrap (shr u64 d.snd.fst 11*u64.wrap (bd p))))
abbrev Sd:Type:=Int×Int×(Int×Int×Int)
abbrev akQ(x:Sd):LV:=LV.cT [VV.sc (SV.int i64 (SI.sym x.1)),VV.sc (SV.int i64 (SI.sym x.2.1))]
abbrev akR(x:Sd):List (Nat×Ev.Item):= [(0,NM.wr x.2.2)]
def aar(p:Int)(d:Int×Int×Int):Tr (Sd):=(.need (yz d) (.ite (!FE d) (.ret (0,bd p,d)) (.need (qU
 (u64.wrap (shr u64 d.snd.fst 11*u64.wrap (bd p))) (u64.wrap (d.snd.fst-u64.wrap (shr u64
 d.snd.fst 11*u64.wrap (bd p)))) d) (.ret ((AK p d).fst,eH (bd p) (AK p d).fst,(AK p d).snd)))))
theorem Vq(p:Int)(d:Dc):aT Tryz.prog [(351,aan),(352,FN),(257,ET),(260,tR)] [] f346 ((oK).wr (p,())) ((mZ).wr (d,())) [.fr [.sym],.syms,.auto,.aN]=(aar p d).end akQ akR ((mZ).wr (d,())):=by kernel_rfl
theorem aas(p:Int)(d:Dc):aO Tryz.prog ((mZ).wr (d,())) [] (aG f346):=(aO.nil _)
abbrev qV(p:Int)(d:Dc):Prop:=xO d
abbrev aat(p:Int)(d:Dc):Sd:=bF p d
def akS:ar:=dm [] (oK) (mZ) (fun x_ y_=>qV x_.1 y_.1) (fun x_ y_=>aat x_.1 y_.1) akQ akR
theorem ag2(p:Int)(d:Dc)(h_:qV p d):(aar p d).Is (aat p d):=by
 delta aat;obtain⟨h1,h2,h3,h4⟩:=h_;have hb:=im p h2 h3;have hh:=hS p;have e0:u64.wrap (bd p)=bd p:=wrap_u64 (by omega) (by omega);have e1:shr .u64 d.2.1 11=d.2.1/2048:=ft .u64 d.2.1 11 (by decide);have e2:u64.wrap (d.2.1/2048*bd p)=d.2.1/2048*bd p:=wrap_u64 (by omega) (by omega);have e3:u64.wrap (d.2.1-d.2.1/2048*bd p)=d.2.1-d.2.1/2048*bd p:=wrap_u64 (by omega) (by omega);have ea:AK p d=iJ d (d.2.1/2048*bd p) (d.2.1-d.2.1/2048*bd p):=by unfold AK;rw[e0,e1,e2,e3]
 simp only[aar,bF,ao,fU,aq,e0,e1,e2,e3,ea,NY];refine⟨trivial,fun h=>⟨⟨⟨h1,h2,h3,h4⟩,((uo d).1 h).1,by omega,by omega,by omega,by omega⟩,by rw[if_pos h]⟩,fun h=>by rw[if_neg (by simp[h])]⟩
theorem ag3:akS.Ok Tryz.prog 346:=
 bY mixed ((aj R9 (aj Dn (aj tQ (aj qM aE))))) func346 (by kernel_rfl) call346 (fun x_ y_=>aas x_.1 y_.1) (fun x_ y_=>Vq x_.1 y_.1) (fun x_ y_ h=>ag2 x_.1 y_.1 h)
def yC(d:Int×Int×Int):Int×Int×Int×Int:=iJ d (u64.wrap (d.snd.fst.tdiv 2)) (u64.wrap
 (d.snd.fst.tdiv 2))
abbrev FO:Type:=Int×(Int×Int×Int)
abbrev aau(x:FO):LV:=LV.one (VV.sc (SV.int i64 (SI.sym x.1)))
abbrev aav(x:FO):List (Nat×Ev.Item):= [(0,NM.wr x.2)]
def NZ(d:Int×Int×Int):Tr (FO):=(.need (yz d) (.ite (!FE d) (.ret (0,d)) (.need (qU (u64.wrap
 (d.snd.fst.tdiv 2)) (u64.wrap (d.snd.fst.tdiv 2)) d) (.ret ((yC d).fst,(yC d).snd)))))
theorem N0(d:Dc):aT Tryz.prog [(351,aan),(352,FN)] [] f347 ((mh).wr (())) ((mZ).wr (d,())) [.fr [.sym],.syms,.auto,.aN]=(NZ d).end aau aav ((mZ).wr (d,())):=by kernel_rfl
theorem Vr(d:Dc):aO Tryz.prog ((mZ).wr (d,())) [] (aG f347):=(aO.nil _)
abbrev AL(d:Dc):Prop:=xO d
abbrev N1(d:Dc):FO:=dy d
def aaw:ar:=dm [] (mh) (mZ) (fun x_ y_=>AL y_.1) (fun x_ y_=>N1 y_.1) aau aav
theorem aax(d:Dc)(h_:AL d):(NZ d).Is (N1 d):=by
 delta N1;obtain⟨h1,h2,h3,h4⟩:=h_;have e1:d.2.1.tdiv 2=d.2.1/2:=Int.tdiv_eq_ediv_of_nonneg (by omega);have e2:u64.wrap (d.2.1/2)=d.2.1/2:=wrap_u64 (by omega) (by omega);have ea:yC d=iJ d (d.2.1/2) (d.2.1/2):=by unfold yC;rw[e1,e2]
 simp only[NZ,dy,ao,fU,aq,e1,e2,ea];refine⟨trivial,fun h=>⟨⟨⟨h1,h2,h3,h4⟩,((uo d).1 h).1,by omega,by omega,by omega,by omega⟩,by rw[if_pos h]⟩,fun h=>by rw[if_neg (by simp[h])]⟩
theorem aay:aaw.Ok Tryz.prog 347:=
 bY mixed ((aj R9 (aj Dn aE))) func347 (by kernel_rfl) call347 (fun x_ y_=>Vr y_.1) (fun x_ y_=>N0 y_.1) (fun x_ y_ h=>aax y_.1 h)
structure RH where
 cs:List Int
 bh:Int
 part:Int
 node:Int
 t:dc
abbrev cRH(a b c:Nat):aW (List SV) RH:=(ae (se (.int .i64) 2) (ae (ay .i64) (ak (aP a 0) (ak (aP b 0) (ak (aP c 0) (ae (ay .i64) (ae (ay .i64) (ae (ay .i64) (ae (ay .i64) (ae (ay .u8) ag)))))))))).nH
 (fun x=>⟨x.1,x.2.1,x.2.2.1,x.2.2.2.1,(x.2.2.2.2.1,x.2.2.2.2.2.1,x.2.2.2.2.2.2.1)⟩) (fun y=>(y.cs,y.bh,y.part,y.node,y.t.1,y.t.2.1,y.t.2.2,())) (fun _=>rfl)
abbrev jRd:aW Ev.Item RH:=wz 385 (cRH 1 3 5)
abbrev Vs:aW Hp (RH×List Int×List Int×List Int×Unit):=
 ae (dF jRd) (ak (dF jT2) (ae (eG 0 (.int .u16)) (ak (dF jT4) (ae (eG 0 (.int .u16)) (ak (dF jT6) (ae (eG 0 (.int .u16)) ag))))))
abbrev Jp:aW Hp (RH×List Int×List Int×List Int×Dc×Unit):=
 ae (dF jRd) (ak (dF jT2) (ae (eG 0 (.int .u16)) (ak (dF jT4) (ae (eG 0 (.int .u16)) (ak (dF jT6) (ae (eG 0 (.int .u16)) (ae (dF NM) ag)))))))
def uq(part:Int):Int:=if part=0 then 1 else if part=1∨part=2 then 8 else 6
def iK(r:RH)(v:Int):Bool×RH:=
 if r.part=0 then(false,⟨r.cs,v,if v=1 then 2 else 1,r.node,(0,0,0)⟩)
 else if r.part=1 then(true,⟨r.cs,r.bh,0,r.node,(r.t.1,r.t.2.1,v)⟩)
 else if r.part=2 then(false,⟨r.cs,r.bh,3,r.node,(v+2,r.t.2)⟩)
 else if r.part=3 then(false,⟨r.cs,r.bh,4,r.node,(r.t.1,v*64,r.t.2.2)⟩)
 else(true,⟨r.cs,r.bh,0,r.node,(r.t.1,r.t.2.1+(v+1),r.t.2.2)⟩)
abbrev AM:Type:=Unit
abbrev ur(x:AM):LV:=LV.one (VV.sc (SV.ptr 1 0))
abbrev uu(x:AM):List (Nat×Ev.Item):= []
abbrev AN:Type:=Unit
abbrev uv(x:AN):LV:=LV.one (VV.sc (SV.ptr 3 0))
abbrev uw(x:AN):List (Nat×Ev.Item):= []
abbrev AO:Type:=Unit
abbrev ux(x:AO):LV:=LV.one (VV.sc (SV.ptr 5 0))
abbrev uy(x:AO):List (Nat×Ev.Item):= []
def qW(r:RH)(p1:List Int)(p2:List Int)(p3:List Int):Tr (AM⊕AN⊕AO):=(.ite (r.part==1) (.ret
 (.inl ())) (.ite (r.part==2) (.ret (.inr (.inl ()))) (.ret (.inr (.inr ())))))
theorem Jq(r:RH)(p1:List Int)(p2:List Int)(p3:List Int):aT Tryz.prog [] [] f348 ((mh).wr (())) ((Vs).wr (r,p1,p2,p3,())) [.fr [.sym],.syms,.auto,.aN]=(qW r p1 p2 p3).end (Sum.elim ur (Sum.elim uv ux)) (Sum.elim uu (Sum.elim uw uy)) ((Vs).wr (r,p1,p2,p3,())):=by kernel_rfl
theorem N2(r:RH)(p1:List Int)(p2:List Int)(p3:List Int):aO Tryz.prog ((Vs).wr (r,p1,p2,p3,())) [] (aG f348):=(aO.nil _)
abbrev fQ(r:RH)(p1:List Int)(p2:List Int)(p3:List Int):Prop:=True
def Se:ar:=ar.dx [] (mh) (Vs) fun x_ y_=>.ite ((fun(r:RH) (p1:List Int) (p2:List Int) (p3:List Int)=>decide (r.part=1)) y_.1 y_.2.1 y_.2.2.1 y_.2.2.2.1) (.leaf (some ((fun(r:RH) (p1:List Int) (p2:List Int) (p3:List Int)=>fQ r p1 p2 p3) y_.1 y_.2.1 y_.2.2.1 y_.2.2.2.1)) (ur ((fun(r:RH) (p1:List Int) (p2:List Int) (p3:List Int)=>()) y_.1 y_.2.1 y_.2.2.1 y_.2.2.2.1)) (uu ((fun(r:RH) (p1:List Int) (p2:List Int) (p3:List Int)=>()) y_.1 y_.2.1 y_.2.2.1 y_.2.2.2.1))) (.ite ((fun(r:RH) (p1:List Int) (p2:List Int) (p3:List Int)=>decide (r.part=2)) y_.1 y_.2.1 y_.2.2.1 y_.2.2.2.1) (.leaf (some ((fun(r:RH) (p1:List Int) (p2:List Int) (p3:List Int)=>fQ r p1 p2 p3) y_.1 y_.2.1 y_.2.2.1 y_.2.2.2.1)) (uv ((fun(r:RH) (p1:List Int) (p2:List Int) (p3:List Int)=>()) y_.1 y_.2.1 y_.2.2.1 y_.2.2.2.1)) (uw ((fun(r:RH) (p1:List Int) (p2:List Int) (p3:List Int)=>()) y_.1 y_.2.1 y_.2.2.1 y_.2.2.2.1))) (.leaf (some ((fun(r:RH) (p1:List Int) (p2:List Int) (p3:List Int)=>fQ r p1 p2 p3) y_.1 y_.2.1 y_.2.2.1 y_.2.2.2.1)) (ux ((fun(r:RH) (p1:List Int) (p2:List Int) (p3:List Int)=>()) y_.1 y_.2.1 y_.2.2.1 y_.2.2.2.1)) (uy ((fun(r:RH) (p1:List Int) (p2:List Int) (p3:List Int)=>()) y_.1 y_.2.1 y_.2.2.1 y_.2.2.2.1))))
theorem wM(r:RH)(p1:List Int)(p2:List Int)(p3:List Int)(h_:fQ r p1 p2 p3):((decide (r.part=1))=true→(qW r p1 p2 p3).Is (.inl (())))∧((decide (r.part=1))=false→(decide (r.part=2))=true→(qW r p1 p2 p3).Is (.inr (.inl (()))))∧((decide (r.part=1))=false→(decide (r.part=2))=false→(qW r p1 p2 p3).Is (.inr (.inr (())))):=by
 simp only[qW,fT,aq,decide_eq_true_eq,decide_eq_false_iff_not];grind
theorem Vt:Se.Ok Tryz.prog 348:=by
 refine amY (tys:= []) (A:=mh) (H:=Vs) (LT:=fun x_ y_=>(fun(r:RH) (p1:List Int) (p2:List Int) (p3:List Int)=> []) y_.1 y_.2.1 y_.2.2.1 y_.2.2.2.1) (ks:= [.fr [.sym],.syms,.auto,.aN]) (V:=Sum.elim ur (Sum.elim uv ux)) (D:=Sum.elim uu (Sum.elim uw uy)) (T:=fun x_ y_=>qW y_.1 y_.2.1 y_.2.2.1 y_.2.2.2.1) (out:=fun x_ y_=>.ite ((fun(r:RH) (p1:List Int) (p2:List Int) (p3:List Int)=>decide (r.part=1)) y_.1 y_.2.1 y_.2.2.1 y_.2.2.2.1) (.leaf (some ((fun(r:RH) (p1:List Int) (p2:List Int) (p3:List Int)=>fQ r p1 p2 p3) y_.1 y_.2.1 y_.2.2.1 y_.2.2.2.1)) (ur ((fun(r:RH) (p1:List Int) (p2:List Int) (p3:List Int)=>()) y_.1 y_.2.1 y_.2.2.1 y_.2.2.2.1)) (uu ((fun(r:RH) (p1:List Int) (p2:List Int) (p3:List Int)=>()) y_.1 y_.2.1 y_.2.2.1 y_.2.2.2.1))) (.ite ((fun(r:RH) (p1:List Int) (p2:List Int) (p3:List Int)=>decide (r.part=2)) y_.1 y_.2.1 y_.2.2.1 y_.2.2.2.1) (.leaf (some ((fun(r:RH) (p1:List Int) (p2:List Int) (p3:List Int)=>fQ r p1 p2 p3) y_.1 y_.2.1 y_.2.2.1 y_.2.2.2.1)) (uv ((fun(r:RH) (p1:List Int) (p2:List Int) (p3:List Int)=>()) y_.1 y_.2.1 y_.2.2.1 y_.2.2.2.1)) (uw ((fun(r:RH) (p1:List Int) (p2:List Int) (p3:List Int)=>()) y_.1 y_.2.1 y_.2.2.1 y_.2.2.2.1))) (.leaf (some ((fun(r:RH) (p1:List Int) (p2:List Int) (p3:List Int)=>fQ r p1 p2 p3) y_.1 y_.2.1 y_.2.2.1 y_.2.2.2.1)) (ux ((fun(r:RH) (p1:List Int) (p2:List Int) (p3:List Int)=>()) y_.1 y_.2.1 y_.2.2.1 y_.2.2.2.1)) (uy ((fun(r:RH) (p1:List Int) (p2:List Int) (p3:List Int)=>()) y_.1 y_.2.1 y_.2.2.1 y_.2.2.2.1))))) mixed aE func348 (by kernel_rfl) call348 (fun x_ y_=>N2 y_.1 y_.2.1 y_.2.2.1 y_.2.2.2.1) (fun x_ y_=>Jq y_.1 y_.2.1 y_.2.2.1 y_.2.2.2.1) (fun x_ y_ Q_ h_=>?_)
 cases XZ:(fun(r:RH) (p1:List Int) (p2:List Int) (p3:List Int)=>decide (r.part=1)) y_.1 y_.2.1 y_.2.2.1 y_.2.2.2.1 with
 |true=>exact⟨_,(wM y_.1 y_.2.1 y_.2.2.1 y_.2.2.2.1 (h_.1 XZ).1).1 XZ,(h_.1 XZ).2⟩
 |false=>
  have h2_:=h_.2 XZ
  cases hd_:(fun(r:RH) (p1:List Int) (p2:List Int) (p3:List Int)=>decide (r.part=2)) y_.1 y_.2.1 y_.2.2.1 y_.2.2.2.1 with
  |true=>exact⟨_,(wM y_.1 y_.2.1 y_.2.2.1 y_.2.2.2.1 (h2_.1 hd_).1).2.1 XZ hd_,(h2_.1 hd_).2⟩
  |false=>exact⟨_,(wM y_.1 y_.2.1 y_.2.2.1 y_.2.2.2.1 (h2_.2 hd_).1).2.2 XZ hd_,(h2_.2 hd_).2⟩
abbrev yD:Type:=Int
abbrev Sf(x:yD):LV:=LV.one (VV.sc (SV.int i64 (SI.sym x)))
abbrev Sg(x:yD):List (Nat×Ev.Item):= []
def FQ(r:RH)(p1:List Int)(p2:List Int)(p3:List Int):Tr (yD):=(.ite (r.part==0) (.ret (1)) (.ite (r.part==1)
 (.ite (r.part==1) (.ret (8)) (.ite (r.part==3) (.ret (6)) (.ret (6)))) (.ite (r.part==2) (.ret (8)) (.ite (r.part==3) (.ret (6)) (.ret (6))))))
theorem Jr(r:RH)(p1:List Int)(p2:List Int)(p3:List Int):aT Tryz.prog [] [] f336 ((mh).wr (())) ((Vs).wr (r,p1,p2,p3,())) [.fr [.sym],.syms,.auto,.aN]=(FQ r p1 p2 p3).end Sf Sg ((Vs).wr (r,p1,p2,p3,())):=by kernel_rfl
theorem N3(r:RH)(p1:List Int)(p2:List Int)(p3:List Int):aO Tryz.prog ((Vs).wr (r,p1,p2,p3,())) [] (aG f336):=(aO.nil _)
abbrev wN(r:RH)(p1:List Int)(p2:List Int)(p3:List Int):Prop:=True
abbrev FR(r:RH)(p1:List Int)(p2:List Int)(p3:List Int):yD:=uq r.part
def Sh:ar:=dm [] (mh) (Vs) (fun x_ y_=>wN y_.1 y_.2.1 y_.2.2.1 y_.2.2.2.1) (fun x_ y_=>FR y_.1 y_.2.1 y_.2.2.1 y_.2.2.2.1) Sf Sg
theorem Vu(r:RH)(p1:List Int)(p2:List Int)(p3:List Int)(h_:wN r p1 p2 p3):(FQ r p1 p2 p3).Is (FR r p1 p2 p3):=by
 delta FR;simp only[FQ,uq,fT,aq];grind
theorem Vv:Sh.Ok Tryz.prog 336:=
 bY mixed aE func336 (by kernel_rfl) call336 (fun x_ y_=>N3 y_.1 y_.2.1 y_.2.2.1 y_.2.2.2.1) (fun x_ y_=>Jr y_.1 y_.2.1 y_.2.2.1 y_.2.2.2.1) (fun x_ y_ h=>Vu y_.1 y_.2.1 y_.2.2.1 y_.2.2.2.1 h)
abbrev uz:Type:=Bool×RH
abbrev Js(x:uz):LV:=LV.one (VV.sc (SV.bool (SB.sym x.1)))
abbrev Jt(x:uz):List (Nat×Ev.Item):= [(0,jRd.wr x.2)]
def AP(v:Int)(r:RH)(p1:List Int)(p2:List Int)(p3:List Int):Tr (uz):=(.ite (r.part==0) (.ite (v==1)
 (.ret (false,{cs:=r.cs,bh:=v,part:=2,node:=r.node,t:=(0,0,0)})) (.ret (false,{cs:=r.cs,bh:=v,part:=1,node:=r.node,t:=(0,0,0)})))
 (.ite (r.part==1) (.ret (true,{cs:=r.cs,bh:=r.bh,part:=0,node:=r.node,t:=(r.t.fst,r.t.snd.fst,IntKind.u8.wrap v)})) (.ite (r.part
 ==2) (.ret (false,{cs:=r.cs,bh:=r.bh,part:=3,node:=r.node,t:=(i64.wrap (v+2),r.t.snd)})) (.ite (r.part==3) (.ret (false,
 {cs:=r.cs,bh:=r.bh,part:=4,node:=r.node,t:=(r.t.fst,shl i64 v 6,r.t.snd.snd)})) (.ite (r.part==4) (.ret (true,{cs:=r.cs,bh:=r.bh,part:=0,node:=r.node,t:=(r.t.fst,i64.wrap (r.t.snd.fst+i64.wrap (v+1)),r.t.snd.snd)}))
 (.ret (true,{cs:=r.cs,bh:=r.bh,part:=0,node:=r.node,t:=r.t})))))))
theorem FT(v:Int)(r:RH)(p1:List Int)(p2:List Int)(p3:List Int):aT Tryz.prog [] [] f337 ((oK).wr (v,())) ((Vs).wr (r,p1,p2,p3,())) [.fr [.sym],.syms,.auto,.aN]=(AP v r p1 p2 p3).end Js Jt ((Vs).wr (r,p1,p2,p3,())):=by kernel_rfl
theorem Ju(v:Int)(r:RH)(p1:List Int)(p2:List Int)(p3:List Int):aO Tryz.prog ((Vs).wr (r,p1,p2,p3,())) [] (aG f337):=(aO.nil _)
abbrev so(v:Int)(r:RH)(p1:List Int)(p2:List Int)(p3:List Int):Prop:=0≤v∧v<256∧0≤r.part∧r.part≤4∧0≤r.t.2.1∧r.t.2.1<1000000
abbrev AQ(v:Int)(r:RH)(p1:List Int)(p2:List Int)(p3:List Int):uz:=iK r v
def Jv:ar:=dm [] (oK) (Vs) (fun x_ y_=>so x_.1 y_.1 y_.2.1 y_.2.2.1 y_.2.2.2.1) (fun x_ y_=>AQ x_.1 y_.1 y_.2.1 y_.2.2.1 y_.2.2.2.1) Js Jt
theorem N5(v:Int)(r:RH)(p1:List Int)(p2:List Int)(p3:List Int)(h_:so v r p1 p2 p3):(AP v r p1 p2 p3).Is (AQ v r p1 p2 p3):=by
 delta AQ;obtain⟨h1,h2,h3,h4,h5,h6⟩:=h_;have e1:IntKind.u8.wrap v=v:=by rw[wrap_u8];omega
 have e2:i64.wrap (v+2)=v+2:=ax (by omega) (by omega);have e3:i64.wrap (v+1)=v+1:=ax (by omega) (by omega);have e4:i64.wrap (r.t.2.1+(v+1))=r.t.2.1+(v+1):=ax (by omega) (by omega)
 have e5:shl .i64 v 6=v*64:=by
  have:=g6 .i64 v 6 (by decide);rw[show((6:Nat):Int)=6 from rfl]at this;rw[this];exact ax (by omega) (by omega)
 simp only[AP,iK,fT,aq,e1,e2,e3,e4,e5];grind
theorem N6:Jv.Ok Tryz.prog 337:=
 bY mixed aE func337 (by kernel_rfl) call337 (fun x_ y_=>Ju x_.1 y_.1 y_.2.1 y_.2.2.1 y_.2.2.2.1) (fun x_ y_=>FT x_.1 y_.1 y_.2.1 y_.2.2.1 y_.2.2.2.1) (fun x_ y_ h=>N5 x_.1 y_.1 y_.2.1 y_.2.2.1 y_.2.2.2.1 h)
def uA(r:RH)(d:Int×Int×Int):Int×Int×Int×Int×Int:=bF ((List.take 2 (List.drop 0 r.cs)).getD r.bh.toNat 0) d
abbrev FU:Type:=Int×RH×(List Int)×(List Int)×(List Int)×(Int×Int×Int)
abbrev aaz(x:FU):LV:=LV.one (VV.sc (SV.int i64 (SI.sym x.1)))
abbrev aaA(x:FU):List (Nat×Ev.Item):= [(0,jRd.wr x.2.1),(1,Item.bm [SV.sl 2 1] 332),(2,Item.own 1 (Ty.int
 u16) x.2.2.1),(3,Item.bm [SV.sl 4 1] 332),(4,Item.own 1 (Ty.int u16) x.2.2.2.1),(5,Item.bm [SV.sl 6 1] 332),(6,Item.own 1
 (Ty.int u16) x.2.2.2.2.1),(7,NM.wr x.2.2.2.2.2)]
def N7(r:RH)(p1:List Int)(p2:List Int)(p3:List Int)(d:Int×Int×Int):Tr (FU):=(.ite (r.part==0) (.need (0
 ≤r.bh∧r.bh<2) (.need (qV ((List.take 2 (List.drop 0 r.cs)).getD r.bh.toNat 0) d) (.need (0≤r.bh∧r.bh<2) (.ret ((uA r d).fst,{cs:=r.cs.set (0+r.bh.toNat) (uA r d).snd.fst,bh:=r.bh,part:=r.part,node:=r.node,t:=r.t},
 p1,p2,p3,(uA r d).snd.snd))))) (.ite (r.part==4) (.need (AL d) (.ret ((dy d).fst,r,p1,p2,p3,(dy d).snd))) (.ite (decide
 (r.part=1)) (.need (fQ r p1 p2 p3) (.need (gU p1) (.need (qV (kf p1 r.node) d) (.need (gU p1) (.ret ((bF (kf p1 r.node) d).fst,
 r,dA p1 r.node (bF (kf p1 r.node) d).fst,p2,p3,(bF (kf p1 r.node) d).snd.snd)))))) (.ite (decide (r.part=2)) (.need (fQ r p1 p2
 p3) (.need (gU p2) (.need (qV (kf p2 r.node) d) (.need (gU p2) (.ret ((bF (kf p2 r.node) d).fst,r,p1,dA p2 r.node (bF (kf p2
 r.node) d).fst,p3,(bF (kf p2 r.node) d).snd.snd)))))) (.need (fQ r p1 p2 p3) (.need (gU p3) (.need (qV (kf p3 r.node) d) (.need
 (gU p3) (.ret ((bF (kf p3 r.node) d).fst,r,p1,p2,dA p3 r.node (bF (kf p3 r.node) d).fst,(bF (kf p3 r.node) d).snd.snd))))))))))
theorem N8(r:RH)(p1:List Int)(p2:List Int)(p3:List Int)(d:Dc):aT Tryz.prog [(348,Se),(346,akS),(347,aaw),(262,UO),(263,EU)] [] f335 (((ak (ah (aP 0 0)) (ak (ah (aP 7 0)) ag))).wr (())) ((Jp).wr (r,p1,p2,p3,d,())) [.one 2,.one 4,.one 6,.fr [.sym],.syms,.auto,.aN]=(N7 r p1 p2 p3 d).end aaz aaA ((Jp).wr (r,p1,p2,p3,d,())):=by kernel_rfl
theorem Vw(r:RH)(p1:List Int)(p2:List Int)(p3:List Int)(d:Dc):aO Tryz.prog ((Jp).wr (r,p1,p2,p3,d,())) [] (aG f335):=(aO.nil _)
def gW(r:RH)(p1 p2 p3:List Int)(d:Dc):Int×RH×List Int×List Int×List Int×Dc:=
 if r.part=0 then
  let x:=bF (r.cs.getD r.bh.toNat 0) d
  (x.1,⟨r.cs.set r.bh.toNat x.2.1,r.bh,r.part,r.node,r.t⟩,p1,p2,p3,x.2.2)
 else if r.part=4 then((dy d).1,r,p1,p2,p3,(dy d).2)
 else if r.part=1 then
  let x:=bF (kf p1 r.node) d
  (x.1,r,dA p1 r.node x.1,p2,p3,x.2.2)
 else if r.part=2 then
  let x:=bF (kf p2 r.node) d
  (x.1,r,p1,dA p2 r.node x.1,p3,x.2.2)
 else
  let x:=bF (kf p3 r.node) d
  (x.1,r,p1,p2,dA p3 r.node x.1,x.2.2)
abbrev AR(r:RH)(p1:List Int)(p2:List Int)(p3:List Int)(d:Dc):Prop:=r.cs.length=2∧(r.bh=0∨r.bh=1)∧gU p1∧gU p2∧gU p3∧xO d
abbrev N9(r:RH)(p1:List Int)(p2:List Int)(p3:List Int)(d:Dc):FU:=gW r p1 p2 p3 d
def aaB:ar:=dm [] ((ak (ah (aP 0 0)) (ak (ah (aP 7 0)) ag))) (Jp) (fun x_ y_=>AR y_.1 y_.2.1 y_.2.2.1 y_.2.2.2.1 y_.2.2.2.2.1) (fun x_ y_=>N9 y_.1 y_.2.1 y_.2.2.1 y_.2.2.2.1 y_.2.2.2.2.1) aaz aaA
theorem aaC(r:RH)(p1:List Int)(p2:List Int)(p3:List Int)(d:Dc)(h_:AR r p1 p2 p3 d):(N7 r p1 p2 p3 d).Is (N9 r p1 p2 p3 d):=by
 delta N9;obtain⟨h1,h2,h3,h4,h5,h6⟩:=h_;have e1:(List.take 2 (List.drop 0 r.cs)).getD r.bh.toNat 0=r.cs.getD r.bh.toNat 0:=by rw[List.drop_zero,List.take_of_length_le (by omega)]
 have ea:uA r d=bF (r.cs.getD r.bh.toNat 0) d:=by unfold uA;rw[e1]
 have hb:0≤r.bh∧r.bh<2:=by omega
 simp only[N7,gW,fT,bl,ao,aq,e1,ea,Nat.zero_add];refine⟨fun e=>⟨hb,h6,hb,by rw[if_pos e]⟩,fun e=>?_⟩;rw[if_neg e];refine⟨fun e2=>⟨h6,by rw[if_pos e2]⟩,fun e2=>?_⟩;rw[if_neg e2];refine⟨fun e3=>⟨trivial,h3,h6,h3,by rw[if_pos e3]⟩,fun e3=>?_⟩;rw[if_neg e3];refine⟨fun e4=>⟨trivial,h4,h6,h4,by rw[if_pos e4]⟩,fun e4=>?_⟩;rw[if_neg e4];exact⟨trivial,h5,h6,h5,rfl⟩
theorem aaD:aaB.Ok Tryz.prog 335:=
 bY mixed ((aj Vt (aj ag3 (aj aay (aj z9 (aj Aa aE)))))) func335 (by kernel_rfl) call335 (fun x_ y_=>Vw y_.1 y_.2.1 y_.2.2.1 y_.2.2.2.1 y_.2.2.2.2.1) (fun x_ y_=>N8 y_.1 y_.2.1 y_.2.2.1 y_.2.2.2.1 y_.2.2.2.2.1) (fun x_ y_ h=>aaC y_.1 y_.2.1 y_.2.2.1 y_.2.2.2.1 y_.2.2.2.2.1 h)
def cQ:List Int→Dc→Bool×List Int×Dc
 | [],d=>(decide (d.2.2≤0),[],d)
 |x::r,d=>if 0<d.2.2 then cQ r (kV d x)else(true,x::r,d)
theorem Jw{d:Dc}(h:xO d){b:Int}(hb:By b):xO (kV d b):=by
 obtain⟨h1,h2,h3,h4⟩:=h;obtain⟨h5,h6⟩:=hb;unfold kV
 split
 ·exact⟨h1,h2,h3,h4⟩
 ·exact⟨by simp only;omega,h2,h3,by simp only;omega⟩
theorem Jx:∀ (b:List Int) (d:Dc),xO d→al b→xO (cQ b d).2.2∧al (cQ b d).2.1∧(cQ b d).2.1.length≤b.length∧((cQ b d).1=true→(cQ b d).2.2.2.2=0)
 | [],d,h,hb=>by
  refine⟨h,hb,Nat.le_refl _,fun e=>?_⟩;have:=h.2.2.2;simp only[cQ,decide_eq_true_eq]at e ⊢;omega
 |x::r,d,h,hb=>by
  have hr:al r:=fun z hz=>hb z (by simp[hz]);unfold cQ
  split
  ·have:=Jx r (kV d x) (Jw h (hb x (by simp))) hr;exact⟨this.1,this.2.1,by rw[List.length_cons];omega,this.2.2.2⟩
  ·have:=h.2.2.2;exact⟨h,hb,Nat.le_refl _,fun _=>by simp only;omega⟩
def cL(b:List Int)(d:Dc):Bool×List Int×Dc:=if(cQ b d).1=true then(!xP (cQ b d).2.2,(cQ b d).2.1,(cQ b d).2.2)else(false,[],(cQ b d).2.2)
abbrev AS:Type:=(List Int)×(Int×Int×Int)
abbrev AT:aW St AS:=(bD (ak (ah (aP (0) (0))) (ae (ah (e9 false false (Ty.int IntKind.u8))) (jk 20 ag)))
 (ae (dF NM) ag)).nH (fun y=>(y.1.1,y.2.1)) (fun x=>((x.1,()),(x.2,()))) (fun _=>rfl)
abbrev Oa:List Wk:= [.fr (dK 22 [(0,.an),(1,.an)]),.syms,.auto,.aN]
abbrev aaE:Exit→List Wk:=Di Oa 0 [.fr (dK 22 [(0,.an),(1,.an)]),.syms,.auto,.aN] [.fr (dK 22 [(4,.an),(5,.an)]),
 .syms,.auto,.aN]
abbrev FV:Type:=Bool×(Int×Int×Int)
abbrev Si(x:FV):Exit×St:=(Exit.ret,⟨(jK 4 (LV.one (VV.sc (SV.g9 (Value.slice none 0 0)))::(LV.one (VV.sc (SV.bool
 (SB.sym x.1)))::(jK 16 [])))),[some (NM.wr x.2)]⟩)
abbrev FW:Type:=(List Int)×(Int×Int×Int)
abbrev Sj(x:FW):Exit×St:=(Exit.exit 0,⟨(LV.one (VV.sc (SV.ptr 0 0))::(LV.one (VV.sc (SV.rd false false (Ty.int
 IntKind.u8) x.1))::(jK 20 []))),[some (NM.wr x.2)]⟩)
def AU(b':List Int)(d':Int×Int×Int):Tr (AS⊕(FV⊕FW)):=(.need (um d') (.ite (decide (0<
 d'.snd.snd)) (.ite ((↑b'.length:Int)==0) (.ret (.inr (.inl (false,d')))) (.need ((0:Int)≤0∧0<(↑b'.length:Int)) (.need (AI (b'.getD
 0 0) d') (.need ((0:Int)≤1∧1≤(↑b'.length:Int)∧(↑b'.length:Int)≤(↑b'.length:Int)) (.ret (.inl (List.take ((↑b'.length:Int)-
 1).toNat (List.drop 1 b'),kV d' (b'.getD 0 0)))))))) (.ret (.inr (.inr (b',d'))))))
theorem Ob(b:List Int)(d:Dc)(b':List Int)(d':Int×Int×Int):ee Tryz.prog [(332,FH),(333,NS),(334,NW)] [] f317 0 ((mZ).wr (d,())) aaE (AT.wr (b',d'))=(AU b' d').res AT.wr (Sum.elim Si Sj):=by kernel_rfl
abbrev AV(b':List Int)(d':Int×Int×Int):Prop:=xO d'∧al b'∧b'.length<1099511627776
abbrev Oc(b':List Int)(d':Int×Int×Int):Bool:= !(cQ b' d').1
abbrev Od(b':List Int)(d':Int×Int×Int):FV:=(false,(cQ b' d').2.2)
abbrev Oe(b':List Int)(d':Int×Int×Int):FW:=((cQ b' d').2.1,(cQ b' d').2.2)
abbrev Of:AS→aZ:=sj (fun x_=>AV x_.1 x_.2) (fun x_=>Oc x_.1 x_.2) (fun x_=>Od x_.1 x_.2) (fun x_=>Oe x_.1 x_.2) Si Sj
theorem aaF(b':List Int)(d':Int×Int×Int)(h_:AV b' d'):dO (fun x_:AS=>AU x_.1 x_.2) (b',d') (bif Oc b' d' then .inl (Od b' d')else .inr (Oe b' d')):=by
 delta Oc Od Oe;obtain⟨h1,h2,h3⟩:=h_
 induction b' generalizing d' with
 |nil=>
  refine .stop ?_;simp only[AU,bl,ao,aq,fT,cQ,List.length_nil];refine⟨trivial,fun h=>⟨fun _=>?_,fun h=>absurd rfl h⟩,fun h=>?_⟩
  ·rw[decide_eq_false (by omega)];rfl
  ·rw[decide_eq_true (by omega)];rfl
 |cons x r ih=>
  have hr:al r:=fun z hz=>h2 z (by simp[hz]);have hx:By x:=h2 x (by simp);rw[List.length_cons]at h3
  by_cases hn:0<d'.2.2
  ·have Dj:=ih (kV d' x) (Jw h1 hx) hr (by omega);rw[cQ,if_pos hn];refine .go ?_ Dj;simp only[AU,bl,ao,aq,fT,List.length_cons];refine⟨trivial,fun h=>⟨fun h=>by omega,fun _=>⟨⟨by omega,by omega⟩,⟨h1,hx⟩,⟨by omega,by omega,by omega⟩,?_⟩⟩,fun h=>absurd hn h⟩;have e:(((r.length+1:Nat):Int)-1).toNat=r.length:=(by omega);rw[e];simp
  ·rw[cQ,if_neg hn];refine .stop ?_;simp only[AU,bl,ao,aq,fT];exact⟨trivial,fun h=>absurd h hn,fun _=>rfl⟩
theorem Vx(b:List Int)(d:Dc):∀x:AS,Ex Tryz.prog ((mZ).wr (d,())) (.loop (aV f317 0)) (AT.wr x) (Of x):=
 du mixed ((aj AH (aj Jm (aj Jn aE)))) (ws:=aaE) (aO.nil _) (fun x_=>Ob b d x_.1 x_.2) (fun z=>by cases z<;>(intro e;cases e)) wy (fun x_ h=>aaF x_.1 x_.2 h)
def aaG(b:List Int)(d:Int×Int×Int):Int×Int×Int:=(cQ b d).snd.snd
abbrev Sk:Type:=(List Int)×Bool×(Int×Int×Int)
abbrev akT(x:Sk):LV:=LV.cT [VV.sc (SV.rd false false (Ty.int IntKind.u8) x.1),VV.sc (SV.bool (SB.sym x.2.1))]
abbrev akU(x:Sk):List (Nat×Ev.Item):= [(0,NM.wr x.2.2)]
def aaH(b:List Int)(d:Int×Int×Int):Tr (Sk):=(.need (AV b d) (.ite (!(cQ b d).fst) (.ret ([],false,(cQ b
 d).snd.snd)) (.need (AJ (aaG b d)) (.ret ((cQ b d).snd.fst,!xP (aaG b d),(cQ b d).snd.snd)))))
theorem Vy(b:List Int)(d:Dc):aT Tryz.prog [(332,FH),(333,NS),(334,NW)] [(0,cV AT ((mZ).wr (d,())) Oa (Of))] f317 (((ak (ah (aP 0 0)) (ae (ah (e9 false false u8)) ag))).wr (b,())) ((mZ).wr (d,())) [.fr [.rd false u8],.fr [.sym],.syms,.auto,.aN]=(aaH b d).end akT akU ((mZ).wr (d,())):=by kernel_rfl
theorem aaI(b:List Int)(d:Dc):aO Tryz.prog ((mZ).wr (d,())) [(0,cV AT ((mZ).wr (d,())) Oa (Of))] (aG f317):=(aO.cU (nJ (by kernel_rfl) (cJ (hp:=(mZ).wr (d,())) (Vx b d)) oI))
abbrev FY(b:List Int)(d:Dc):Prop:=xO d∧al b∧b.length<1099511627776
abbrev aaJ(b:List Int)(d:Dc):Sk:=((cL b d).2.1,(cL b d).1,(cL b d).2.2)
def akV:ar:=dm [] ((ak (ah (aP 0 0)) (ae (ah (e9 false false u8)) ag))) (mZ) (fun x_ y_=>FY x_.1 y_.1) (fun x_ y_=>aaJ x_.1 y_.1) akT akU
theorem ag4(b:List Int)(d:Dc)(h_:FY b d):(aaH b d).Is (aaJ b d):=by
 delta aaJ;simp only[aaH,cL,ao,fU,aq];refine⟨h_,fun h=>?_,fun h=>?_⟩
 ·rw[if_pos h];exact⟨trivial,rfl⟩
 ·rw[if_neg (by simp[h])]
theorem ag5:akV.Ok Tryz.prog 317:=
 bY mixed ((aj AH (aj Jm (aj Jn aE)))) func317 (by kernel_rfl) call317 (fun x_ y_=>aaI x_.1 y_.1) (fun x_ y_=>Vy x_.1 y_.1) (fun x_ y_ h=>ag4 x_.1 y_.1 h)
def kW(part:Int):Int:=if part=0 then 2 else if part=1∨part=2 then 256 else 64
theorem Jy(part:Int):shl .i64 1 (uq part)=kW part:=by
 unfold uq kW
 split
 ·exact nN 1 (by omega)
 ·split
  ·exact nN 8 (by omega)
  ·exact nN 6 (by omega)
theorem size_pos(part:Int):0≤uq part:=by unfold uq;split<;>(try split)<;>omega
structure ROk (r:RH):Prop where
 len:r.cs.length=2
 bh:r.bh=0∨r.bh=1
 part:0≤r.part∧r.part≤4
 node:1≤r.node∧r.node<kW r.part
 ayZ:0≤r.t.2.1∧r.t.2.1≤4096
 tb:0≤r.t.2.2∧r.t.2.2<256
 p4:r.part=4→r.t.2.1≤4032
theorem qX(p:Int)(d:Dc):0≤(bF p d).1∧(bF p d).1≤1:=by
 unfold bF iJ
 split
 ·simp only;split<;>simp
 ·simp
theorem Jz(d:Dc):0≤(dy d).1∧(dy d).1≤1:=by
 unfold dy iJ
 split
 ·split<;>simp
 ·simp
theorem wO(r:RH)(p1 p2 p3:List Int)(d:Dc):(gW r p1 p2 p3 d).2.1.bh=r.bh∧(gW r p1 p2 p3 d).2.1.part=r.part∧(gW r p1 p2 p3 d).2.1.node=r.node∧(gW r p1 p2 p3 d).2.1.t=r.t∧(gW r p1 p2 p3 d).2.1.cs.length=r.cs.length∧0≤(gW r p1 p2 p3 d).1∧(gW r p1 p2 p3 d).1≤1:=by
 have h:=Jz d;unfold gW
 split
 ·have:=qX (r.cs.getD r.bh.toNat 0) d;exact⟨rfl,rfl,rfl,rfl,by simp,this⟩
 ·split
  ·exact⟨rfl,rfl,rfl,rfl,rfl,h⟩
  ·split
   ·exact⟨rfl,rfl,rfl,rfl,rfl,qX _ d⟩
   ·split
    ·exact⟨rfl,rfl,rfl,rfl,rfl,qX _ d⟩
    ·exact⟨rfl,rfl,rfl,rfl,rfl,qX _ d⟩
def fI(r:RH)(p1 p2 p3:List Int)(d:Dc):(dc×Bool)×RH×List Int×List Int×List Int×Dc:=
 let x:=gW r p1 p2 p3 d
 let n:=2*r.node+x.1
 if n<kW r.part then(((0,0,0),false),⟨x.2.1.cs,r.bh,r.part,n,r.t⟩,x.2.2)
 else
  let y:=iK ⟨x.2.1.cs,r.bh,r.part,1,r.t⟩ (n-kW r.part)
  if y.1=true then((y.2.t,true),y.2,x.2.2)else(((0,0,0),false),y.2,x.2.2)
theorem Dp(part:Int):2≤kW part∧kW part≤256:=by unfold kW;split<;>(try split)<;>omega
theorem Vz{r:RH}(h:ROk r){v:Int}(h0:0≤v)(h1:v<kW r.part)(hn:r.node=1):ROk (iK r v).2:=by
 obtain⟨k1,k2,k3,k4,k5,k6,k7⟩:=h;unfold iK
 split
 ·rename_i e;rw[e]at h1;have h1:v<2:=h1;refine⟨k1,by simp only;omega,by simp only;split<;>omega,?_,by simp,by simp,by simp⟩;simp only
  split<;>(rw[hn];decide)
 ·split
  ·rename_i e;rw[e]at h1;have h1:v<256:=h1;exact⟨k1,k2,by simp,by simp only[hn];decide,k5,⟨h0,h1⟩,by simp⟩
  ·split
   ·rename_i e;exact⟨k1,k2,by simp,by simp only[hn];decide,k5,k6,by simp⟩
   ·split
    ·rename_i e;rw[e]at h1;have h1:v<64:=h1;exact⟨k1,k2,by simp,by simp only[hn];decide,by simp only;omega,k6,by simp only;omega⟩
    ·rename_i e1 e2 e3 e4;have e5:r.part=4:=(by omega);rw[e5]at h1;have h1:v<64:=h1;have:=k7 e5;exact⟨k1,k2,by simp,by simp only[hn];decide,by simp only;omega,k6,by simp⟩
theorem JA{r:RH}(h:ROk r)(p1 p2 p3:List Int)(d:Dc):ROk (fI r p1 p2 p3 d).2.1:=by
 obtain⟨h1,h2,h3,h4,h5,h6,h7⟩:=wO r p1 p2 p3 d;have hc:=Dp r.part;have hr:=h;obtain⟨k1,k2,k3,k4,k5,k6,k7⟩:=h;unfold fI;simp only
 split
 ·rename_i e;exact⟨by simp only;omega,k2,k3,by simp only;omega,k5,k6,k7⟩
 ·have:=Vz (r:=⟨(gW r p1 p2 p3 d).2.1.cs,r.bh,r.part,1,r.t⟩) ⟨by simp only;omega,k2,k3,by simp only;omega,k5,k6,k7⟩ (v:=2*r.node+(gW r p1 p2 p3 d).1-kW r.part) (by omega) (by simp only;omega) rfl
  split<;>exact this
def a6(r:RH)(p1:List Int)(p2:List Int)(p3:List Int)(d:Int×Int×Int):Int×RH×List Int×List Int×List Int×
 Int×Int×Int:=gW r p1 p2 p3 d
def iL(r:RH)(p1:List Int)(p2:List Int)(p3:List Int)(d:Int×Int×Int):Int:=i64.wrap (i64.wrap
 (i64.wrap (2*r.node)+(a6 r p1 p2 p3 d).fst)-shl i64 1 (uq (a6 r p1 p2 p3 d).snd.fst.part))
def uB(r:RH)(p1:List Int)(p2:List Int)(p3:List Int)(d:Int×Int×Int):Int×Int×Int:=(a6 r p1 p2 p3
 d).snd.fst.t
def iM(r:RH)(p1:List Int)(p2:List Int)(p3:List Int)(d:Int×Int×Int):RH:= {cs:=(a6 r p1 p2 p3 d).snd.fst.cs,bh:=(a6 r p1 p2 p3 d).snd.fst.bh,part:=(a6 r p1 p2 p3 d).snd.fst.part,node:=1,t:=uB r p1 p2 p3 d}
abbrev yE:Type:=Int×Int×Int×Bool×RH×(List Int)×(List Int)×(List Int)×(Int×Int×Int)
abbrev Sl(x:yE):LV:=LV.cT [VV.agg [SV.int i64 (SI.sym x.1),SV.int i64 (SI.sym x.2.1),SV.int
 IntKind.u8 (SI.sym x.2.2.1)],VV.sc (SV.bool (SB.sym x.2.2.2.1))]
abbrev Sm(x:yE):List (Nat×Ev.Item):= [(0,jRd.wr x.2.2.2.2.1),(1,Item.bm [SV.sl 2 1] 332),(2,Item.own 1 (Ty.int
 u16) x.2.2.2.2.2.1),(3,Item.bm [SV.sl 4 1] 332),(4,Item.own 1 (Ty.int u16) x.2.2.2.2.2.2.1),(5,Item.bm [SV.sl 6 1] 332),(6,
 Item.own 1 (Ty.int u16) x.2.2.2.2.2.2.2.1),(7,NM.wr x.2.2.2.2.2.2.2.2)]
def FZ(r:RH)(p1:List Int)(p2:List Int)(p3:List Int)(d:Int×Int×Int):Tr (yE):=(.need (AR r p1 p2 p3
 d) (.need ((Out.leaf none (LV.one (VV.sc (SV.int i64 (SI.sym (a6 r p1 p2 p3 d).snd.fst.node)))) [],[0])=(Out.leaf none (LV.one (VV.sc
 (SV.int i64 (SI.sym r.node)))) [],[0])) (.need (wN {cs:=(a6 r p1 p2 p3 d).snd.fst.cs,bh:=(a6 r p1 p2 p3 d).snd.fst.bh,part:=(a6 r p1 p2 p3 d).snd.fst.part,node:=i64.wrap (i64.wrap (2*r.node)+(a6 r p1 p2 p3 d).fst),t:=uB r p1 p2 p3 d}
 (a6 r p1 p2 p3 d).snd.snd.fst (a6 r p1 p2 p3 d).snd.snd.snd.fst (a6 r p1 p2 p3 d).snd.snd.snd.snd.fst) (.need (0≤uq (a6 r
 p1 p2 p3 d).snd.fst.part) (.ite (decide (i64.wrap (i64.wrap (2*r.node)+(a6 r p1 p2 p3 d).fst)<shl i64 1 (uq
 (a6 r p1 p2 p3 d).snd.fst.part))) (.ret (0,0,0,false,{cs:=(a6 r p1 p2 p3 d).snd.fst.cs,bh:=(a6 r p1 p2 p3 d).snd.fst.bh,part:=(a6 r p1 p2 p3 d).snd.fst.part,node:=i64.wrap (i64.wrap (2*r.node)+(a6 r p1 p2 p3 d).fst),t:=(a6 r p1 p2 p3 d).snd.fst.t},
 (a6 r p1 p2 p3 d).snd.snd.fst,(a6 r p1 p2 p3 d).snd.snd.snd.fst,(a6 r p1 p2 p3 d).snd.snd.snd.snd.fst,(a6 r p1 p2 p3
 d).snd.snd.snd.snd.snd)) (.need (so (iL r p1 p2 p3 d) (iM r p1 p2 p3 d) (a6 r p1 p2 p3 d).snd.snd.fst (a6 r p1 p2 p3
 d).snd.snd.snd.fst (a6 r p1 p2 p3 d).snd.snd.snd.snd.fst) (.ite (!(iK (iM r p1 p2 p3 d) (iL r p1 p2 p3 d)).fst) (.ret (0,0,0,
 false,(iK (iM r p1 p2 p3 d) (iL r p1 p2 p3 d)).snd,(a6 r p1 p2 p3 d).snd.snd.fst,(a6 r p1 p2 p3 d).snd.snd.snd.fst,
 (a6 r p1 p2 p3 d).snd.snd.snd.snd.fst,(a6 r p1 p2 p3 d).snd.snd.snd.snd.snd)) (.ret ((iK (iM r p1 p2 p3 d) (iL r p1 p2 p3
 d)).snd.t.fst,(iK (iM r p1 p2 p3 d) (iL r p1 p2 p3 d)).snd.t.snd.fst,(iK (iM r p1 p2 p3 d) (iL r p1 p2 p3
 d)).snd.t.snd.snd,true,(iK (iM r p1 p2 p3 d) (iL r p1 p2 p3 d)).snd,(a6 r p1 p2 p3 d).snd.snd.fst,(a6 r p1 p2 p3
 d).snd.snd.snd.fst,(a6 r p1 p2 p3 d).snd.snd.snd.snd.fst,(a6 r p1 p2 p3 d).snd.snd.snd.snd.snd)))))))))
theorem JB(r:RH)(p1:List Int)(p2:List Int)(p3:List Int)(d:Dc):aT Tryz.prog [(335,aaB),(336,Sh),(337,Jv)] [] f318 (((ak (ah (aP 0 0)) (ak (ah (aP 7 0)) ag))).wr (())) ((Jp).wr (r,p1,p2,p3,d,())) [.one 2,.one 4,.one 6,.fr [.sym],.syms,.auto,.aN]=(FZ r p1 p2 p3 d).end Sl Sm ((Jp).wr (r,p1,p2,p3,d,())):=by kernel_rfl
theorem Og(r:RH)(p1:List Int)(p2:List Int)(p3:List Int)(d:Dc):aO Tryz.prog ((Jp).wr (r,p1,p2,p3,d,())) [] (aG f318):=(aO.nil _)
abbrev wP(r:RH)(p1:List Int)(p2:List Int)(p3:List Int)(d:Dc):Prop:=ROk r∧gU p1∧gU p2∧gU p3∧xO d
abbrev F2(r:RH)(p1:List Int)(p2:List Int)(p3:List Int)(d:Dc):yE:=((fI r p1 p2 p3 d).1.1.1,(fI r p1 p2 p3 d).1.1.2.1,(fI r p1 p2 p3 d).1.1.2.2,(fI r p1 p2 p3 d).1.2,(fI r p1 p2 p3 d).2)
def Sn:ar:=dm [] ((ak (ah (aP 0 0)) (ak (ah (aP 7 0)) ag))) (Jp) (fun x_ y_=>wP y_.1 y_.2.1 y_.2.2.1 y_.2.2.2.1 y_.2.2.2.2.1) (fun x_ y_=>F2 y_.1 y_.2.1 y_.2.2.1 y_.2.2.2.1 y_.2.2.2.2.1) Sl Sm
theorem VA(r:RH)(p1:List Int)(p2:List Int)(p3:List Int)(d:Dc)(h_:wP r p1 p2 p3 d):(FZ r p1 p2 p3 d).Is (F2 r p1 p2 p3 d):=by
 delta F2;obtain⟨hr,h3,h4,h5,h6⟩:=h_;obtain⟨b1,b2,b3,b4,b5,b6,b7⟩:=wO r p1 p2 p3 d;obtain⟨k1,k2,k3,k4,k5,k6,k7⟩:=hr;have hc:=Dp r.part;have ea:a6 r p1 p2 p3 d=gW r p1 p2 p3 d:=rfl;have w1:i64.wrap (2*r.node)=2*r.node:=ax (by omega) (by omega);have w2:i64.wrap (2*r.node+(gW r p1 p2 p3 d).1)=2*r.node+(gW r p1 p2 p3 d).1:=ax (by omega) (by omega);have w3:i64.wrap (2*r.node+(gW r p1 p2 p3 d).1-kW r.part)=2*r.node+(gW r p1 p2 p3 d).1-kW r.part:=ax (by omega) (by omega)
 have Ma:iL r p1 p2 p3 d=2*r.node+(gW r p1 p2 p3 d).1-kW r.part:=by
  unfold iL;rw[ea,b2,Jy,w1,w2,w3]
 have ea2:uB r p1 p2 p3 d=r.t:=by unfold uB;rw[ea,b4]
 have ea3:iM r p1 p2 p3 d=⟨(gW r p1 p2 p3 d).2.1.cs,r.bh,r.part,1,r.t⟩:=by
  unfold iM;rw[ea,b1,b2,ea2]
 simp only[FZ,fI,ao,bl,fU,aq,ea,Ma,ea2,ea3,b1,b2,b3,b4,w1,w2,Jy];refine⟨⟨k1,k2,h3,h4,h5,h6⟩,trivial,trivial,size_pos _,fun h=>by rw[if_pos h],fun h=>?_⟩;rw[if_neg h];refine⟨⟨by omega,by omega,k3.1,k3.2,by simp only;omega,by simp only;omega⟩,fun h1=>by rw[if_pos h1],fun h1=>by rw[if_neg (by simp[h1])]⟩
theorem VB:Sn.Ok Tryz.prog 318:=
 bY mixed ((aj aaD (aj Vv (aj N6 aE)))) func318 (by kernel_rfl) call318 (fun x_ y_=>Og y_.1 y_.2.1 y_.2.2.1 y_.2.2.2.1 y_.2.2.2.2.1) (fun x_ y_=>JB y_.1 y_.2.1 y_.2.2.1 y_.2.2.2.1 y_.2.2.2.2.1) (fun x_ y_ h=>VA y_.1 y_.2.1 y_.2.2.1 y_.2.2.2.1 y_.2.2.2.2.1 h)
end Go.Proofs.YtnbkagglkajbkaaGreat
end
noncomputable section
namespace Go.Proofs.YtnbkagglkajbkaaGreat
open Go Go.Ev Go.Lib Go.RowKit Go.Proofs.Tryz
open Go.IntKind (i64 signed u16 u64 wrap)
set_option maxHeartbeats 4000000
theorem VC(w:World):Calls Tryz.prog 85 #[.slice none 0 0,.int .i64 0] w fun e w'=>e= .returned (.slice none 0 0)∧w'=w:=by
 go_enter func85,ntmps85
 go_wp2
 go_ret
 exact⟨rfl,rfl⟩
theorem VD(n:Nat)(w:World)(h0:0<n)(h1:n≤140737488355328):Calls Tryz.prog 85 #[.slice none 0 0,.int .i64 n] w fun e w'=>
  e= .returned (.slice (some ⟨w.heap.size,0,none⟩) 0 (grownCap w n 0 5))∧
   w'=w.drew.alloc (.cells (#[]++Builtin.zeroCells (Value.int .u8 0).cells n++Builtin.zeroCells (Value.int .u8 0).cells (grownCap w n 0 5-n)) 5):=by
 have h2:¬ ((n:Int)<0):=by omega
 have h3:wrap64 ((0:Int)-(0:Int))=0:=by unfold wrap64;omega
 have h4:wrap64 ((n:Int)-0)=(n:Int):=by unfold wrap64;omega
 have h5:(n:Int)>0:=by omega
 have ay0:grownCap w n 0 5≤9223372036854775807:=by
  have:=grownCap_le_maxLen w n 0 5 (by unfold maxLen;omega);unfold maxLen at this;omega
 have hrz:∀ty,(Builtin.append_ #[27,3] ty #[.slice none 0 0,.int .i64 n]).run Tryz.prog w=
   .ok (.slice (some ⟨w.heap.size,0,none⟩) n (grownCap w n 0 5)) (w.drew.alloc (.cells (#[]++Builtin.zeroCells (Value.int .u8 0).cells n++Builtin.zeroCells (Value.int .u8 0).cells (grownCap w n 0 5-n)) 5)):=fun ty=>by
  have hi0:(Tryz.prog.info? 5).map (fun i=>(i.zero,i.size,i.bytes))=some (some (.int .u8 0),1,1):=by kernel_rfl
  obtain⟨i,hi,he⟩:=map_some hi0;have e1:i.zero=some (.int .u8 0):=congrArg Prod.fst he;have e2:i.size=1:=congrArg (fun x=>x.2.1) he;have e3:i.bytes=1:=congrArg (fun x=>x.2.2) he;have hb:n*i.bytes≤140737488355328:=by rw[e3];omega
  have h:=Lib.run_append_grow_zeros (P:=Tryz.prog) w 27 3 ty 5 i (.int .u8 0) .i64 .i64 (by kernel_rfl) (by kernel_rfl) hi e1 none 0 0 [] (run_firstCells_none w.drew i.size 0 0 0) n h0 (by omega) (by omega) (by omega) (by omega)
   (growslice_fits (need:=0+n) (old:=0) (by omega) (by rw[Nat.zero_add];exact hb))
  rw[Nat.zero_add]at h;exact h
 have hGn:n≤grownCap w n 0 5:=grownCap_ge w _ _ _;generalize grownCap w n 0 5=G at*
 go_enter func85,ntmps85
 go_wp2_with (at_builtin;refine Lib.wpList_append_run _ rfl _ _ _ _ rfl _ _ rfl rfl _ _ (hrz _) ?_)
 all_goals (go_ret;exact⟨rfl,rfl⟩)
def aaK:ar:=⟨[],fun args hp=>match args,hp with
 | [.one (.sc (.g9 (.slice none 0 0))),.one (.sc (.int .i64 n))],[]=>.leaf (some (0≤n.val∧n.val≤140737488355328)) (.one (.sc (.sl 0 0))) [(0,.own 0 (.int .u8) [])]
 |_,_=>.fail⟩
theorem ag7:aaK.Ok Tryz.prog 85:=by
 refine⟨fun args hp Q h=>iD.done call85 ?_⟩;simp only[aaK]at h
 split at h
 ·rename_i args hp n;obtain⟨⟨h0,h1⟩,hq⟩:=h;intro β w vals hh dM
  cases dM with
  |cons a1 t1=>
   cases t1 with
   |cons a2 t2=>
    cases t2
    rename_i v1 v2;obtain rfl:v1= .slice none 0 0:=a1.2;have e:v2= .int .i64 n.val:=a2;subst e;rcases Int.lt_or_le 0 n.val with hn|hn
    ·obtain⟨k,hk⟩:∃k:Nat,n.val=k:=⟨n.val.toNat,by omega⟩;rw[hk]at h0 h1 hn ⊢;refine(VD k w (by omega) (by omega)).mono ?_
     rintro e w' ⟨rfl,rfl⟩
     have hGn:k≤grownCap w k 0 5:=grownCap_ge w _ _ _;generalize grownCap w k 0 5=G at*;generalize hcs:(#[]++Builtin.zeroCells (Value.int .u8 0).cells k++Builtin.zeroCells (Value.int .u8 0).cells (G-k))=cs
     have hlen:cs.toList.length=G:=by
      rw[← hcs];simp[Builtin.zeroCells,Value.cells];omega
     have hdr:a9 w [] β β [] w.drew:=hh.drew _ _
     obtain⟨β',k1,k2,k3⟩:=hdr.rY (id:=0) rfl (v:=.slice (some ⟨w.heap.size,0,none⟩) 0 G) (ver:=0) (t:=.int .u8) (l:= []) (w':=w.drew.alloc (.cells cs 5)) (by simp) rfl rfl (fun b hb=>heap_alloc_old w.drew _ hb)
      ⟨_,_,_,rfl,rfl,Nat.zero_le _,fun e=>(by cases e),fun _=>⟨_,[],[],cs.toList,5,(0,0),rfl,rfl,by simpa using heap_alloc_new w.drew (.cells cs 5),rfl,.nil,by simp[Ty.w,hlen],.inl rfl⟩⟩
      (fun a n c e _=>by cases e;exact Nat.le_refl _)
     exact⟨_,β',_,_,rfl,⟨_,hq,rfl⟩,⟨rfl,0,by rw[show aF _ []=setAt [] 0 _ from rfl,dk,if_pos rfl];rfl,Nat.le_refl _,fun _=>k3.symm⟩,k1⟩
    ·have CA:n.val=0:=(by omega);rw[CA];refine(VC w).mono ?_
     rintro e w' ⟨rfl,rfl⟩
     obtain⟨β',k1,k2,k3⟩:=hh.MQ (.int .u8);exact⟨_,β',_,_,rfl,⟨_,hq,rfl⟩,k3,k1⟩
 ·exact h.elim
end Go.Proofs.YtnbkagglkajbkaaGreat
end
