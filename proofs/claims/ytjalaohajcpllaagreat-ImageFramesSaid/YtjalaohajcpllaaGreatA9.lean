/- What the laws lean on, part 9: a reader of code, plain facts, and what each function gives; no conditions. -/
import Derived.Test.YtjalaohajcpllaaGreatA8
section
set_option linter.unusedVariables false
set_option linter.unusedSimpArgs false
namespace Go.Proofs.YtjalaohajcpllaaGreat
open Go Go.Ev
set_option maxRecDepth 1000000
abbrev xI:Type:=Int×Int×(List Int)
noncomputable abbrev xJ:a9 St xI:=(bH (jk 3 (ak (ah (aJ (0) (0))) (jk 12 (ae (ah (ay IntKind.i64)) (ae (ah (ay
 IntKind.i64)) (jk 10 ag)))))) (ak (dN (213) ((ak (jY (1) (0)) ag))) (ae (cg (0) (Ty.int IntKind.u16)) ag))).jQ (fun y=>(y.1.1,
 y.1.2.1,y.2.1)) (fun x=>((x.1,(x.2.1,())),(x.2.2,()))) (fun _=>rfl)
abbrev GJ:List Wk:= [.fr (cK 28 [(3,.an),(16,.an),(17,.an)]),.syms,.auto,.ax]
abbrev abr:Exit→List Wk:=qI GJ 0 [.fr (cK 28 [(3,.an)]),.syms,.auto,.ax] [.fr (cK 28 [(2,.an)]),.syms,.auto,.ax]
abbrev abt:Type:=List Int
noncomputable abbrev GK (x:abt):Exit×St:=(Exit.exit 0,⟨(eE 3 (LV.one (VV.sc (SV.ptr 0 0))::(eE 24 []))),[some (Item.a8 [SV.sl 1
 0] 213),some (Item.own 0 (Ty.int IntKind.u16) x)]⟩)
noncomputable def xK (n:Int) (i:Int) (p:List Int):Tr (xI⊕(abt)):=(.ite (decide (i<n)) (.need (0≤i∧i<(↑p.length:Int))
 (.ret (.inl (n,IntKind.i64.wrap (i+1),p.set i.toNat 1024)))) (.ret (.inr (p))))
theorem OK (b:Int) (n:Int) (i:Int) (p:List Int):c8 Tryz.prog [] [] Tryz.f118 0 ((ag).wr (())) abr (xJ.wr (n,i,p))=(xK n i p).res xJ.wr GK:=by kernel_rfl
abbrev uN (n:Int) (i:Int) (p:List Int):Prop:=i=0∧p=List.replicate p.length 0∧p.length<1000000∧n=p.length
noncomputable abbrev GL (x_:xI):a6:= .need ((fun (n:Int) (i:Int) (p:List Int)=>uN n i p) x_.1 x_.2.1 x_.2.2) (.leaf (GK ((fun (n:Int) (i:Int) (p:List Int)=>List.replicate p.length 1024) x_.1 x_.2.1 x_.2.2)).1 (GK ((fun (n:Int) (i:Int) (p:List Int)=>List.replicate p.length 1024) x_.1 x_.2.1 x_.2.2)).2)
theorem abu (n:Int) (i:Int) (p:List Int) (h_:uN n i p):cJ (fun x_:xI=>xK x_.1 x_.2.1 x_.2.2) (n,i,p) (List.replicate p.length 1024):=by
 obtain ⟨rfl,h1,h2,rfl⟩:=h_
 generalize hm:p.length=m at*
 subst h1
 have hl: ∀ k,k≤m→(List.replicate k (1024:Int)++List.replicate (m-k) 0).length=m:=fun k hk=>by simp;omega
 have key:=cJ.iter (L:=fun x_:xI=>xK x_.1 x_.2.1 x_.2.2) (z:=List.replicate m 1024) (fun k=>((m:Int),(k:Int),List.replicate k 1024++List.replicate (m-k) 0)) m (fun k hk=>?_) ?_
 ·exact key
 ·simp only[xK,aN,ai,aj,hl k (by omega)]
  refine ⟨fun _=>⟨by omega,?_⟩,fun h=>by omega⟩
  rw[aq (by omega) (by omega),Int.toNat_natCast,List.set_append_right _ _ (by simp),List.length_replicate,Nat.sub_self,show m-k=(m-(k+1))+1 from by omega,List.replicate_succ,List.set_cons_zero,List.replicate_succ' (n:=k),List.append_assoc];rfl
 ·simp only[xK,aN,ai,aj,hl m (by omega),Nat.sub_self,List.replicate_zero,List.append_nil]
  exact ⟨fun h=>by omega,fun _=>trivial⟩
theorem Ws (b:Int): ∀ x:xI,Ex Tryz.prog ((ag).wr (())) (.loop (aU Tryz.f118 0)) (xJ.wr x) (GL x):=
 bT mixed aD (ws:=abr) (aP.nil _) (E:=GK) (L:=fun x_=>xK x_.1 x_.2.1 x_.2.2) (pre:=fun x_=>(fun (n:Int) (i:Int) (p:List Int)=>uN n i p) x_.1 x_.2.1 x_.2.2) (sp:=fun x_=>(fun (n:Int) (i:Int) (p:List Int)=>List.replicate p.length 1024) x_.1 x_.2.1 x_.2.2) (fun x_=>OK b x_.1 x_.2.1 x_.2.2) (fun z e=>by cases e) dc (fun x_ h=>abu x_.1 x_.2.1 x_.2.2 h)
def bx (k:Nat):List Int:=List.replicate (2 ^ k) 1024
noncomputable def lS (b:Int):Int:=if 1<if 8<b then 8 else b then if 8<b then 8 else b else 1
abbrev abv:Type:=List Int
noncomputable abbrev abw (x:abv):LV:=LV.one (VV.sc (SV.ptr 0 0))
noncomputable abbrev abx (x:abv):List (Nat×Ev.Item):= [(0,Item.a8 [SV.sl 1 0] 213),(1,Item.own 0 (Ty.int IntKind.u16) x)]
noncomputable def TG (b:Int):Tr (abv):=(.need (0≤lS b) (.need (shl IntKind.i64 1 (lS b)=shl IntKind.i64 1 (lS b)∧0≤shl
 IntKind.i64 1 (lS b)∧2*shl IntKind.i64 1 (lS b)≤70368744177664∧shl IntKind.i64 1 (lS b)≤70368744177664) (.need (uN
 (↑(List.replicate (shl IntKind.i64 1 (lS b)).toNat (0:Int)).length:Int) 0 (List.replicate (shl IntKind.i64 1 (lS b)).toNat (0:Int)))
 (.ret (List.replicate (List.replicate (shl IntKind.i64 1 (lS b)).toNat (0:Int)).length (1024:Int))))))
theorem Wt (b:Int):aY Tryz.prog [] [(0,aX xJ ((ag).wr (())) GJ (GL))] Tryz.f118 ((J2).wr (b,())) ((ag).wr (())) [.fr [.sym],.syms,.auto,.ax]=(TG b).end abw abx ((ag).wr (())):=by kernel_rfl
theorem aby (b:Int):aP Tryz.prog ((ag).wr (())) [(0,aX xJ ((ag).wr (())) GJ (GL))] (aH Tryz.f118):=(aP.cy (jr (by kernel_rfl) (bz (hp:=(ag).wr (())) (Ws b)) jH))
abbrev q6 (b:Int):Prop:=1≤b∧b≤8
noncomputable def alX:au:=au.bV [] (J2) (ag) fun x_ y_=> .leaf (some ((fun (b:Int)=>q6 b) x_.1)) (abw ((fun (b:Int)=>bx b.toNat) x_.1)) (abx ((fun (b:Int)=>bx b.toNat) x_.1))
theorem aiv (b:Int) (h_:q6 b):(TG b).Is (bx b.toNat):=by
 obtain ⟨h1,h2⟩:=h_
 have e0:(if 1<if 8<b then 8 else b then if 8<b then 8 else b else 1)=b:=by
  rw[if_neg (by omega: ¬ 8<b)];split<;>omega
 obtain ⟨k,rfl⟩: ∃ k:Nat,b=k:=⟨b.toNat,by omega⟩
 have h3:(2:Nat) ^ k≤256:=Nat.le_trans (Nat.pow_le_pow_right (by omega) (show k≤8 by omega)) (by decide)
 have e3:shl .i64 1 (k:Int)=((2 ^ k:Nat):Int):=lp k (by omega)
 simp only[TG,lS,ai,aj,e0,e3,bx,Int.toNat_natCast,List.length_replicate]
 generalize (2:Nat) ^ k=m at*
 exact ⟨by omega,⟨trivial,by omega,by omega,by omega⟩,⟨rfl,by rw[List.length_replicate],by rw[List.length_replicate];omega,by rw[List.length_replicate]⟩,trivial⟩
theorem aiw:alX.Ok Tryz.prog 118:=
 bM (tys:= []) (A:=J2) (H:=ag) (LT:=fun x_ y_=>(fun (b:Int)=> [(0,aX xJ ((ag).wr (())) GJ (GL))]) x_.1) (ks:= [.fr [.sym],.syms,.auto,.ax]) (V:=abw) (D:=abx) (T:=fun x_ y_=>TG x_.1) (pre:=fun x_ y_=>(fun (b:Int)=>q6 b) x_.1) (sp:=fun x_ y_=>(fun (b:Int)=>bx b.toNat) x_.1) mixed aD Tryz.func118 (by kernel_rfl) Tryz.call118 (fun x_ y_=>aby x_.1) (fun x_ y_=>Wt x_.1) (fun x_ y_ h=>aiv x_.1 h)
abbrev jT (i:Nat):a9 Ev.Item Unit:=tY 213 (ak (jY i 0) ag)
abbrev GM:Type:=(List Int)×Int×(List Int)×(List Int)×(List Int)
noncomputable abbrev GN (x:GM):LV:=LV.one (VV.agg [SV.arr (Ty.int IntKind.i64) 2 x.1,SV.int IntKind.i64 (SI.sym x.2.1),SV.ptr 0 0,
 SV.ptr 2 0,SV.ptr 4 0])
noncomputable abbrev GO (x:GM):List (Nat×Ev.Item):= [(0,Item.a8 [SV.sl 1 0] 213),(1,Item.own 0 (Ty.int IntKind.u16) x.2.2.1),(2,
 Item.a8 [SV.sl 3 0] 213),(3,Item.own 0 (Ty.int IntKind.u16) x.2.2.2.1),(4,Item.a8 [SV.sl 5 0] 213),(5,Item.own 0 (Ty.int IntKind.u16)
 x.2.2.2.2)]
noncomputable def GP:Tr (GM):=(.need (q6 8) (.need (q6 8) (.need (q6 6) (.ret ([1024,1024],0,bx 8,bx 8,bx
 6)))))
theorem KI:aY Tryz.prog [(118,alX)] [] Tryz.f84 ((ag).wr (())) ((ag).wr (())) [.fr [.sym],.syms,.auto,.ax,.lN 0 0 2 .i64]=(GP).end GN GO ((ag).wr (())):=by kernel_rfl
theorem OL:aP Tryz.prog ((ag).wr (())) [] (aH Tryz.f84):=(aP.nil _)
abbrev mM:Prop:=True
noncomputable def zO:au:=au.bV [] (ag) (ag) fun x_ y_=> .leaf (some (mM)) (GN (([1024,1024],0,bx 8,bx 8,bx 6))) (GO (([1024,1024],0,bx 8,bx 8,bx 6)))
theorem Wu (h_:mM):(GP).Is (([1024,1024],0,bx 8,bx 8,bx 6)):=by
 exact ⟨⟨by decide,by decide⟩,⟨by decide,by decide⟩,⟨by decide,by decide⟩,rfl⟩
theorem xL:zO.Ok Tryz.prog 84:=
 bM (tys:= []) (A:=ag) (H:=ag) (LT:=fun x_ y_=> []) (ks:= [.fr [.sym],.syms,.auto,.ax,.lN 0 0 2 .i64]) (V:=GN) (D:=GO) (T:=fun x_ y_=>GP) (pre:=fun x_ y_=>mM) (sp:=fun x_ y_=>([1024,1024],0,bx 8,bx 8,bx 6)) mixed ((ao aiw aD)) Tryz.func84 (by kernel_rfl) Tryz.call84 (fun x_ y_=>OL) (fun x_ y_=>KI) (fun x_ y_ h=>Wu h)
abbrev jSt (a b c:Nat):a9 Ev.Item (List Int×Int):=(tY 143 (ae (tM (.int .i64) 2) (ae (ay .i64) (ak (aJ a 0) (ak (aJ b 0) (ak (aJ c 0) ag)))))).jQ (fun x=>(x.1,x.2.1)) (fun y=>(y.1,y.2,())) (fun _=>rfl)
abbrev avF:a9 Ev.Item Int:=(tY 183 (ak (jY 8 0) (ae (ay .u64) ag))).jQ (fun x=>x.1) (fun w=>(w,())) (fun _=>rfl)
abbrev OM:=jSt 1 3 5
abbrev jT2:=jT 2
abbrev jT4:=jT 4
abbrev jT6:=jT 6
abbrev Bp:a9 Hp ((List Int×Int)×List Int×List Int×List Int×Int×List Int×Unit):=
 ae (bG (jSt 1 3 5)) (ak (bG (jT 2)) (ae (cg 0 (.int .u16)) (ak (bG (jT 4)) (ae (cg 0 (.int .u16)) (ak (bG (jT 6)) (ae (cg 0 (.int .u16)) (ae (bG avF) (ae (cg 0 u8) ag))))))))
abbrev Bq:Type:=Int×Int×(List Int×Int)×(List Int)×(List Int)×(List Int)×Int×(List Int)
noncomputable abbrev xM:a9 St Bq:=(bH (jk 1 (ak (ah (aJ (7) (0))) (jk 5 (ae (ah (ay IntKind.i64)) (ae (ah (ay
 IntKind.i64)) (jk 68 ag)))))) (ae (bG OM) (ak (dN (213) ((ak (jY (2) (1)) ag))) (ae (cg (1) (Ty.int IntKind.u16)) (ak
 (dN (213) ((ak (jY (4) (1)) ag))) (ae (cg (1) (Ty.int IntKind.u16)) (ak (dN (213) ((ak (jY (6) (1)) ag))) (ae (cg (1)
 (Ty.int IntKind.u16)) (ae (dN (183) ((ak (jY (8) (1)) (ae (ay IntKind.u64) ag)))) (ae (cg (1) (Ty.int IntKind.u8))
 ag)))))))))).jQ (fun y=>(y.1.1,y.1.2.1,y.2.1,y.2.2.1,y.2.2.2.1,y.2.2.2.2.1,y.2.2.2.2.2.1.1,y.2.2.2.2.2.2.1)) (fun x=>((x.1,(x.2.1,())),
 (x.2.2.1,(x.2.2.2.1,(x.2.2.2.2.1,(x.2.2.2.2.2.1,((x.2.2.2.2.2.2.1,()),(x.2.2.2.2.2.2.2,())))))))) (fun _=>rfl)
abbrev GQ:List Wk:= [.one 2,.one 4,.one 6,.one 8,.fr (cK 77 [(1,.an),(7,.an),(8,.an)]),.syms,.auto,.ax]
abbrev abz:Exit→List Wk:=qI GQ 0 [.one 2,.one 4,.one 6,.one 8,.fr (cK 77 []),.syms,.auto,.ax] [.one 2,.one 4,.one 6,.one 8,
 .fr (cK 77 []),.syms,.auto,.ax]
abbrev abA:Type:=(List Int×Int)×(List Int)×(List Int)×(List Int)×Int×(List Int)
noncomputable abbrev GR (x:abA):Exit×St:=(Exit.exit 0,⟨(eE 77 []),[some (OM.wr x.1),some (Item.a8 [SV.sl 2 1] 213),some
 (Item.own 1 (Ty.int IntKind.u16) x.2.1),some (Item.a8 [SV.sl 4 1] 213),some (Item.own 1 (Ty.int IntKind.u16) x.2.2.1),some (Item.a8 [SV.sl 6 1]
 213),some (Item.own 1 (Ty.int IntKind.u16) x.2.2.2.1),some (Item.a8 [SV.sl 8 1,SV.int IntKind.u64 (SI.sym x.2.2.2.2.1)] 183),some (Item.own 1
 (Ty.int IntKind.u8) x.2.2.2.2.2)]⟩)
noncomputable def Br (d:Int) (i:Int) (s':List Int×Int) (q1:List Int) (q2:List Int) (q3:List Int) (w':Int) (l':List Int):Tr
 (Bq⊕(abA)):=(.ite (decide (0≤i)) (.need (0≤i) (.need (uf (bg IntKind.i64 (shr IntKind.i64 d i) 1) w' l') (.ret (.inl (d,
 IntKind.i64.wrap (i-1),s',q1,q2,q3,(bY (bg IntKind.i64 (shr IntKind.i64 d i) 1) w' l').fst,(bY (bg IntKind.i64 (shr IntKind.i64
 d i) 1) w' l').snd))))) (.ret (.inr (s',q1,q2,q3,w',l'))))
theorem ON (t:bQ) (s:List Int×Int) (p1:List Int) (p2:List Int) (p3:List Int) (w:Int) (l:List Int) (d:Int) (i:Int) (s':List Int×Int) (q1:List Int) (q2:List Int) (q3:List Int) (w':Int) (l':List Int):c8 Tryz.prog [(119,J7),(121,NS),(120,N6)] [] Tryz.f85 0 ((Bp).wr (s,p1,p2,p3,w,l,())) abz (xM.wr (d,i,s',q1,q2,q3,w',l'))=(Br d i s' q1 q2 q3 w' l').res xM.wr GR:=by kernel_rfl
def bw:Nat→Int→Int→List Int→Int×List Int
 |0,_,w,l=>(w,l)
 |k+1,d,w,l=>bw k d (bY (d/2 ^ k%2) w l).1 (bY (d/2 ^ k%2) w l).2
abbrev uO (d:Int) (i:Int) (s':List Int×Int) (q1:List Int) (q2:List Int) (q3:List Int) (w':Int) (l':List Int):Prop:=pe w' l'∧0≤d∧ -1≤i∧i≤5∧l'.length<1099511000000
noncomputable abbrev GS (x_:Bq):a6:= .need ((fun (d:Int) (i:Int) (s':List Int×Int) (q1:List Int) (q2:List Int) (q3:List Int) (w':Int) (l':List Int)=>uO d i s' q1 q2 q3 w' l') x_.1 x_.2.1 x_.2.2.1 x_.2.2.2.1 x_.2.2.2.2.1 x_.2.2.2.2.2.1 x_.2.2.2.2.2.2.1 x_.2.2.2.2.2.2.2) (.leaf (GR ((fun (d:Int) (i:Int) (s':List Int×Int) (q1:List Int) (q2:List Int) (q3:List Int) (w':Int) (l':List Int)=>(s',q1,q2,q3,(bw (i+1).toNat d w' l').1,(bw (i+1).toNat d w' l').2)) x_.1 x_.2.1 x_.2.2.1 x_.2.2.2.1 x_.2.2.2.2.1 x_.2.2.2.2.2.1 x_.2.2.2.2.2.2.1 x_.2.2.2.2.2.2.2)).1 (GR ((fun (d:Int) (i:Int) (s':List Int×Int) (q1:List Int) (q2:List Int) (q3:List Int) (w':Int) (l':List Int)=>(s',q1,q2,q3,(bw (i+1).toNat d w' l').1,(bw (i+1).toNat d w' l').2)) x_.1 x_.2.1 x_.2.2.1 x_.2.2.2.1 x_.2.2.2.2.1 x_.2.2.2.2.2.1 x_.2.2.2.2.2.2.1 x_.2.2.2.2.2.2.2)).2)
theorem abB (d:Int) (i:Int) (s':List Int×Int) (q1:List Int) (q2:List Int) (q3:List Int) (w':Int) (l':List Int) (h_:uO d i s' q1 q2 q3 w' l'):cJ (fun x_:Bq=>Br x_.1 x_.2.1 x_.2.2.1 x_.2.2.2.1 x_.2.2.2.2.1 x_.2.2.2.2.2.1 x_.2.2.2.2.2.2.1 x_.2.2.2.2.2.2.2) (d,i,s',q1,q2,q3,w',l') ((s',q1,q2,q3,(bw (i+1).toNat d w' l').1,(bw (i+1).toNat d w' l').2)):=by
 obtain ⟨h1,h2,h3,h4,h5⟩:=h_
 obtain ⟨k,hk⟩: ∃ k:Nat,i=(k:Int)-1:=⟨(i+1).toNat,by omega⟩
 subst hk
 clear h3
 rw[show ((k:Int)-1+1).toNat=k from by omega]
 have h6:l'.length+k<1099511000010:=by omega
 clear h5
 induction k generalizing w' l' with
 |zero=>
  refine .stop ?_
  simp only[Br,aN,ai,aj,bw]
  exact ⟨fun h=>by omega,fun _=>trivial⟩
 |succ k ih=>
  have hb:bg .i64 (shr .i64 d k) 1=d/2 ^ k%2:=Gb h2 k (by omega)
  have e2:(((k+1:Nat):Int)-1)=(k:Int):=by omega
  have hl:=ka (d/2 ^ k%2) w' l'
  have j9:=ih (bY (d/2 ^ k%2) w' l').1 (bY (d/2 ^ k%2) w' l').2 (qJ h1 (by omega)) (by omega) (by omega)
  rw[e2]
  refine .go ?_ j9
  simp only[Br,aN,ai,aj,hb]
  refine ⟨fun _=>⟨by omega,h1,?_⟩,fun h=>by omega⟩
  rw[aq (by omega) (by omega)]
theorem Wv (t:bQ) (s:List Int×Int) (p1:List Int) (p2:List Int) (p3:List Int) (w:Int) (l:List Int): ∀ x:Bq,Ex Tryz.prog ((Bp).wr (s,p1,p2,p3,w,l,())) (.loop (aU Tryz.f85 0)) (xM.wr x) (GS x):=
 bT mixed ((ao zt (ao J8 (ao Kc aD)))) (ws:=abz) (aP.nil _) (E:=GR) (L:=fun x_=>Br x_.1 x_.2.1 x_.2.2.1 x_.2.2.2.1 x_.2.2.2.2.1 x_.2.2.2.2.2.1 x_.2.2.2.2.2.2.1 x_.2.2.2.2.2.2.2) (pre:=fun x_=>(fun (d:Int) (i:Int) (s':List Int×Int) (q1:List Int) (q2:List Int) (q3:List Int) (w':Int) (l':List Int)=>uO d i s' q1 q2 q3 w' l') x_.1 x_.2.1 x_.2.2.1 x_.2.2.2.1 x_.2.2.2.2.1 x_.2.2.2.2.2.1 x_.2.2.2.2.2.2.1 x_.2.2.2.2.2.2.2) (sp:=fun x_=>(fun (d:Int) (i:Int) (s':List Int×Int) (q1:List Int) (q2:List Int) (q3:List Int) (w':Int) (l':List Int)=>(s',q1,q2,q3,(bw (i+1).toNat d w' l').1,(bw (i+1).toNat d w' l').2)) x_.1 x_.2.1 x_.2.2.1 x_.2.2.2.1 x_.2.2.2.2.1 x_.2.2.2.2.2.1 x_.2.2.2.2.2.2.1 x_.2.2.2.2.2.2.2) (fun x_=>ON t s p1 p2 p3 w l x_.1 x_.2.1 x_.2.2.1 x_.2.2.2.1 x_.2.2.2.2.1 x_.2.2.2.2.2.1 x_.2.2.2.2.2.2.1 x_.2.2.2.2.2.2.2) (fun z e=>by cases e) dc (fun x_ h=>abB x_.1 x_.2.1 x_.2.2.1 x_.2.2.2.1 x_.2.2.2.2.1 x_.2.2.2.2.2.1 x_.2.2.2.2.2.2.1 x_.2.2.2.2.2.2.2 h)
noncomputable def gu (t:Int×Int×Int):Int:=if 1<t.fst then 1 else t.fst
noncomputable def Bs (t:Int×Int×Int) (s:List Int×Int):List Int:=s.fst.set (0+s.snd.toNat) (cq ((List.take 2 (List.drop 0
 s.fst)).getD s.snd.toNat 0) (gu t))
noncomputable def Bu (t:Int×Int×Int) (s:List Int×Int) (p1:List Int) (w:Int) (l:List Int):Int×List Int×List Int:=aF (lg
 p1) (IntKind.i64.wrap t.snd.snd) 1 (ba ((List.take 2 (List.drop 0 s.fst)).getD s.snd.toNat 0) (gu t) w l).fst (ba ((List.take 2 (List.drop 0
 s.fst)).getD s.snd.toNat 0) (gu t) w l).snd p1
noncomputable def lT (t:Int×Int×Int) (s:List Int×Int) (p2:List Int) (w:Int) (l:List Int):Int×List Int×List Int:=aF (lg
 p2) (IntKind.i64.wrap (t.fst-2)) 1 (ba ((List.take 2 (List.drop 0 s.fst)).getD s.snd.toNat 0) (gu t) w l).fst (ba ((List.take 2 (List.drop
 0 s.fst)).getD s.snd.toNat 0) (gu t) w l).snd p2
noncomputable def lU (t:Int×Int×Int) (s:List Int×Int) (p2:List Int) (p3:List Int) (w:Int) (l:List Int):Int×List Int×List
 Int:=aF (lg p3) (shr IntKind.i64 (IntKind.i64.wrap (t.snd.fst-1)) 6) 1 (lT t s p2 w l).fst (lT t s p2 w l).snd.fst p3
noncomputable def GU (t:Int×Int×Int) (s:List Int×Int) (p2:List Int) (p3:List Int) (w:Int) (l:List Int):Int×List Int:=
 bw 6 (IntKind.i64.wrap (t.snd.fst-1)) (lU t s p2 p3 w l).fst (lU t s p2 p3 w l).snd.fst
abbrev abC:Type:=(List Int×Int)×(List Int)×(List Int)×(List Int)×Int×(List Int)
noncomputable abbrev abD (x:abC):LV:=LV.cV []
noncomputable abbrev abE (x:abC):List (Nat×Ev.Item):= [(0,OM.wr x.1),(1,Item.a8 [SV.sl 2 1] 213),(2,Item.own 1 (Ty.int
 IntKind.u16) x.2.1),(3,Item.a8 [SV.sl 4 1] 213),(4,Item.own 1 (Ty.int IntKind.u16) x.2.2.1),(5,Item.a8 [SV.sl 6 1] 213),(6,Item.own 1 (Ty.int
 IntKind.u16) x.2.2.2.1),(7,Item.a8 [SV.sl 8 1,SV.int IntKind.u64 (SI.sym x.2.2.2.2.1)] 183),(8,Item.own 1 (Ty.int IntKind.u8) x.2.2.2.2.2)]
noncomputable def TH (t:Int×Int×Int) (s:List Int×Int) (p1:List Int) (p2:List Int) (p3:List Int) (w:Int) (l:List Int):Tr
 (abC):=(.need (0≤s.snd∧s.snd<2) (.need (ue ((List.take 2 (List.drop 0 s.fst)).getD s.snd.toNat 0) (gu t) w l) (.need (0≤s.snd∧
 s.snd<2) (.ite (gu t==0) (.need (mD (IntKind.i64.wrap t.snd.snd) (ba ((List.take 2 (List.drop 0 s.fst)).getD s.snd.toNat 0) (gu t)
 w l).fst (ba ((List.take 2 (List.drop 0 s.fst)).getD s.snd.toNat 0) (gu t) w l).snd p1) (.ret ((Bs t s,gu t),(Bu t s p1 w
 l).snd.snd,p2,p3,(Bu t s p1 w l).fst,(Bu t s p1 w l).snd.fst))) (.need (mD (IntKind.i64.wrap (t.fst-2)) (ba ((List.take 2
 (List.drop 0 s.fst)).getD s.snd.toNat 0) (gu t) w l).fst (ba ((List.take 2 (List.drop 0 s.fst)).getD s.snd.toNat 0) (gu t) w l).snd p2)
 (.need (mD (shr IntKind.i64 (IntKind.i64.wrap (t.snd.fst-1)) 6) (lT t s p2 w l).fst (lT t s p2 w l).snd.fst p3) (.need (uO
 (IntKind.i64.wrap (t.snd.fst-1)) 5 (Bs t s,gu t) p1 (lT t s p2 w l).snd.snd (lU t s p2 p3 w l).snd.snd (lU t s p2 p3 w l).fst
 (lU t s p2 p3 w l).snd.fst) (.ret ((Bs t s,gu t),p1,(lT t s p2 w l).snd.snd,(lU t s p2 p3 w l).snd.snd,(GU t s p2 p3 w
 l).fst,(GU t s p2 p3 w l).snd)))))))))
theorem Ww (t:bQ) (s:List Int×Int) (p1:List Int) (p2:List Int) (p3:List Int) (w:Int) (l:List Int):aY Tryz.prog [(119,J7),(121,NS),(120,N6)] [(0,aX xM ((Bp).wr (s,p1,p2,p3,w,l,())) GQ (GS))] Tryz.f85 (((ak (ah (aJ 0 0)) (ak (ah (aJ 7 0)) (ae Gm ag)))).wr (t,())) ((Bp).wr (s,p1,p2,p3,w,l,())) [.one 2,.one 4,.one 6,.one 8,.fr [.sym],.syms,.auto,.ax]=(TH t s p1 p2 p3 w l).end abD abE ((Bp).wr (s,p1,p2,p3,w,l,())):=by kernel_rfl
theorem abF (t:bQ) (s:List Int×Int) (p1:List Int) (p2:List Int) (p3:List Int) (w:Int) (l:List Int):aP Tryz.prog ((Bp).wr (s,p1,p2,p3,w,l,())) [(0,aX xM ((Bp).wr (s,p1,p2,p3,w,l,())) GQ (GS))] (aH Tryz.f85):=(aP.cy (jr (by kernel_rfl) (bz (hp:=(Bp).wr (s,p1,p2,p3,w,l,())) (Wv t s p1 p2 p3 w l)) jH))
def g7 (t:bQ) (s:List Int×Int) (p1 p2 p3:List Int) (w:Int) (l:List Int):(List Int×Int)×List Int×List Int×List Int×Int×List Int:=
 let c:=ba (s.1.getD s.2.toNat 0) (if t.1=0 then 0 else 1) w l
 let s':=(s.1.set s.2.toNat (cq (s.1.getD s.2.toNat 0) (if t.1=0 then 0 else 1)),(if t.1=0 then 0 else 1))
 if t.1=0 then
  let r:=aF (lg p1) t.2.2 1 c.1 c.2 p1
  (s',r.2.2,p2,p3,r.1,r.2.1)
 else
  let r:=aF (lg p2) (t.1-2) 1 c.1 c.2 p2
  let r2:=aF (lg p3) ((t.2.1-1)/64) 1 r.1 r.2.1 p3
  let h:=bw 6 (t.2.1-1) r2.1 r2.2.1
  (s',p1,r.2.2,r2.2.2,h.1,h.2)
theorem dS: ∀ (k:Nat) (v node w:Int) (l p:List Int),pe w l→l.length+k<1099511627775→pe (aF k v node w l p).1 (aF k v node w l p).2.1∧(aF k v node w l p).2.1.length≤l.length+k
 |0,_,_,_,_,_,h,_=>⟨h,by simp[aF]⟩
 |k+1,v,node,w,l,p,h,hl=>by
  have h1:=fx (dz p node) (v/2 ^ k%2) w l
  have h2:=jt (p:=dz p node) (b:=v/2 ^ k%2) h (by omega)
  have:=dS k v (2*node+v/2 ^ k%2) _ _ (bZ p node (v/2 ^ k%2)) h2 (by omega)
  rw[aF]
  exact ⟨this.1,by have:=this.2;omega⟩
theorem uP: ∀ (k:Nat) (v node w:Int) (l p:List Int),M0 p→M0 (aF k v node w l p).2.2∧lg (aF k v node w l p).2.2=lg p
 |0,_,_,_,_,_,h=>⟨h,rfl⟩
 |k+1,v,node,w,l,p,h=>by
  have:=uP k v (2*node+v/2 ^ k%2) (ba (dz p node) (v/2 ^ k%2) w l).1 (ba (dz p node) (v/2 ^ k%2) w l).2 _ (Bj h node (v/2 ^ k%2))
  rw[lq] at this
  exact this
theorem Bv: ∀ (k:Nat) (d w:Int) (l:List Int),pe w l→l.length+k<1099511627775→pe (bw k d w l).1 (bw k d w l).2∧(bw k d w l).2.length≤l.length+k
 |0,_,_,_,h,_=>⟨h,by simp[bw]⟩
 |k+1,d,w,l,h,hl=>by
  have h1:=ka (d/2 ^ k%2) w l
  have:=Bv k d _ _ (qJ (b:=d/2 ^ k%2) h (by omega)) (by omega)
  rw[bw]
  exact ⟨this.1,by have:=this.2;omega⟩
structure TI (s:List Int×Int) (p1 p2 p3:List Int):Prop where
 len:s.1.length=2
 bh:s.2=0∨s.2=1
 t1:M0 p1
 l1:lg p1=8
 t2:M0 p2
 l2:lg p2=8
 t3:M0 p3
 l3:lg p3=6
def abG (t:bQ):Prop:=(t.1=0∧0≤t.2.2∧t.2.2<256)∨(2≤t.1∧t.1≤257∧1≤t.2.1∧t.2.1≤4096)
abbrev zP (t:bQ) (s:List Int×Int) (p1:List Int) (p2:List Int) (p3:List Int) (w:Int) (l:List Int):Prop:=TI s p1 p2 p3∧pe w l∧abG t∧l.length<1099500000000
noncomputable def abH:au:=au.bV [] ((ak (ah (aJ 0 0)) (ak (ah (aJ 7 0)) (ae Gm ag)))) (Bp) fun x_ y_=> .leaf (some ((fun (t:bQ) (s:List Int×Int) (p1:List Int) (p2:List Int) (p3:List Int) (w:Int) (l:List Int)=>zP t s p1 p2 p3 w l) x_.1 y_.1 y_.2.1 y_.2.2.1 y_.2.2.2.1 y_.2.2.2.2.1 y_.2.2.2.2.2.1)) (abD ((fun (t:bQ) (s:List Int×Int) (p1:List Int) (p2:List Int) (p3:List Int) (w:Int) (l:List Int)=>g7 t s p1 p2 p3 w l) x_.1 y_.1 y_.2.1 y_.2.2.1 y_.2.2.2.1 y_.2.2.2.2.1 y_.2.2.2.2.2.1)) (abE ((fun (t:bQ) (s:List Int×Int) (p1:List Int) (p2:List Int) (p3:List Int) (w:Int) (l:List Int)=>g7 t s p1 p2 p3 w l) x_.1 y_.1 y_.2.1 y_.2.2.1 y_.2.2.2.1 y_.2.2.2.2.1 y_.2.2.2.2.2.1))
theorem aix (t:bQ) (s:List Int×Int) (p1:List Int) (p2:List Int) (p3:List Int) (w:Int) (l:List Int) (h_:zP t s p1 p2 p3 w l):(TH t s p1 p2 p3 w l).Is (g7 t s p1 p2 p3 w l):=by
 obtain ⟨hs,hc,ht,hl⟩:=h_
 have e0:gu t=if t.1=0 then 0 else 1:=by
  unfold gu
  rcases ht with ⟨h,_⟩|⟨h,_⟩
  ·rw[if_pos h,if_neg (by omega),h]
  ·rw[if_neg (show ¬ t.1=0 by omega),if_pos (by omega)]
 have e1:(List.take 2 (List.drop 0 s.1)).getD s.2.toNat 0=s.1.getD s.2.toNat 0:=by rw[List.drop_zero,List.take_of_length_le (by rw[hs.len];exact Nat.le_refl _)]
 have hb:0≤s.2∧s.2<2:=by have:=hs.bh;omega
 have h1:=jt (p:=s.1.getD s.2.toNat 0) (b:=if t.1=0 then 0 else 1) hc (by omega)
 have h2:=fx (s.1.getD s.2.toNat 0) (if t.1=0 then 0 else 1) w l
 have nF:Bs t s=s.1.set s.2.toNat (cq (s.1.getD s.2.toNat 0) (if t.1=0 then 0 else 1)):=by
  unfold Bs;rw[e0,e1,Nat.zero_add]
 have p8:(2:Int) ^ 8=256:=by decide
 have p6:(2:Int) ^ 6=64:=by decide
 simp only[TH,ai,aj,da,e0,e1,nF]
 refine ⟨hb,hc,hb,fun e=>?_,fun e=>?_⟩
 ·have e:t.1=0:=Classical.byContradiction fun h=>by rw[if_neg h] at e;omega
  have ht:0≤t.2.2∧t.2.2<256:=by rcases ht with ⟨_,h⟩|⟨h,_⟩<;>omega
  have e2:IntKind.i64.wrap t.2.2=t.2.2:=aq (by omega) (by omega)
  have Zh:Bu t s p1 w l=aF (lg p1) t.2.2 1 (ba (s.1.getD s.2.toNat 0) 0 w l).1 (ba (s.1.getD s.2.toNat 0) 0 w l).2 p1:=by
   unfold Bu;rw[e0,e1,e2,if_pos e]
  simp only[g7,if_pos e] at h1 h2 ⊢
  rw[e2,Zh]
  exact ⟨⟨hs.t1,h1,ht.1,by rw[hs.l1,p8];exact ht.2,by rw[hs.l1];omega,by omega⟩,rfl⟩
 ·have e: ¬ t.1=0:=fun h=>by rw[if_pos h] at e;omega
  have ht:2≤t.1∧t.1≤257∧1≤t.2.1∧t.2.1≤4096:=by rcases ht with ⟨h,_⟩|h<;>omega
  have e2:IntKind.i64.wrap (t.1-2)=t.1-2:=aq (by omega) (by omega)
  have e3:IntKind.i64.wrap (t.2.1-1)=t.2.1-1:=aq (by omega) (by omega)
  have e4:shr .i64 (t.2.1-1) 6=(t.2.1-1)/64:=eX .i64 _ 6 (by decide)
  have Zi:lT t s p2 w l=aF (lg p2) (t.1-2) 1 (ba (s.1.getD s.2.toNat 0) 1 w l).1 (ba (s.1.getD s.2.toNat 0) 1 w l).2 p2:=by
   unfold lT;rw[e0,e1,e2,if_neg e]
  have ea4:lU t s p2 p3 w l=aF (lg p3) ((t.2.1-1)/64) 1 (lT t s p2 w l).1 (lT t s p2 w l).2.1 p3:=by
   unfold lU;rw[e3,e4]
  have ea5:GU t s p2 p3 w l=bw 6 (t.2.1-1) (lU t s p2 p3 w l).1 (lU t s p2 p3 w l).2.1:=by
   unfold GU;rw[e3]
  simp only[g7,if_neg e] at h1 h2 ⊢
  rw[e2,e3,e4]
  have h3:=dS (lg p2) (t.1-2) 1 _ _ p2 h1 (by rw[hs.l2];omega)
  rw[← Zi] at h3
  have h4:=dS (lg p3) ((t.2.1-1)/64) 1 _ _ p3 h3.1 (by rw[hs.l2] at h3;rw[hs.l3];omega)
  rw[← ea4] at h4
  have k3:=h3.2
  have k4:=h4.2
  rw[hs.l2] at k3
  rw[hs.l3] at k4
  refine ⟨⟨hs.t2,h1,by omega,by rw[hs.l2,p8];omega,by rw[hs.l2];omega,by omega⟩,⟨hs.t3,h3.1,by omega,by rw[hs.l3,p6];omega,by rw[hs.l3];omega,by omega⟩,⟨h4.1,by omega,by omega,by omega,by omega⟩,?_⟩
  rw[ea5,ea4,Zi]
theorem TJ:abH.Ok Tryz.prog 85:=
 bM (tys:= []) (A:=(ak (ah (aJ 0 0)) (ak (ah (aJ 7 0)) (ae Gm ag)))) (H:=Bp) (LT:=fun x_ y_=>(fun (t:bQ) (s:List Int×Int) (p1:List Int) (p2:List Int) (p3:List Int) (w:Int) (l:List Int)=> [(0,aX xM ((Bp).wr (s,p1,p2,p3,w,l,())) GQ (GS))]) x_.1 y_.1 y_.2.1 y_.2.2.1 y_.2.2.2.1 y_.2.2.2.2.1 y_.2.2.2.2.2.1) (ks:= [.one 2,.one 4,.one 6,.one 8,.fr [.sym],.syms,.auto,.ax]) (V:=abD) (D:=abE) (T:=fun x_ y_=>TH x_.1 y_.1 y_.2.1 y_.2.2.1 y_.2.2.2.1 y_.2.2.2.2.1 y_.2.2.2.2.2.1) (pre:=fun x_ y_=>(fun (t:bQ) (s:List Int×Int) (p1:List Int) (p2:List Int) (p3:List Int) (w:Int) (l:List Int)=>zP t s p1 p2 p3 w l) x_.1 y_.1 y_.2.1 y_.2.2.1 y_.2.2.2.1 y_.2.2.2.2.1 y_.2.2.2.2.2.1) (sp:=fun x_ y_=>(fun (t:bQ) (s:List Int×Int) (p1:List Int) (p2:List Int) (p3:List Int) (w:Int) (l:List Int)=>g7 t s p1 p2 p3 w l) x_.1 y_.1 y_.2.1 y_.2.2.1 y_.2.2.2.1 y_.2.2.2.2.1 y_.2.2.2.2.2.1) mixed ((ao zt (ao J8 (ao Kc aD)))) Tryz.func85 (by kernel_rfl) Tryz.call85 (fun x_ y_=>abF x_.1 y_.1 y_.2.1 y_.2.2.1 y_.2.2.2.1 y_.2.2.2.2.1 y_.2.2.2.2.2.1) (fun x_ y_=>Ww x_.1 y_.1 y_.2.1 y_.2.2.1 y_.2.2.2.1 y_.2.2.2.2.1 y_.2.2.2.2.2.1) (fun x_ y_ h=>aix x_.1 y_.1 y_.2.1 y_.2.2.1 y_.2.2.2.1 y_.2.2.2.2.1 y_.2.2.2.2.2.1 h)
theorem xN {t:bQ} {s:List Int×Int} {p1 p2 p3:List Int} {w:Int} {l:List Int} (hs:TI s p1 p2 p3) (hc:pe w l) (hl:l.length<1099500000000):
  let r:=g7 t s p1 p2 p3 w l
  TI r.1 r.2.1 r.2.2.1 r.2.2.2.1∧pe r.2.2.2.2.1 r.2.2.2.2.2∧r.2.2.2.2.2.length≤l.length+21:=by
 have h1:=jt (p:=s.1.getD s.2.toNat 0) (b:=if t.1=0 then 0 else 1) hc (by omega)
 have h2:=fx (s.1.getD s.2.toNat 0) (if t.1=0 then 0 else 1) w l
 unfold g7
 split
 ·rename_i e
  simp only[if_pos e] at h1 h2 ⊢
  obtain ⟨h3,h4⟩:=dS (lg p1) t.2.2 1 _ _ p1 h1 (by rw[hs.l1];omega)
  obtain ⟨h5,h6⟩:=uP (lg p1) t.2.2 1 (ba (s.1.getD s.2.toNat 0) 0 w l).1 (ba (s.1.getD s.2.toNat 0) 0 w l).2 p1 hs.t1
  rw[hs.l1] at h3 h4 h5 h6 ⊢
  exact ⟨⟨by simp[hs.len],.inl rfl,h5,h6,hs.t2,hs.l2,hs.t3,hs.l3⟩,h3,by omega⟩
 ·rename_i e
  simp only[if_neg e] at h1 h2 ⊢
  obtain ⟨h3,h4⟩:=dS (lg p2) (t.1-2) 1 _ _ p2 h1 (by rw[hs.l2];omega)
  obtain ⟨h5,h6⟩:=uP (lg p2) (t.1-2) 1 (ba (s.1.getD s.2.toNat 0) 1 w l).1 (ba (s.1.getD s.2.toNat 0) 1 w l).2 p2 hs.t2
  rw[hs.l2] at h3 h4 h5 h6 ⊢
  generalize aF 8 (t.1-2) 1 (ba (s.1.getD s.2.toNat 0) 1 w l).1 (ba (s.1.getD s.2.toNat 0) 1 w l).2 p2=r at*
  obtain ⟨k3,k4⟩:=dS (lg p3) ((t.2.1-1)/64) 1 _ _ p3 h3 (by rw[hs.l3];omega)
  obtain ⟨k5,k6⟩:=uP (lg p3) ((t.2.1-1)/64) 1 r.1 r.2.1 p3 hs.t3
  rw[hs.l3] at k3 k4 k5 k6 ⊢
  generalize aF 6 ((t.2.1-1)/64) 1 r.1 r.2.1 p3=r2 at*
  obtain ⟨m3,m4⟩:=Bv 6 (t.2.1-1) _ _ k3 (by omega)
  exact ⟨⟨by simp[hs.len],.inr rfl,hs.t1,hs.l1,h5,h6,k5,k6⟩,m3,by omega⟩
def c6:List bQ→(List Int×Int)→List Int→List Int→List Int→Int→List Int→Int×List Int
 | [],_,_,_,_,w,l=>(w,l)
 |t::r,s,p1,p2,p3,w,l=>
  let x:=g7 t s p1 p2 p3 w l
  c6 r x.1 x.2.1 x.2.2.1 x.2.2.2.1 x.2.2.2.2.1 x.2.2.2.2.2
def lr (l:List bQ):Prop:= ∀ t∈l,0≤t.2.2∧t.2.2<256
theorem GV {t:bQ} {made:Int} (h:g6 t made=true) (hb:0≤t.2.2∧t.2.2<256):abG t:=by
 unfold g6 at h
 split at h
 ·rename_i e;exact .inl ⟨e,hb⟩
 ·have:=of_decide_eq_true h;exact .inr ⟨this.2.1,this.2.2.1,this.2.2.2.1,this.2.2.2.2.1⟩
abbrev uQ:Type:=(List (Int×Int×Int))×Int×Int×Int×(List Int)×(List Int)×Int×(List Int)×(List Int)×(List Int)
noncomputable abbrev ra:a9 St uQ:=(bH (jk 3 (ak (ah (aJ (0) (0))) (ak (ah (aJ (2) (0))) (jk 7 (ae (ah (dB false
 false ((Ty.int IntKind.i64).pair ((Ty.int IntKind.i64).pair (Ty.int IntKind.u8))))) (ae (ah (ay IntKind.i64)) (ae (ah (ay IntKind.i64))
 (jk 9 ag)))))))) (ae (dN (183) ((ak (jY (1) (0)) (ae (ay IntKind.u64) ag)))) (ae (cg (0) (Ty.int IntKind.u8)) (ae (dN (143)
 ((ae (tM (Ty.int IntKind.i64) (2)) (ae (ay IntKind.i64) (ak (aJ (3) (0)) (ak (aJ (5) (0)) (ak (aJ (7) (0)) ag))))))) (ak
 (dN (213) ((ak (jY (4) (0)) ag))) (ae (cg (0) (Ty.int IntKind.u16)) (ak (dN (213) ((ak (jY (6) (0)) ag))) (ae (cg (0)
 (Ty.int IntKind.u16)) (ak (dN (213) ((ak (jY (8) (0)) ag))) (ae (cg (0) (Ty.int IntKind.u16)) ag)))))))))).jQ (fun y=>(y.1.1,
 y.1.2.1,y.1.2.2.1,y.2.1.1,y.2.2.1,y.2.2.2.1.1,y.2.2.2.1.2.1,y.2.2.2.2.1,y.2.2.2.2.2.1,y.2.2.2.2.2.2.1)) (fun x=>((x.1,(x.2.1,(x.2.2.1,
 ()))),((x.2.2.2.1,()),(x.2.2.2.2.1,((x.2.2.2.2.2.1,(x.2.2.2.2.2.2.1,())),(x.2.2.2.2.2.2.2.1,(x.2.2.2.2.2.2.2.2.1,(x.2.2.2.2.2.2.2.2.2,
 ())))))))) (fun _=>rfl)
abbrev zQ:List Wk:= [.fr (cK 24 [(3,.an),(4,.an),(12,.an),(13,.an),(14,.an)]),.syms,.auto,.ax,.gC 2 0 2 .i64]
abbrev TK:Exit→List Wk:=qI zQ 0 [.fr (cK 24 [(3,.an)]),.syms,.auto,.ax,.gC 2 0 2 .i64] [.fr (cK 24 [(2,.an)]),.syms,
 .auto,.ax,.gC 2 0 2 .i64]
noncomputable def ij (l':List (Int×Int×Int)) (i:Int):Int×Int×Int:=l'.getD i.toNat (0,0,0)
abbrev TL:Type:=Int×(List Int)
noncomputable abbrev zR (x:TL):Exit×St:=(Exit.exit 0,⟨(eE 3 (LV.one (VV.sc (SV.ptr 0 0))::(eE 20 []))),[some (Item.a8 [SV.sl 1
 0,SV.int IntKind.u64 (SI.sym x.1)] 183),some (Item.own 0 (Ty.int IntKind.u8) x.2)]⟩)
noncomputable def uR (l':List (Int×Int×Int)) (n:Int) (i:Int) (w:Int) (o:List Int) (cs:List Int) (bh:Int) (p1:List Int) (p2:
 List Int) (p3:List Int):Tr (uQ⊕(TL)):=(.ite (decide (i<n)) (.need (0≤i∧i<(↑l'.length:Int)) (.need (zP (ij l' i)
 (cs,bh) p1 p2 p3 w o) (.ret (.inl (l',n,IntKind.i64.wrap (i+1),(g7 (ij l' i) (cs,bh) p1 p2 p3 w o).snd.snd.snd.snd.fst,(g7 (ij
 l' i) (cs,bh) p1 p2 p3 w o).snd.snd.snd.snd.snd,(g7 (ij l' i) (cs,bh) p1 p2 p3 w o).fst.fst,(g7 (ij l' i) (cs,bh) p1 p2 p3 w
 o).fst.snd,(g7 (ij l' i) (cs,bh) p1 p2 p3 w o).snd.fst,(g7 (ij l' i) (cs,bh) p1 p2 p3 w o).snd.snd.fst,(g7 (ij l' i) (cs,
 bh) p1 p2 p3 w o).snd.snd.snd.fst))))) (.ret (.inr (w,o))))
theorem KJ (l:List bQ) (l':List (Int×Int×Int)) (n:Int) (i:Int) (w:Int) (o:List Int) (cs:List Int) (bh:Int) (p1:List Int) (p2:List Int) (p3:List Int):c8 Tryz.prog [(48,qZ),(83,aaW),(84,zO),(85,abH)] [] Tryz.f47 0 ((ag).wr (())) TK (ra.wr (l',n,i,w,o,cs,bh,p1,p2,p3))=(uR l' n i w o cs bh p1 p2 p3).res ra.wr zR:=by kernel_rfl
abbrev rb (l':List (Int×Int×Int)) (n:Int) (i:Int) (w:Int) (o:List Int) (cs:List Int) (bh:Int) (p1:List Int) (p2:List Int) (p3:List Int):Prop:=n=l'.length∧0≤i∧i≤n∧(∃ made,aW made (l'.drop i.toNat)=true)∧lr l'∧TI (cs,bh) p1 p2 p3∧pe w o∧o.length+21*(n-i)<1099500000000∧n<1099500000000
noncomputable abbrev zS (x_:uQ):a6:= .need ((fun (l':List (Int×Int×Int)) (n:Int) (i:Int) (w:Int) (o:List Int) (cs:List Int) (bh:Int) (p1:List Int) (p2:List Int) (p3:List Int)=>rb l' n i w o cs bh p1 p2 p3) x_.1 x_.2.1 x_.2.2.1 x_.2.2.2.1 x_.2.2.2.2.1 x_.2.2.2.2.2.1 x_.2.2.2.2.2.2.1 x_.2.2.2.2.2.2.2.1 x_.2.2.2.2.2.2.2.2.1 x_.2.2.2.2.2.2.2.2.2) (.leaf (zR ((fun (l':List (Int×Int×Int)) (n:Int) (i:Int) (w:Int) (o:List Int) (cs:List Int) (bh:Int) (p1:List Int) (p2:List Int) (p3:List Int)=>c6 (l'.drop i.toNat) (cs,bh) p1 p2 p3 w o) x_.1 x_.2.1 x_.2.2.1 x_.2.2.2.1 x_.2.2.2.2.1 x_.2.2.2.2.2.1 x_.2.2.2.2.2.2.1 x_.2.2.2.2.2.2.2.1 x_.2.2.2.2.2.2.2.2.1 x_.2.2.2.2.2.2.2.2.2)).1 (zR ((fun (l':List (Int×Int×Int)) (n:Int) (i:Int) (w:Int) (o:List Int) (cs:List Int) (bh:Int) (p1:List Int) (p2:List Int) (p3:List Int)=>c6 (l'.drop i.toNat) (cs,bh) p1 p2 p3 w o) x_.1 x_.2.1 x_.2.2.1 x_.2.2.2.1 x_.2.2.2.2.1 x_.2.2.2.2.2.1 x_.2.2.2.2.2.2.1 x_.2.2.2.2.2.2.2.1 x_.2.2.2.2.2.2.2.2.1 x_.2.2.2.2.2.2.2.2.2)).2)
theorem Wx (l':List (Int×Int×Int)) (n:Int) (i:Int) (w:Int) (o:List Int) (cs:List Int) (bh:Int) (p1:List Int) (p2:List Int) (p3:List Int) (h_:rb l' n i w o cs bh p1 p2 p3):cJ (fun x_:uQ=>uR x_.1 x_.2.1 x_.2.2.1 x_.2.2.2.1 x_.2.2.2.2.1 x_.2.2.2.2.2.1 x_.2.2.2.2.2.2.1 x_.2.2.2.2.2.2.2.1 x_.2.2.2.2.2.2.2.2.1 x_.2.2.2.2.2.2.2.2.2) (l',n,i,w,o,cs,bh,p1,p2,p3) (c6 (l'.drop i.toNat) (cs,bh) p1 p2 p3 w o):=by
 obtain ⟨rfl,h1,h2,⟨made,h3⟩,h4,h5,h6,h7,h8⟩:=h_
 obtain ⟨k,rfl⟩: ∃ k:Nat,i=k:=⟨i.toNat,by omega⟩
 rw[Int.toNat_natCast] at h3 ⊢
 obtain ⟨m,hm⟩: ∃ m,l'.length=k+m:=⟨l'.length-k,by omega⟩
 clear h2
 induction m generalizing k made w o cs bh p1 p2 p3 with
 |zero=>
  refine .stop ?_
  rw[List.drop_of_length_le (by omega)]
  simp only[uR,aN,ai,aj,c6]
  exact ⟨fun h=>by omega,fun _=>trivial⟩
 |succ m ih=>
  have hk:k<l'.length:=by omega
  rw[gq (0,0,0) hk,aW,Bool.and_eq_true,Bool.and_eq_true] at h3
  obtain ⟨⟨k1,k2⟩,k3⟩:=h3
  rw[gq (0,0,0) hk,c6]
  have DL:l'.getD k (0,0,0)∈l':=by
   rw[List.getD_eq_getElem?_getD,List.getElem?_eq_getElem hk];exact List.getElem_mem hk
  have hx:ij l' (k:Int)=l'.getD k (0,0,0):=rfl
  generalize l'.getD k (0,0,0)=x at*
  obtain ⟨q1,q2,q3⟩:=xN (t:=x) h5 h6 (by omega)
  have j9:=ih _ _ _ _ _ _ _ _ q1 q2 (k+1) (by omega) k3 (by omega) (by omega)
  refine .go ?_ j9
  have hi:IntKind.i64.wrap ((k:Int)+1)=k+1:=aq (by omega) (by omega)
  simp only[uR,aN,ai,aj,hx,hi]
  exact ⟨fun _=>⟨⟨by omega,by omega⟩,⟨h5,h6,GV k1 (h4 _ DL),by omega⟩,rfl⟩,fun h=>by omega⟩
theorem OO (l:List bQ): ∀ x:uQ,Ex Tryz.prog ((ag).wr (())) (.loop (aU Tryz.f47 0)) (ra.wr x) (zS x):=
 bT mixed ((ao mH (ao Tm (ao xL (ao TJ aD))))) (ws:=TK) (aP.nil _) (E:=zR) (L:=fun x_=>uR x_.1 x_.2.1 x_.2.2.1 x_.2.2.2.1 x_.2.2.2.2.1 x_.2.2.2.2.2.1 x_.2.2.2.2.2.2.1 x_.2.2.2.2.2.2.2.1 x_.2.2.2.2.2.2.2.2.1 x_.2.2.2.2.2.2.2.2.2) (pre:=fun x_=>(fun (l':List (Int×Int×Int)) (n:Int) (i:Int) (w:Int) (o:List Int) (cs:List Int) (bh:Int) (p1:List Int) (p2:List Int) (p3:List Int)=>rb l' n i w o cs bh p1 p2 p3) x_.1 x_.2.1 x_.2.2.1 x_.2.2.2.1 x_.2.2.2.2.1 x_.2.2.2.2.2.1 x_.2.2.2.2.2.2.1 x_.2.2.2.2.2.2.2.1 x_.2.2.2.2.2.2.2.2.1 x_.2.2.2.2.2.2.2.2.2) (sp:=fun x_=>(fun (l':List (Int×Int×Int)) (n:Int) (i:Int) (w:Int) (o:List Int) (cs:List Int) (bh:Int) (p1:List Int) (p2:List Int) (p3:List Int)=>c6 (l'.drop i.toNat) (cs,bh) p1 p2 p3 w o) x_.1 x_.2.1 x_.2.2.1 x_.2.2.2.1 x_.2.2.2.2.1 x_.2.2.2.2.2.1 x_.2.2.2.2.2.2.1 x_.2.2.2.2.2.2.2.1 x_.2.2.2.2.2.2.2.2.1 x_.2.2.2.2.2.2.2.2.2) (fun x_=>KJ l x_.1 x_.2.1 x_.2.2.1 x_.2.2.2.1 x_.2.2.2.2.1 x_.2.2.2.2.2.1 x_.2.2.2.2.2.2.1 x_.2.2.2.2.2.2.2.1 x_.2.2.2.2.2.2.2.2.1 x_.2.2.2.2.2.2.2.2.2) (fun z e=>by cases e) dc (fun x_ h=>Wx x_.1 x_.2.1 x_.2.2.1 x_.2.2.2.1 x_.2.2.2.2.1 x_.2.2.2.2.2.1 x_.2.2.2.2.2.2.1 x_.2.2.2.2.2.2.2.1 x_.2.2.2.2.2.2.2.2.1 x_.2.2.2.2.2.2.2.2.2 h)
abbrev OP:Type:=List Int
noncomputable abbrev OQ (x:OP):LV:=LV.one (VV.sc (SV.rd true false (Ty.int IntKind.u8) x))
noncomputable abbrev OR (x:OP):List (Nat×Ev.Item):= []
noncomputable def OS (w:Int) (l:List Int):Tr (OP):=(.need (l.length≤70368744177664) (.ret (l)))
theorem OT (w:Int) (l:List Int):aY Tryz.prog [(31,abp)] [] Tryz.f86 ((dE).wr (())) ((sB).wr (w,l,())) [.fr [.sym],.syms,.auto,.ax]=(OS w l).end OQ OR ((sB).wr (w,l,())):=by kernel_rfl
theorem Wy (w:Int) (l:List Int):aP Tryz.prog ((sB).wr (w,l,())) [] (aH Tryz.f86):=(aP.nil _)
abbrev uS (w:Int) (l:List Int):Prop:=l.length<1099511627776
noncomputable def abI:au:=au.bV [] (dE) (sB) fun x_ y_=> .leaf (some ((fun (w:Int) (l:List Int)=>uS w l) y_.1 y_.2.1)) (OQ ((fun (w:Int) (l:List Int)=>l) y_.1 y_.2.1)) (OR ((fun (w:Int) (l:List Int)=>l) y_.1 y_.2.1))
theorem abJ (w:Int) (l:List Int) (h_:uS w l):(OS w l).Is (l):=by
 exact ⟨by omega,rfl⟩
theorem abK:abI.Ok Tryz.prog 86:=
 bM (tys:= []) (A:=dE) (H:=sB) (LT:=fun x_ y_=>(fun (w:Int) (l:List Int)=> []) y_.1 y_.2.1) (ks:= [.fr [.sym],.syms,.auto,.ax]) (V:=OQ) (D:=OR) (T:=fun x_ y_=>OS y_.1 y_.2.1) (pre:=fun x_ y_=>(fun (w:Int) (l:List Int)=>uS w l) y_.1 y_.2.1) (sp:=fun x_ y_=>(fun (w:Int) (l:List Int)=>l) y_.1 y_.2.1) mixed ((ao abq aD)) Tryz.func86 (by kernel_rfl) Tryz.call86 (fun x_ y_=>Wy y_.1 y_.2.1) (fun x_ y_=>OT y_.1 y_.2.1) (fun x_ y_ h=>abJ y_.1 y_.2.1 h)
noncomputable def zT (l:List (Int×Int×Int)):Int×List Int:=c6 (List.drop 0 l) ([1024,1024],0) (bx 8) (bx 8) (bx 6)
 4294967295 [0,0,0,0]
abbrev OU:Type:=List Int
noncomputable abbrev OV (x:OU):LV:=LV.one (VV.sc (SV.rd true false (Ty.int IntKind.u8) x))
noncomputable abbrev OW (x:OU):List (Nat×Ev.Item):= []
noncomputable def GW (l:List (Int×Int×Int)):Tr (OU):=(.need (mG l) (.ite (!aW 0 l) (.ret ([])) (.need (zw) (.need
 (mM) (.need (rb l (↑l.length:Int) 0 4294967295 [0,0,0,0] [1024,1024] 0 (bx 8) (bx 8) (bx 6)) (.need (uS (zT l).fst
 (zT l).snd) (.ret ((zT l).snd))))))))
theorem OX (l:List bQ):aY Tryz.prog [(48,qZ),(83,aaW),(84,zO),(85,abH),(86,abI)] [(0,aX ra ((ag).wr (())) zQ (zS))] Tryz.f47 ((oI).wr (l,())) ((ag).wr (())) [.fr [.rd true u8],.fr [.sym],.syms,.auto,.ax]=(GW l).end OV OW ((ag).wr (())):=by kernel_rfl
theorem Wz (l:List bQ):aP Tryz.prog ((ag).wr (())) [(0,aX ra ((ag).wr (())) zQ (zS))] (aH Tryz.f47):=(aP.cy (jr (by kernel_rfl) (bz (hp:=(ag).wr (())) (OO l)) jH))
theorem uT: ∀ (l:List bQ) {s:List Int×Int} {p1 p2 p3:List Int} {w:Int} {o:List Int},TI s p1 p2 p3→pe w o→o.length+21*l.length<1099500000000→
  pe (c6 l s p1 p2 p3 w o).1 (c6 l s p1 p2 p3 w o).2∧(c6 l s p1 p2 p3 w o).2.length≤o.length+21*l.length
 | [],_,_,_,_,_,_,_,h,_=>⟨h,by simp[c6]⟩
 |t::r,s,p1,p2,p3,w,o,hs,hc,hl=>by
  rw[List.length_cons] at hl
  obtain ⟨q1,q2,q3⟩:=xN (t:=t) hs hc (by omega)
  have:=uT r q1 q2 (by omega)
  rw[c6,List.length_cons]
  exact ⟨this.1,by have:=this.2;omega⟩
theorem jv (k:Nat) (h:k≤8):M0 (bx k)∧lg (bx k)=k:=by
 have hl:(bx k).length=2 ^ k:=by simp[bx]
 have e:lg (bx k)=k:=by unfold lg;rw[hl,Nat.log2_two_pow]
 refine ⟨⟨by rw[e];exact h,by rw[e,hl],fun i=>?_,fun i _ hi=>?_⟩,e⟩
 ·unfold bx
  rw[List.getD_eq_getElem?_getD,List.getElem?_replicate]
  split<;>simp
 ·rw[e] at hi
  unfold bx
  rw[List.getD_eq_getElem?_getD,List.getElem?_replicate,if_pos hi]
  simp
theorem GX:TI ([1024,1024],0) (bx 8) (bx 8) (bx 6):=
 ⟨rfl,.inl rfl,(jv 8 (by omega)).1,(jv 8 (by omega)).2,(jv 8 (by omega)).1,(jv 8 (by omega)).2,(jv 6 (by omega)).1,(jv 6 (by omega)).2⟩
theorem KK:pe 4294967295 [0,0,0,0]:=⟨by omega,by omega,fun z hz=>by simp at hz;subst hz;exact ⟨by omega,by omega⟩,by simp⟩
def cS (l:List bQ):List Int:=if aW 0 l then (c6 l ([1024,1024],0) (bx 8) (bx 8) (bx 6) 4294967295 [0,0,0,0]).2 else []
abbrev jw (l:List bQ):Prop:=l.length<1000000000∧lr l
noncomputable def OY:au:=au.bV [some dw] (oI) (ag) fun x_ y_=> .leaf (some ((fun (l:List bQ)=>jw l) x_.1)) (OV ((fun (l:List bQ)=>cS l) x_.1)) (OW ((fun (l:List bQ)=>cS l) x_.1))
theorem abL (l:List bQ) (h_:jw l):(GW l).Is (cS l):=by
 obtain ⟨h1,h2⟩:=h_
 have ht:=uT l GX KK (by simp;omega)
 have ea:zT l=c6 l ([1024,1024],0) (bx 8) (bx 8) (bx 6) 4294967295 [0,0,0,0]:=rfl
 simp only[GW,ai,aj,bI,cS,ea]
 refine ⟨by show _<_;omega,fun h=>?_,fun h=>⟨trivial,trivial,⟨rfl,by omega,by omega,⟨0,by simpa using h⟩,h2,GX,KK,by simp;omega,by omega⟩,?_,?_⟩⟩
 ·rw[if_neg (by simpa using h)]
 ·have:=ht.2;simp only[List.length_cons,List.length_nil] at this;show _<_;omega
 ·rw[if_pos (by simpa using h)]
theorem KL:OY.Ok Tryz.prog 47:=
 bM (tys:= [some dw]) (A:=oI) (H:=ag) (LT:=fun x_ y_=>(fun (l:List bQ)=> [(0,aX ra ((ag).wr (())) zQ (zS))]) x_.1) (ks:= [.fr [.rd true u8],.fr [.sym],.syms,.auto,.ax]) (V:=OV) (D:=OW) (T:=fun x_ y_=>GW x_.1) (pre:=fun x_ y_=>(fun (l:List bQ)=>jw l) x_.1) (sp:=fun x_ y_=>(fun (l:List bQ)=>cS l) x_.1) mixed ((ao mH (ao Tm (ao xL (ao TJ (ao abK aD)))))) Tryz.func47 (by kernel_rfl) Tryz.call47 (fun x_ y_=>Wz x_.1) (fun x_ y_=>OX x_.1) (fun x_ y_ h=>abL x_.1 h)
end Go.Proofs.YtjalaohajcpllaaGreat
end
section
set_option linter.unusedVariables false
set_option linter.unusedSimpArgs false
namespace Go.Proofs.YtjalaohajcpllaaGreat
open Go Go.Ev
set_option maxRecDepth 1000000
abbrev jTi (i:Nat):a9 Ev.Item Int:=(tY 168 (ae (ay .i64) (ak (jY i 0) ag))).jQ (fun x=>x.1) (fun w=>(w,())) (fun _=>rfl)
abbrev GY:=jTi 3
abbrev GZ:=jTi 5
abbrev G0:=jTi 7
abbrev uU:Type:=(List (Int×Int×Int))×Int×Int×Int×Int×(List Int)×Int×(List Int)×Int×(List Int)×Int×(List Int)×(List
 Int)×Int×Int×Int
noncomputable abbrev zU:a9 St uU:=(bH (ae (ah (dB false false ((Ty.int IntKind.i64).pair ((Ty.int IntKind.i64).pair (Ty.int
 IntKind.u8))))) (jk 2 (ak (ah (aJ (0) (0))) (ak (ah (aJ (2) (0))) (ak (ah (aJ (4) (0))) (ak (ah (aJ (6) (0))) (ak (ah
 (aJ (8) (0))) (ae (ah (ay IntKind.i64)) (ae (ah (ay IntKind.i64)) (ak (ah (aJ (9) (0))) (jk 1 (ae (ah (ay IntKind.i64))
 (jk 68 ag))))))))))))) (ae (bG Kf) (ae (cg (0) (Ty.int IntKind.u8)) (ae (bG GY) (ae (cg (0) (Ty.int IntKind.i64)) (ae
 (bG GZ) (ae (cg (0) (Ty.int IntKind.i64)) (ae (bG G0) (ae (cg (0) (Ty.int IntKind.i64)) (ae (dN (118) ((ae (tM (Ty.int
 IntKind.i64) (2)) ag))) (ae (dN (90) ((ae (ay IntKind.i64) (ae (ay IntKind.i64) (ae (ay IntKind.u8) ag))))) ag))))))))))).jQ
 (fun y=>(y.1.1,y.1.2.1,y.1.2.2.1,y.1.2.2.2.1,y.2.1,y.2.2.1,y.2.2.2.1,y.2.2.2.2.1,y.2.2.2.2.2.1,y.2.2.2.2.2.2.1,y.2.2.2.2.2.2.2.1,
 y.2.2.2.2.2.2.2.2.1,y.2.2.2.2.2.2.2.2.2.1.1,y.2.2.2.2.2.2.2.2.2.2.1.1,y.2.2.2.2.2.2.2.2.2.2.1.2.1,y.2.2.2.2.2.2.2.2.2.2.1.2.2.1)) (fun x=>((x.1,
 (x.2.1,(x.2.2.1,(x.2.2.2.1,())))),(x.2.2.2.2.1,(x.2.2.2.2.2.1,(x.2.2.2.2.2.2.1,(x.2.2.2.2.2.2.2.1,(x.2.2.2.2.2.2.2.2.1,(x.2.2.2.2.2.2.2.2.2.1,
 (x.2.2.2.2.2.2.2.2.2.2.1,(x.2.2.2.2.2.2.2.2.2.2.2.1,((x.2.2.2.2.2.2.2.2.2.2.2.2.1,()),((x.2.2.2.2.2.2.2.2.2.2.2.2.2.1,
 (x.2.2.2.2.2.2.2.2.2.2.2.2.2.2.1,(x.2.2.2.2.2.2.2.2.2.2.2.2.2.2.2,()))),())))))))))))) (fun _=>rfl)
abbrev TM:List Wk:= [.fr (cK 81 [(0,.an),(3,.an),(4,.an),(5,.an),(6,.an),(7,.an),(8,.an),(9,.an),(10,.an),
 (12,.an)]),.syms,.auto,.ax,.gC 8 0 2 .i64]
abbrev TN:Exit→List Wk:=qI TM 2 [.fr (cK 81 [(0,.an),(3,.an),(4,.an),(5,.an),(6,.an),(7,.an),(8,.an),(9,
 .an)]),.syms,.auto,.ax,.gC 8 0 2 .i64] [.fr (cK 81 [(2,.an)]),.syms,.auto,.ax,.gC 8 0 2 .i64]
abbrev TO:Type:=(List (Int×Int×Int))×Int×Int×Int×(List Int)×Int×(List Int)×Int×(List Int)×Int×(List Int)×(List Int)
noncomputable abbrev zV (x:TO):Exit×St:=(Exit.exit 2,⟨(LV.one (VV.sc (SV.rd false false ((Ty.int IntKind.i64).pair ((Ty.int
 IntKind.i64).pair (Ty.int IntKind.u8))) x.1))::(eE 2 (LV.one (VV.sc (SV.ptr 0 0))::(LV.one (VV.sc (SV.ptr 2 0))::(LV.one (VV.sc (SV.ptr 4 0))::
 (LV.one (VV.sc (SV.ptr 6 0))::(LV.one (VV.sc (SV.ptr 8 0))::(LV.one (VV.sc (SV.int IntKind.i64 (SI.sym x.2.1)))::(LV.one (VV.sc (SV.int
 IntKind.i64 (SI.sym x.2.2.1)))::(eE 71 [])))))))))),[some (Kf.wr x.2.2.2.1),some (Item.own 0 (Ty.int IntKind.u8) x.2.2.2.2.1),some (GY.wr
 x.2.2.2.2.2.1),some (Item.own 0 (Ty.int IntKind.i64) x.2.2.2.2.2.2.1),some (GZ.wr x.2.2.2.2.2.2.2.1),some (Item.own 0 (Ty.int IntKind.i64)
 x.2.2.2.2.2.2.2.2.1),some (G0.wr x.2.2.2.2.2.2.2.2.2.1),some (Item.own 0 (Ty.int IntKind.i64) x.2.2.2.2.2.2.2.2.2.2.1),some (Item.a8 [SV.arr
 (Ty.int IntKind.i64) 2 x.2.2.2.2.2.2.2.2.2.2.2] 118)]⟩)
noncomputable def uV (l':List (Int×Int×Int)) (bN:Int) (i:Int) (k:Int) (w:Int) (o:List Int) (b1:Int) (p1:List Int) (b2:Int)
 (p2:List Int) (b3:Int) (p3:List Int) (cs:List Int) (t1:Int) (t2:Int) (t3:Int):Tr (uU⊕(TO)):=(.ite (decide (0≤k)) (.need
 (0≤IntKind.u64.wrap k) (.need (uu (bg IntKind.i64 (shr IntKind.i64 (IntKind.i64.wrap (t2-1)) (IntKind.u64.wrap k)) 1) w o) (.ret (.inl
 (l',bN,i,IntKind.i64.wrap (k-1),(bY (bg IntKind.i64 (shr IntKind.i64 (IntKind.i64.wrap (t2-1)) (IntKind.u64.wrap k)) 1) w o).fst,
 (bY (bg IntKind.i64 (shr IntKind.i64 (IntKind.i64.wrap (t2-1)) (IntKind.u64.wrap k)) 1) w o).snd,b1,p1,b2,p2,b3,p3,cs,t1,t2,t3)))))
 (.ret (.inr (l',bN,i,w,o,b1,p1,b2,p2,b3,p3,cs))))
theorem KM (l:List bQ) (l':List (Int×Int×Int)) (bN:Int) (i:Int) (k:Int) (w:Int) (o:List Int) (b1:Int) (p1:List Int) (b2:Int) (p2:List Int) (b3:Int) (p3:List Int) (cs:List Int) (t1:Int) (t2:Int) (t3:Int):c8 Tryz.prog [(71,j0),(99,Gi),(68,xF),(100,Em),(102,Gh),(101,Gl)] [] Tryz.f64 2 ((ag).wr (())) TN (zU.wr (l',bN,i,k,w,o,b1,p1,b2,p2,b3,p3,cs,t1,t2,t3))=(uV l' bN i k w o b1 p1 b2 p2 b3 p3 cs t1 t2 t3).res zU.wr zV:=by kernel_rfl
abbrev rf (l':List (Int×Int×Int)) (bN:Int) (i:Int) (k:Int) (w:Int) (o:List Int) (b1:Int) (p1:List Int) (b2:Int) (p2:List Int) (b3:Int) (p3:List Int) (cs:List Int) (t1:Int) (t2:Int) (t3:Int):Prop:=pe w o∧1≤t2∧t2≤4096∧ -1≤k∧k≤5∧o.length<1099511000000
noncomputable abbrev TP (x_:uU):a6:= .need ((fun (l':List (Int×Int×Int)) (bN:Int) (i:Int) (k:Int) (w:Int) (o:List Int) (b1:Int) (p1:List Int) (b2:Int) (p2:List Int) (b3:Int) (p3:List Int) (cs:List Int) (t1:Int) (t2:Int) (t3:Int)=>rf l' bN i k w o b1 p1 b2 p2 b3 p3 cs t1 t2 t3) x_.1 x_.2.1 x_.2.2.1 x_.2.2.2.1 x_.2.2.2.2.1 x_.2.2.2.2.2.1 x_.2.2.2.2.2.2.1 x_.2.2.2.2.2.2.2.1 x_.2.2.2.2.2.2.2.2.1 x_.2.2.2.2.2.2.2.2.2.1 x_.2.2.2.2.2.2.2.2.2.2.1 x_.2.2.2.2.2.2.2.2.2.2.2.1 x_.2.2.2.2.2.2.2.2.2.2.2.2.1 x_.2.2.2.2.2.2.2.2.2.2.2.2.2.1 x_.2.2.2.2.2.2.2.2.2.2.2.2.2.2.1 x_.2.2.2.2.2.2.2.2.2.2.2.2.2.2.2) (.leaf (zV ((fun (l':List (Int×Int×Int)) (bN:Int) (i:Int) (k:Int) (w:Int) (o:List Int) (b1:Int) (p1:List Int) (b2:Int) (p2:List Int) (b3:Int) (p3:List Int) (cs:List Int) (t1:Int) (t2:Int) (t3:Int)=>(l',bN,i,(bw (k+1).toNat (t2-1) w o).1,(bw (k+1).toNat (t2-1) w o).2,b1,p1,b2,p2,b3,p3,cs)) x_.1 x_.2.1 x_.2.2.1 x_.2.2.2.1 x_.2.2.2.2.1 x_.2.2.2.2.2.1 x_.2.2.2.2.2.2.1 x_.2.2.2.2.2.2.2.1 x_.2.2.2.2.2.2.2.2.1 x_.2.2.2.2.2.2.2.2.2.1 x_.2.2.2.2.2.2.2.2.2.2.1 x_.2.2.2.2.2.2.2.2.2.2.2.1 x_.2.2.2.2.2.2.2.2.2.2.2.2.1 x_.2.2.2.2.2.2.2.2.2.2.2.2.2.1 x_.2.2.2.2.2.2.2.2.2.2.2.2.2.2.1 x_.2.2.2.2.2.2.2.2.2.2.2.2.2.2.2)).1 (zV ((fun (l':List (Int×Int×Int)) (bN:Int) (i:Int) (k:Int) (w:Int) (o:List Int) (b1:Int) (p1:List Int) (b2:Int) (p2:List Int) (b3:Int) (p3:List Int) (cs:List Int) (t1:Int) (t2:Int) (t3:Int)=>(l',bN,i,(bw (k+1).toNat (t2-1) w o).1,(bw (k+1).toNat (t2-1) w o).2,b1,p1,b2,p2,b3,p3,cs)) x_.1 x_.2.1 x_.2.2.1 x_.2.2.2.1 x_.2.2.2.2.1 x_.2.2.2.2.2.1 x_.2.2.2.2.2.2.1 x_.2.2.2.2.2.2.2.1 x_.2.2.2.2.2.2.2.2.1 x_.2.2.2.2.2.2.2.2.2.1 x_.2.2.2.2.2.2.2.2.2.2.1 x_.2.2.2.2.2.2.2.2.2.2.2.1 x_.2.2.2.2.2.2.2.2.2.2.2.2.1 x_.2.2.2.2.2.2.2.2.2.2.2.2.2.1 x_.2.2.2.2.2.2.2.2.2.2.2.2.2.2.1 x_.2.2.2.2.2.2.2.2.2.2.2.2.2.2.2)).2)
theorem WA (l':List (Int×Int×Int)) (bN:Int) (i:Int) (k:Int) (w:Int) (o:List Int) (b1:Int) (p1:List Int) (b2:Int) (p2:List Int) (b3:Int) (p3:List Int) (cs:List Int) (t1:Int) (t2:Int) (t3:Int) (h_:rf l' bN i k w o b1 p1 b2 p2 b3 p3 cs t1 t2 t3):cJ (fun x_:uU=>uV x_.1 x_.2.1 x_.2.2.1 x_.2.2.2.1 x_.2.2.2.2.1 x_.2.2.2.2.2.1 x_.2.2.2.2.2.2.1 x_.2.2.2.2.2.2.2.1 x_.2.2.2.2.2.2.2.2.1 x_.2.2.2.2.2.2.2.2.2.1 x_.2.2.2.2.2.2.2.2.2.2.1 x_.2.2.2.2.2.2.2.2.2.2.2.1 x_.2.2.2.2.2.2.2.2.2.2.2.2.1 x_.2.2.2.2.2.2.2.2.2.2.2.2.2.1 x_.2.2.2.2.2.2.2.2.2.2.2.2.2.2.1 x_.2.2.2.2.2.2.2.2.2.2.2.2.2.2.2) (l',bN,i,k,w,o,b1,p1,b2,p2,b3,p3,cs,t1,t2,t3) ((l',bN,i,(bw (k+1).toNat (t2-1) w o).1,(bw (k+1).toNat (t2-1) w o).2,b1,p1,b2,p2,b3,p3,cs)):=by
 obtain ⟨h1,h2,h2',h3,h4,h5⟩:=h_
 obtain ⟨n,hk⟩: ∃ n:Nat,k=(n:Int)-1:=⟨(k+1).toNat,by omega⟩
 subst hk
 clear h3
 rw[show ((n:Int)-1+1).toNat=n from by omega]
 have h6:o.length+n<1099511000010:=by omega
 clear h5
 induction n generalizing w o with
 |zero=>
  refine .stop ?_
  simp only[uV,aN,ai,aj,bw]
  exact ⟨fun h=>by omega,fun _=>trivial⟩
 |succ n ih=>
  have hb:bg .i64 (shr .i64 (t2-1) n) 1=(t2-1)/2 ^ n%2:=Gb (by omega) n (by omega)
  have e1:IntKind.i64.wrap (t2-1)=t2-1:=aq (by omega) (by omega)
  have e2:(((n+1:Nat):Int)-1)=(n:Int):=by omega
  have e3:IntKind.u64.wrap (n:Int)=n:=wrap_u64 (by omega) (by omega)
  have hl:=ka ((t2-1)/2 ^ n%2) w o
  have j9:=ih (bY ((t2-1)/2 ^ n%2) w o).1 (bY ((t2-1)/2 ^ n%2) w o).2 (qJ h1 (by omega)) (by omega) (by omega)
  rw[e2]
  refine .go ?_ j9
  simp only[uV,aN,ai,aj,e1,e3,hb]
  refine ⟨fun _=>⟨by omega,h1,?_⟩,fun h=>by omega⟩
  rw[aq (by omega) (by omega)]
theorem OZ (l:List bQ): ∀ x:uU,Ex Tryz.prog ((ag).wr (())) (.loop (aU Tryz.f64 2)) (zU.wr x) (TP x):=
 bT mixed ((ao gX (ao Bm (ao pj (ao uq (ao Bl (ao Bn aD))))))) (ws:=TN) (aP.nil _) (E:=zV) (L:=fun x_=>uV x_.1 x_.2.1 x_.2.2.1 x_.2.2.2.1 x_.2.2.2.2.1 x_.2.2.2.2.2.1 x_.2.2.2.2.2.2.1 x_.2.2.2.2.2.2.2.1 x_.2.2.2.2.2.2.2.2.1 x_.2.2.2.2.2.2.2.2.2.1 x_.2.2.2.2.2.2.2.2.2.2.1 x_.2.2.2.2.2.2.2.2.2.2.2.1 x_.2.2.2.2.2.2.2.2.2.2.2.2.1 x_.2.2.2.2.2.2.2.2.2.2.2.2.2.1 x_.2.2.2.2.2.2.2.2.2.2.2.2.2.2.1 x_.2.2.2.2.2.2.2.2.2.2.2.2.2.2.2) (pre:=fun x_=>(fun (l':List (Int×Int×Int)) (bN:Int) (i:Int) (k:Int) (w:Int) (o:List Int) (b1:Int) (p1:List Int) (b2:Int) (p2:List Int) (b3:Int) (p3:List Int) (cs:List Int) (t1:Int) (t2:Int) (t3:Int)=>rf l' bN i k w o b1 p1 b2 p2 b3 p3 cs t1 t2 t3) x_.1 x_.2.1 x_.2.2.1 x_.2.2.2.1 x_.2.2.2.2.1 x_.2.2.2.2.2.1 x_.2.2.2.2.2.2.1 x_.2.2.2.2.2.2.2.1 x_.2.2.2.2.2.2.2.2.1 x_.2.2.2.2.2.2.2.2.2.1 x_.2.2.2.2.2.2.2.2.2.2.1 x_.2.2.2.2.2.2.2.2.2.2.2.1 x_.2.2.2.2.2.2.2.2.2.2.2.2.1 x_.2.2.2.2.2.2.2.2.2.2.2.2.2.1 x_.2.2.2.2.2.2.2.2.2.2.2.2.2.2.1 x_.2.2.2.2.2.2.2.2.2.2.2.2.2.2.2) (sp:=fun x_=>(fun (l':List (Int×Int×Int)) (bN:Int) (i:Int) (k:Int) (w:Int) (o:List Int) (b1:Int) (p1:List Int) (b2:Int) (p2:List Int) (b3:Int) (p3:List Int) (cs:List Int) (t1:Int) (t2:Int) (t3:Int)=>(l',bN,i,(bw (k+1).toNat (t2-1) w o).1,(bw (k+1).toNat (t2-1) w o).2,b1,p1,b2,p2,b3,p3,cs)) x_.1 x_.2.1 x_.2.2.1 x_.2.2.2.1 x_.2.2.2.2.1 x_.2.2.2.2.2.1 x_.2.2.2.2.2.2.1 x_.2.2.2.2.2.2.2.1 x_.2.2.2.2.2.2.2.2.1 x_.2.2.2.2.2.2.2.2.2.1 x_.2.2.2.2.2.2.2.2.2.2.1 x_.2.2.2.2.2.2.2.2.2.2.2.1 x_.2.2.2.2.2.2.2.2.2.2.2.2.1 x_.2.2.2.2.2.2.2.2.2.2.2.2.2.1 x_.2.2.2.2.2.2.2.2.2.2.2.2.2.2.1 x_.2.2.2.2.2.2.2.2.2.2.2.2.2.2.2) (fun x_=>KM l x_.1 x_.2.1 x_.2.2.1 x_.2.2.2.1 x_.2.2.2.2.1 x_.2.2.2.2.2.1 x_.2.2.2.2.2.2.1 x_.2.2.2.2.2.2.2.1 x_.2.2.2.2.2.2.2.2.1 x_.2.2.2.2.2.2.2.2.2.1 x_.2.2.2.2.2.2.2.2.2.2.1 x_.2.2.2.2.2.2.2.2.2.2.2.1 x_.2.2.2.2.2.2.2.2.2.2.2.2.1 x_.2.2.2.2.2.2.2.2.2.2.2.2.2.1 x_.2.2.2.2.2.2.2.2.2.2.2.2.2.2.1 x_.2.2.2.2.2.2.2.2.2.2.2.2.2.2.2) (fun z e=>by cases e) dc (fun x_ h=>WA x_.1 x_.2.1 x_.2.2.1 x_.2.2.2.1 x_.2.2.2.2.1 x_.2.2.2.2.2.1 x_.2.2.2.2.2.2.1 x_.2.2.2.2.2.2.2.1 x_.2.2.2.2.2.2.2.2.1 x_.2.2.2.2.2.2.2.2.2.1 x_.2.2.2.2.2.2.2.2.2.2.1 x_.2.2.2.2.2.2.2.2.2.2.2.1 x_.2.2.2.2.2.2.2.2.2.2.2.2.1 x_.2.2.2.2.2.2.2.2.2.2.2.2.2.1 x_.2.2.2.2.2.2.2.2.2.2.2.2.2.2.1 x_.2.2.2.2.2.2.2.2.2.2.2.2.2.2.2 h)
abbrev uW:Type:=(List (Int×Int×Int))×Int×Int×Int×(List Int)×Int×(List Int)×Int×(List Int)×Int×(List Int)×(List Int)
noncomputable abbrev rh:a9 St uW:=(bH (ae (ah (dB false false ((Ty.int IntKind.i64).pair ((Ty.int IntKind.i64).pair (Ty.int
 IntKind.u8))))) (jk 2 (ak (ah (aJ (0) (0))) (ak (ah (aJ (2) (0))) (ak (ah (aJ (4) (0))) (ak (ah (aJ (6) (0))) (ak (ah
 (aJ (8) (0))) (ae (ah (ay IntKind.i64)) (ae (ah (ay IntKind.i64)) (jk 71 ag)))))))))) (ae (bG Kf) (ae (cg (0) (Ty.int
 IntKind.u8)) (ae (bG GY) (ae (cg (0) (Ty.int IntKind.i64)) (ae (bG GZ) (ae (cg (0) (Ty.int IntKind.i64)) (ae (bG G0)
 (ae (cg (0) (Ty.int IntKind.i64)) (ae (dN (118) ((ae (tM (Ty.int IntKind.i64) (2)) ag))) ag)))))))))).jQ (fun y=>(y.1.1,y.1.2.1,
 y.1.2.2.1,y.2.1,y.2.2.1,y.2.2.2.1,y.2.2.2.2.1,y.2.2.2.2.2.1,y.2.2.2.2.2.2.1,y.2.2.2.2.2.2.2.1,y.2.2.2.2.2.2.2.2.1,y.2.2.2.2.2.2.2.2.2.1.1))
 (fun x=>((x.1,(x.2.1,(x.2.2.1,()))),(x.2.2.2.1,(x.2.2.2.2.1,(x.2.2.2.2.2.1,(x.2.2.2.2.2.2.1,(x.2.2.2.2.2.2.2.1,(x.2.2.2.2.2.2.2.2.1,
 (x.2.2.2.2.2.2.2.2.2.1,(x.2.2.2.2.2.2.2.2.2.2.1,((x.2.2.2.2.2.2.2.2.2.2.2,()),()))))))))))) (fun _=>rfl)
abbrev zW:List Wk:= [.fr (cK 81 [(0,.an),(3,.an),(4,.an),(5,.an),(6,.an),(7,.an),(8,.an),(9,.an)]),.syms,
 .auto,.ax,.gC 8 0 2 .i64]
abbrev TQ:Exit→List Wk:=qI zW 0 [.fr (cK 81 [(3,.an)]),.syms,.auto,.ax,.gC 8 0 2 .i64] [.fr (cK 81 [(2,.an)]),.syms,
 .auto,.ax,.gC 8 0 2 .i64]
noncomputable def uX (bN:Int) (cs:List Int):List Int:=cs.set (0+bN.toNat) (cq ((List.take 2 (List.drop 0 cs)).getD bN.toNat 0)
 1)
noncomputable def uY (l':List (Int×Int×Int)) (i:Int):Int:=IntKind.i64.wrap (l'.getD i.toNat (0,0,0)).snd.snd
noncomputable def uZ (l':List (Int×Int×Int)) (i:Int):Int:=IntKind.i64.wrap ((l'.getD i.toNat (0,0,0)).fst-2)
noncomputable def ik (l':List (Int×Int×Int)) (i:Int):Int:=IntKind.i64.wrap ((IntKind.i64.wrap ((l'.getD i.toNat (0,0,0)).snd.fst-
 1)).tdiv 64)
noncomputable def pH (l':List (Int×Int×Int)) (bN:Int) (i:Int) (w:Int) (o:List Int) (p1:List Int) (cs:List Int):Int×List
 Int×List Int:=aF (lg p1) (uY l' i) 1 (ba ((List.take 2 (List.drop 0 cs)).getD bN.toNat 0) 0 w o).fst (ba ((List.take 2 (List.drop
 0 cs)).getD bN.toNat 0) 0 w o).snd p1
noncomputable def cQ (l':List (Int×Int×Int)) (bN:Int) (i:Int) (w:Int) (o:List Int) (p2:List Int) (cs:List Int):Int×List
 Int×List Int:=aF (lg p2) (uZ l' i) 1 (ba ((List.take 2 (List.drop 0 cs)).getD bN.toNat 0) 1 w o).fst (ba ((List.take 2 (List.drop
 0 cs)).getD bN.toNat 0) 1 w o).snd p2
noncomputable def u0 (l':List (Int×Int×Int)) (bN:Int) (i:Int) (w:Int) (o:List Int) (p2:List Int) (p3:List Int) (cs:List Int)
 :Int×List Int:=bw 6 ((l'.getD i.toNat (0,0,0)).snd.fst-1) (aF (lg p3) (ik l' i) 1 (cQ l' bN i w o p2 cs).fst (cQ
 l' bN i w o p2 cs).snd.fst p3).fst (aF (lg p3) (ik l' i) 1 (cQ l' bN i w o p2 cs).fst (cQ l' bN i w o p2 cs).snd.fst
 p3).snd.fst
abbrev TR:Type:=Int×(List Int)
noncomputable abbrev zX (x:TR):Exit×St:=(Exit.exit 0,⟨(eE 3 (LV.one (VV.sc (SV.ptr 0 0))::(eE 77 []))),[some (Kf.wr x.1),
 some (Item.own 0 (Ty.int IntKind.u8) x.2)]⟩)
noncomputable def rk (l':List (Int×Int×Int)) (bN:Int) (i:Int) (w:Int) (o:List Int) (b1:Int) (p1:List Int) (b2:Int) (p2:List
 Int) (b3:Int) (p3:List Int) (cs:List Int):Tr (uW⊕(TR)):=(.ite (decide (i<(↑l'.length:Int))) (.need (0≤i∧i<(↑l'.length:
 Int)) (.ite (decide (0<(l'.getD i.toNat (0,0,0)).fst)) (.need (0≤bN∧bN<2) (.need (qP ((List.take 2 (List.drop 0 cs)).getD bN.toNat 0)
 1 w o) (.need (0≤bN∧bN<2) (.need (mE (uZ l' i) (ba ((List.take 2 (List.drop 0 cs)).getD bN.toNat 0) 1 w o).fst (ba
 ((List.take 2 (List.drop 0 cs)).getD bN.toNat 0) 1 w o).snd b2 p2) (.need (mE (ik l' i) (cQ l' bN i w o p2 cs).fst (cQ l' bN
 i w o p2 cs).snd.fst b3 p3) (.need (rf l' 1 i 5 (aF (lg p3) (ik l' i) 1 (cQ l' bN i w o p2 cs).fst (cQ l' bN i w o p2
 cs).snd.fst p3).fst (aF (lg p3) (ik l' i) 1 (cQ l' bN i w o p2 cs).fst (cQ l' bN i w o p2 cs).snd.fst p3).snd.fst b1 p1 b2
 (cQ l' bN i w o p2 cs).snd.snd b3 (aF (lg p3) (ik l' i) 1 (cQ l' bN i w o p2 cs).fst (cQ l' bN i w o p2 cs).snd.fst
 p3).snd.snd (uX bN cs) (l'.getD i.toNat (0,0,0)).fst (l'.getD i.toNat (0,0,0)).snd.fst (l'.getD i.toNat (0,0,0)).snd.snd) (.ret (.inl (l',
 1,IntKind.i64.wrap (i+1),(u0 l' bN i w o p2 p3 cs).fst,(u0 l' bN i w o p2 p3 cs).snd,b1,p1,b2,(cQ l' bN i w o p2
 cs).snd.snd,b3,(aF (lg p3) (ik l' i) 1 (cQ l' bN i w o p2 cs).fst (cQ l' bN i w o p2 cs).snd.fst p3).snd.snd,uX bN
 cs))))))))) (.need (0≤bN∧bN<2) (.need (qP ((List.take 2 (List.drop 0 cs)).getD bN.toNat 0) 0 w o) (.need (0≤bN∧bN<2) (.need
 (mE (uY l' i) (ba ((List.take 2 (List.drop 0 cs)).getD bN.toNat 0) 0 w o).fst (ba ((List.take 2 (List.drop 0 cs)).getD bN.toNat 0)
 0 w o).snd b1 p1) (.ret (.inl (l',0,IntKind.i64.wrap (i+1),(pH l' bN i w o p1 cs).fst,(pH l' bN i w o p1 cs).snd.fst,b1,(pH
 l' bN i w o p1 cs).snd.snd,b2,p2,b3,p3,cs.set (0+bN.toNat) (cq ((List.take 2 (List.drop 0 cs)).getD bN.toNat 0) 0)))))))))) (.ret (.inr
 (w,o))))
theorem KN (l:List bQ) (l':List (Int×Int×Int)) (bN:Int) (i:Int) (w:Int) (o:List Int) (b1:Int) (p1:List Int) (b2:Int) (p2:List Int) (b3:Int) (p3:List Int) (cs:List Int):c8 Tryz.prog [(71,j0),(99,Gi),(68,xF),(100,Em),(102,Gh),(101,Gl)] [(2,aX zU ((ag).wr (())) TM (TP))] Tryz.f64 0 ((ag).wr (())) TQ (rh.wr (l',bN,i,w,o,b1,p1,b2,p2,b3,p3,cs))=(rk l' bN i w o b1 p1 b2 p2 b3 p3 cs).res rh.wr zX:=by kernel_rfl
abbrev rl (l':List (Int×Int×Int)) (bN:Int) (i:Int) (w:Int) (o:List Int) (b1:Int) (p1:List Int) (b2:Int) (p2:List Int) (b3:Int) (p3:List Int) (cs:List Int):Prop:=0≤i∧i≤l'.length∧(∃ made,aW made (l'.drop i.toNat)=true)∧lr l'∧TI (cs,bN) p1 p2 p3∧pe w o∧o.length+21*((l'.length:Int)-i)<1099500000000∧(l'.length:Int)<1099500000000∧b1=8∧b2=8∧b3=6
noncomputable abbrev zY (x_:uW):a6:= .need ((fun (l':List (Int×Int×Int)) (bN:Int) (i:Int) (w:Int) (o:List Int) (b1:Int) (p1:List Int) (b2:Int) (p2:List Int) (b3:Int) (p3:List Int) (cs:List Int)=>rl l' bN i w o b1 p1 b2 p2 b3 p3 cs) x_.1 x_.2.1 x_.2.2.1 x_.2.2.2.1 x_.2.2.2.2.1 x_.2.2.2.2.2.1 x_.2.2.2.2.2.2.1 x_.2.2.2.2.2.2.2.1 x_.2.2.2.2.2.2.2.2.1 x_.2.2.2.2.2.2.2.2.2.1 x_.2.2.2.2.2.2.2.2.2.2.1 x_.2.2.2.2.2.2.2.2.2.2.2) (.leaf (zX ((fun (l':List (Int×Int×Int)) (bN:Int) (i:Int) (w:Int) (o:List Int) (b1:Int) (p1:List Int) (b2:Int) (p2:List Int) (b3:Int) (p3:List Int) (cs:List Int)=>c6 (l'.drop i.toNat) (cs,bN) p1 p2 p3 w o) x_.1 x_.2.1 x_.2.2.1 x_.2.2.2.1 x_.2.2.2.2.1 x_.2.2.2.2.2.1 x_.2.2.2.2.2.2.1 x_.2.2.2.2.2.2.2.1 x_.2.2.2.2.2.2.2.2.1 x_.2.2.2.2.2.2.2.2.2.1 x_.2.2.2.2.2.2.2.2.2.2.1 x_.2.2.2.2.2.2.2.2.2.2.2)).1 (zX ((fun (l':List (Int×Int×Int)) (bN:Int) (i:Int) (w:Int) (o:List Int) (b1:Int) (p1:List Int) (b2:Int) (p2:List Int) (b3:Int) (p3:List Int) (cs:List Int)=>c6 (l'.drop i.toNat) (cs,bN) p1 p2 p3 w o) x_.1 x_.2.1 x_.2.2.1 x_.2.2.2.1 x_.2.2.2.2.1 x_.2.2.2.2.2.1 x_.2.2.2.2.2.2.1 x_.2.2.2.2.2.2.2.1 x_.2.2.2.2.2.2.2.2.1 x_.2.2.2.2.2.2.2.2.2.1 x_.2.2.2.2.2.2.2.2.2.2.1 x_.2.2.2.2.2.2.2.2.2.2.2)).2)
theorem WB (l':List (Int×Int×Int)) (bN:Int) (i:Int) (w:Int) (o:List Int) (b1:Int) (p1:List Int) (b2:Int) (p2:List Int) (b3:Int) (p3:List Int) (cs:List Int) (h_:rl l' bN i w o b1 p1 b2 p2 b3 p3 cs):cJ (fun x_:uW=>rk x_.1 x_.2.1 x_.2.2.1 x_.2.2.2.1 x_.2.2.2.2.1 x_.2.2.2.2.2.1 x_.2.2.2.2.2.2.1 x_.2.2.2.2.2.2.2.1 x_.2.2.2.2.2.2.2.2.1 x_.2.2.2.2.2.2.2.2.2.1 x_.2.2.2.2.2.2.2.2.2.2.1 x_.2.2.2.2.2.2.2.2.2.2.2) (l',bN,i,w,o,b1,p1,b2,p2,b3,p3,cs) (c6 (l'.drop i.toNat) (cs,bN) p1 p2 p3 w o):=by
 obtain ⟨h1,h2,⟨made,h3⟩,h4,h5,h6,h7,h8,rfl,rfl,rfl⟩:=h_
 obtain ⟨k,rfl⟩: ∃ k:Nat,i=k:=⟨i.toNat,by omega⟩
 rw[Int.toNat_natCast] at h3 ⊢
 obtain ⟨m,hm⟩: ∃ m,l'.length=k+m:=⟨l'.length-k,by omega⟩
 clear h2
 induction m generalizing k made w o cs bN p1 p2 p3 with
 |zero=>
  refine .stop ?_
  rw[List.drop_of_length_le (by omega)]
  simp only[rk,aN,ai,aj,c6]
  exact ⟨fun h=>by omega,fun _=>trivial⟩
 |succ m ih=>
  have hk:k<l'.length:=by omega
  rw[gq (0,0,0) hk,aW,Bool.and_eq_true,Bool.and_eq_true] at h3
  obtain ⟨⟨k1,k2⟩,k3⟩:=h3
  rw[gq (0,0,0) hk,c6]
  have DL:l'.getD k (0,0,0)∈l':=by
   rw[List.getD_eq_getElem?_getD,List.getElem?_eq_getElem hk];exact List.getElem_mem hk
  have hxe:l'.getD ((k:Int)).toNat (0,0,0)=l'.getD k (0,0,0):=rfl
  generalize l'.getD k (0,0,0)=x at*
  have ht:=GV k1 (h4 _ DL)
  obtain ⟨q1,q2,q3⟩:=xN (t:=x) h5 h6 (by omega)
  have j9:=ih _ _ _ _ _ _ _ _ q1 q2 (k+1) (by omega) k3 (by omega) (by omega)
  refine .go ?_ j9
  have hi:IntKind.i64.wrap ((k:Int)+1)=k+1:=aq (by omega) (by omega)
  have hlen:cs.length=2:=h5.len
  have e1:(List.take 2 (List.drop 0 cs)).getD bN.toNat 0=cs.getD bN.toNat 0:=by rw[List.drop_zero,List.take_of_length_le (by omega)]
  have hb:0≤bN∧bN<2:=by have:=h5.bh;simp only at this;omega
  have p8:(2:Int) ^ 8=256:=by decide
  have p6:(2:Int) ^ 6=64:=by decide
  have l1:=h5.l1
  have l2:=h5.l2
  have l3:=h5.l3
  have hn:(0:Int)≤k∧(k:Int)<l'.length:=⟨by omega,by omega⟩
  have h9:=jt (p:=cs.getD bN.toNat 0) (b:=if x.1=0 then 0 else 1) h6 (by omega)
  have h10:=fx (cs.getD bN.toNat 0) (if x.1=0 then 0 else 1) w o
  rcases ht with ⟨e,hb1,xb⟩|⟨hb1,xb,hb3,hb4⟩
  ·have e2:IntKind.i64.wrap x.2.2=x.2.2:=aq (by omega) (by omega)
   have nF:uY l' k=x.2.2:=by unfold uY;rw[hxe,e2]
   have ea4:pH l' bN k w o p1 cs=aF (lg p1) x.2.2 1 (ba (cs.getD bN.toNat 0) 0 w o).1 (ba (cs.getD bN.toNat 0) 0 w o).2 p1:=by
    unfold pH;rw[nF,e1]
   rw[if_pos e] at h9 h10
   simp only[rk,aN,ai,aj,hxe,hi,e1]
   refine ⟨fun _=>⟨hn,fun h=>by omega,fun _=>⟨hb,h6,hb,?_,?_⟩⟩,fun h=>by omega⟩
   ·rw[nF]
    exact ⟨h5.t1,h9,hb1,by rw[l1,p8];omega,by omega,by omega,by omega⟩
   ·rw[ea4];simp only[g7,if_pos e,Nat.zero_add];rfl
  ·have e0: ¬ x.1=0:=by omega
   have e2:IntKind.i64.wrap (x.1-2)=x.1-2:=aq (by omega) (by omega)
   have e3:IntKind.i64.wrap (x.2.1-1)=x.2.1-1:=aq (by omega) (by omega)
   have e4:IntKind.i64.wrap ((x.2.1-1).tdiv 64)=(x.2.1-1)/64:=by rw[Int.tdiv_eq_ediv_of_nonneg (by omega),aq (by omega) (by omega)]
   have sC:uX bN cs=cs.set bN.toNat (cq (cs.getD bN.toNat 0) 1):=by unfold uX;rw[e1,Nat.zero_add]
   have Zh:uZ l' k=x.1-2:=by unfold uZ;rw[hxe,e2]
   have Zi:ik l' k=(x.2.1-1)/64:=by unfold ik;rw[hxe,e3,e4]
   have ea5:cQ l' bN k w o p2 cs=aF (lg p2) (x.1-2) 1 (ba (cs.getD bN.toNat 0) 1 w o).1 (ba (cs.getD bN.toNat 0) 1 w o).2 p2:=by
    unfold cQ;rw[Zh,e1]
   have ea6:u0 l' bN k w o p2 p3 cs=bw 6 (x.2.1-1) (aF (lg p3) ((x.2.1-1)/64) 1 (cQ l' bN k w o p2 cs).1 (cQ l' bN k w o p2 cs).2.1 p3).1 (aF (lg p3) ((x.2.1-1)/64) 1 (cQ l' bN k w o p2 cs).1 (cQ l' bN k w o p2 cs).2.1 p3).2.1:=by
    unfold u0;rw[Zi,hxe]
   rw[if_neg e0] at h9 h10
   have h3:=dS (lg p2) (x.1-2) 1 _ _ p2 h9 (by rw[l2];omega)
   rw[← ea5] at h3
   have h4':=dS (lg p3) ((x.2.1-1)/64) 1 _ _ p3 h3.1 (by rw[l2] at h3;rw[l3];omega)
   have k3:=h3.2
   have k4:=h4'.2
   rw[l2] at k3
   rw[l3] at k4
   simp only[rk,aN,ai,aj,hxe,hi,e1,sC,Zh,Zi]
   refine ⟨fun _=>⟨hn,fun _=>⟨hb,h6,hb,⟨h5.t2,h9,by omega,by rw[l2,p8];omega,by omega,by omega,by omega⟩,⟨h5.t3,h3.1,by omega,by rw[l3,p6];omega,by omega,by omega,by omega⟩,⟨h4'.1,by omega,by omega,by omega,by omega,by rw[l3];omega⟩,?_⟩,fun h=>by omega⟩,fun h=>by omega⟩
   simp only[g7,if_neg e0,ea6,ea5];rfl
theorem O0 (l:List bQ): ∀ x:uW,Ex Tryz.prog ((ag).wr (())) (.loop (aU Tryz.f64 0)) (rh.wr x) (zY x):=
 bT mixed ((ao gX (ao Bm (ao pj (ao uq (ao Bl (ao Bn aD))))))) (ws:=TQ) (aP.inner (by kernel_rfl) (jr (by kernel_rfl) (bz (hp:=(ag).wr (())) (OZ l)) jH)) (E:=zX) (L:=fun x_=>rk x_.1 x_.2.1 x_.2.2.1 x_.2.2.2.1 x_.2.2.2.2.1 x_.2.2.2.2.2.1 x_.2.2.2.2.2.2.1 x_.2.2.2.2.2.2.2.1 x_.2.2.2.2.2.2.2.2.1 x_.2.2.2.2.2.2.2.2.2.1 x_.2.2.2.2.2.2.2.2.2.2.1 x_.2.2.2.2.2.2.2.2.2.2.2) (pre:=fun x_=>(fun (l':List (Int×Int×Int)) (bN:Int) (i:Int) (w:Int) (o:List Int) (b1:Int) (p1:List Int) (b2:Int) (p2:List Int) (b3:Int) (p3:List Int) (cs:List Int)=>rl l' bN i w o b1 p1 b2 p2 b3 p3 cs) x_.1 x_.2.1 x_.2.2.1 x_.2.2.2.1 x_.2.2.2.2.1 x_.2.2.2.2.2.1 x_.2.2.2.2.2.2.1 x_.2.2.2.2.2.2.2.1 x_.2.2.2.2.2.2.2.2.1 x_.2.2.2.2.2.2.2.2.2.1 x_.2.2.2.2.2.2.2.2.2.2.1 x_.2.2.2.2.2.2.2.2.2.2.2) (sp:=fun x_=>(fun (l':List (Int×Int×Int)) (bN:Int) (i:Int) (w:Int) (o:List Int) (b1:Int) (p1:List Int) (b2:Int) (p2:List Int) (b3:Int) (p3:List Int) (cs:List Int)=>c6 (l'.drop i.toNat) (cs,bN) p1 p2 p3 w o) x_.1 x_.2.1 x_.2.2.1 x_.2.2.2.1 x_.2.2.2.2.1 x_.2.2.2.2.2.1 x_.2.2.2.2.2.2.1 x_.2.2.2.2.2.2.2.1 x_.2.2.2.2.2.2.2.2.1 x_.2.2.2.2.2.2.2.2.2.1 x_.2.2.2.2.2.2.2.2.2.2.1 x_.2.2.2.2.2.2.2.2.2.2.2) (fun x_=>KN l x_.1 x_.2.1 x_.2.2.1 x_.2.2.2.1 x_.2.2.2.2.1 x_.2.2.2.2.2.1 x_.2.2.2.2.2.2.1 x_.2.2.2.2.2.2.2.1 x_.2.2.2.2.2.2.2.2.1 x_.2.2.2.2.2.2.2.2.2.1 x_.2.2.2.2.2.2.2.2.2.2.1 x_.2.2.2.2.2.2.2.2.2.2.2) (fun z e=>by cases e) dc (fun x_ h=>WB x_.1 x_.2.1 x_.2.2.1 x_.2.2.2.1 x_.2.2.2.2.1 x_.2.2.2.2.2.1 x_.2.2.2.2.2.2.1 x_.2.2.2.2.2.2.2.1 x_.2.2.2.2.2.2.2.2.1 x_.2.2.2.2.2.2.2.2.2.1 x_.2.2.2.2.2.2.2.2.2.2.1 x_.2.2.2.2.2.2.2.2.2.2.2 h)
abbrev O1:Type:=List Int
noncomputable abbrev O2 (x:O1):LV:=LV.one (VV.sc (SV.sl 0 0))
noncomputable abbrev O3 (x:O1):List (Nat×Ev.Item):= [(0,Item.own 0 (Ty.int IntKind.u8) x)]
noncomputable def G1 (l:List (Int×Int×Int)):Tr (O1):=(.need (iY l) (.ite (!aW 0 l) (.ret ([])) (.need (uv) (.need
 (fW 8) (.need (fW 8) (.need (fW 6) (.need (rl l 0 0 4294967295 [0,0,0,0] 8 (bJ 8) 8 (bJ 8) 6 (bJ 6) [1024,1024])
 (.ret ((c6 (List.drop 0 l) ([1024,1024],0) (bJ 8) (bJ 8) (bJ 6) 4294967295 [0,0,0,0]).snd)))))))))
theorem O4 (l:List bQ):aY Tryz.prog [(71,j0),(99,Gi),(68,xF),(100,Em),(102,Gh),(101,Gl)] [(0,aX rh ((ag).wr (())) zW (zY))] Tryz.f64 ((oI).wr (l,())) ((ag).wr (())) [.ct 0 u8,.fr [.sym],.syms,.auto,.ax]=(G1 l).end O2 O3 ((ag).wr (())):=by kernel_rfl
theorem WC (l:List bQ):aP Tryz.prog ((ag).wr (())) [(0,aX rh ((ag).wr (())) zW (zY))] (aH Tryz.f64):=(aP.cy (jr (by kernel_rfl) (bz (hp:=(ag).wr (())) (O0 l)) jH))
theorem xO (p:List Int) (x:Int):(p.set 0 x).length=p.length:=by simp
theorem abM (p:List Int) (x:Int):lg (p.set 0 x)=lg p:=by unfold lg;simp
theorem ary (p:List Int) (x:Int) {n:Int} (h:1≤n):dz (p.set 0 x) n=dz p n:=by
 unfold dz nw
 rw[xO,iX]
 split
 ·rw[if_neg (by omega)]
 ·rfl
theorem abN (p:List Int) (x:Int) {n:Int} (b:Int) (h:1≤n):bZ (p.set 0 x) n b=(bZ p n b).set 0 x:=by
 unfold bZ nw
 rw[xO,iX]
 split
 ·rw[if_neg (by omega),List.set_comm _ _ (by omega)]
 ·rfl
theorem zZ: ∀ (k:Nat) (v node w:Int) (l p:List Int) (x:Int),1≤node→0≤v→
  aF k v node w l (p.set 0 x)=((aF k v node w l p).1,(aF k v node w l p).2.1,(aF k v node w l p).2.2.set 0 x)
 |0,_,_,_,_,_,_,_,_=>rfl
 |k+1,v,node,w,l,p,x,h,hv=>by
  have hb:0≤v/2 ^ k%2:=by omega
  rw[aF,aF]
  simp only[ary p x h,abN p x _ h]
  exact zZ k v _ _ _ _ x (by omega) hv
theorem arz {t:bQ} (ht:abG t) (s:List Int×Int) (p1 p2 p3:List Int) (w:Int) (l:List Int) (x:Int):
  let r:=g7 t s p1 p2 p3 w l
  g7 t s (p1.set 0 x) (p2.set 0 x) (p3.set 0 x) w l=(r.1,r.2.1.set 0 x,r.2.2.1.set 0 x,r.2.2.2.1.set 0 x,r.2.2.2.2.1,r.2.2.2.2.2):=by
 unfold g7
 simp only[abM]
 split
 ·rename_i e
  rw[zZ _ _ _ _ _ _ _ (by omega) (by rcases ht with h|h<;>omega)]
 ·rename_i e
  have h:2≤t.1∧1≤t.2.1:=by rcases ht with h|h<;>omega
  rw[zZ _ _ _ _ _ _ _ (by omega) (by omega),zZ _ _ _ _ _ _ _ (by omega) (by omega)]
theorem abO: ∀ (l:List bQ) (made:Int) (s:List Int×Int) (p1 p2 p3:List Int) (w:Int) (o:List Int) (x:Int),aW made l=true→lr l→c6 l s (p1.set 0 x) (p2.set 0 x) (p3.set 0 x) w o=c6 l s p1 p2 p3 w o
 | [],_,_,_,_,_,_,_,_,_,_=>rfl
 |t::r,made,s,p1,p2,p3,w,o,x,h,hb=>by
  rw[aW,Bool.and_eq_true,Bool.and_eq_true] at h
  have ht:=GV h.1.1 (hb t (by simp))
  rw[c6,c6]
  simp only[arz ht s p1 p2 p3 w o x]
  exact abO r _ _ _ _ _ _ _ x h.2 fun y hy=>hb y (by simp[hy])
theorem u7 (k:Nat):bJ k=(bx k).set 0 0:=by
 unfold bJ bx
 have:0<(2:Nat) ^ k:=Nat.two_pow_pos k
 obtain ⟨m,hm⟩: ∃ m,(2:Nat) ^ k=m+1:=⟨2 ^ k-1,by omega⟩
 rw[hm,List.replicate_succ,List.set_cons_zero];rfl
theorem mN (k:Nat) (h:k≤8):M0 (bJ k)∧lg (bJ k)=k:=by
 obtain ⟨⟨h1,h2,h3,h4⟩,h5⟩:=jv k h
 rw[u7]
 refine ⟨⟨by rw[abM];exact h1,by rw[abM,xO];exact h2,fun i=>?_,fun i k1 k2=>?_⟩,by rw[abM];exact h5⟩
 ·rw[iX];split
  ·omega
  ·exact h3 i
 ·rw[abM] at k2
  rw[iX,if_neg (by omega)];exact h4 i k1 k2
theorem avK:TI ([1024,1024],0) (bJ 8) (bJ 8) (bJ 6):=
 ⟨rfl,.inl rfl,(mN 8 (by omega)).1,(mN 8 (by omega)).2,(mN 8 (by omega)).1,(mN 8 (by omega)).2,(mN 6 (by omega)).1,(mN 6 (by omega)).2⟩
abbrev kv (l:List bQ):Prop:=l.length<1000000000∧lr l
noncomputable def G2:au:=au.bV [some dw] (oI) (ag) fun x_ y_=> .leaf (some ((fun (l:List bQ)=>kv l) x_.1)) (O2 ((fun (l:List bQ)=>cS l) x_.1)) (O3 ((fun (l:List bQ)=>cS l) x_.1))
theorem abP (l:List bQ) (h_:kv l):(G1 l).Is (cS l):=by
 obtain ⟨h1,h2⟩:=h_
 simp only[G1,ai,aj,bI,cS,List.drop_zero]
 refine ⟨by show _<_;omega,fun h=>?_,fun h=>⟨trivial,by decide,by decide,by decide,⟨by omega,by omega,⟨0,by simpa using h⟩,h2,avK,KK,by simp;omega,by omega,rfl,rfl,rfl⟩,?_⟩⟩
 ·rw[if_neg (by simpa using h)]
 ·have h:aW 0 l=true:=by simpa using h
  rw[if_pos h,u7,u7,abO l 0 _ _ _ _ _ _ _ h h2]
theorem Bw:G2.Ok Tryz.prog 64:=
 bM (tys:= [some dw]) (A:=oI) (H:=ag) (LT:=fun x_ y_=>(fun (l:List bQ)=> [(0,aX rh ((ag).wr (())) zW (zY))]) x_.1) (ks:= [.ct 0 u8,.fr [.sym],.syms,.auto,.ax]) (V:=O2) (D:=O3) (T:=fun x_ y_=>G1 x_.1) (pre:=fun x_ y_=>(fun (l:List bQ)=>kv l) x_.1) (sp:=fun x_ y_=>(fun (l:List bQ)=>cS l) x_.1) mixed ((ao gX (ao Bm (ao pj (ao uq (ao Bl (ao Bn aD))))))) Tryz.func64 (by kernel_rfl) Tryz.call64 (fun x_ y_=>WC x_.1) (fun x_ y_=>O4 x_.1) (fun x_ y_ h=>abP x_.1 h)
end Go.Proofs.YtjalaohajcpllaaGreat
end
