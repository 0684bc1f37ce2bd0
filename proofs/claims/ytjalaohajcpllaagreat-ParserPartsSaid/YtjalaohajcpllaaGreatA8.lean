/- What the laws lean on, part 8: a reader of code, plain facts, and what each function gives; no conditions. -/
import Derived.Test.YtjalaohajcpllaaGreatA7
section
set_option linter.unusedVariables false
set_option linter.unusedSimpArgs false
namespace Go.Proofs.YtjalaohajcpllaaGreat
open Go Go.Ev
set_option maxRecDepth 1000000
abbrev vn:Type:=Int×Int×(List Int)
noncomputable abbrev vo:ba St vn:=(bG (jk 3 (aj (ai (aP (0) (0))) (jk 12 (ae (ai (ax IntKind.i64)) (ae (ai (ax
 IntKind.i64)) (jk 10 ag)))))) (aj (gX (213) ((aj (wX (1) (0)) ag))) (ae (eE (0) (Ty.int IntKind.u16)) ag))).qk (fun y=>(y.1.1,
 y.1.2.1,y.2.1)) (fun x=>((x.1,(x.2.1,())),(x.2.2,()))) (fun _=>rfl)
abbrev DU:List Wk:= [.fr (dA 28 [(3,.aq),(16,.aq),(17,.aq)]),.syms,.auto,.aD]
abbrev Vy:Exit→List Wk:=Dy DU 0 [.fr (dA 28 [(3,.aq)]),.syms,.auto,.aD] [.fr (dA 28 [(2,.aq)]),.syms,.auto,.aD]
abbrev Vz:Type:=List Int
noncomputable abbrev DV (x:Vz):Exit×St:=(Exit.exit 0,⟨(ir 3 (LV.one (VV.sc (SV.ptr 0 0))::(ir 24 []))),[some (Item.aZ [SV.sl 1
 0] 213),some (Item.own 0 (Ty.int IntKind.u16) x)]⟩)
noncomputable def vp (n:Int) (i:Int) (p:List Int):Tr (vn⊕(Vz)):=(.ite (decide (i<n)) (.need (0≤i∧i<(↑p.length:Int))
 (.ret (.inl (n,IntKind.i64.wrap (i+1),p.set i.toNat 1024)))) (.ret (.inr (p))))
theorem Lc (b:Int) (n:Int) (i:Int) (p:List Int):dR Tryz.prog [] [] Tryz.f118 0 ((ag).wr (())) Vy (vo.wr (n,i,p))=(vp n i p).res vo.wr DV:=by kernel_rfl
abbrev sK (n:Int) (i:Int) (p:List Int):Prop:=i=0∧p=List.replicate p.length 0∧p.length<1000000∧n=p.length
noncomputable abbrev DW (x_:vn):aU:= .need ((fun (n:Int) (i:Int) (p:List Int)=>sK n i p) x_.1 x_.2.1 x_.2.2) (.leaf (DV ((fun (n:Int) (i:Int) (p:List Int)=>List.replicate p.length 1024) x_.1 x_.2.1 x_.2.2)).1 (DV ((fun (n:Int) (i:Int) (p:List Int)=>List.replicate p.length 1024) x_.1 x_.2.1 x_.2.2)).2)
theorem VA (n:Int) (i:Int) (p:List Int) (h_:sK n i p):dq (fun x_:vn=>vp x_.1 x_.2.1 x_.2.2) (n,i,p) (List.replicate p.length 1024):=by
 obtain ⟨rfl,h1,h2,rfl⟩:=h_
 generalize hm:p.length=m at*
 subst h1
 have hl: ∀ k,k≤m→(List.replicate k (1024:Int)++List.replicate (m-k) 0).length=m:=fun k hk=>by simp;omega
 have key:=dq.iter (L:=fun x_:vn=>vp x_.1 x_.2.1 x_.2.2) (z:=List.replicate m 1024) (fun k=>((m:Int),(k:Int),List.replicate k 1024++List.replicate (m-k) 0)) m (fun k hk=>?_) ?_
 ·exact key
 ·simp only[vp,bs,an,al,hl k (by omega)]
  refine ⟨fun _=>⟨by omega,?_⟩,fun h=>by omega⟩
  rw[ar (by omega) (by omega),Int.toNat_natCast,List.set_append_right _ _ (by simp),List.length_replicate,Nat.sub_self,show m-k=(m-(k+1))+1 from by omega,List.replicate_succ,List.set_cons_zero,List.replicate_succ' (n:=k),List.append_assoc];rfl
 ·simp only[vp,bs,an,al,hl m (by omega),Nat.sub_self,List.replicate_zero,List.append_nil]
  exact ⟨fun h=>by omega,fun _=>trivial⟩
theorem Q9 (b:Int): ∀ x:vn,Ex Tryz.prog ((ag).wr (())) (.loop (aW Tryz.f118 0)) (vo.wr x) (DW x):=
 db mixed aF (ws:=Vy) (aQ.nil _) (E:=DV) (L:=fun x_=>vp x_.1 x_.2.1 x_.2.2) (pre:=fun x_=>(fun (n:Int) (i:Int) (p:List Int)=>sK n i p) x_.1 x_.2.1 x_.2.2) (sp:=fun x_=>(fun (n:Int) (i:Int) (p:List Int)=>List.replicate p.length 1024) x_.1 x_.2.1 x_.2.2) (fun x_=>Lc b x_.1 x_.2.1 x_.2.2) (fun z e=>by cases e) je (fun x_ h=>VA x_.1 x_.2.1 x_.2.2 h)
def bo (k:Nat):List Int:=List.replicate (2 ^ k) 1024
noncomputable def kM (b:Int):Int:=if 1<if 8<b then 8 else b then if 8<b then 8 else b else 1
abbrev VB:Type:=List Int
noncomputable abbrev VC (x:VB):LV:=LV.one (VV.sc (SV.ptr 0 0))
noncomputable abbrev VD (x:VB):List (Nat×Ev.Item):= [(0,Item.aZ [SV.sl 1 0] 213),(1,Item.own 0 (Ty.int IntKind.u16) x)]
noncomputable def OX (b:Int):Tr (VB):=(.need (0≤kM b) (.need (shl IntKind.i64 1 (kM b)=shl IntKind.i64 1 (kM b)∧0≤shl
 IntKind.i64 1 (kM b)∧2*shl IntKind.i64 1 (kM b)≤70368744177664∧shl IntKind.i64 1 (kM b)≤70368744177664) (.need (sK
 (↑(List.replicate (shl IntKind.i64 1 (kM b)).toNat (0:Int)).length:Int) 0 (List.replicate (shl IntKind.i64 1 (kM b)).toNat (0:Int)))
 (.ret (List.replicate (List.replicate (shl IntKind.i64 1 (kM b)).toNat (0:Int)).length (1024:Int))))))
theorem Ra (b:Int):aS Tryz.prog [] [(0,bM vo ((ag).wr (())) DU (DW))] Tryz.f118 ((TQ).wr (b,())) ((ag).wr (())) [.fr [.sym],.syms,.auto,.aD]=(OX b).end VC VD ((ag).wr (())):=by kernel_rfl
theorem VE (b:Int):aQ Tryz.prog ((ag).wr (())) [(0,bM vo ((ag).wr (())) DU (DW))] (aJ Tryz.f118):=(aQ.cO (nx (by kernel_rfl) (cz (hp:=(ag).wr (())) (Q9 b)) pc))
abbrev pB (b:Int):Prop:=1≤b∧b≤8
noncomputable def aeK:ao:=ao.bS [] (TQ) (ag) fun x_ y_=> .leaf (some ((fun (b:Int)=>pB b) x_.1)) (VC ((fun (b:Int)=>bo b.toNat) x_.1)) (VD ((fun (b:Int)=>bo b.toNat) x_.1))
theorem abv (b:Int) (h_:pB b):(OX b).Is (bo b.toNat):=by
 obtain ⟨h1,h2⟩:=h_
 have e0:(if 1<if 8<b then 8 else b then if 8<b then 8 else b else 1)=b:=by
  rw[if_neg (by omega: ¬ 8<b)];split<;>omega
 obtain ⟨k,rfl⟩: ∃ k:Nat,b=k:=⟨b.toNat,by omega⟩
 have h3:(2:Nat) ^ k≤256:=Nat.le_trans (Nat.pow_le_pow_right (by omega) (show k≤8 by omega)) (by decide)
 have e3:shl .i64 1 (k:Int)=((2 ^ k:Nat):Int):=mw k (by omega)
 simp only[OX,kM,an,al,e0,e3,bo,Int.toNat_natCast,List.length_replicate]
 generalize (2:Nat) ^ k=m at*
 exact ⟨by omega,⟨trivial,by omega,by omega,by omega⟩,⟨rfl,by rw[List.length_replicate],by rw[List.length_replicate];omega,by rw[List.length_replicate]⟩,trivial⟩
theorem abw:aeK.Ok Tryz.prog 118:=
 cg (tys:= []) (A:=TQ) (H:=ag) (LT:=fun x_ y_=>(fun (b:Int)=> [(0,bM vo ((ag).wr (())) DU (DW))]) x_.1) (ks:= [.fr [.sym],.syms,.auto,.aD]) (V:=VC) (D:=VD) (T:=fun x_ y_=>OX x_.1) (pre:=fun x_ y_=>(fun (b:Int)=>pB b) x_.1) (sp:=fun x_ y_=>(fun (b:Int)=>bo b.toNat) x_.1) mixed aF Tryz.func118 (by kernel_rfl) Tryz.call118 (fun x_ y_=>VE x_.1) (fun x_ y_=>Ra x_.1) (fun x_ y_ h=>abv x_.1 h)
abbrev jT (i:Nat):ba Ev.Item Unit:=Bq 213 (aj (wX i 0) ag)
abbrev DX:Type:=(List Int)×Int×(List Int)×(List Int)×(List Int)
noncomputable abbrev DY (x:DX):LV:=LV.one (VV.agg [SV.arr (Ty.int IntKind.i64) 2 x.1,SV.int IntKind.i64 (SI.sym x.2.1),SV.ptr 0 0,
 SV.ptr 2 0,SV.ptr 4 0])
noncomputable abbrev DZ (x:DX):List (Nat×Ev.Item):= [(0,Item.aZ [SV.sl 1 0] 213),(1,Item.own 0 (Ty.int IntKind.u16) x.2.2.1),(2,
 Item.aZ [SV.sl 3 0] 213),(3,Item.own 0 (Ty.int IntKind.u16) x.2.2.2.1),(4,Item.aZ [SV.sl 5 0] 213),(5,Item.own 0 (Ty.int IntKind.u16)
 x.2.2.2.2)]
noncomputable def D0:Tr (DX):=(.need (pB 8) (.need (pB 8) (.need (pB 6) (.ret ([1024,1024],0,bo 8,bo 8,bo
 6)))))
theorem HL:aS Tryz.prog [(118,aeK)] [] Tryz.f84 ((ag).wr (())) ((ag).wr (())) [.fr [.sym],.syms,.auto,.aD,.kJ 0 0 2 .i64]=(D0).end DY DZ ((ag).wr (())):=by kernel_rfl
theorem Ld:aQ Tryz.prog ((ag).wr (())) [] (aJ Tryz.f84):=(aQ.nil _)
abbrev lJ:Prop:=True
noncomputable def xt:ao:=ao.bS [] (ag) (ag) fun x_ y_=> .leaf (some (lJ)) (DY (([1024,1024],0,bo 8,bo 8,bo 6))) (DZ (([1024,1024],0,bo 8,bo 8,bo 6)))
theorem Rb (h_:lJ):(D0).Is (([1024,1024],0,bo 8,bo 8,bo 6)):=by
 exact ⟨⟨by decide,by decide⟩,⟨by decide,by decide⟩,⟨by decide,by decide⟩,rfl⟩
theorem vq:xt.Ok Tryz.prog 84:=
 cg (tys:= []) (A:=ag) (H:=ag) (LT:=fun x_ y_=> []) (ks:= [.fr [.sym],.syms,.auto,.aD,.kJ 0 0 2 .i64]) (V:=DY) (D:=DZ) (T:=fun x_ y_=>D0) (pre:=fun x_ y_=>lJ) (sp:=fun x_ y_=>([1024,1024],0,bo 8,bo 8,bo 6)) mixed ((ak abw aF)) Tryz.func84 (by kernel_rfl) Tryz.call84 (fun x_ y_=>Ld) (fun x_ y_=>HL) (fun x_ y_ h=>Rb h)
abbrev jSt (a b c:Nat):ba Ev.Item (List Int×Int):=(Bq 143 (ae (wY (.int .i64) 2) (ae (ax .i64) (aj (aP a 0) (aj (aP b 0) (aj (aP c 0) ag)))))).qk (fun x=>(x.1,x.2.1)) (fun y=>(y.1,y.2,())) (fun _=>rfl)
abbrev anS:ba Ev.Item Int:=(Bq 183 (aj (wX 8 0) (ae (ax .u64) ag))).qk (fun x=>x.1) (fun w=>(w,())) (fun _=>rfl)
abbrev Le:=jSt 1 3 5
abbrev jT2:=jT 2
abbrev jT4:=jT 4
abbrev jT6:=jT 6
abbrev yW:ba Hp ((List Int×Int)×List Int×List Int×List Int×Int×List Int×Unit):=
 ae (dt (jSt 1 3 5)) (aj (dt (jT 2)) (ae (eE 0 (.int .u16)) (aj (dt (jT 4)) (ae (eE 0 (.int .u16)) (aj (dt (jT 6)) (ae (eE 0 (.int .u16)) (ae (dt anS) (ae (eE 0 u8) ag))))))))
abbrev yX:Type:=Int×Int×(List Int×Int)×(List Int)×(List Int)×(List Int)×Int×(List Int)
noncomputable abbrev vr:ba St yX:=(bG (jk 1 (aj (ai (aP (7) (0))) (jk 5 (ae (ai (ax IntKind.i64)) (ae (ai (ax
 IntKind.i64)) (jk 68 ag)))))) (ae (dt Le) (aj (gX (213) ((aj (wX (2) (1)) ag))) (ae (eE (1) (Ty.int IntKind.u16)) (aj
 (gX (213) ((aj (wX (4) (1)) ag))) (ae (eE (1) (Ty.int IntKind.u16)) (aj (gX (213) ((aj (wX (6) (1)) ag))) (ae (eE (1)
 (Ty.int IntKind.u16)) (ae (gX (183) ((aj (wX (8) (1)) (ae (ax IntKind.u64) ag)))) (ae (eE (1) (Ty.int IntKind.u8))
 ag)))))))))).qk (fun y=>(y.1.1,y.1.2.1,y.2.1,y.2.2.1,y.2.2.2.1,y.2.2.2.2.1,y.2.2.2.2.2.1.1,y.2.2.2.2.2.2.1)) (fun x=>((x.1,(x.2.1,())),
 (x.2.2.1,(x.2.2.2.1,(x.2.2.2.2.1,(x.2.2.2.2.2.1,((x.2.2.2.2.2.2.1,()),(x.2.2.2.2.2.2.2,())))))))) (fun _=>rfl)
abbrev D1:List Wk:= [.one 2,.one 4,.one 6,.one 8,.fr (dA 77 [(1,.aq),(7,.aq),(8,.aq)]),.syms,.auto,.aD]
abbrev VF:Exit→List Wk:=Dy D1 0 [.one 2,.one 4,.one 6,.one 8,.fr (dA 77 []),.syms,.auto,.aD] [.one 2,.one 4,.one 6,.one 8,
 .fr (dA 77 []),.syms,.auto,.aD]
abbrev VG:Type:=(List Int×Int)×(List Int)×(List Int)×(List Int)×Int×(List Int)
noncomputable abbrev D2 (x:VG):Exit×St:=(Exit.exit 0,⟨(ir 77 []),[some (Le.wr x.1),some (Item.aZ [SV.sl 2 1] 213),some
 (Item.own 1 (Ty.int IntKind.u16) x.2.1),some (Item.aZ [SV.sl 4 1] 213),some (Item.own 1 (Ty.int IntKind.u16) x.2.2.1),some (Item.aZ [SV.sl 6 1]
 213),some (Item.own 1 (Ty.int IntKind.u16) x.2.2.2.1),some (Item.aZ [SV.sl 8 1,SV.int IntKind.u64 (SI.sym x.2.2.2.2.1)] 183),some (Item.own 1
 (Ty.int IntKind.u8) x.2.2.2.2.2)]⟩)
noncomputable def yY (d:Int) (i:Int) (s':List Int×Int) (q1:List Int) (q2:List Int) (q3:List Int) (w':Int) (l':List Int):Tr
 (yX⊕(VG)):=(.ite (decide (0≤i)) (.need (0≤i) (.need (sr (bp IntKind.i64 (shr IntKind.i64 d i) 1) w' l') (.ret (.inl (d,
 IntKind.i64.wrap (i-1),s',q1,q2,q3,(cq (bp IntKind.i64 (shr IntKind.i64 d i) 1) w' l').fst,(cq (bp IntKind.i64 (shr IntKind.i64
 d i) 1) w' l').snd))))) (.ret (.inr (s',q1,q2,q3,w',l'))))
theorem Lf (t:cj) (s:List Int×Int) (p1:List Int) (p2:List Int) (p3:List Int) (w:Int) (l:List Int) (d:Int) (i:Int) (s':List Int×Int) (q1:List Int) (q2:List Int) (q3:List Int) (w':Int) (l':List Int):dR Tryz.prog [(119,Hl),(121,KO),(120,K1)] [] Tryz.f85 0 ((yW).wr (s,p1,p2,p3,w,l,())) VF (vr.wr (d,i,s',q1,q2,q3,w',l'))=(yY d i s' q1 q2 q3 w' l').res vr.wr D2:=by kernel_rfl
def bK:Nat→Int→Int→List Int→Int×List Int
 |0,_,w,l=>(w,l)
 |k+1,d,w,l=>bK k d (cq (d/2 ^ k%2) w l).1 (cq (d/2 ^ k%2) w l).2
abbrev sL (d:Int) (i:Int) (s':List Int×Int) (q1:List Int) (q2:List Int) (q3:List Int) (w':Int) (l':List Int):Prop:=sj w' l'∧0≤d∧ -1≤i∧i≤5∧l'.length<1099511000000
noncomputable abbrev D3 (x_:yX):aU:= .need ((fun (d:Int) (i:Int) (s':List Int×Int) (q1:List Int) (q2:List Int) (q3:List Int) (w':Int) (l':List Int)=>sL d i s' q1 q2 q3 w' l') x_.1 x_.2.1 x_.2.2.1 x_.2.2.2.1 x_.2.2.2.2.1 x_.2.2.2.2.2.1 x_.2.2.2.2.2.2.1 x_.2.2.2.2.2.2.2) (.leaf (D2 ((fun (d:Int) (i:Int) (s':List Int×Int) (q1:List Int) (q2:List Int) (q3:List Int) (w':Int) (l':List Int)=>(s',q1,q2,q3,(bK (i+1).toNat d w' l').1,(bK (i+1).toNat d w' l').2)) x_.1 x_.2.1 x_.2.2.1 x_.2.2.2.1 x_.2.2.2.2.1 x_.2.2.2.2.2.1 x_.2.2.2.2.2.2.1 x_.2.2.2.2.2.2.2)).1 (D2 ((fun (d:Int) (i:Int) (s':List Int×Int) (q1:List Int) (q2:List Int) (q3:List Int) (w':Int) (l':List Int)=>(s',q1,q2,q3,(bK (i+1).toNat d w' l').1,(bK (i+1).toNat d w' l').2)) x_.1 x_.2.1 x_.2.2.1 x_.2.2.2.1 x_.2.2.2.2.1 x_.2.2.2.2.2.1 x_.2.2.2.2.2.2.1 x_.2.2.2.2.2.2.2)).2)
theorem VH (d:Int) (i:Int) (s':List Int×Int) (q1:List Int) (q2:List Int) (q3:List Int) (w':Int) (l':List Int) (h_:sL d i s' q1 q2 q3 w' l'):dq (fun x_:yX=>yY x_.1 x_.2.1 x_.2.2.1 x_.2.2.2.1 x_.2.2.2.2.1 x_.2.2.2.2.2.1 x_.2.2.2.2.2.2.1 x_.2.2.2.2.2.2.2) (d,i,s',q1,q2,q3,w',l') ((s',q1,q2,q3,(bK (i+1).toNat d w' l').1,(bK (i+1).toNat d w' l').2)):=by
 obtain ⟨h1,h2,h3,h4,h5⟩:=h_
 obtain ⟨k,hk⟩: ∃ k:Nat,i=(k:Int)-1:=⟨(i+1).toNat,by omega⟩
 subst hk
 clear h3
 rw[show ((k:Int)-1+1).toNat=k from by omega]
 have h6:l'.length+k<1099511000010:=by omega
 clear h5
 induction k generalizing w' l' with
 |zero=>
  refine .stop ?_
  simp only[yY,bs,an,al,bK]
  exact ⟨fun h=>by omega,fun _=>trivial⟩
 |succ k ih=>
  have hb:bp .i64 (shr .i64 d k) 1=d/2 ^ k%2:=Vq h2 k (by omega)
  have e2:(((k+1:Nat):Int)-1)=(k:Int):=by omega
  have hl:=lC (d/2 ^ k%2) w' l'
  have A9:=ih (cq (d/2 ^ k%2) w' l').1 (cq (d/2 ^ k%2) w' l').2 (vk h1 (by omega)) (by omega) (by omega)
  rw[e2]
  refine .go ?_ A9
  simp only[yY,bs,an,al,hb]
  refine ⟨fun _=>⟨by omega,h1,?_⟩,fun h=>by omega⟩
  rw[ar (by omega) (by omega)]
theorem Rc (t:cj) (s:List Int×Int) (p1:List Int) (p2:List Int) (p3:List Int) (w:Int) (l:List Int): ∀ x:yX,Ex Tryz.prog ((yW).wr (s,p1,p2,p3,w,l,())) (.loop (aW Tryz.f85 0)) (vr.wr x) (D3 x):=
 db mixed ((ak xi (ak Hm (ak Ht aF)))) (ws:=VF) (aQ.nil _) (E:=D2) (L:=fun x_=>yY x_.1 x_.2.1 x_.2.2.1 x_.2.2.2.1 x_.2.2.2.2.1 x_.2.2.2.2.2.1 x_.2.2.2.2.2.2.1 x_.2.2.2.2.2.2.2) (pre:=fun x_=>(fun (d:Int) (i:Int) (s':List Int×Int) (q1:List Int) (q2:List Int) (q3:List Int) (w':Int) (l':List Int)=>sL d i s' q1 q2 q3 w' l') x_.1 x_.2.1 x_.2.2.1 x_.2.2.2.1 x_.2.2.2.2.1 x_.2.2.2.2.2.1 x_.2.2.2.2.2.2.1 x_.2.2.2.2.2.2.2) (sp:=fun x_=>(fun (d:Int) (i:Int) (s':List Int×Int) (q1:List Int) (q2:List Int) (q3:List Int) (w':Int) (l':List Int)=>(s',q1,q2,q3,(bK (i+1).toNat d w' l').1,(bK (i+1).toNat d w' l').2)) x_.1 x_.2.1 x_.2.2.1 x_.2.2.2.1 x_.2.2.2.2.1 x_.2.2.2.2.2.1 x_.2.2.2.2.2.2.1 x_.2.2.2.2.2.2.2) (fun x_=>Lf t s p1 p2 p3 w l x_.1 x_.2.1 x_.2.2.1 x_.2.2.2.1 x_.2.2.2.2.1 x_.2.2.2.2.2.1 x_.2.2.2.2.2.2.1 x_.2.2.2.2.2.2.2) (fun z e=>by cases e) je (fun x_ h=>VH x_.1 x_.2.1 x_.2.2.1 x_.2.2.2.1 x_.2.2.2.2.1 x_.2.2.2.2.2.1 x_.2.2.2.2.2.2.1 x_.2.2.2.2.2.2.2 h)
noncomputable def fY (t:Int×Int×Int):Int:=if 1<t.fst then 1 else t.fst
noncomputable def yZ (t:Int×Int×Int) (s:List Int×Int):List Int:=s.fst.set (0+s.snd.toNat) (da ((List.take 2 (List.drop 0
 s.fst)).getD s.snd.toNat 0) (fY t))
noncomputable def y6 (t:Int×Int×Int) (s:List Int×Int) (p1:List Int) (w:Int) (l:List Int):Int×List Int×List Int:=bb (lg
 p1) (IntKind.i64.wrap t.snd.snd) 1 (bx ((List.take 2 (List.drop 0 s.fst)).getD s.snd.toNat 0) (fY t) w l).fst (bx ((List.take 2 (List.drop 0
 s.fst)).getD s.snd.toNat 0) (fY t) w l).snd p1
noncomputable def kN (t:Int×Int×Int) (s:List Int×Int) (p2:List Int) (w:Int) (l:List Int):Int×List Int×List Int:=bb (lg
 p2) (IntKind.i64.wrap (t.fst-2)) 1 (bx ((List.take 2 (List.drop 0 s.fst)).getD s.snd.toNat 0) (fY t) w l).fst (bx ((List.take 2 (List.drop
 0 s.fst)).getD s.snd.toNat 0) (fY t) w l).snd p2
noncomputable def kO (t:Int×Int×Int) (s:List Int×Int) (p2:List Int) (p3:List Int) (w:Int) (l:List Int):Int×List Int×List
 Int:=bb (lg p3) (shr IntKind.i64 (IntKind.i64.wrap (t.snd.fst-1)) 6) 1 (kN t s p2 w l).fst (kN t s p2 w l).snd.fst p3
noncomputable def D4 (t:Int×Int×Int) (s:List Int×Int) (p2:List Int) (p3:List Int) (w:Int) (l:List Int):Int×List Int:=
 bK 6 (IntKind.i64.wrap (t.snd.fst-1)) (kO t s p2 p3 w l).fst (kO t s p2 p3 w l).snd.fst
abbrev VI:Type:=(List Int×Int)×(List Int)×(List Int)×(List Int)×Int×(List Int)
noncomputable abbrev VJ (x:VI):LV:=LV.cD []
noncomputable abbrev VK (x:VI):List (Nat×Ev.Item):= [(0,Le.wr x.1),(1,Item.aZ [SV.sl 2 1] 213),(2,Item.own 1 (Ty.int
 IntKind.u16) x.2.1),(3,Item.aZ [SV.sl 4 1] 213),(4,Item.own 1 (Ty.int IntKind.u16) x.2.2.1),(5,Item.aZ [SV.sl 6 1] 213),(6,Item.own 1 (Ty.int
 IntKind.u16) x.2.2.2.1),(7,Item.aZ [SV.sl 8 1,SV.int IntKind.u64 (SI.sym x.2.2.2.2.1)] 183),(8,Item.own 1 (Ty.int IntKind.u8) x.2.2.2.2.2)]
noncomputable def OY (t:Int×Int×Int) (s:List Int×Int) (p1:List Int) (p2:List Int) (p3:List Int) (w:Int) (l:List Int):Tr
 (VI):=(.need (0≤s.snd∧s.snd<2) (.need (so ((List.take 2 (List.drop 0 s.fst)).getD s.snd.toNat 0) (fY t) w l) (.need (0≤s.snd∧
 s.snd<2) (.ite (fY t==0) (.need (lD (IntKind.i64.wrap t.snd.snd) (bx ((List.take 2 (List.drop 0 s.fst)).getD s.snd.toNat 0) (fY t)
 w l).fst (bx ((List.take 2 (List.drop 0 s.fst)).getD s.snd.toNat 0) (fY t) w l).snd p1) (.ret ((yZ t s,fY t),(y6 t s p1 w
 l).snd.snd,p2,p3,(y6 t s p1 w l).fst,(y6 t s p1 w l).snd.fst))) (.need (lD (IntKind.i64.wrap (t.fst-2)) (bx ((List.take 2
 (List.drop 0 s.fst)).getD s.snd.toNat 0) (fY t) w l).fst (bx ((List.take 2 (List.drop 0 s.fst)).getD s.snd.toNat 0) (fY t) w l).snd p2)
 (.need (lD (shr IntKind.i64 (IntKind.i64.wrap (t.snd.fst-1)) 6) (kN t s p2 w l).fst (kN t s p2 w l).snd.fst p3) (.need (sL
 (IntKind.i64.wrap (t.snd.fst-1)) 5 (yZ t s,fY t) p1 (kN t s p2 w l).snd.snd (kO t s p2 p3 w l).snd.snd (kO t s p2 p3 w l).fst
 (kO t s p2 p3 w l).snd.fst) (.ret ((yZ t s,fY t),p1,(kN t s p2 w l).snd.snd,(kO t s p2 p3 w l).snd.snd,(D4 t s p2 p3 w
 l).fst,(D4 t s p2 p3 w l).snd)))))))))
theorem Rd (t:cj) (s:List Int×Int) (p1:List Int) (p2:List Int) (p3:List Int) (w:Int) (l:List Int):aS Tryz.prog [(119,Hl),(121,KO),(120,K1)] [(0,bM vr ((yW).wr (s,p1,p2,p3,w,l,())) D1 (D3))] Tryz.f85 (((aj (ai (aP 0 0)) (aj (ai (aP 7 0)) (ae DG ag)))).wr (t,())) ((yW).wr (s,p1,p2,p3,w,l,())) [.one 2,.one 4,.one 6,.one 8,.fr [.sym],.syms,.auto,.aD]=(OY t s p1 p2 p3 w l).end VJ VK ((yW).wr (s,p1,p2,p3,w,l,())):=by kernel_rfl
theorem VL (t:cj) (s:List Int×Int) (p1:List Int) (p2:List Int) (p3:List Int) (w:Int) (l:List Int):aQ Tryz.prog ((yW).wr (s,p1,p2,p3,w,l,())) [(0,bM vr ((yW).wr (s,p1,p2,p3,w,l,())) D1 (D3))] (aJ Tryz.f85):=(aQ.cO (nx (by kernel_rfl) (cz (hp:=(yW).wr (s,p1,p2,p3,w,l,())) (Rc t s p1 p2 p3 w l)) pc))
def jf (t:cj) (s:List Int×Int) (p1 p2 p3:List Int) (w:Int) (l:List Int):(List Int×Int)×List Int×List Int×List Int×Int×List Int:=
 let c:=bx (s.1.getD s.2.toNat 0) (if t.1=0 then 0 else 1) w l
 let s':=(s.1.set s.2.toNat (da (s.1.getD s.2.toNat 0) (if t.1=0 then 0 else 1)),(if t.1=0 then 0 else 1))
 if t.1=0 then
  let r:=bb (lg p1) t.2.2 1 c.1 c.2 p1
  (s',r.2.2,p2,p3,r.1,r.2.1)
 else
  let r:=bb (lg p2) (t.1-2) 1 c.1 c.2 p2
  let r2:=bb (lg p3) ((t.2.1-1)/64) 1 r.1 r.2.1 p3
  let h:=bK 6 (t.2.1-1) r2.1 r2.2.1
  (s',p1,r.2.2,r2.2.2,h.1,h.2)
theorem eT: ∀ (k:Nat) (v node w:Int) (l p:List Int),sj w l→l.length+k<1099511627775→sj (bb k v node w l p).1 (bb k v node w l p).2.1∧(bb k v node w l p).2.1.length≤l.length+k
 |0,_,_,_,_,_,h,_=>⟨h,by simp[bb]⟩
 |k+1,v,node,w,l,p,h,hl=>by
  have h1:=gk (jm p node) (v/2 ^ k%2) w l
  have h2:=lB (p:=jm p node) (b:=v/2 ^ k%2) h (by omega)
  have:=eT k v (2*node+v/2 ^ k%2) _ _ (c6 p node (v/2 ^ k%2)) h2 (by omega)
  rw[bb]
  exact ⟨this.1,by have:=this.2;omega⟩
theorem sM: ∀ (k:Nat) (v node w:Int) (l p:List Int),QZ p→QZ (bb k v node w l p).2.2∧lg (bb k v node w l p).2.2=lg p
 |0,_,_,_,_,_,h=>⟨h,rfl⟩
 |k+1,v,node,w,l,p,h=>by
  have:=sM k v (2*node+v/2 ^ k%2) (bx (jm p node) (v/2 ^ k%2) w l).1 (bx (jm p node) (v/2 ^ k%2) w l).2 _ (Hs h node (v/2 ^ k%2))
  rw[pn] at this
  exact this
theorem y7: ∀ (k:Nat) (d w:Int) (l:List Int),sj w l→l.length+k<1099511627775→sj (bK k d w l).1 (bK k d w l).2∧(bK k d w l).2.length≤l.length+k
 |0,_,_,_,h,_=>⟨h,by simp[bK]⟩
 |k+1,d,w,l,h,hl=>by
  have h1:=lC (d/2 ^ k%2) w l
  have:=y7 k d _ _ (vk (b:=d/2 ^ k%2) h (by omega)) (by omega)
  rw[bK]
  exact ⟨this.1,by have:=this.2;omega⟩
structure TR (s:List Int×Int) (p1 p2 p3:List Int):Prop where
 len:s.1.length=2
 bh:s.2=0∨s.2=1
 t1:QZ p1
 l1:lg p1=8
 t2:QZ p2
 l2:lg p2=8
 t3:QZ p3
 l3:lg p3=6
def aeL (t:cj):Prop:=(t.1=0∧0≤t.2.2∧t.2.2<256)∨(2≤t.1∧t.1≤257∧1≤t.2.1∧t.2.1≤4096)
abbrev xu (t:cj) (s:List Int×Int) (p1:List Int) (p2:List Int) (p3:List Int) (w:Int) (l:List Int):Prop:=TR s p1 p2 p3∧sj w l∧aeL t∧l.length<1099500000000
noncomputable def VM:ao:=ao.bS [] ((aj (ai (aP 0 0)) (aj (ai (aP 7 0)) (ae DG ag)))) (yW) fun x_ y_=> .leaf (some ((fun (t:cj) (s:List Int×Int) (p1:List Int) (p2:List Int) (p3:List Int) (w:Int) (l:List Int)=>xu t s p1 p2 p3 w l) x_.1 y_.1 y_.2.1 y_.2.2.1 y_.2.2.2.1 y_.2.2.2.2.1 y_.2.2.2.2.2.1)) (VJ ((fun (t:cj) (s:List Int×Int) (p1:List Int) (p2:List Int) (p3:List Int) (w:Int) (l:List Int)=>jf t s p1 p2 p3 w l) x_.1 y_.1 y_.2.1 y_.2.2.1 y_.2.2.2.1 y_.2.2.2.2.1 y_.2.2.2.2.2.1)) (VK ((fun (t:cj) (s:List Int×Int) (p1:List Int) (p2:List Int) (p3:List Int) (w:Int) (l:List Int)=>jf t s p1 p2 p3 w l) x_.1 y_.1 y_.2.1 y_.2.2.1 y_.2.2.2.1 y_.2.2.2.2.1 y_.2.2.2.2.2.1))
theorem abx (t:cj) (s:List Int×Int) (p1:List Int) (p2:List Int) (p3:List Int) (w:Int) (l:List Int) (h_:xu t s p1 p2 p3 w l):(OY t s p1 p2 p3 w l).Is (jf t s p1 p2 p3 w l):=by
 obtain ⟨hs,hc,ht,hl⟩:=h_
 have e0:fY t=if t.1=0 then 0 else 1:=by
  unfold fY
  rcases ht with ⟨h,_⟩|⟨h,_⟩
  ·rw[if_pos h,if_neg (by omega),h]
  ·rw[if_neg (show ¬ t.1=0 by omega),if_pos (by omega)]
 have e1:(List.take 2 (List.drop 0 s.1)).getD s.2.toNat 0=s.1.getD s.2.toNat 0:=by rw[List.drop_zero,List.take_of_length_le (by rw[hs.len];exact Nat.le_refl _)]
 have hb:0≤s.2∧s.2<2:=by have:=hs.bh;omega
 have h1:=lB (p:=s.1.getD s.2.toNat 0) (b:=if t.1=0 then 0 else 1) hc (by omega)
 have h2:=gk (s.1.getD s.2.toNat 0) (if t.1=0 then 0 else 1) w l
 have Br:yZ t s=s.1.set s.2.toNat (da (s.1.getD s.2.toNat 0) (if t.1=0 then 0 else 1)):=by
  unfold yZ;rw[e0,e1,Nat.zero_add]
 have p8:(2:Int) ^ 8=256:=by decide
 have p6:(2:Int) ^ 6=64:=by decide
 simp only[OY,an,al,fo,e0,e1,Br]
 refine ⟨hb,hc,hb,fun e=>?_,fun e=>?_⟩
 ·have e:t.1=0:=Classical.byContradiction fun h=>by rw[if_neg h] at e;omega
  have ht:0≤t.2.2∧t.2.2<256:=by rcases ht with ⟨_,h⟩|⟨h,_⟩<;>omega
  have e2:IntKind.i64.wrap t.2.2=t.2.2:=ar (by omega) (by omega)
  have ea2:y6 t s p1 w l=bb (lg p1) t.2.2 1 (bx (s.1.getD s.2.toNat 0) 0 w l).1 (bx (s.1.getD s.2.toNat 0) 0 w l).2 p1:=by
   unfold y6;rw[e0,e1,e2,if_pos e]
  simp only[jf,if_pos e] at h1 h2 ⊢
  rw[e2,ea2]
  exact ⟨⟨hs.t1,h1,ht.1,by rw[hs.l1,p8];exact ht.2,by rw[hs.l1];omega,by omega⟩,rfl⟩
 ·have e: ¬ t.1=0:=fun h=>by rw[if_pos h] at e;omega
  have ht:2≤t.1∧t.1≤257∧1≤t.2.1∧t.2.1≤4096:=by rcases ht with ⟨h,_⟩|h<;>omega
  have e2:IntKind.i64.wrap (t.1-2)=t.1-2:=ar (by omega) (by omega)
  have e3:IntKind.i64.wrap (t.2.1-1)=t.2.1-1:=ar (by omega) (by omega)
  have e4:shr .i64 (t.2.1-1) 6=(t.2.1-1)/64:=eG .i64 _ 6 (by decide)
  have ea3:kN t s p2 w l=bb (lg p2) (t.1-2) 1 (bx (s.1.getD s.2.toNat 0) 1 w l).1 (bx (s.1.getD s.2.toNat 0) 1 w l).2 p2:=by
   unfold kN;rw[e0,e1,e2,if_neg e]
  have ea4:kO t s p2 p3 w l=bb (lg p3) ((t.2.1-1)/64) 1 (kN t s p2 w l).1 (kN t s p2 w l).2.1 p3:=by
   unfold kO;rw[e3,e4]
  have ea5:D4 t s p2 p3 w l=bK 6 (t.2.1-1) (kO t s p2 p3 w l).1 (kO t s p2 p3 w l).2.1:=by
   unfold D4;rw[e3]
  simp only[jf,if_neg e] at h1 h2 ⊢
  rw[e2,e3,e4]
  have h3:=eT (lg p2) (t.1-2) 1 _ _ p2 h1 (by rw[hs.l2];omega)
  rw[← ea3] at h3
  have h4:=eT (lg p3) ((t.2.1-1)/64) 1 _ _ p3 h3.1 (by rw[hs.l2] at h3;rw[hs.l3];omega)
  rw[← ea4] at h4
  have k3:=h3.2
  have k4:=h4.2
  rw[hs.l2] at k3
  rw[hs.l3] at k4
  refine ⟨⟨hs.t2,h1,by omega,by rw[hs.l2,p8];omega,by rw[hs.l2];omega,by omega⟩,⟨hs.t3,h3.1,by omega,by rw[hs.l3,p6];omega,by rw[hs.l3];omega,by omega⟩,⟨h4.1,by omega,by omega,by omega,by omega⟩,?_⟩
  rw[ea5,ea4,ea3]
theorem OZ:VM.Ok Tryz.prog 85:=
 cg (tys:= []) (A:=(aj (ai (aP 0 0)) (aj (ai (aP 7 0)) (ae DG ag)))) (H:=yW) (LT:=fun x_ y_=>(fun (t:cj) (s:List Int×Int) (p1:List Int) (p2:List Int) (p3:List Int) (w:Int) (l:List Int)=> [(0,bM vr ((yW).wr (s,p1,p2,p3,w,l,())) D1 (D3))]) x_.1 y_.1 y_.2.1 y_.2.2.1 y_.2.2.2.1 y_.2.2.2.2.1 y_.2.2.2.2.2.1) (ks:= [.one 2,.one 4,.one 6,.one 8,.fr [.sym],.syms,.auto,.aD]) (V:=VJ) (D:=VK) (T:=fun x_ y_=>OY x_.1 y_.1 y_.2.1 y_.2.2.1 y_.2.2.2.1 y_.2.2.2.2.1 y_.2.2.2.2.2.1) (pre:=fun x_ y_=>(fun (t:cj) (s:List Int×Int) (p1:List Int) (p2:List Int) (p3:List Int) (w:Int) (l:List Int)=>xu t s p1 p2 p3 w l) x_.1 y_.1 y_.2.1 y_.2.2.1 y_.2.2.2.1 y_.2.2.2.2.1 y_.2.2.2.2.2.1) (sp:=fun x_ y_=>(fun (t:cj) (s:List Int×Int) (p1:List Int) (p2:List Int) (p3:List Int) (w:Int) (l:List Int)=>jf t s p1 p2 p3 w l) x_.1 y_.1 y_.2.1 y_.2.2.1 y_.2.2.2.1 y_.2.2.2.2.1 y_.2.2.2.2.2.1) mixed ((ak xi (ak Hm (ak Ht aF)))) Tryz.func85 (by kernel_rfl) Tryz.call85 (fun x_ y_=>VL x_.1 y_.1 y_.2.1 y_.2.2.1 y_.2.2.2.1 y_.2.2.2.2.1 y_.2.2.2.2.2.1) (fun x_ y_=>Rd x_.1 y_.1 y_.2.1 y_.2.2.1 y_.2.2.2.1 y_.2.2.2.2.1 y_.2.2.2.2.2.1) (fun x_ y_ h=>abx x_.1 y_.1 y_.2.1 y_.2.2.1 y_.2.2.2.1 y_.2.2.2.2.1 y_.2.2.2.2.2.1 h)
theorem y8 {t:cj} {s:List Int×Int} {p1 p2 p3:List Int} {w:Int} {l:List Int} (hs:TR s p1 p2 p3) (hc:sj w l) (hl:l.length<1099500000000):
  let r:=jf t s p1 p2 p3 w l
  TR r.1 r.2.1 r.2.2.1 r.2.2.2.1∧sj r.2.2.2.2.1 r.2.2.2.2.2∧r.2.2.2.2.2.length≤l.length+21:=by
 have h1:=lB (p:=s.1.getD s.2.toNat 0) (b:=if t.1=0 then 0 else 1) hc (by omega)
 have h2:=gk (s.1.getD s.2.toNat 0) (if t.1=0 then 0 else 1) w l
 unfold jf
 split
 ·rename_i e
  simp only[if_pos e] at h1 h2 ⊢
  obtain ⟨h3,h4⟩:=eT (lg p1) t.2.2 1 _ _ p1 h1 (by rw[hs.l1];omega)
  obtain ⟨h5,h6⟩:=sM (lg p1) t.2.2 1 (bx (s.1.getD s.2.toNat 0) 0 w l).1 (bx (s.1.getD s.2.toNat 0) 0 w l).2 p1 hs.t1
  rw[hs.l1] at h3 h4 h5 h6 ⊢
  exact ⟨⟨by simp[hs.len],.inl rfl,h5,h6,hs.t2,hs.l2,hs.t3,hs.l3⟩,h3,by omega⟩
 ·rename_i e
  simp only[if_neg e] at h1 h2 ⊢
  obtain ⟨h3,h4⟩:=eT (lg p2) (t.1-2) 1 _ _ p2 h1 (by rw[hs.l2];omega)
  obtain ⟨h5,h6⟩:=sM (lg p2) (t.1-2) 1 (bx (s.1.getD s.2.toNat 0) 1 w l).1 (bx (s.1.getD s.2.toNat 0) 1 w l).2 p2 hs.t2
  rw[hs.l2] at h3 h4 h5 h6 ⊢
  generalize bb 8 (t.1-2) 1 (bx (s.1.getD s.2.toNat 0) 1 w l).1 (bx (s.1.getD s.2.toNat 0) 1 w l).2 p2=r at*
  obtain ⟨k3,k4⟩:=eT (lg p3) ((t.2.1-1)/64) 1 _ _ p3 h3 (by rw[hs.l3];omega)
  obtain ⟨k5,k6⟩:=sM (lg p3) ((t.2.1-1)/64) 1 r.1 r.2.1 p3 hs.t3
  rw[hs.l3] at k3 k4 k5 k6 ⊢
  generalize bb 6 ((t.2.1-1)/64) 1 r.1 r.2.1 p3=r2 at*
  obtain ⟨m3,m4⟩:=y7 6 (t.2.1-1) _ _ k3 (by omega)
  exact ⟨⟨by simp[hs.len],.inr rfl,hs.t1,hs.l1,h5,h6,k5,k6⟩,m3,by omega⟩
def dN:List cj→(List Int×Int)→List Int→List Int→List Int→Int→List Int→Int×List Int
 | [],_,_,_,_,w,l=>(w,l)
 |t::r,s,p1,p2,p3,w,l=>
  let x:=jf t s p1 p2 p3 w l
  dN r x.1 x.2.1 x.2.2.1 x.2.2.2.1 x.2.2.2.2.1 x.2.2.2.2.2
def sN (l:List cj):Prop:= ∀ t∈l,0≤t.2.2∧t.2.2<256
theorem abz {t:cj} {made:Int} (h:iR t made=true) (hb:0≤t.2.2∧t.2.2<256):aeL t:=by
 unfold iR at h
 split at h
 ·rename_i e;exact .inl ⟨e,hb⟩
 ·have:=of_decide_eq_true h;exact .inr ⟨this.2.1,this.2.2.1,this.2.2.2.1,this.2.2.2.2.1⟩
abbrev sO:Type:=(List (Int×Int×Int))×Int×Int×Int×(List Int)×(List Int)×Int×(List Int)×(List Int)×(List Int)
noncomputable abbrev pC:ba St sO:=(bG (jk 3 (aj (ai (aP (0) (0))) (aj (ai (aP (2) (0))) (jk 7 (ae (ai (eS false
 false ((Ty.int IntKind.i64).pair ((Ty.int IntKind.i64).pair (Ty.int IntKind.u8))))) (ae (ai (ax IntKind.i64)) (ae (ai (ax IntKind.i64))
 (jk 9 ag)))))))) (ae (gX (183) ((aj (wX (1) (0)) (ae (ax IntKind.u64) ag)))) (ae (eE (0) (Ty.int IntKind.u8)) (ae (gX (143)
 ((ae (wY (Ty.int IntKind.i64) (2)) (ae (ax IntKind.i64) (aj (aP (3) (0)) (aj (aP (5) (0)) (aj (aP (7) (0)) ag))))))) (aj
 (gX (213) ((aj (wX (4) (0)) ag))) (ae (eE (0) (Ty.int IntKind.u16)) (aj (gX (213) ((aj (wX (6) (0)) ag))) (ae (eE (0)
 (Ty.int IntKind.u16)) (aj (gX (213) ((aj (wX (8) (0)) ag))) (ae (eE (0) (Ty.int IntKind.u16)) ag)))))))))).qk (fun y=>(y.1.1,
 y.1.2.1,y.1.2.2.1,y.2.1.1,y.2.2.1,y.2.2.2.1.1,y.2.2.2.1.2.1,y.2.2.2.2.1,y.2.2.2.2.2.1,y.2.2.2.2.2.2.1)) (fun x=>((x.1,(x.2.1,(x.2.2.1,
 ()))),((x.2.2.2.1,()),(x.2.2.2.2.1,((x.2.2.2.2.2.1,(x.2.2.2.2.2.2.1,())),(x.2.2.2.2.2.2.2.1,(x.2.2.2.2.2.2.2.2.1,(x.2.2.2.2.2.2.2.2.2,
 ())))))))) (fun _=>rfl)
abbrev xw:List Wk:= [.fr (dA 24 [(3,.aq),(4,.aq),(12,.aq),(13,.aq),(14,.aq)]),.syms,.auto,.aD,.iP 2 0 2 .i64]
abbrev O0:Exit→List Wk:=Dy xw 0 [.fr (dA 24 [(3,.aq)]),.syms,.auto,.aD,.iP 2 0 2 .i64] [.fr (dA 24 [(2,.aq)]),.syms,
 .auto,.aD,.iP 2 0 2 .i64]
noncomputable def gP (l':List (Int×Int×Int)) (i:Int):Int×Int×Int:=l'.getD i.toNat (0,0,0)
abbrev O1:Type:=Int×(List Int)
noncomputable abbrev xx (x:O1):Exit×St:=(Exit.exit 0,⟨(ir 3 (LV.one (VV.sc (SV.ptr 0 0))::(ir 20 []))),[some (Item.aZ [SV.sl 1
 0,SV.int IntKind.u64 (SI.sym x.1)] 183),some (Item.own 0 (Ty.int IntKind.u8) x.2)]⟩)
noncomputable def sP (l':List (Int×Int×Int)) (n:Int) (i:Int) (w:Int) (o:List Int) (cs:List Int) (bh:Int) (p1:List Int) (p2:
 List Int) (p3:List Int):Tr (sO⊕(O1)):=(.ite (decide (i<n)) (.need (0≤i∧i<(↑l'.length:Int)) (.need (xu (gP l' i)
 (cs,bh) p1 p2 p3 w o) (.ret (.inl (l',n,IntKind.i64.wrap (i+1),(jf (gP l' i) (cs,bh) p1 p2 p3 w o).snd.snd.snd.snd.fst,(jf (gP
 l' i) (cs,bh) p1 p2 p3 w o).snd.snd.snd.snd.snd,(jf (gP l' i) (cs,bh) p1 p2 p3 w o).fst.fst,(jf (gP l' i) (cs,bh) p1 p2 p3 w
 o).fst.snd,(jf (gP l' i) (cs,bh) p1 p2 p3 w o).snd.fst,(jf (gP l' i) (cs,bh) p1 p2 p3 w o).snd.snd.fst,(jf (gP l' i) (cs,
 bh) p1 p2 p3 w o).snd.snd.snd.fst))))) (.ret (.inr (w,o))))
theorem HM (l:List cj) (l':List (Int×Int×Int)) (n:Int) (i:Int) (w:Int) (o:List Int) (cs:List Int) (bh:Int) (p1:List Int) (p2:List Int) (p3:List Int):dR Tryz.prog [(48,pA),(83,Vo),(84,xt),(85,VM)] [] Tryz.f47 0 ((ag).wr (())) O0 (pC.wr (l',n,i,w,o,cs,bh,p1,p2,p3))=(sP l' n i w o cs bh p1 p2 p3).res pC.wr xx:=by kernel_rfl
abbrev pD (l':List (Int×Int×Int)) (n:Int) (i:Int) (w:Int) (o:List Int) (cs:List Int) (bh:Int) (p1:List Int) (p2:List Int) (p3:List Int):Prop:=n=l'.length∧0≤i∧i≤n∧(∃ made,bC made (l'.drop i.toNat)=true)∧sN l'∧TR (cs,bh) p1 p2 p3∧sj w o∧o.length+21*(n-i)<1099500000000∧n<1099500000000
noncomputable abbrev xy (x_:sO):aU:= .need ((fun (l':List (Int×Int×Int)) (n:Int) (i:Int) (w:Int) (o:List Int) (cs:List Int) (bh:Int) (p1:List Int) (p2:List Int) (p3:List Int)=>pD l' n i w o cs bh p1 p2 p3) x_.1 x_.2.1 x_.2.2.1 x_.2.2.2.1 x_.2.2.2.2.1 x_.2.2.2.2.2.1 x_.2.2.2.2.2.2.1 x_.2.2.2.2.2.2.2.1 x_.2.2.2.2.2.2.2.2.1 x_.2.2.2.2.2.2.2.2.2) (.leaf (xx ((fun (l':List (Int×Int×Int)) (n:Int) (i:Int) (w:Int) (o:List Int) (cs:List Int) (bh:Int) (p1:List Int) (p2:List Int) (p3:List Int)=>dN (l'.drop i.toNat) (cs,bh) p1 p2 p3 w o) x_.1 x_.2.1 x_.2.2.1 x_.2.2.2.1 x_.2.2.2.2.1 x_.2.2.2.2.2.1 x_.2.2.2.2.2.2.1 x_.2.2.2.2.2.2.2.1 x_.2.2.2.2.2.2.2.2.1 x_.2.2.2.2.2.2.2.2.2)).1 (xx ((fun (l':List (Int×Int×Int)) (n:Int) (i:Int) (w:Int) (o:List Int) (cs:List Int) (bh:Int) (p1:List Int) (p2:List Int) (p3:List Int)=>dN (l'.drop i.toNat) (cs,bh) p1 p2 p3 w o) x_.1 x_.2.1 x_.2.2.1 x_.2.2.2.1 x_.2.2.2.2.1 x_.2.2.2.2.2.1 x_.2.2.2.2.2.2.1 x_.2.2.2.2.2.2.2.1 x_.2.2.2.2.2.2.2.2.1 x_.2.2.2.2.2.2.2.2.2)).2)
theorem Re (l':List (Int×Int×Int)) (n:Int) (i:Int) (w:Int) (o:List Int) (cs:List Int) (bh:Int) (p1:List Int) (p2:List Int) (p3:List Int) (h_:pD l' n i w o cs bh p1 p2 p3):dq (fun x_:sO=>sP x_.1 x_.2.1 x_.2.2.1 x_.2.2.2.1 x_.2.2.2.2.1 x_.2.2.2.2.2.1 x_.2.2.2.2.2.2.1 x_.2.2.2.2.2.2.2.1 x_.2.2.2.2.2.2.2.2.1 x_.2.2.2.2.2.2.2.2.2) (l',n,i,w,o,cs,bh,p1,p2,p3) (dN (l'.drop i.toNat) (cs,bh) p1 p2 p3 w o):=by
 obtain ⟨rfl,h1,h2,⟨made,h3⟩,h4,h5,h6,h7,h8⟩:=h_
 obtain ⟨k,rfl⟩: ∃ k:Nat,i=k:=⟨i.toNat,by omega⟩
 rw[Int.toNat_natCast] at h3 ⊢
 obtain ⟨m,hm⟩: ∃ m,l'.length=k+m:=⟨l'.length-k,by omega⟩
 clear h2
 induction m generalizing k made w o cs bh p1 p2 p3 with
 |zero=>
  refine .stop ?_
  rw[List.drop_of_length_le (by omega)]
  simp only[sP,bs,an,al,dN]
  exact ⟨fun h=>by omega,fun _=>trivial⟩
 |succ m ih=>
  have hk:k<l'.length:=by omega
  rw[gN (0,0,0) hk,bC,Bool.and_eq_true,Bool.and_eq_true] at h3
  obtain ⟨⟨k1,k2⟩,k3⟩:=h3
  rw[gN (0,0,0) hk,dN]
  have GQ:l'.getD k (0,0,0)∈l':=by
   rw[List.getD_eq_getElem?_getD,List.getElem?_eq_getElem hk];exact List.getElem_mem hk
  have hx:gP l' (k:Int)=l'.getD k (0,0,0):=rfl
  generalize l'.getD k (0,0,0)=x at*
  obtain ⟨q1,q2,q3⟩:=y8 (t:=x) h5 h6 (by omega)
  have A9:=ih _ _ _ _ _ _ _ _ q1 q2 (k+1) (by omega) k3 (by omega) (by omega)
  refine .go ?_ A9
  have hi:IntKind.i64.wrap ((k:Int)+1)=k+1:=ar (by omega) (by omega)
  simp only[sP,bs,an,al,hx,hi]
  exact ⟨fun _=>⟨⟨by omega,by omega⟩,⟨h5,h6,abz k1 (h4 _ GQ),by omega⟩,rfl⟩,fun h=>by omega⟩
theorem Lg (l:List cj): ∀ x:sO,Ex Tryz.prog ((ag).wr (())) (.loop (aW Tryz.f47 0)) (pC.wr x) (xy x):=
 db mixed ((ak lG (ak OQ (ak vq (ak OZ aF))))) (ws:=O0) (aQ.nil _) (E:=xx) (L:=fun x_=>sP x_.1 x_.2.1 x_.2.2.1 x_.2.2.2.1 x_.2.2.2.2.1 x_.2.2.2.2.2.1 x_.2.2.2.2.2.2.1 x_.2.2.2.2.2.2.2.1 x_.2.2.2.2.2.2.2.2.1 x_.2.2.2.2.2.2.2.2.2) (pre:=fun x_=>(fun (l':List (Int×Int×Int)) (n:Int) (i:Int) (w:Int) (o:List Int) (cs:List Int) (bh:Int) (p1:List Int) (p2:List Int) (p3:List Int)=>pD l' n i w o cs bh p1 p2 p3) x_.1 x_.2.1 x_.2.2.1 x_.2.2.2.1 x_.2.2.2.2.1 x_.2.2.2.2.2.1 x_.2.2.2.2.2.2.1 x_.2.2.2.2.2.2.2.1 x_.2.2.2.2.2.2.2.2.1 x_.2.2.2.2.2.2.2.2.2) (sp:=fun x_=>(fun (l':List (Int×Int×Int)) (n:Int) (i:Int) (w:Int) (o:List Int) (cs:List Int) (bh:Int) (p1:List Int) (p2:List Int) (p3:List Int)=>dN (l'.drop i.toNat) (cs,bh) p1 p2 p3 w o) x_.1 x_.2.1 x_.2.2.1 x_.2.2.2.1 x_.2.2.2.2.1 x_.2.2.2.2.2.1 x_.2.2.2.2.2.2.1 x_.2.2.2.2.2.2.2.1 x_.2.2.2.2.2.2.2.2.1 x_.2.2.2.2.2.2.2.2.2) (fun x_=>HM l x_.1 x_.2.1 x_.2.2.1 x_.2.2.2.1 x_.2.2.2.2.1 x_.2.2.2.2.2.1 x_.2.2.2.2.2.2.1 x_.2.2.2.2.2.2.2.1 x_.2.2.2.2.2.2.2.2.1 x_.2.2.2.2.2.2.2.2.2) (fun z e=>by cases e) je (fun x_ h=>Re x_.1 x_.2.1 x_.2.2.1 x_.2.2.2.1 x_.2.2.2.2.1 x_.2.2.2.2.2.1 x_.2.2.2.2.2.2.1 x_.2.2.2.2.2.2.2.1 x_.2.2.2.2.2.2.2.2.1 x_.2.2.2.2.2.2.2.2.2 h)
abbrev Lh:Type:=List Int
noncomputable abbrev Li (x:Lh):LV:=LV.one (VV.sc (SV.rd true false (Ty.int IntKind.u8) x))
noncomputable abbrev Lj (x:Lh):List (Nat×Ev.Item):= []
noncomputable def Lk (w:Int) (l:List Int):Tr (Lh):=(.need (l.length≤70368744177664) (.ret (l)))
theorem Ll (w:Int) (l:List Int):aS Tryz.prog [(31,Lb)] [] Tryz.f86 ((gG).wr (())) ((qP).wr (w,l,())) [.fr [.sym],.syms,.auto,.aD]=(Lk w l).end Li Lj ((qP).wr (w,l,())):=by kernel_rfl
theorem Rf (w:Int) (l:List Int):aQ Tryz.prog ((qP).wr (w,l,())) [] (aJ Tryz.f86):=(aQ.nil _)
abbrev sQ (w:Int) (l:List Int):Prop:=l.length<1099511627776
noncomputable def VN:ao:=ao.bS [] (gG) (qP) fun x_ y_=> .leaf (some ((fun (w:Int) (l:List Int)=>sQ w l) y_.1 y_.2.1)) (Li ((fun (w:Int) (l:List Int)=>l) y_.1 y_.2.1)) (Lj ((fun (w:Int) (l:List Int)=>l) y_.1 y_.2.1))
theorem VO (w:Int) (l:List Int) (h_:sQ w l):(Lk w l).Is (l):=by
 exact ⟨by omega,rfl⟩
theorem VP:VN.Ok Tryz.prog 86:=
 cg (tys:= []) (A:=gG) (H:=qP) (LT:=fun x_ y_=>(fun (w:Int) (l:List Int)=> []) y_.1 y_.2.1) (ks:= [.fr [.sym],.syms,.auto,.aD]) (V:=Li) (D:=Lj) (T:=fun x_ y_=>Lk y_.1 y_.2.1) (pre:=fun x_ y_=>(fun (w:Int) (l:List Int)=>sQ w l) y_.1 y_.2.1) (sp:=fun x_ y_=>(fun (w:Int) (l:List Int)=>l) y_.1 y_.2.1) mixed ((ak HK aF)) Tryz.func86 (by kernel_rfl) Tryz.call86 (fun x_ y_=>Rf y_.1 y_.2.1) (fun x_ y_=>Ll y_.1 y_.2.1) (fun x_ y_ h=>VO y_.1 y_.2.1 h)
noncomputable def xz (l:List (Int×Int×Int)):Int×List Int:=dN (List.drop 0 l) ([1024,1024],0) (bo 8) (bo 8) (bo 6)
 4294967295 [0,0,0,0]
abbrev Lm:Type:=List Int
noncomputable abbrev Ln (x:Lm):LV:=LV.one (VV.sc (SV.rd true false (Ty.int IntKind.u8) x))
noncomputable abbrev Lo (x:Lm):List (Nat×Ev.Item):= []
noncomputable def D5 (l:List (Int×Int×Int)):Tr (Lm):=(.need (lF l) (.ite (!bC 0 l) (.ret ([])) (.need (xj) (.need
 (lJ) (.need (pD l (↑l.length:Int) 0 4294967295 [0,0,0,0] [1024,1024] 0 (bo 8) (bo 8) (bo 6)) (.need (sQ (xz l).fst
 (xz l).snd) (.ret ((xz l).snd))))))))
theorem Lp (l:List cj):aS Tryz.prog [(48,pA),(83,Vo),(84,xt),(85,VM),(86,VN)] [(0,bM pC ((ag).wr (())) xw (xy))] Tryz.f47 ((DH).wr (l,())) ((ag).wr (())) [.fr [.rd true u8],.fr [.sym],.syms,.auto,.aD]=(D5 l).end Ln Lo ((ag).wr (())):=by kernel_rfl
theorem Rg (l:List cj):aQ Tryz.prog ((ag).wr (())) [(0,bM pC ((ag).wr (())) xw (xy))] (aJ Tryz.f47):=(aQ.cO (nx (by kernel_rfl) (cz (hp:=(ag).wr (())) (Lg l)) pc))
theorem sR: ∀ (l:List cj) {s:List Int×Int} {p1 p2 p3:List Int} {w:Int} {o:List Int},TR s p1 p2 p3→sj w o→o.length+21*l.length<1099500000000→
  sj (dN l s p1 p2 p3 w o).1 (dN l s p1 p2 p3 w o).2∧(dN l s p1 p2 p3 w o).2.length≤o.length+21*l.length
 | [],_,_,_,_,_,_,_,h,_=>⟨h,by simp[dN]⟩
 |t::r,s,p1,p2,p3,w,o,hs,hc,hl=>by
  rw[List.length_cons] at hl
  obtain ⟨q1,q2,q3⟩:=y8 (t:=t) hs hc (by omega)
  have:=sR r q1 q2 (by omega)
  rw[dN,List.length_cons]
  exact ⟨this.1,by have:=this.2;omega⟩
theorem jO (k:Nat) (h:k≤8):QZ (bo k)∧lg (bo k)=k:=by
 have hl:(bo k).length=2 ^ k:=by simp[bo]
 have e:lg (bo k)=k:=by unfold lg;rw[hl,Nat.log2_two_pow]
 refine ⟨⟨by rw[e];exact h,by rw[e,hl],fun i=>?_,fun i _ hi=>?_⟩,e⟩
 ·unfold bo
  rw[List.getD_eq_getElem?_getD,List.getElem?_replicate]
  split<;>simp
 ·rw[e] at hi
  unfold bo
  rw[List.getD_eq_getElem?_getD,List.getElem?_replicate,if_pos hi]
  simp
theorem D6:TR ([1024,1024],0) (bo 8) (bo 8) (bo 6):=
 ⟨rfl,.inl rfl,(jO 8 (by omega)).1,(jO 8 (by omega)).2,(jO 8 (by omega)).1,(jO 8 (by omega)).2,(jO 6 (by omega)).1,(jO 6 (by omega)).2⟩
theorem Lq:sj 4294967295 [0,0,0,0]:=⟨by omega,by omega,fun z hz=>by simp at hz;subst hz;exact ⟨by omega,by omega⟩,by simp⟩
def cR (l:List cj):List Int:=if bC 0 l then (dN l ([1024,1024],0) (bo 8) (bo 8) (bo 6) 4294967295 [0,0,0,0]).2 else []
abbrev gl (l:List cj):Prop:=l.length<1000000000∧sN l
noncomputable def D7:ao:=ao.bS [some fV] (DH) (ag) fun x_ y_=> .leaf (some ((fun (l:List cj)=>gl l) x_.1)) (Ln ((fun (l:List cj)=>cR l) x_.1)) (Lo ((fun (l:List cj)=>cR l) x_.1))
theorem VQ (l:List cj) (h_:gl l):(D5 l).Is (cR l):=by
 obtain ⟨h1,h2⟩:=h_
 have ht:=sR l D6 Lq (by simp;omega)
 have ea:xz l=dN l ([1024,1024],0) (bo 8) (bo 8) (bo 6) 4294967295 [0,0,0,0]:=rfl
 simp only[D5,an,al,cQ,cR,ea]
 refine ⟨by show _<_;omega,fun h=>?_,fun h=>⟨trivial,trivial,⟨rfl,by omega,by omega,⟨0,by simpa using h⟩,h2,D6,Lq,by simp;omega,by omega⟩,?_,?_⟩⟩
 ·rw[if_neg (by simpa using h)]
 ·have:=ht.2;simp only[List.length_cons,List.length_nil] at this;show _<_;omega
 ·rw[if_pos (by simpa using h)]
theorem y9:D7.Ok Tryz.prog 47:=
 cg (tys:= [some fV]) (A:=DH) (H:=ag) (LT:=fun x_ y_=>(fun (l:List cj)=> [(0,bM pC ((ag).wr (())) xw (xy))]) x_.1) (ks:= [.fr [.rd true u8],.fr [.sym],.syms,.auto,.aD]) (V:=Ln) (D:=Lo) (T:=fun x_ y_=>D5 x_.1) (pre:=fun x_ y_=>(fun (l:List cj)=>gl l) x_.1) (sp:=fun x_ y_=>(fun (l:List cj)=>cR l) x_.1) mixed ((ak lG (ak OQ (ak vq (ak OZ (ak VP aF)))))) Tryz.func47 (by kernel_rfl) Tryz.call47 (fun x_ y_=>Rg x_.1) (fun x_ y_=>Lp x_.1) (fun x_ y_ h=>VQ x_.1 h)
end Go.Proofs.YtjalaohajcpllaaGreat
end
section
set_option linter.unusedVariables false
set_option linter.unusedSimpArgs false
namespace Go.Proofs.YtjalaohajcpllaaGreat
open Go Go.Ev
set_option maxRecDepth 1000000
end Go.Proofs.YtjalaohajcpllaaGreat
end
section
set_option linter.unusedVariables false
set_option linter.unusedSimpArgs false
namespace Go.Proofs.YtjalaohajcpllaaGreat
open Go Go.Ev
set_option maxRecDepth 1000000
abbrev Dc:Type:=Int×Int×Int
abbrev cDc:ba (List SV) Dc:=(ae (ax .u64) (ae (ax .u64) (ae (ax .i64) ag))).qk (fun x=>(x.1,x.2.1,x.2.2.1)) (fun y=>(y.1,y.2.1,y.2.2,())) (fun _=>rfl)
abbrev Lr:ba Ev.Item Dc:=Bq 177 cDc
abbrev jg:ba Hp (Dc×Unit):=ae (dt Lr) ag
abbrev agt:ba (List LV) (Int×Unit):=aj (ai (aP 0 0)) (ae (ai (ax .u8)) ag)
abbrev VR:ba (List LV) (Int×Int×Unit):=aj (ai (aP 0 0)) (ae (ai (ax .u64)) (ae (ai (ax .u64)) ag))
def wI (d:Dc):Prop:=0≤d.1∧16777216≤d.2.1∧d.2.1<4294967296∧
 ((d.2.2=0∧d.1<4294967296)∨(d.2.2=1∧d.1<16777216)∨(d.2.2=2∧d.1<65536)∨(d.2.2=3∧d.1<256)∨(d.2.2=4∧d.1=0))
def g8 (d:Dc) (b:Int):Dc:=if d.2.2=0 then d else (d.1*256+b,d.2.1,d.2.2-1)
def ob (d:Dc):Bool:=decide (d.2.2=0∧d.2.1≤d.1)
def wZ (d:Dc):Bool:=decide (d.2.2=0∧d.1<d.2.1)
def sS (c w:Int):Dc:=if w<16777216 then (c,w*256,1) else (c,w,0)
def fJ (d:Dc) (bound eh:Int):Int×Dc:=if d.1<bound then (0,sS d.1 bound) else (1,sS (d.1-bound) eh)
def bq (p:Int) (d:Dc):Int×Int×Dc:=
 if wZ d=true then
  let r:=fJ d (d.2.1/2048*a9 p) (d.2.1-d.2.1/2048*a9 p)
  (r.1,da p r.1,r.2)
 else (0,a9 p,d)
def cF (d:Dc):Int×Dc:=if wZ d=true then fJ d (d.2.1/2) (d.2.1/2) else (0,d)
abbrev VS:Type:=Int×Int×Int
noncomputable abbrev VT (x:VS):LV:=LV.one (VV.sc (SV.ptr 0 0))
noncomputable abbrev VU (x:VS):List (Nat×Ev.Item):= [(0,Lr.wr x)]
noncomputable def VW:Tr (VS):=(.ret ((0,4294967295,4)))
theorem Rh:aS Tryz.prog [] [] Tryz.f77 ((ag).wr (())) ((ag).wr (())) [.fr [.sym],.syms,.auto,.aD]=(VW).end VT VU ((ag).wr (())):=by kernel_rfl
theorem VX:aQ Tryz.prog ((ag).wr (())) [] (aJ Tryz.f77):=(aQ.nil _)
abbrev xA:Prop:=True
noncomputable def VY:ao:=ao.bS [] (ag) (ag) fun x_ y_=> .leaf (some (xA)) (VT ((0,4294967295,4))) (VU ((0,4294967295,4)))
theorem abA (h_:xA):(VW).Is ((0,4294967295,4)):=by
 exact rfl
theorem O2:VY.Ok Tryz.prog 77:=
 cg (tys:= []) (A:=ag) (H:=ag) (LT:=fun x_ y_=> []) (ks:= [.fr [.sym],.syms,.auto,.aD]) (V:=VT) (D:=VU) (T:=fun x_ y_=>VW) (pre:=fun x_ y_=>xA) (sp:=fun x_ y_=>(0,4294967295,4)) mixed aF Tryz.func77 (by kernel_rfl) Tryz.call77 (fun x_ y_=>VX) (fun x_ y_=>Rh) (fun x_ y_ h=>abA h)
abbrev Ls:Type:=Bool
noncomputable abbrev Lt (x:Ls):LV:=LV.one (VV.sc (SV.bool (SB.sym x)))
noncomputable abbrev Lu (x:Ls):List (Nat×Ev.Item):= []
noncomputable def Lv (d:Int×Int×Int):Tr (Ls):=(.ret (decide (0<d.snd.snd)))
theorem Lw (d:Dc):aS Tryz.prog [] [] Tryz.f112 ((gG).wr (())) ((jg).wr (d,())) [.fr [.sym],.syms,.auto,.aD]=(Lv d).end Lt Lu ((jg).wr (d,())):=by kernel_rfl
theorem Ri (d:Dc):aQ Tryz.prog ((jg).wr (d,())) [] (aJ Tryz.f112):=(aQ.nil _)
abbrev oc (d:Dc):Prop:=True
noncomputable def D8:ao:=ao.bS [] (gG) (jg) fun x_ y_=> .leaf (some ((fun (d:Dc)=>oc d) y_.1)) (Lt ((fun (d:Dc)=>decide (0<d.2.2)) y_.1)) (Lu ((fun (d:Dc)=>decide (0<d.2.2)) y_.1))
theorem VZ (d:Dc) (h_:oc d):(Lv d).Is (decide (0<d.2.2)):=by
 exact rfl
theorem za:D8.Ok Tryz.prog 112:=
 cg (tys:= []) (A:=gG) (H:=jg) (LT:=fun x_ y_=>(fun (d:Dc)=> []) y_.1) (ks:= [.fr [.sym],.syms,.auto,.aD]) (V:=Lt) (D:=Lu) (T:=fun x_ y_=>Lv y_.1) (pre:=fun x_ y_=>(fun (d:Dc)=>oc d) y_.1) (sp:=fun x_ y_=>(fun (d:Dc)=>decide (0<d.2.2)) y_.1) mixed aF Tryz.func112 (by kernel_rfl) Tryz.call112 (fun x_ y_=>Ri y_.1) (fun x_ y_=>Lw y_.1) (fun x_ y_ h=>VZ y_.1 h)
abbrev Lx:Type:=Bool×(Int×Int×Int)
noncomputable abbrev Ly (x:Lx):LV:=LV.one (VV.sc (SV.bool (SB.sym x.1)))
noncomputable abbrev Lz (x:Lx):List (Nat×Ev.Item):= [(0,Lr.wr x.2)]
noncomputable def D9 (b:Int) (d:Int×Int×Int):Tr (Lx):=(.need (oc d) (.ite (!decide (0<d.snd.snd)) (.ret (false,d)) (.ret
 (true,(bm IntKind.u64 (shl IntKind.u64 d.fst 8) (IntKind.u64.wrap b),d.snd.fst,IntKind.i64.wrap (d.snd.snd-1))))))
theorem LA (b:Int) (d:Dc):aS Tryz.prog [(112,D8)] [] Tryz.f113 ((agt).wr (b,())) ((jg).wr (d,())) [.fr [.sym],.syms,.auto,.aD]=(D9 b d).end Ly Lz ((jg).wr (d,())):=by kernel_rfl
theorem Rj (b:Int) (d:Dc):aQ Tryz.prog ((jg).wr (d,())) [] (aJ Tryz.f113):=(aQ.nil _)
abbrev sT (b:Int) (d:Dc):Prop:=wI d∧By b
noncomputable def LB:ao:=ao.bS [] (agt) (jg) fun x_ y_=> .leaf (some ((fun (b:Int) (d:Dc)=>sT b d) x_.1 y_.1)) (Ly ((fun (b:Int) (d:Dc)=>(decide (0<d.2.2),g8 d b)) x_.1 y_.1)) (Lz ((fun (b:Int) (d:Dc)=>(decide (0<d.2.2),g8 d b)) x_.1 y_.1))
theorem V0 (b:Int) (d:Dc) (h_:sT b d):(D9 b d).Is ((decide (0<d.2.2),g8 d b)):=by
 obtain ⟨⟨h1,h2,h3,h4⟩,h5,h6⟩:=h_
 have e0:IntKind.u64.wrap b=b:=wrap_u64 h5 (by omega)
 have e1:shl .u64 d.1 8=d.1*256:=by
  have:=gM .u64 d.1 8 (by decide)
  rw[show ((8:Nat):Int)=8 from rfl] at this
  rw[this,wrap_u64]<;>omega
 have e2:bm .u64 (d.1*256) b=d.1*256+b:=nV (m:=8) (by omega) (by omega) h5 (by omega) (by omega)
 have e3:IntKind.i64.wrap (d.2.2-1)=d.2.2-1:=ar (by omega) (by omega)
 simp only[D9,g8,an,jL,al,e0,e1,e2,e3,decide_eq_true_eq,decide_eq_false_iff_not]
 refine ⟨trivial,fun h=>?_,fun h=>?_⟩
 ·rw[if_neg (by omega),decide_eq_true h]
 ·rw[if_pos (by omega),decide_eq_false h]
theorem HN:LB.Ok Tryz.prog 113:=
 cg (tys:= []) (A:=agt) (H:=jg) (LT:=fun x_ y_=>(fun (b:Int) (d:Dc)=> []) x_.1 y_.1) (ks:= [.fr [.sym],.syms,.auto,.aD]) (V:=Ly) (D:=Lz) (T:=fun x_ y_=>D9 x_.1 y_.1) (pre:=fun x_ y_=>(fun (b:Int) (d:Dc)=>sT b d) x_.1 y_.1) (sp:=fun x_ y_=>(fun (b:Int) (d:Dc)=>(decide (0<d.2.2),g8 d b)) x_.1 y_.1) mixed ((ak za aF)) Tryz.func113 (by kernel_rfl) Tryz.call113 (fun x_ y_=>Rj x_.1 y_.1) (fun x_ y_=>LA x_.1 y_.1) (fun x_ y_ h=>V0 x_.1 y_.1 h)
abbrev LC:Type:=Bool
noncomputable abbrev LD (x:LC):LV:=LV.one (VV.sc (SV.bool (SB.sym x)))
noncomputable abbrev LF (x:LC):List (Nat×Ev.Item):= []
noncomputable def Ea (d:Int×Int×Int):Tr (LC):=(.ite ((d.snd.snd==0)==true) (.ret (decide (d.snd.fst≤d.fst))) (.ret (false)))
theorem LG (d:Dc):aS Tryz.prog [] [] Tryz.f114 ((gG).wr (())) ((jg).wr (d,())) [.fr [.sym],.syms,.auto,.aD]=(Ea d).end LD LF ((jg).wr (d,())):=by kernel_rfl
theorem Rk (d:Dc):aQ Tryz.prog ((jg).wr (d,())) [] (aJ Tryz.f114):=(aQ.nil _)
abbrev sU (d:Dc):Prop:=True
noncomputable def LH:ao:=ao.bS [] (gG) (jg) fun x_ y_=> .leaf (some ((fun (d:Dc)=>sU d) y_.1)) (LD ((fun (d:Dc)=>ob d) y_.1)) (LF ((fun (d:Dc)=>ob d) y_.1))
theorem V1 (d:Dc) (h_:sU d):(Ea d).Is (ob d):=by
 simp only[Ea,ob,cQ,al,nX,beq_iff_eq,beq_eq_false_iff_ne]
 exact ⟨fun h=>decide_eq_decide.2 (by omega),fun h=>(decide_eq_false (by omega)).symm⟩
theorem HO:LH.Ok Tryz.prog 114:=
 cg (tys:= []) (A:=gG) (H:=jg) (LT:=fun x_ y_=>(fun (d:Dc)=> []) y_.1) (ks:= [.fr [.sym],.syms,.auto,.aD]) (V:=LD) (D:=LF) (T:=fun x_ y_=>Ea y_.1) (pre:=fun x_ y_=>(fun (d:Dc)=>sU d) y_.1) (sp:=fun x_ y_=>(fun (d:Dc)=>ob d) y_.1) mixed aF Tryz.func114 (by kernel_rfl) Tryz.call114 (fun x_ y_=>Rk y_.1) (fun x_ y_=>LG y_.1) (fun x_ y_ h=>V1 y_.1 h)
abbrev V2:Type:=Bool
noncomputable abbrev V3 (x:V2):LV:=LV.one (VV.sc (SV.bool (SB.sym x)))
noncomputable abbrev V4 (x:V2):List (Nat×Ev.Item):= []
noncomputable def O3 (d:Int×Int×Int):Tr (V2):=(.ite ((d.snd.snd==0)==true) (.ret (decide (d.fst<d.snd.fst))) (.ret (false)))
theorem Rl (d:Dc):aS Tryz.prog [] [] Tryz.f173 ((gG).wr (())) ((jg).wr (d,())) [.fr [.sym],.syms,.auto,.aD]=(O3 d).end V3 V4 ((jg).wr (d,())):=by kernel_rfl
theorem V5 (d:Dc):aQ Tryz.prog ((jg).wr (d,())) [] (aJ Tryz.f173):=(aQ.nil _)
abbrev sV (d:Dc):Prop:=True
noncomputable def V6:ao:=ao.bS [] (gG) (jg) fun x_ y_=> .leaf (some ((fun (d:Dc)=>sV d) y_.1)) (V3 ((fun (d:Dc)=>wZ d) y_.1)) (V4 ((fun (d:Dc)=>wZ d) y_.1))
theorem abB (d:Dc) (h_:sV d):(O3 d).Is (wZ d):=by
 simp only[O3,wZ,cQ,al,nX,beq_iff_eq,beq_eq_false_iff_ne]
 exact ⟨fun h=>decide_eq_decide.2 (by omega),fun h=>(decide_eq_false (by omega)).symm⟩
theorem O4:V6.Ok Tryz.prog 173:=
 cg (tys:= []) (A:=gG) (H:=jg) (LT:=fun x_ y_=>(fun (d:Dc)=> []) y_.1) (ks:= [.fr [.sym],.syms,.auto,.aD]) (V:=V3) (D:=V4) (T:=fun x_ y_=>O3 y_.1) (pre:=fun x_ y_=>(fun (d:Dc)=>sV d) y_.1) (sp:=fun x_ y_=>(fun (d:Dc)=>wZ d) y_.1) mixed aF Tryz.func173 (by kernel_rfl) Tryz.call173 (fun x_ y_=>V5 y_.1) (fun x_ y_=>Rl y_.1) (fun x_ y_ h=>abB y_.1 h)
abbrev V7:Type:=Int×Int×Int
noncomputable abbrev V8 (x:V7):LV:=LV.cD []
noncomputable abbrev V9 (x:V7):List (Nat×Ev.Item):= [(0,Lr.wr x)]
noncomputable def O5 (d:Int×Int×Int):Tr (V7):=(.ite (decide (d.snd.fst<16777216)) (.ret ((d.fst,shl IntKind.u64 d.snd.fst 8,1)))
 (.ret (d)))
theorem Rm (d:Dc):aS Tryz.prog [] [] Tryz.f180 ((gG).wr (())) ((jg).wr (d,())) [.fr [.sym],.syms,.auto,.aD]=(O5 d).end V8 V9 ((jg).wr (d,())):=by kernel_rfl
theorem Wa (d:Dc):aQ Tryz.prog ((jg).wr (d,())) [] (aJ Tryz.f180):=(aQ.nil _)
abbrev sW (d:Dc):Prop:=0≤d.2.1∧d.2.1<4294967296∧d.2.2=0
noncomputable def aeM:ao:=ao.bS [] (gG) (jg) fun x_ y_=> .leaf (some ((fun (d:Dc)=>sW d) y_.1)) (V8 ((fun (d:Dc)=>sS d.1 d.2.1) y_.1)) (V9 ((fun (d:Dc)=>sS d.1 d.2.1) y_.1))
theorem abC (d:Dc) (h_:sW d):(O5 d).Is (sS d.1 d.2.1):=by
 obtain ⟨h1,h2,h3⟩:=h_
 obtain ⟨c,w,n⟩:=d
 simp only at h1 h2 h3
 subst h3
 simp only[O5,sS,bs,al]
 refine ⟨fun h=>?_,fun h=>by rw[if_neg h]⟩
 have:=gM .u64 w 8 (by decide)
 rw[show ((8:Nat):Int)=8 from rfl] at this
 rw[this,wrap_u64 (by omega) (by omega),if_pos h];rfl
theorem abD:aeM.Ok Tryz.prog 180:=
 cg (tys:= []) (A:=gG) (H:=jg) (LT:=fun x_ y_=>(fun (d:Dc)=> []) y_.1) (ks:= [.fr [.sym],.syms,.auto,.aD]) (V:=V8) (D:=V9) (T:=fun x_ y_=>O5 y_.1) (pre:=fun x_ y_=>(fun (d:Dc)=>sW d) y_.1) (sp:=fun x_ y_=>(fun (d:Dc)=>sS d.1 d.2.1) y_.1) mixed aF Tryz.func180 (by kernel_rfl) Tryz.call180 (fun x_ y_=>Wa y_.1) (fun x_ y_=>Rm y_.1) (fun x_ y_ h=>abC y_.1 h)
abbrev Eb:Type:=Int×(Int×Int×Int)
noncomputable abbrev Ec (x:Eb):LV:=LV.one (VV.sc (SV.int IntKind.i64 (SI.sym x.1)))
noncomputable abbrev Ed (x:Eb):List (Nat×Ev.Item):= [(0,Lr.wr x.2)]
noncomputable def xB (bound:Int) (eh:Int) (d:Int×Int×Int):Tr (Eb):=(.ite (decide (d.fst<bound)) (.need (sW (d.fst,
 bound,d.snd.snd)) (.ret (0,sS d.fst bound))) (.need (sW (IntKind.u64.wrap (d.fst-bound),eh,d.snd.snd)) (.ret (1,sS (IntKind.u64.wrap
 (d.fst-bound)) eh))))
theorem HQ (bound eh:Int) (d:Dc):aS Tryz.prog [(180,aeM)] [] Tryz.f174 ((VR).wr (bound,eh,())) ((jg).wr (d,())) [.fr [.sym],.syms,.auto,.aD]=(xB bound eh d).end Ec Ed ((jg).wr (d,())):=by kernel_rfl
theorem LI (bound eh:Int) (d:Dc):aQ Tryz.prog ((jg).wr (d,())) [] (aJ Tryz.f174):=(aQ.nil _)
abbrev lK (bound eh:Int) (d:Dc):Prop:=wI d∧d.2.2=0∧65536≤bound∧bound<4294967296∧65536≤eh∧eh<4294967296
noncomputable def Ee:ao:=ao.bS [] (VR) (jg) fun x_ y_=> .leaf (some ((fun (bound eh:Int) (d:Dc)=>lK bound eh d) x_.1 x_.2.1 y_.1)) (Ec ((fun (bound eh:Int) (d:Dc)=>fJ d bound eh) x_.1 x_.2.1 y_.1)) (Ed ((fun (bound eh:Int) (d:Dc)=>fJ d bound eh) x_.1 x_.2.1 y_.1))
theorem Rn (bound eh:Int) (d:Dc) (h_:lK bound eh d):(xB bound eh d).Is (fJ d bound eh):=by
 obtain ⟨⟨h1,h2,h3,h4⟩,h5,h6,h7,h8,h9⟩:=h_
 simp only[xB,fJ,bs,an,al]
 refine ⟨fun h=>⟨⟨by simp only;omega,h7,h5⟩,by rw[if_pos h]⟩,fun h=>?_⟩
 have e:IntKind.u64.wrap (d.1-bound)=d.1-bound:=wrap_u64 (by omega) (by omega)
 rw[e]
 exact ⟨⟨by simp only;omega,h9,h5⟩,by rw[if_neg h]⟩
theorem B5:Ee.Ok Tryz.prog 174:=
 cg (tys:= []) (A:=VR) (H:=jg) (LT:=fun x_ y_=>(fun (bound eh:Int) (d:Dc)=> []) x_.1 x_.2.1 y_.1) (ks:= [.fr [.sym],.syms,.auto,.aD]) (V:=Ec) (D:=Ed) (T:=fun x_ y_=>xB x_.1 x_.2.1 y_.1) (pre:=fun x_ y_=>(fun (bound eh:Int) (d:Dc)=>lK bound eh d) x_.1 x_.2.1 y_.1) (sp:=fun x_ y_=>(fun (bound eh:Int) (d:Dc)=>fJ d bound eh) x_.1 x_.2.1 y_.1) mixed ((ak abD aF)) Tryz.func174 (by kernel_rfl) Tryz.call174 (fun x_ y_=>LI x_.1 x_.2.1 y_.1) (fun x_ y_=>HQ x_.1 x_.2.1 y_.1) (fun x_ y_ h=>Rn x_.1 x_.2.1 y_.1 h)
theorem Ro (p:Int):a9 (a9 p)=a9 p:=by
 have:=gu p
 rw[a9,if_neg (by omega),if_neg (by omega)]
theorem LJ (p b:Int):da (a9 p) b=da p b:=by unfold da;rw[Ro]
theorem sX (d:Dc):wZ d=true↔d.2.2=0∧d.1<d.2.1:=by unfold wZ;simp
noncomputable def zb (p:Int) (d:Int×Int×Int):Int×Int×Int×Int:=fJ d (IntKind.u64.wrap (shr IntKind.u64 d.snd.fst 11*
 IntKind.u64.wrap (a9 p))) (IntKind.u64.wrap (d.snd.fst-IntKind.u64.wrap (shr IntKind.u64 d.snd.fst 11*IntKind.u64.wrap (a9 p))))
abbrev Wb:Type:=Int×Int×(Int×Int×Int)
noncomputable abbrev Wc (x:Wb):LV:=LV.cD [VV.sc (SV.int IntKind.i64 (SI.sym x.1)),VV.sc (SV.int IntKind.i64 (SI.sym x.2.1))]
noncomputable abbrev Wd (x:Wb):List (Nat×Ev.Item):= [(0,Lr.wr x.2.2)]
noncomputable def O6 (p:Int) (d:Int×Int×Int):Tr (Wb):=(.need (sV d) (.ite (!wZ d) (.ret (0,a9 p,d)) (.need (lK
 (IntKind.u64.wrap (shr IntKind.u64 d.snd.fst 11*IntKind.u64.wrap (a9 p))) (IntKind.u64.wrap (d.snd.fst-IntKind.u64.wrap (shr IntKind.u64
 d.snd.fst 11*IntKind.u64.wrap (a9 p)))) d) (.ret ((zb p d).fst,da (a9 p) (zb p d).fst,(zb p d).snd)))))
theorem Rp (p:Int) (d:Dc):aS Tryz.prog [(173,V6),(174,Ee),(155,Dv),(158,r9)] [] Tryz.f150 ((qN).wr (p,())) ((jg).wr (d,())) [.fr [.sym],.syms,.auto,.aD]=(O6 p d).end Wc Wd ((jg).wr (d,())):=by kernel_rfl
theorem We (p:Int) (d:Dc):aQ Tryz.prog ((jg).wr (d,())) [] (aJ Tryz.f150):=(aQ.nil _)
abbrev mB (p:Int) (d:Dc):Prop:=wI d
noncomputable def aeN:ao:=ao.bS [] (qN) (jg) fun x_ y_=> .leaf (some ((fun (p:Int) (d:Dc)=>mB p d) x_.1 y_.1)) (Wc ((fun (p:Int) (d:Dc)=>bq p d) x_.1 y_.1)) (Wd ((fun (p:Int) (d:Dc)=>bq p d) x_.1 y_.1))
theorem abE (p:Int) (d:Dc) (h_:mB p d):(O6 p d).Is (bq p d):=by
 obtain ⟨h1,h2,h3,h4⟩:=h_
 have hb:=gD p h2 h3
 have hh:=gu p
 have e0:IntKind.u64.wrap (a9 p)=a9 p:=wrap_u64 (by omega) (by omega)
 have e1:shr .u64 d.2.1 11=d.2.1/2048:=eG .u64 d.2.1 11 (by decide)
 have e2:IntKind.u64.wrap (d.2.1/2048*a9 p)=d.2.1/2048*a9 p:=wrap_u64 (by omega) (by omega)
 have e3:IntKind.u64.wrap (d.2.1-d.2.1/2048*a9 p)=d.2.1-d.2.1/2048*a9 p:=wrap_u64 (by omega) (by omega)
 have ea:zb p d=fJ d (d.2.1/2048*a9 p) (d.2.1-d.2.1/2048*a9 p):=by unfold zb;rw[e0,e1,e2,e3]
 simp only[O6,bq,an,jL,al,e0,e1,e2,e3,ea,LJ]
 refine ⟨trivial,fun h=>⟨⟨⟨h1,h2,h3,h4⟩,((sX d).1 h).1,by omega,by omega,by omega,by omega⟩,by rw[if_pos h]⟩,fun h=>by rw[if_neg (by simp[h])]⟩
theorem abF:aeN.Ok Tryz.prog 150:=
 cg (tys:= []) (A:=qN) (H:=jg) (LT:=fun x_ y_=>(fun (p:Int) (d:Dc)=> []) x_.1 y_.1) (ks:= [.fr [.sym],.syms,.auto,.aD]) (V:=Wc) (D:=Wd) (T:=fun x_ y_=>O6 x_.1 y_.1) (pre:=fun x_ y_=>(fun (p:Int) (d:Dc)=>mB p d) x_.1 y_.1) (sp:=fun x_ y_=>(fun (p:Int) (d:Dc)=>bq p d) x_.1 y_.1) mixed ((ak O4 (ak B5 (ak r8 (ak pe aF))))) Tryz.func150 (by kernel_rfl) Tryz.call150 (fun x_ y_=>We x_.1 y_.1) (fun x_ y_=>Rp x_.1 y_.1) (fun x_ y_ h=>abE x_.1 y_.1 h)
noncomputable def xC (d:Int×Int×Int):Int×Int×Int×Int:=fJ d (IntKind.u64.wrap (d.snd.fst.tdiv 2)) (IntKind.u64.wrap
 (d.snd.fst.tdiv 2))
abbrev LK:Type:=Int×(Int×Int×Int)
noncomputable abbrev LM (x:LK):LV:=LV.one (VV.sc (SV.int IntKind.i64 (SI.sym x.1)))
noncomputable abbrev LN (x:LK):List (Nat×Ev.Item):= [(0,Lr.wr x.2)]
noncomputable def Ef (d:Int×Int×Int):Tr (LK):=(.need (sV d) (.ite (!wZ d) (.ret (0,d)) (.need (lK (IntKind.u64.wrap
 (d.snd.fst.tdiv 2)) (IntKind.u64.wrap (d.snd.fst.tdiv 2)) d) (.ret ((xC d).fst,(xC d).snd)))))
theorem LO (d:Dc):aS Tryz.prog [(173,V6),(174,Ee)] [] Tryz.f151 ((gG).wr (())) ((jg).wr (d,())) [.fr [.sym],.syms,.auto,.aD]=(Ef d).end LM LN ((jg).wr (d,())):=by kernel_rfl
theorem Rq (d:Dc):aQ Tryz.prog ((jg).wr (d,())) [] (aJ Tryz.f151):=(aQ.nil _)
abbrev sY (d:Dc):Prop:=wI d
noncomputable def Wf:ao:=ao.bS [] (gG) (jg) fun x_ y_=> .leaf (some ((fun (d:Dc)=>sY d) y_.1)) (LM ((fun (d:Dc)=>cF d) y_.1)) (LN ((fun (d:Dc)=>cF d) y_.1))
theorem Wg (d:Dc) (h_:sY d):(Ef d).Is (cF d):=by
 obtain ⟨h1,h2,h3,h4⟩:=h_
 have e1:d.2.1.tdiv 2=d.2.1/2:=Int.tdiv_eq_ediv_of_nonneg (by omega)
 have e2:IntKind.u64.wrap (d.2.1/2)=d.2.1/2:=wrap_u64 (by omega) (by omega)
 have ea:xC d=fJ d (d.2.1/2) (d.2.1/2):=by unfold xC;rw[e1,e2]
 simp only[Ef,cF,an,jL,al,e1,e2,ea]
 refine ⟨trivial,fun h=>⟨⟨⟨h1,h2,h3,h4⟩,((sX d).1 h).1,by omega,by omega,by omega,by omega⟩,by rw[if_pos h]⟩,fun h=>by rw[if_neg (by simp[h])]⟩
theorem Wh:Wf.Ok Tryz.prog 151:=
 cg (tys:= []) (A:=gG) (H:=jg) (LT:=fun x_ y_=>(fun (d:Dc)=> []) y_.1) (ks:= [.fr [.sym],.syms,.auto,.aD]) (V:=LM) (D:=LN) (T:=fun x_ y_=>Ef y_.1) (pre:=fun x_ y_=>(fun (d:Dc)=>sY d) y_.1) (sp:=fun x_ y_=>(fun (d:Dc)=>cF d) y_.1) mixed ((ak O4 (ak B5 aF))) Tryz.func151 (by kernel_rfl) Tryz.call151 (fun x_ y_=>Rq y_.1) (fun x_ y_=>LO y_.1) (fun x_ y_ h=>Wg y_.1 h)
end Go.Proofs.YtjalaohajcpllaaGreat
end
