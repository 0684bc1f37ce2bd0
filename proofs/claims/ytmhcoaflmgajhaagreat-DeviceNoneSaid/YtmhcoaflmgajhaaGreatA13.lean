/- What the laws lean on, part 13: a reader of code, plain facts, and what each function gives; no conditions. -/
import Derived.Test.YtmhcoaflmgajhaaGreatA12
set_option linter.unusedVariables false
set_option linter.unusedSimpArgs false
noncomputable section
namespace Go.Proofs.YtmhcoaflmgajhaaGreat
open Go Go.Ev Go.Proofs.Tryz
open Go.IntKind (i64 signed u32 u64 wrap wrap_u32)
set_option maxRecDepth 1000000
abbrev Cf:Type:=List (List Int)×Int
abbrev cLd(f g:Nat)(s:aH SV Unit):aH (List SV) Cf:=(aq (a6 f 0) (ab (g9 true false (.arr u8 32)) (ab (ay .i64) (aq (a6 g 0) (aq s ae))))).jl (fun x=>(x.1,x.2.1)) (fun y=>(y.1,y.2,())) (fun _=>rfl)
abbrev jLd(f g:Nat):aH Ev.Item Cf:=ix 96 (cLd f g xi)
abbrev af0:aH Ev.Item Cf:=jLd 0 4
abbrev af1:aH Ev.Item Sg:=jLg 5
abbrev acd:aH Ev.Item Jn:=ix 167 (Gj 0 (sI 6 0))
def fJ(f:(Int×List Int)×Bool×Bool×Int):(Int×List Int)×Bool×Bool×Int:=f
abbrev pI:Type:=Unit
abbrev QB(x:pI):LV:=LV.bV [VV.sc (SV.cQ (Value.pointer none)),VV.sc (SV.int i64 (SI.lit 1))]
abbrev QC(x:pI):List (Nat×Ev.Item):= []
abbrev pJ:Type:=Int
abbrev QD(x:pJ):LV:=LV.bV [VV.sc (SV.cQ (Value.pointer none)),VV.sc (SV.int i64 (SI.sym x))]
abbrev QE(x:pJ):List (Nat×Ev.Item):= []
abbrev pK:Type:=(List (List Int))×Int
abbrev QF(x:pK):LV:=LV.bV [VV.sc (SV.ptr 3 0),VV.sc (SV.int i64 (SI.lit 0))]
abbrev QG(x:pK):List (Nat×Ev.Item):= [(3,Item.aZ [SV.ptr 0 0,SV.rd true false ((Ty.int IntKind.u8).arr 32) x.1,
 SV.int i64 (SI.sym x.2),SV.cQ (Value.pointer none),SV.cQ (Value.pointer none)] 96)]
abbrev np:Type:=(List (List Int)×Int)×((Int×Int×Int×Int×List Int)×Bool×Int×Int×Int×Int×List Int×List Int)×((Int×
 Int)×Int×Int×Int×Bool×Int)×(List (Int×Int×List Int))
abbrev Eb(x:np):LV:=LV.bV [VV.sc (SV.ptr 3 0),VV.sc (SV.int i64 (SI.lit 0))]
abbrev Ec(x:np):List (Nat×Ev.Item):= [(3,af0.wr x.1),(4,af1.wr x.2.1),(5,acd.wr x.2.2.1),(6,Item.own 0
 ((Ty.int i64).pair ((Ty.int i64).pair (Ty.int IntKind.u8).sl)) x.2.2.2)]
abbrev pL:Type:=pI⊕pJ⊕pK⊕np
abbrev QH:pL→LV:=(Sum.elim QB (Sum.elim QD (Sum.elim QF Eb)))
abbrev QI:pL→List (Nat×Ev.Item):=(Sum.elim QC (Sum.elim QE (Sum.elim QG Ec)))
def v9(c:List (List Int)×Int)(f:(Int×List Int)×Bool×Bool×Int)(b:List Int)(er:List Int):Tr (pI⊕pJ
 ⊕pK⊕np):=(.need (j3 c (fJ f) b er) (.ite (!decide ((1≤c.fst.length∧c.fst.length≤8∧3≤c.snd∧c.snd≤100)∧(2:
 Int)+2*c.snd≤(↑er.length:Int))) (.ret (.inl ())) (.ite (!decide ((1:Int)≤2∧(0:Int)≤0∧2≤(↑er.length:Int))) (.need (eU 0 2
 (fJ f) b er) (.ret (.inl ()))) (.need (eU 0 2 (fJ f) b er) (.ite (decide ¬(2:Int)=2) (.need (dc (0,2) (fJ f) b er)
 (.ret (.inl ()))) (.ite (f.snd.fst) (.need (dc (0,2) (fJ f) b er) (.ite ((5:Int)!=0) (.ret (.inr (.inl (5)))) (.need (c.fst.length≤
 1000000) (.ret (.inr (.inr (.inl (c.fst,c.snd)))))))) (.need (dc (0,2) (fJ f) b er) (.need (c.fst.length≤1000000) (.ret (.inr (.inr
 (.inr (c,b9 fv (cn b (0,2)).snd,(cn b (0,2)).fst,(cn b (0,2)).snd)))))))))))))
abbrev rB(c:Cf)(f:Fl)(b er:List Int):Prop:=iy b er∧aA b
abbrev wa(c:Cf)(f:Fl)(b er:List Int):Tr pL:=.ite (!decide (j1 c er)) (.ret (.inl ())) (.ite f.2.1 (.ret (.inr (.inl 5))) (.ret (.inr (.inr (.inr (c,b9 fv (cn b (0,2)).2,cn b (0,2)))))))
def WB:al:=L4 [none,some (.arr u8 32)] (Ih) (oV) (q3∘q1 rB) (q3∘q1 wa) QH QI
theorem L6(c:Cf)(f:Fl)(b er:List Int)(h_:rB c f b er)(z_:pL)(L7:(wa c f b er).Is z_):(v9 c f b er).Is z_:=by
 delta wa at L7;obtain⟨h1,h2⟩:=h_;have hf:j3 c (fJ f) b er:=h1;have ho:eU 0 2 (fJ f) b er:=h1;have L7:=aU.1 L7;have hk0:c.1.length≤8→c.1.length≤1000000:=fun h=>Nat.le_trans h (by decide)
 by_cases c1:j1 c er
 ·have hg:uh (0,2) er:=⟨by decide,by decide,by show(0:Int)+2≤er.length;omega⟩;have hl:dc (0,2) (fJ f) b er:=⟨h1,h2,hg⟩;have hk:=hk0 c1.1.2.1;have c2:(2:Int)≤er.length:=by omega
  have hz:=L7.2 c1;have e1:decide (1≤(2:Int)∧0≤(0:Int)∧(2:Int)≤(er.length:Int))=true:=decide_eq_true ⟨by decide,by decide,c2⟩;have e2:decide (¬ (2:Int)=2)=false:=rfl;have e3:((5:Int)!=0)=true:=rfl;have e4:decide ((1≤c.1.length∧c.1.length≤8∧3≤c.2∧c.2≤100)∧(2:Int)+2*c.2≤(er.length:Int))=true:=decide_eq_true c1
  cases c3:f.2.1 with
  |true=>obtain rfl:=hz.1 c3;simp only[v9,c3,e1,e2,e3,e4,Bool.not_true,not_true_eq_false,decide_false,iP,jW,ah,ai];exact⟨hf,ho,hl,trivial⟩
  |false=>obtain rfl:=hz.2 c3;simp only[v9,c3,e1,e2,e3,e4,Bool.not_true,not_true_eq_false,decide_false,iP,jW,ah,ai];exact⟨hf,ho,hl,hk,trivial⟩
 ·obtain rfl:=L7.1 c1;have Wj:¬ ((1≤c.1.length∧c.1.length≤8∧3≤c.2∧c.2≤100)∧(2:Int)+2*c.2≤(er.length:Int)):=c1;simp only[v9,decide_eq_false Wj,Bool.not_false,iP,ah,ai];exact⟨hf,trivial⟩
theorem L8:WB.Ok Tryz.prog 32:=
 L5 mixed ((aj xw (aj uk (aj tf (aj CV aw))))) func32 (by kernel_rfl) call32 (ks:= [.auto,.ba]) (fun _ _=>aS.nil _) (fun _ _=>by kernel_rfl) fun x_ y_ h=>L6 x_.1 y_.1 y_.2.1 y_.2.2.1 h
abbrev oh(c:Cf)(f:Fl)(b er:List Int):Prop:=iy b er∧aA b∧j1 c er∧f.2.1=false
abbrev Ed(c:Cf)(f:Fl)(b er:List Int):np:=(c,b9 fv (cn b (0,2)).2,cn b (0,2))
def QJ:al:=bD [none,some (.arr u8 32)] (Ih) (oV) (q3∘q1 oh) (q3∘q1 Ed) Eb Ec
theorem Gn(c:Cf)(f:Fl)(b er:List Int)(h_:oh c f b er):rB c f b er∧(wa c f b er).Is ((fun z_=>(.inr (.inr (.inr z_)))) (Ed c f b er)):=by
 obtain⟨h1,h2,h3,h4⟩:=h_;exact⟨⟨h1,h2⟩,aU.2 ⟨fun h=>absurd h3 h,fun _=>az.2 ⟨fun h=>(by rw[h4]at h;cases h),fun _=>rfl⟩⟩⟩
theorem Gp:QJ.Ok Tryz.prog 32:=Ea L8 (fun z_=>(.inr (.inr (.inr z_)))) (fun _=>rfl) (fun _=>rfl) fun x_ y_ h=>Gn x_.1 y_.1 y_.2.1 y_.2.2.1 h
abbrev cDv(l:aH SV Unit):aH (List SV) Cf:=(ab (g9 true false (.arr u8 32)) (ab (ay .i64) (aq (a6 1 0) (aq l ae)))).jl (fun x=>(x.1,x.2.1)) (fun y=>(y.1,y.2,())) (fun _=>rfl)
abbrev af2:aH Ev.Item Cf:=ix 56 (cDv xi)
abbrev L9:aH Ev.Item Cf:=ix 56 (cDv (a6 4 0))
abbrev Ma:aH Ev.Item Cf:=jLd 1 5
abbrev Mb:aH Ev.Item Sg:=jLg 6
abbrev zk:aH Ev.Item Jn:=ix 167 (Gj 1 (sI 7 0))
abbrev af3:aH Hp (Cf×Fl×List Int×List Int×Unit):=ab (cj af2) (ab (cj vH) (ab (dq 0 u8) (ab (dq 0 (.int .i64)) ae)))
abbrev WC:aH (List LV) Unit:=aq (ak (a6 0 0)) ae
abbrev wb:Type:=Int×(List (List Int)×Int)×(List (List Int)×Int)×((Int×Int×Int×Int×List Int)×Bool×Int×Int×Int×Int×
 List Int×List Int)×((Int×Int)×Int×Int×Int×Bool×Int)×(List (Int×Int×List Int))
abbrev WD(x:wb):LV:=LV.one (VV.sc (SV.int i64 (SI.sym x.1)))
abbrev WE(x:wb):List (Nat×Ev.Item):= [(0,L9.wr x.2.1),(4,Ma.wr x.2.2.1),(5,Mb.wr x.2.2.2.1),(6,zk.wr
 x.2.2.2.2.1),(7,Item.own 0 ((Ty.int i64).pair ((Ty.int i64).pair (Ty.int IntKind.u8).sl)) x.2.2.2.2.2)]
def WG(c:List (List Int)×Int)(f:(Int×List Int)×Bool×Bool×Int)(b:List Int)(er:List Int):Tr (wb):=(.need
 (oh c f b er) (.ret (0,c,c,b9 fv (cn b (0,2)).snd,(cn b (0,2)).fst,(cn b (0,2)).snd)))
abbrev nq(c:Cf)(f:Fl)(b er:List Int):Prop:=iy b er∧aA b∧j1 c er∧f.2.1=false
abbrev BU(c:Cf)(f:Fl)(b er:List Int):wb:=(0,c,c,b9 fv (cn b (0,2)).2,cn b (0,2))
def WH:al:=bD [] (WC) (af3) (q4∘q0 nq) (q4∘q0 BU) WD WE
theorem Mc(c:Cf)(f:Fl)(b er:List Int)(h_:nq c f b er):(WG c f b er).Is (BU c f b er):=by
 delta BU;exact⟨h_,rfl⟩
theorem Md:WH.Ok Tryz.prog 14:=
 a5 mixed ((aj Gp aw)) func14 (by kernel_rfl) call14 (ks:=fH) (fun _ _=>aS.nil _) (fun _ _=>by kernel_rfl) fun x_ y_ h=>Mc y_.1 y_.2.1 y_.2.2.1 y_.2.2.2.1 h
def lN(c:List (List Int)×Int):List Int:=List.replicate (1024*qB (i64.wrap (2+i64.wrap (2*
 c.snd)))).toNat (255:Int)
abbrev wc:Type:=Unit
abbrev WI(x:wc):LV:=LV.bV [VV.sc (SV.cQ (Value.pointer none)),VV.sc (SV.int i64 (SI.lit 1))]
abbrev WJ(x:wc):List (Nat×Ev.Item):= []
abbrev rC:Type:=Int×(List (List Int)×Int)×((Int×List Int)×Bool×Bool×Int)×(List Int)×(List Int)×(List (List Int)×Int)×
 ((Int×Int×Int×Int×List Int)×Bool×Int×Int×Int×Int×List Int×List Int)×((Int×Int)×Int×Int×Int×Bool×Int)×(List (Int×
 Int×List Int))
abbrev Me(x:rC):LV:=LV.bV [VV.sc (SV.ptr 0 0),VV.sc (SV.int i64 (SI.sym x.1))]
abbrev Mf(x:rC):List (Nat×Ev.Item):= [(0,L9.wr x.2.1),(1,vH.wr x.2.2.1),(2,Item.own 0 (Ty.int IntKind.u8)
 x.2.2.2.1),(3,Item.own 0 (Ty.int i64) x.2.2.2.2.1),(4,Ma.wr x.2.2.2.2.2.1),(5,Mb.wr x.2.2.2.2.2.2.1),(6,zk.wr
 x.2.2.2.2.2.2.2.1),(7,Item.own 0 ((Ty.int i64).pair ((Ty.int i64).pair (Ty.int IntKind.u8).sl)) x.2.2.2.2.2.2.2.2)]
abbrev we:Type:=wc⊕rC
abbrev WK:we→LV:=(Sum.elim WI Me)
abbrev WL:we→List (Nat×Ev.Item):=(Sum.elim WJ Mf)
def Mg(c:List (List Int)×Int):Tr (wc⊕rC):=(.need (fP c) (.ite (!decide (1≤c.fst.length∧c.fst.length≤8
 ∧3≤c.snd∧c.snd≤100)) (.ret (.inl ())) (.need (c.fst.length≤1000000) (.need (ua (i64.wrap (2+i64.wrap (2*c.snd))))
 (.need (nq c ((0,[]),false,false,0) (lN c) (List.replicate (qB (i64.wrap (2+i64.wrap (2*c.snd)))).toNat (0:Int)))
 (.ret (.inr (0,c,((0,[]),false,false,0),lN c,List.replicate (qB (i64.wrap (2+i64.wrap (2*c.snd)))).toNat (0:Int),
 c,b9 fv (cn (lN c) (0,2)).snd,(cn (lN c) (0,2)).fst,(cn (lN c) (0,2)).snd))))))))
theorem Ee{n:Nat}{p m:Int}(h:0≤p∧0≤m∧p+m≤n):bJ (List.replicate n (255:Int)) p m=List.replicate m.toNat 255:=by
 unfold bJ;rw[List.drop_replicate,List.take_replicate,Nat.min_eq_left (by omega)]
theorem Mh:px (List.replicate 1024 255)=0:=by decide+kernel
theorem Gq{n:Nat}(h:2048≤n):cn (List.replicate n 255) (0,2)=(((0,2),0,-1,0,false,0),[]):=by
 have e0:cP (List.replicate n (255:Int)) (0,2) 0=List.replicate 1024 255:=Ee (by simp only;omega);have e1:cP (List.replicate n (255:Int)) (0,2) 1=List.replicate 1024 255:=Ee (by simp only;omega);unfold cn;rw[e0,e1];unfold oY;rw[Mh];rfl
def gy(c:Cf):Nat:=(2+2*c.2).toNat
abbrev ns(c:Cf):Prop:=True
abbrev Ef(c:Cf):Tr we:=.ite (!decide (lz c)) (.ret (.inl ())) (.ret (.inr (0,c,((0,[]),false,false,0),List.replicate (1024*gy c) 255,List.replicate (gy c) 0,c,fv,((0,2),0,-1,0,false,0),[])))
def ace:al:=L4 [some (.arr u8 32)] (cfA) (ae) (q0∘q1 ns) (q0∘q1 Ef) WK WL
theorem QK(c:Cf)(h_:ns c)(z_:we)(L7:(Ef c).Is z_):(Mg c).Is z_:=by
 delta Ef at L7;have L7:=aU.1 L7;have c4:fP c:=trivial
 by_cases c1:lz c
 ·obtain rfl:=L7.2 c1;have hw:i64.wrap (2+i64.wrap (2*c.2))=2+2*c.2:=by rw[ar (n:=2*c.2) (by omega) (by omega),ar (by omega) (by omega)]
  have hs:qB (2+2*c.2)=2+2*c.2:=by unfold qB;split<;>(try split)<;>omega
  have e1:(2+2*c.2).toNat=gy c:=rfl;have hc:2+2*c.2=(gy c:Int)∧8≤gy c∧gy c≤202:=by unfold gy;omega
  have e2:(1024*(2+2*c.2)).toNat=1024*gy c:=by omega
  have e0:lN c=List.replicate (1024*gy c) 255:=by unfold lN;rw[hw,hs,e2]
  have hk:c.1.length≤1000000:=Nat.le_trans c1.2.1 (by decide);have hf:iy (List.replicate (1024*gy c) (255:Int)) (List.replicate (gy c) 0):=⟨by simp,by simp;omega,by simp;omega⟩;have hp:nq c ((0,[]),false,false,0) (List.replicate (1024*gy c) 255) (List.replicate (gy c) 0):=⟨hf,aA.rep _ ⟨by decide,by decide⟩,⟨c1,by rw[List.length_replicate];omega⟩,rfl⟩;have hn:ua (gy c:Int):=trivial;simp only[Mg,hw,hs,e0,e1,Gq (show 2048≤1024*gy c by omega),ah,aU,ai];exact⟨c4,fun h=>absurd c1 h,fun _=>⟨hk,trivial,hp,rfl⟩⟩
 ·obtain rfl:=L7.1 c1;simp only[Mg,ah,aU,ai];exact⟨c4,fun _=>trivial,fun h=>absurd h c1⟩
theorem Eg:ace.Ok Tryz.prog 6:=
 L5 mixed ((aj nV (aj CV (aj TO (aj Md aw))))) func6 (by kernel_rfl) call6 (ks:= [.auto,.ba]) (fun _ _=>aS.nil _) (fun _ _=>by kernel_rfl) fun x_ y_ h=>QK x_.1 h
abbrev rD(c:Cf):Prop:=lz c
abbrev Mi(c:Cf):rC:=(0,c,((0,[]),false,false,0),List.replicate (1024*gy c) 255,List.replicate (gy c) 0,c,fv,((0,2),0,-1,0,false,0),[])
def WM:al:=bD [some (.arr u8 32)] (cfA) (ae) (q0∘q1 rD) (q0∘q1 Mi) Me Mf
theorem Mj(c:Cf)(h_:rD c):ns c∧(Ef c).Is ((fun z_=>(.inr z_)) (Mi c)):=by
 exact⟨trivial,aU.2 ⟨fun h=>absurd h_ h,fun _=>rfl⟩⟩
theorem Mk:WM.Ok Tryz.prog 6:=Ea Eg (fun z_=>(.inr z_)) (fun _=>rfl) (fun _=>rfl) fun x_ y_ h=>Mj x_.1 h
abbrev Ml:aH Hp (Cf×Fl×List Int×List Int×Cf×Sg×Jn×List cy.D×Unit):=ab (cj L9) (ab (cj vH) (ab (dq 0 u8) (ab (dq 0 (.int .i64)) (ab (cj Ma) (ab (cj Mb) (ab (cj zk) (ab (dq 0 cy) ae)))))))
abbrev Gr:Type:=Int×Int×Int×List Int
abbrev cOp:aH (List SV) Gr:=(ab (ay .i64) (ab (ay .i64) (ab (ay .i64) (ab (g9 false false u8) ae)))).jl (fun x=>(x.1,x.2.1,x.2.2.1,x.2.2.2.1)) (fun y=>(y.1,y.2.1,y.2.2.1,y.2.2.2,())) (fun _=>rfl)
abbrev af4:aH (List LV) (Gr×Unit):=aq (ak (a6 0 0)) (ab (fy cOp) ae)
abbrev af5:aH (List LV) (Gr×Unit):=aq (ak xi) (ab (fy cOp) ae)
abbrev Gs:aH (List LV) Unit:=aq (ak xi) ae
def om(f:(Int×List Int)×Bool×Bool×Int):(Int×List Int)×Bool×Bool×Int:=f
abbrev Eh:Type:=Int×Int×Int×(List Int)
abbrev acg(x:Eh):LV:=LV.one (VV.agg [SV.int i64 (SI.sym x.1),SV.int i64 (SI.sym x.2.1),SV.int i64
 (SI.sym x.2.2.1),SV.arr (Ty.int IntKind.u8) 64 x.2.2.2])
abbrev ach(x:Eh):List (Nat×Ev.Item):= []
def SM(o:Int×Int×Int×List Int)(c:List (List Int)×Int)(f:(Int×List Int)×Bool×Bool×Int)(b:List Int)(er:
 List Int) (k:List (List Int)×Int) (g:(Int×Int×Int×Int×List Int)×Bool×Int×Int×Int×Int×List Int×List Int) (j:(Int×Int)×
 Int×Int×Int×Bool×Int) (l:List (Int×Int×List Int)):Tr (Eh):=(.ite (o.fst==9) .fail (.ite (o.fst==10) .fail (.need (mD
 (om f) b er) (.ite (f.snd.fst) .fail (.ite (o.fst==7) (.need (v7 c (om f) b er) (.ret ((k7 (om f) b er c).snd.snd,0,(k7
 (om f) b er c).fst,(k7 (om f) b er c).snd.fst))) (.ite (o.fst==8) .fail .fail))))))
abbrev wg(o:Gr)(c:Cf)(f:Fl)(b er:List Int)(k:Cf)(g:Sg)(j:Jn)(l:List cy.D):Prop:=o.1=7∧f.2.1=false∧iy b er∧aA b∧vh c.1
abbrev Mm(o:Gr)(c:Cf)(f:Fl)(b er:List Int)(k:Cf)(g:Sg)(j:Jn)(l:List cy.D):Eh:=((k7 f b er c).2.2,0,(k7 f b er c).1,(k7 f b er c).2.1)
def aci:al:=bD [none,some u8] (af4) (Ml) (q8∘q1 wg) (q8∘q1 Mm) acg ach
theorem QL(o:Gr)(c:Cf)(f:Fl)(b er:List Int)(k:Cf)(g:Sg)(j:Jn)(l:List cy.D)(h_:wg o c f b er k g j l):(SM o c f b er k g j l).Is (Mm o c f b er k g j l):=by
 delta Mm;obtain⟨h1,h2,h3⟩:=h_;have e:om f=f:=rfl;have h9:(o.1==9)=false:=by rw[h1];rfl
 have XJ:(o.1==10)=false:=by rw[h1];rfl
 have h7:(o.1==7)=true:=by rw[h1];rfl
 simp only[SM,e,h9,XJ,h7,h2,jW,iP,ah,ai];exact⟨trivial,h3,trivial⟩
theorem QM:aci.Ok Tryz.prog 5:=
 a5 mixed ((aj ud (aj Qz aw))) func5 (by kernel_rfl) call5 (ks:=fH) (fun _ _=>aS.nil _) (fun _ _=>by kernel_rfl) fun x_ y_ h=>QL x_.1 y_.1 y_.2.1 y_.2.2.1 y_.2.2.2.1 y_.2.2.2.2.1 y_.2.2.2.2.2.1 y_.2.2.2.2.2.2.1 y_.2.2.2.2.2.2.2.1 h
abbrev Ei:Type:=Int×Int×Int×(List Int)
abbrev acj(x:Ei):LV:=LV.one (VV.agg [SV.int i64 (SI.sym x.1),SV.int i64 (SI.sym x.2.1),SV.int i64
 (SI.sym x.2.2.1),SV.arr (Ty.int IntKind.u8) 64 x.2.2.2])
abbrev ack(x:Ei):List (Nat×Ev.Item):= []
def acm(o:Int×Int×Int×List Int):Tr (Ei):=(.ret (1,0,0,List.replicate 64 (0:Int)))
abbrev wh(o:Gr):Prop:=True
abbrev Mn(o:Gr):Ei:=(1,0,0,List.replicate 64 0)
def acn:al:=bD [none,some u8] (af5) (ae) (q0∘q1 wh) (q0∘q1 Mn) acj ack
theorem QN(o:Gr)(h_:wh o):(acm o).Is (Mn o):=by
 delta Mn;exact rfl
theorem QO:acn.Ok Tryz.prog 5:=
 a5 mixed aw func5 (by kernel_rfl) call5 (ks:=fH) (fun _ _=>aS.nil _) (fun _ _=>by kernel_rfl) fun x_ y_ h=>QN x_.1 h
abbrev QP:Type:=Bool
abbrev af6(x:QP):LV:=LV.one (VV.sc (SV.bool (SB.sym x)))
abbrev af7(x:QP):List (Nat×Ev.Item):= []
def af8(c:List (List Int)×Int)(f:(Int×List Int)×Bool×Bool×Int)(b:List Int)(er:List Int)(k:List (List Int)×
 Int) (g:(Int×Int×Int×Int×List Int)×Bool×Int×Int×Int×Int×List Int×List Int) (j:(Int×Int)×Int×Int×Int×Bool×Int) (l
 :List (Int×Int×List Int)):Tr (QP):=(.need (mD f b er) (.ret (!f.snd.fst)))
abbrev BV(c:Cf)(f:Fl)(b er:List Int)(k:Cf)(g:Sg)(j:Jn)(l:List cy.D):Prop:=True
abbrev WN(c:Cf)(f:Fl)(b er:List Int)(k:Cf)(g:Sg)(j:Jn)(l:List cy.D):QP:= !f.2.1
def af9:al:=bD [] (WC) (Ml) (q8∘q0 BV) (q8∘q0 WN) af6 af7
theorem WO(c:Cf)(f:Fl)(b er:List Int)(k:Cf)(g:Sg)(j:Jn)(l:List cy.D)(h_:BV c f b er k g j l):(af8 c f b er k g j l).Is (WN c f b er k g j l):=by
 delta WN;exact⟨trivial,rfl⟩
theorem WQ:af9.Ok Tryz.prog 8:=
 a5 mixed ((aj ud aw)) func8 (by kernel_rfl) call8 (ks:=fH) (fun _ _=>aS.nil _) (fun _ _=>by kernel_rfl) fun x_ y_ h=>WO y_.1 y_.2.1 y_.2.2.1 y_.2.2.2.1 y_.2.2.2.2.1 y_.2.2.2.2.2.1 y_.2.2.2.2.2.2.1 y_.2.2.2.2.2.2.2.1 h
abbrev Ej:Type:=Bool
abbrev aco(x:Ej):LV:=LV.one (VV.sc (SV.bool (SB.sym x)))
abbrev acp(x:Ej):List (Nat×Ev.Item):= []
def acq:Tr (Ej):=(.ret (false))
abbrev fK:Prop:=True
abbrev Mo:Ej:=false
def acr:al:=bD [] (Gs) (ae) (q0∘q0 fK) (q0∘q0 Mo) aco acp
theorem QQ(h_:fK):(acq).Is (Mo):=by
 delta Mo;exact rfl
theorem Ek:acr.Ok Tryz.prog 8:=
 a5 mixed aw func8 (by kernel_rfl) call8 (ks:=fH) (fun _ _=>aS.nil _) (fun _ _=>by kernel_rfl) fun x_ y_ h=>QQ h
end Go.Proofs.YtmhcoaflmgajhaaGreat
end
noncomputable section
namespace Go.Proofs.YtmhcoaflmgajhaaGreat
open Go Go.Ev Go.ChangeShapes Go.WideShapes Go.ChangeAt Go.RowKit Go.Proofs.Tryz
open Go.IntKind (i64 signed u32 u64 wrap wrap_u32)
set_option maxRecDepth 100000
theorem Gt{H:Type}{enc:TypeId×Value→H}{W:World}{fuel:Nat}{cs:List Value}{y:DataW H×List MemPlace}
  (h:DataW.trod enc Tryz.prog W 0 (fun _=>true) true fuel 25 cs=some y):
  ∃ (l:List Int) (v:Value),cs= [v]∧aA l∧(SV.rd false false u8 l).den (tU W) (kd []) v:=by
 rcases open_ints underlying25 underlying5 HJ h with⟨e,_⟩|⟨a,len,cap,zs,e,_,S0,_,hzl,_,xo,hwf⟩
 ·exact⟨[],_,e,fun z hz=>(by simp at hz),rfl,(fun e=>by cases e),.inr (.inr ⟨rfl,rfl⟩)⟩
 ·simp only[if_true]at hzl;refine⟨zs.take len,_,e,fun z hz=>wf_u8 (hwf z (List.mem_of_mem_take hz)),rfl,(fun e=>by cases e),.inr (.inl ⟨rfl,rfl,by decide,?_⟩)⟩;refine⟨some a,len,cap,rfl,by simp;omega,S0,(fun e=>by cases e),fun h0=>?_⟩;have Cn:=xo 0 (by omega)
  have S2:a.spot=none:=by
   have:a.add 0=a:=(by cases a;simp[Addr.add]);rw[this]at Cn;exact World.cell?_spot Cn
  refine⟨a,(zs.take len).map (.int .u8),rfl,S2,?_,fun i u hu=>?_⟩
  ·generalize zs.take len=l
   induction l with
   |nil=>exact .nil
   |cons x l ih=>exact aF.cons (vs:= [.int .u8 x]) rfl ih
  ·rw[List.getElem?_map]at hu;obtain⟨z,hz,rfl⟩:=map_some hu
   have Xg:i<len∧i<zs.length:=by
    have:=(List.getElem?_eq_some_iff.1 hz).1;simp at this;omega
   rw[xo i Xg.2];rw[List.getElem?_take,if_pos Xg.1]at hz;rw[List.getD_eq_getElem?_getD,hz];rfl
theorem QR{H:Type}{enc:TypeId×Value→H}{W:World}{base:Nat}{v:Value}{d:DataW H}{p:List MemPlace}
  (lg:Value.okWide Tryz.prog W .any base 27 v) (h:DataW.Trod enc Tryz.prog W 0 (fun _=>true) true 27 v d p):
  ∃m:Gr,aA m.2.2.2∧(LV.one (.agg (cOp.wr m))).den (tU W) (kd []) v:=by
 unfold Value.okWide at lg;rw[underlying27]at lg;obtain⟨cs,rfl,_,_⟩:=lg;obtain⟨fuel,h⟩:=h;simp only[Value.cells]at h;obtain⟨xs,m,_,_,hl,hlen,hf⟩:=DataW.trod_struct underlying27 h;obtain⟨cs⟩:=cs;have c4:Tryz.prog.cellsOf 27=4:=by kernel_rfl
 have c1:Tryz.prog.cellsOf 3=1:=by kernel_rfl
 have c3:Tryz.prog.cellsOf 25=1:=by kernel_rfl
 have f1:mz Tryz.prog 10 3=some [.int .i64]:=by kernel_rfl
 simp only at hl hlen hf;have hn:cs.length=4:=by rw[← c4];first|exact hl|exact hlen|omega
 have hx:xs.length=4:=by first|exact hl|exact hlen|omega
 match cs,hn with
 | [a,b,c,e],_=>
  have g0:=hf 0 _ rfl;have g1:=hf 1 _ rfl;have g2:=hf 2 _ rfl;have g3:=hf 3 _ rfl;rw[List.getElem?_eq_getElem (by omega)]at g0 g1 g2 g3;have k0:=iN 10 f1 g0;have k1:=iN 10 f1 g1;have k2:=iN 10 f1 g2;obtain⟨l,w,k3,kb,k4⟩:=Gt g3
  cases k0 with
  |cons q0 _=>cases k1 with
  |cons q1 _=>cases k2 with
  |cons q2 _=>
   obtain⟨z0,rfl,_⟩:=q0;obtain⟨z1,rfl,_⟩:=q1;obtain⟨z2,rfl,_⟩:=q2;have k3: [e].take (Tryz.prog.cellsOf 25)= [w]:=k3;rw[c3]at k3;have k3:e=w:=(by simpa using k3);subst k3;exact⟨(z0,z1,z2,l),kb,_,rfl,aP.dX rfl (aP.dX rfl (aP.dX rfl (aP.dX k4 .nil)))⟩
end Go.Proofs.YtmhcoaflmgajhaaGreat
end
noncomputable section
namespace Go.Proofs.YtmhcoaflmgajhaaGreat
open Go Go.Ev Go.Proofs.Tryz
open Go.IntKind (i64 signed u32 u64 wrap wrap_u32)
set_option maxRecDepth 1000000
abbrev wi:Type:=Nat
abbrev WR(x:wi):LV:=LV.one (VV.sc (SV.jd x))
abbrev WS(x:wi):List (Nat×Ev.Item):= []
def WT(n:Int)(t:Int):Tr (wi):=(.need (¬wI (lf n) (lf t)=none) (.ret (GL (lf n) (lf t))))
def Mp(n t:Int):Nat:=GL (lf n) (lf t)
abbrev rE(n t:Int):Prop:=wI (lf n) (lf t)≠none
abbrev BW(n t:Int):wi:=Mp n t
def WU:al:=bD [] ((ab (ak (ay .i64)) (ab (ak (ay .i64)) ae))) (ae) (q0∘q2 rE) (q0∘q2 BW) WR WS
theorem Mq(n t:Int)(h_:rE n t):(WT n t).Is (BW n t):=by
 delta BW;exact⟨h_,rfl⟩
theorem zl:WU.Ok Tryz.prog 29:=
 a5 mixed aw func29 (by kernel_rfl) call29 (ks:=fH) (fun _ _=>aS.nil _) (fun _ _=>by kernel_rfl) fun x_ y_ h=>Mq x_.1 x_.2.1 h
def SN(n:Int):Nat:=Mp n 1
def zo(l:List Int):List Nat:=l.map SN
def BX(er:List Int):Prop:=∀z∈er,wI (lf z) (lf 1)≠none
abbrev rF:Type:=Int×Int×(List (List Int)×Int)×((Int×List Int)×Bool×Bool×Int)×(List Int)×(List Int)×(List (List Int)×
 Int)×((Int×Int×Int×Int×List Int)×Bool×Int×Int×Int×Int×List Int×List Int)×((Int×Int)×Int×Int×Int×Bool×Int)×(List
 (Int×Int×List Int))×(List Nat)
abbrev Mr:aH St rF:=(bq (aq (ak (a6 (0) (0))) (jk 2 (aq (ak (sI (8) (0))) (jk 8 (ab (ak (ay
 i64)) (ab (ak (ay i64)) (jk 14 ae))))))) (ab (cj L9) (ab (cj vH) (ab (dq (0) (Ty.int IntKind.u8)) (ab
 (dq (0) (Ty.int i64)) (ab (cj Ma) (ab (cj Mb) (ab (cj zk) (ab (dq (0) ((Ty.int i64).pair ((Ty.int
 i64).pair (Ty.int IntKind.u8).sl))) (ab (dq (0) Ty.jd) ae)))))))))).jl (fun y=>(y.1.1,y.1.2.1,y.2.1,y.2.2.1,y.2.2.2.1,
 y.2.2.2.2.1,y.2.2.2.2.2.1,y.2.2.2.2.2.2.1,y.2.2.2.2.2.2.2.1,y.2.2.2.2.2.2.2.2.1,y.2.2.2.2.2.2.2.2.2.1)) (fun x=>((x.1,(x.2.1,())),(x.2.2.1,
 (x.2.2.2.1,(x.2.2.2.2.1,(x.2.2.2.2.2.1,(x.2.2.2.2.2.2.1,(x.2.2.2.2.2.2.2.1,(x.2.2.2.2.2.2.2.2.1,(x.2.2.2.2.2.2.2.2.2.1,(x.2.2.2.2.2.2.2.2.2.2,
 ()))))))))))) (fun _=>rfl)
abbrev Ms:List Wk:= [.mo 3 .jd,.fr (cR 28 [(0,.ao),(3,.ao),(12,.ao),(13,.ao)]),.syms,.auto,.ba]
abbrev WV:Exit→List Wk:=zy Ms 0 [.mo 3 .jd,.fr (cR 28 [(3,.ao)]),.syms,.auto,.ba] [.mo 3 .jd,.fr (cR 28 [(2,.ao)]),
 .syms,.auto,.ba]
def pM(n:Int)(i:Int)(c:List (List Int)×Int)(f:(Int×List Int)×Bool×Bool×Int)(b:List Int)(er:List Int)(k
 :List (List Int)×Int) (g:(Int×Int×Int×Int×List Int)×Bool×Int×Int×Int×Int×List Int×List Int) (j:(Int×Int)×Int×Int×
 Int×Bool×Int) (l:List (Int×Int×List Int)) (out:List Nat):Int:=if 0≤i∧i<(↑er.length:Int)then er.getD i.toNat 0 else 0
abbrev BY:Type:=(List (List Int)×Int)×((Int×List Int)×Bool×Bool×Int)×(List Int)×(List Int)×(List (List Int)×Int)×((Int×
 Int×Int×Int×List Int)×Bool×Int×Int×Int×Int×List Int×List Int)×((Int×Int)×Int×Int×Int×Bool×Int)×(List (Int×Int×
 List Int))×(List Nat)
abbrev WW(x:BY):Exit×St:=(Exit.exit 0,⟨(jt 3 (LV.one (VV.sc (SV.sl 8 0))::(jt 24 []))),[some (L9.wr x.1),some
 (vH.wr x.2.1),some (Item.own 0 (Ty.int IntKind.u8) x.2.2.1),some (Item.own 0 (Ty.int i64) x.2.2.2.1),some (Ma.wr x.2.2.2.2.1),some
 (Mb.wr x.2.2.2.2.2.1),some (zk.wr x.2.2.2.2.2.2.1),some (Item.own 0 ((Ty.int i64).pair ((Ty.int i64).pair (Ty.int
 IntKind.u8).sl)) x.2.2.2.2.2.2.2.1),some (Item.own 0 Ty.jd x.2.2.2.2.2.2.2.2)]⟩)
def BZ(n:Int)(i:Int)(c:List (List Int)×Int)(f:(Int×List Int)×Bool×Bool×Int)(b:List Int)(er:List Int)(k:
 List (List Int)×Int) (g:(Int×Int×Int×Int×List Int)×Bool×Int×Int×Int×Int×List Int×List Int) (j:(Int×Int)×Int×Int×Int
 ×Bool×Int) (l:List (Int×Int×List Int)) (out:List Nat):Tr (rF⊕(BY)):=(.ite (decide (i<n)) (.need (v8 i f b er) (.need
 (rE (pM n i c f b er k g j l out) 1) (.need ((out.length+1)*8≤70368744177664∧out.length+1≤70368744177664) (.ret (.inl (n,
 i64.wrap (i+1),c,f,b,er,k,g,j,l,out++ [Mp (pM n i c f b er k g j l out) 1])))))) (.ret (.inr (c,f,b,er,k,g,j,l,
 out))))
abbrev rG(n:Int)(i:Int)(c:List (List Int)×Int)(f:(Int×List Int)×Bool×Bool×Int)(b:List Int)(er:List Int)(k:List (List Int)×Int)(g:(Int×Int×Int×Int×List Int)×Bool×Int×Int×Int×Int×List Int×List Int)(j:(Int×Int)×Int×Int×Int×Bool×Int)(l:List (Int×Int×List Int))(out:List Nat):Prop:=0≤i∧i≤n∧n=er.length∧er.length≤256∧BX er∧out.length=i.toNat
abbrev B0(n:Int)(i:Int)(c:List (List Int)×Int)(f:(Int×List Int)×Bool×Bool×Int)(b:List Int)(er:List Int)(k:List (List Int)×Int)(g:(Int×Int×Int×Int×List Int)×Bool×Int×Int×Int×Int×List Int×List Int)(j:(Int×Int)×Int×Int×Int×Bool×Int)(l:List (Int×Int×List Int))(out:List Nat):BY:=(c,f,b,er,k,g,j,l,out++zo (er.drop i.toNat))
abbrev Mt:rF→aV:=eR (fun x_=>rG x_.1 x_.2.1 x_.2.2.1 x_.2.2.2.1 x_.2.2.2.2.1 x_.2.2.2.2.2.1 x_.2.2.2.2.2.2.1 x_.2.2.2.2.2.2.2.1 x_.2.2.2.2.2.2.2.2.1 x_.2.2.2.2.2.2.2.2.2.1 x_.2.2.2.2.2.2.2.2.2.2) (fun x_=>B0 x_.1 x_.2.1 x_.2.2.1 x_.2.2.2.1 x_.2.2.2.2.1 x_.2.2.2.2.2.1 x_.2.2.2.2.2.2.1 x_.2.2.2.2.2.2.2.1 x_.2.2.2.2.2.2.2.2.1 x_.2.2.2.2.2.2.2.2.2.1 x_.2.2.2.2.2.2.2.2.2.2) WW
theorem Mu(n:Int)(i:Int)(c:List (List Int)×Int)(f:(Int×List Int)×Bool×Bool×Int)(b:List Int)(er:List Int)(k:List (List Int)×Int)(g:(Int×Int×Int×Int×List Int)×Bool×Int×Int×Int×Int×List Int×List Int)(j:(Int×Int)×Int×Int×Int×Bool×Int)(l:List (Int×Int×List Int))(out:List Nat)(h_:rG n i c f b er k g j l out):dB (fun x_:rF=>BZ x_.1 x_.2.1 x_.2.2.1 x_.2.2.2.1 x_.2.2.2.2.1 x_.2.2.2.2.2.1 x_.2.2.2.2.2.2.1 x_.2.2.2.2.2.2.2.1 x_.2.2.2.2.2.2.2.2.1 x_.2.2.2.2.2.2.2.2.2.1 x_.2.2.2.2.2.2.2.2.2.2) (n,i,c,f,b,er,k,g,j,l,out) (B0 n i c f b er k g j l out):=by
 delta B0;obtain⟨h1,h2,rfl,h4,h5,h6⟩:=h_;obtain⟨m,rfl⟩:∃m:Nat,i=m:=⟨i.toNat,by omega⟩;obtain⟨q,hq⟩:∃q,er.length-m=q:=⟨_,rfl⟩;rw[Int.toNat_natCast]at h6 ⊢
 induction q generalizing m out with
 |zero=>
  refine .stop ?_;have d:¬ (m:Int)<er.length:=by omega
  rw[List.drop_of_length_le (by omega)];simp[BZ,d,az,ai,zo]
 |succ q ih=>
  have d:(m:Int)<er.length:=by omega
  have w:=ih (out++ [SN (er.getD m 0)]) (m+1) (by omega) (by omega) (by rw[List.length_append];simp;omega) (by omega);rw[iO 0 (by omega),zo,List.map_cons];rw[List.append_assoc,List.singleton_append]at w;refine .go ?_ w;have hm:wI (lf (er.getD m 0)) (lf 1)≠none:=h5 _ (by rw[List.getD_eq_getElem?_getD,List.getElem?_eq_getElem (by omega)];exact List.getElem_mem _);have hw:i64.wrap ((m:Int)+1)=((m+1:Nat):Int):=by rw[ar (by omega) (by omega)];rfl
  have e2:pM (er.length:Int) (m:Int) c f b er k g j l out=er.getD m 0:=by unfold pM;rw[if_pos ⟨by omega,d⟩,Int.toNat_natCast]
  simp only[BZ,hw,e2,aC,ah,ai];exact⟨fun _=>⟨trivial,hm,⟨by omega,by omega⟩,rfl⟩,fun h=>absurd d h⟩
theorem Gu(y_):∀x:rF,Ex Tryz.prog ((Ml).wr y_) (.loop (aY f11 0)) (Mr.wr x) (Mt x):=
 cJ mixed ((aj mB (aj D9 (aj zl aw)))) (ws:=WV) (aS.nil _) (fun _=>by kernel_rfl) (fun z e=>by cases e) fA (fun x_ h=>Mu x_.1 x_.2.1 x_.2.2.1 x_.2.2.2.1 x_.2.2.2.2.1 x_.2.2.2.2.2.1 x_.2.2.2.2.2.2.1 x_.2.2.2.2.2.2.2.1 x_.2.2.2.2.2.2.2.2.1 x_.2.2.2.2.2.2.2.2.2.1 x_.2.2.2.2.2.2.2.2.2.2 h)
def B1(f:(Int×List Int)×Bool×Bool×Int):(Int×List Int)×Bool×Bool×Int:=f
abbrev El:Type:=List Nat
abbrev acs(x:El):LV:=LV.one (VV.sc (SV.sl 8 0))
abbrev acu(x:El):List (Nat×Ev.Item):= [(8,Item.own 0 Ty.jd x)]
def SO(c:List (List Int)×Int)(f:(Int×List Int)×Bool×Bool×Int)(b:List Int)(er:List Int)(k:List (List Int)×
 Int) (g:(Int×Int×Int×Int×List Int)×Bool×Int×Int×Int×Int×List Int×List Int) (j:(Int×Int)×Int×Int×Int×Bool×Int) (l
 :List (Int×Int×List Int)):Tr (El):=(.need (jZ (B1 f) b er) (.need (rG (i64.wrap (Int.tdiv (↑b.length:jY)
 1024)) 0 c (B1 f) b er k g j l []) (.ret ([]++zo (List.drop 0 er)))))
abbrev wj(c:Cf)(f:Fl)(b er:List Int)(k:Cf)(g:Sg)(j:Jn)(l:List cy.D):Prop:=iy b er∧BX er
abbrev Mv(c:Cf)(f:Fl)(b er:List Int)(k:Cf)(g:Sg)(j:Jn)(l:List cy.D):El:=zo er
def acv:al:=bD [] (WC) (Ml) (q8∘q0 wj) (q8∘q0 Mv) acs acu
theorem QS(c:Cf)(f:Fl)(b er:List Int)(k:Cf)(g:Sg)(j:Jn)(l:List cy.D)(h_:wj c f b er k g j l):(SO c f b er k g j l).Is (Mv c f b er k g j l):=by
 delta Mv;obtain⟨⟨h1,h2,h3⟩,h4⟩:=h_;have hw:i64.wrap (Int.tdiv (b.length:Int) 1024)=er.length:=by rw[Int.tdiv_eq_ediv_of_nonneg (by omega),ar (by omega) (by omega)];omega
 have e:B1 f=f:=rfl;simp only[SO,e,ah,ai];rw[hw];exact⟨trivial,⟨by omega,by omega,rfl,h3,h4,rfl⟩,rfl⟩
theorem QT:acv.Ok Tryz.prog 11:=
 a5 mixed ((aj mB (aj D9 (aj zl aw)))) func11 (by kernel_rfl) call11 (LT:=fun _ y_=> [(0,fh Mr ((Ml).wr y_) Ms Mt)]) (ks:= [.mo 0 .jd,.fr [.sym],.syms,.auto,.ba]) (fun _ y_=>aS.bW (kQ (by kernel_rfl) (b8 (Gu y_)) ly)) (fun _ _=>by kernel_rfl) fun x_ y_ h=>QS y_.1 y_.2.1 y_.2.2.1 y_.2.2.2.1 y_.2.2.2.2.1 y_.2.2.2.2.2.1 y_.2.2.2.2.2.2.1 y_.2.2.2.2.2.2.2.1 h
abbrev wm:Type:=Unit
abbrev WX(x:wm):LV:=LV.one (VV.sc (SV.cQ (Value.slice none 0 0)))
abbrev WY(x:wm):List (Nat×Ev.Item):= []
def WZ:Tr (wm):=(.ret ())
abbrev fq:Prop:=True
abbrev B2:wm:=()
def W0:al:=bD [] (Gs) (ae) (q0∘q0 fq) (q0∘q0 B2) WX WY
theorem Mw(h_:fq):(WZ).Is (B2):=by
 delta B2;exact rfl
theorem Mx:W0.Ok Tryz.prog 11:=
 a5 mixed aw func11 (by kernel_rfl) call11 (ks:=fH) (fun _ _=>aS.nil _) (fun _ _=>by kernel_rfl) fun x_ y_ h=>Mw h
abbrev Em:Type:=Int×Int×Int×Int×(List Int)×Bool×Int×Int×Int×Int×(List Int)×(List Int)
abbrev acw(x:Em):LV:=LV.one (VV.agg [SV.int i64 (SI.sym x.1),SV.int u64 (SI.sym x.2.1),SV.int u64
 (SI.sym x.2.2.1),SV.int i64 (SI.sym x.2.2.2.1),SV.arr (Ty.int IntKind.u8) 64 x.2.2.2.2.1,SV.bool (SB.sym x.2.2.2.2.2.1),SV.int i64
 (SI.sym x.2.2.2.2.2.2.1),SV.int i64 (SI.sym x.2.2.2.2.2.2.2.1),SV.int i64 (SI.sym x.2.2.2.2.2.2.2.2.1),SV.int i64 (SI.sym
 x.2.2.2.2.2.2.2.2.2.1),SV.arr (Ty.int IntKind.u8) 8 x.2.2.2.2.2.2.2.2.2.2.1,SV.rd true false (Ty.int IntKind.u8) x.2.2.2.2.2.2.2.2.2.2.2])
abbrev acx(x:Em):List (Nat×Ev.Item):= []
def acy:Tr (Em):=(.need (pC) (.ret (fv.fst.fst,0,0,0,fv.fst.snd.snd.snd.snd,fv.snd.fst,0,0,0,0,
 fv.snd.snd.snd.snd.snd.snd.fst,fv.snd.snd.snd.snd.snd.snd.snd)))
abbrev wo:Prop:=True
abbrev My:Em:=Ws fv
def acz:al:=bD [] (Gs) (ae) (q0∘q0 wo) (q0∘q0 My) acw acx
theorem QU(h_:wo):(acy).Is (My):=by
 delta My;exact⟨trivial,rfl⟩
theorem QV:acz.Ok Tryz.prog 44:=
 a5 mixed ((aj vR aw)) func44 (by kernel_rfl) call44 (ks:=fH) (fun _ _=>aS.nil _) (fun _ _=>by kernel_rfl) fun x_ y_ h=>QU h
abbrev En:Type:=Int×Int×Int×Int×(List Int)×Bool×Int×Int×Int×Int×(List Int)×(List Int)
abbrev acA(x:En):LV:=LV.one (VV.agg [SV.int i64 (SI.sym x.1),SV.int u64 (SI.sym x.2.1),SV.int u64
 (SI.sym x.2.2.1),SV.int i64 (SI.sym x.2.2.2.1),SV.arr (Ty.int IntKind.u8) 64 x.2.2.2.2.1,SV.bool (SB.sym x.2.2.2.2.2.1),SV.int i64
 (SI.sym x.2.2.2.2.2.2.1),SV.int i64 (SI.sym x.2.2.2.2.2.2.2.1),SV.int i64 (SI.sym x.2.2.2.2.2.2.2.2.1),SV.int i64 (SI.sym
 x.2.2.2.2.2.2.2.2.2.1),SV.arr (Ty.int IntKind.u8) 8 x.2.2.2.2.2.2.2.2.2.2.1,SV.rd true false (Ty.int IntKind.u8) x.2.2.2.2.2.2.2.2.2.2.2])
abbrev acB(x:En):List (Nat×Ev.Item):= []
def acC:Tr (En):=(.need (wo) (.ret (fv.fst.fst,0,0,0,fv.fst.snd.snd.snd.snd,fv.snd.fst,0,0,0,0,
 fv.snd.snd.snd.snd.snd.snd.fst,fv.snd.snd.snd.snd.snd.snd.snd)))
abbrev wq:Prop:=True
abbrev Mz:En:=Ws fv
def acD:al:=bD [] (Gs) (ae) (q0∘q0 wq) (q0∘q0 Mz) acA acB
theorem QW(h_:wq):(acC).Is (Mz):=by
 delta Mz;exact⟨trivial,rfl⟩
theorem QX:acD.Ok Tryz.prog 24:=
 a5 mixed ((aj QV aw)) func24 (by kernel_rfl) call24 (ks:=fH) (fun _ _=>aS.nil _) (fun _ _=>by kernel_rfl) fun x_ y_ h=>QW h
abbrev Eo:Type:=Int×Int×Int×Int×(List Int)×Bool×Int×Int×Int×Int×(List Int)×(List Int)
abbrev acE(x:Eo):LV:=LV.one (VV.agg [SV.int i64 (SI.sym x.1),SV.int u64 (SI.sym x.2.1),SV.int u64
 (SI.sym x.2.2.1),SV.int i64 (SI.sym x.2.2.2.1),SV.arr (Ty.int IntKind.u8) 64 x.2.2.2.2.1,SV.bool (SB.sym x.2.2.2.2.2.1),SV.int i64
 (SI.sym x.2.2.2.2.2.2.1),SV.int i64 (SI.sym x.2.2.2.2.2.2.2.1),SV.int i64 (SI.sym x.2.2.2.2.2.2.2.2.1),SV.int i64 (SI.sym
 x.2.2.2.2.2.2.2.2.2.1),SV.arr (Ty.int IntKind.u8) 8 x.2.2.2.2.2.2.2.2.2.2.1,SV.rd true false (Ty.int IntKind.u8) x.2.2.2.2.2.2.2.2.2.2.2])
abbrev acF(x:Eo):List (Nat×Ev.Item):= []
def SP:Tr (Eo):=(.need (fK) (.ite (!false) (.need (wq) (.ret (fv.fst.fst,0,0,0,fv.fst.snd.snd.snd.snd,
 fv.snd.fst,0,0,0,0,fv.snd.snd.snd.snd.snd.snd.fst,fv.snd.snd.snd.snd.snd.snd.snd))) .fail))
abbrev gP:Prop:=True
abbrev MA:Eo:=Ws fv
def acG:al:=bD [] (Gs) (ae) (q0∘q0 gP) (q0∘q0 MA) acE acF
theorem QY(h_:gP):(SP).Is (MA):=by
 delta MA;simp only[SP,Bool.not_false,iP,ah,ai];exact⟨trivial,trivial,rfl⟩
theorem QZ:acG.Ok Tryz.prog 9:=
 a5 mixed ((aj Ek (aj QX aw))) func9 (by kernel_rfl) call9 (ks:=fH) (fun _ _=>aS.nil _) (fun _ _=>by kernel_rfl) fun x_ y_ h=>QY h
abbrev wu:Type:=Unit
abbrev W1(x:wu):LV:=LV.one (VV.sc (SV.cQ (Value.slice none 0 0)))
abbrev W2(x:wu):List (Nat×Ev.Item):= []
def W3(s:Int)(n:Int):Tr (wu):=(.ret ())
abbrev ft(s n:Int):Prop:=True
abbrev B3(s n:Int):wu:=()
def W4:al:=bD [] ((aq (ak xi) (ab (ak (ay .i64)) (ab (ak (ay .i64)) ae)))) (ae) (q0∘q2 ft) (q0∘q2 B3) W1 W2
theorem MB(s n:Int)(h_:ft s n):(W3 s n).Is (B3 s n):=by
 delta B3;exact rfl
theorem MC:W4.Ok Tryz.prog 10:=
 a5 mixed aw func10 (by kernel_rfl) call10 (ks:=fH) (fun _ _=>aS.nil _) (fun _ _=>by kernel_rfl) fun x_ y_ h=>MB x_.1 x_.2.1 h
abbrev wv:Type:=Int
abbrev W5(x:wv):LV:=LV.one (VV.sc (SV.int i64 (SI.sym x)))
abbrev W6(x:wv):List (Nat×Ev.Item):= []
def W7:Tr (wv):=(.ret (0))
abbrev fu:Prop:=True
abbrev B4:wv:=0
def W8:al:=bD [] (Gs) (ae) (q0∘q0 fu) (q0∘q0 B4) W5 W6
theorem MD(h_:fu):(W7).Is (B4):=by
 delta B4;exact rfl
theorem ME:W8.Ok Tryz.prog 12:=
 a5 mixed aw func12 (by kernel_rfl) call12 (ks:=fH) (fun _ _=>aS.nil _) (fun _ _=>by kernel_rfl) fun x_ y_ h=>MD h
abbrev wx:Type:=Int
abbrev W9(x:wx):LV:=LV.one (VV.sc (SV.int i64 (SI.sym x)))
abbrev Xa(x:wx):List (Nat×Ev.Item):= []
def Xb(e:Int):Tr (wx):=(.ret (e))
abbrev bT(e:Int):Prop:=True
abbrev B5(e:Int):wx:=e
def Xc:al:=bD [] (Xw) (ae) (q0∘q1 bT) (q0∘q1 B5) W9 Xa
theorem MF(e:Int)(h_:bT e):(Xb e).Is (B5 e):=by
 delta B5;exact rfl
theorem zp:Xc.Ok Tryz.prog 7:=
 a5 mixed aw func7 (by kernel_rfl) call7 (ks:=fH) (fun _ _=>aS.nil _) (fun _ _=>by kernel_rfl) fun x_ y_ h=>MF x_.1 h
def oo:(Int×Int)×Int×Int×Int×Bool×Int:=((0,2),0,(-1),0,false,0)
def oq:(Int×Int×Int×Int×List Int)×Bool×Int×Int×Int×Int×List Int×List Int:=(((-1),0,0,0,
 List.replicate 64 (0:Int)),false,0,0,0,0,List.replicate 8 (0:Int),[])
def bO:List (List Int)×Int:=([[1,0,0,0,0,0,0,0,0,0,0,0,0,0,0,0,0,0,0,0,0,0,0,0,0,0,0,0,0,0,0,
 0]],3)
abbrev nt:Type:=Bool
abbrev MG(x:nt):LV:=LV.one (VV.sc (SV.bool (SB.sym x)))
abbrev MH(x:nt):List (Nat×Ev.Item):= []
def zq:Tr (nt):=(.need (rD bO) (.need (bT 0) (.ite (((0:Int)!=0)==false) (.need (wg (7,0,
 0,[]) bO ((0,[]),false,false,0) (List.replicate 8192 (255:Int)) (List.replicate (gy bO) (0:Int)) bO oq oo
 []) (.ite (((k7 ((0,[]),false,false,0) (List.replicate 8192 (255:Int)) (List.replicate (gy bO) (0:Int)) bO).fst==(-1))==
 true) (.need (bT 13) (.ite (((13:Int)==13)==true) (.need (BV bO ((0,[]),false,false,0) (List.replicate 8192 (255:Int))
 (List.replicate (gy bO) (0:Int)) bO oq oo []) (.ite ((!false)==true) (.need (wj bO ((0,[]),false,
 false,0) (List.replicate 8192 (255:Int)) (List.replicate (gy bO) (0:Int)) bO oq oo []) (.ret ((8:Int)==8)))
 (.ret (false)))) (.ret (false)))) (.ret (false)))) (.ret (false)))))
abbrev lO:Prop:=True
abbrev rH:nt:=true
def MI:al:=bD [] (ae) (ae) (q0∘q0 lO) (q0∘q0 rH) MG MH
theorem B6(h_:lO):(zq).Is (rH):=by
 delta rH;have e1:gy bO=8:=rfl;have e2:(k7 ((0,[]),false,false,0) (List.replicate 8192 255) (List.replicate 8 0) bO).1= -1:=rfl;have h1:iy (List.replicate 8192 255) (List.replicate 8 0):=⟨by simp,by simp,by simp⟩;have h2:aA (List.replicate 8192 255):=aA.rep 8192 ⟨by decide,by decide⟩
 have h3:vh bO.1:=fun k hk=>by
  have hk:k<1:=hk;obtain rfl:k=0:=by omega
  rfl
 have h4:BX (List.replicate 8 0):=fun z hz=>by
  rw[List.eq_of_mem_replicate hz];decide+kernel
 have h5:lz bO:=by decide
 simp only[zq,e1,e2,ah,az,ai];exact⟨h5,trivial,fun _=>⟨⟨rfl,rfl,h1,h2,h3⟩,fun _=>⟨trivial,fun _=>⟨trivial,fun _=>⟨⟨h1,h4⟩,rfl⟩,fun h=>by cases h⟩,fun h=>by cases h⟩,fun h=>by cases h⟩,fun h=>by cases h⟩
theorem B7:MI.Ok Tryz.prog 4:=
 a5 mixed ((aj Mk (aj zp (aj QM (aj WQ (aj QT aw)))))) func4 (by kernel_rfl) call4 (ks:=fH) (fun _ _=>aS.nil _) (fun _ _=>by kernel_rfl) fun x_ y_ h=>B6 h
def th(c:List (List Int)×Int)(o:Int×Int×Int×List Int):Int:=(↑c.fst.length:Int)
abbrev Q0:Type:=Bool
abbrev aga(x:Q0):LV:=LV.one (VV.sc (SV.bool (SB.sym x)))
abbrev agb(x:Q0):List (Nat×Ev.Item):= []
def acH(c:List (List Int)×Int)(o:Int×Int×Int×List Int):Tr (Q0):=(.need (lO) (.ite ((!true)==false) (.ite
 (decide (10<th c o)==false) (.ite (decide (6<c.snd)) (.ret (true)) (.need (wh o) (.ite (!decide (1≤c.fst.length∧c.fst.length≤8∧3
 ≤c.snd∧c.snd≤100)) (.need (ns c) (.ite (decide (1≤th c o)==true) (.ite (decide (th c o≤8)==true) (.need (bT 1) (.ite (((1
 :Int)==1)==true) (.need (fK) (.ite ((!false)==true) (.need (gP) (.ite ((fv.fst.fst==(-1))==true) (.need (ft 0 9) (.need
 (fq) (.need (fu) (.ite (((0:Int)==0)==true) (.ite ((false==decide (3≤c.snd))==true) (.need (bT 1) (.ite ((((1:Int)==
 0)==decide (3≤c.snd))==true) (.ite (decide (3≤c.snd)==false) (.need (bT 1) (.ret ((1:Int)==1))) (.ret (true))) (.ret (false))))
 (.ret (false))) (.ret (false)))))) (.ret (false)))) (.ret (false)))) (.ret (false)))) (.need (bT 1) (.ite (((1:Int)==1)==true) (.need
 (fK) (.ite ((!false)==true) (.need (gP) (.ite ((fv.fst.fst==(-1))==true) (.need (ft 0 9) (.need (fq) (.need (fu)
 (.ite (((0:Int)==0)==true) (.need (bT 1) (.ite ((((1:Int)==0)==false)==true) (.need (bT 1) (.ret ((1:Int)==1))) (.ret
 (false)))) (.ret (false)))))) (.ret (false)))) (.ret (false)))) (.ret (false))))) (.need (bT 1) (.ite (((1:Int)==1)==true) (.need (fK)
 (.ite ((!false)==true) (.need (gP) (.ite ((fv.fst.fst==(-1))==true) (.need (ft 0 9) (.need (fq) (.need (fu) (.ite (((0:
 Int)==0)==true) (.need (bT 1) (.ite ((((1:Int)==0)==false)==true) (.need (bT 1) (.ret ((1:Int)==1))) (.ret (false)))) (.ret
 (false)))))) (.ret (false)))) (.ret (false)))) (.ret (false)))))) (.need (ns c) (.ite (decide (1≤th c o)==true) (.ite (decide (th c o≤
 8)==true) (.need (bT 1) (.ite (((1:Int)==1)==true) (.need (fK) (.ite ((!false)==true) (.need (gP) (.ite ((fv.fst.fst==
 (-1))==true) (.need (ft 0 9) (.need (fq) (.need (fu) (.ite (((0:Int)==0)==true) (.ite ((true==decide (3≤c.snd))==true)
 (.need (bT 0) (.ite ((((0:Int)==0)==decide (3≤c.snd))==true) (.ite (decide (3≤c.snd)==false) (.need (bT 0) (.ret ((0:Int)
 ==1))) (.ret (true))) (.ret (false)))) (.ret (false))) (.ret (false)))))) (.ret (false)))) (.ret (false)))) (.ret (false)))) (.need (bT 1) (.ite
 (((1:Int)==1)==true) (.need (fK) (.ite ((!false)==true) (.need (gP) (.ite ((fv.fst.fst==(-1))==true) (.need (ft 0 9)
 (.need (fq) (.need (fu) (.ite (((0:Int)==0)==true) (.ret (false)) (.ret (false)))))) (.ret (false)))) (.ret (false)))) (.ret
 (false))))) (.need (bT 1) (.ite (((1:Int)==1)==true) (.need (fK) (.ite ((!false)==true) (.need (gP) (.ite ((fv.fst.fst==
 (-1))==true) (.need (ft 0 9) (.need (fq) (.need (fu) (.ite (((0:Int)==0)==true) (.ret (false)) (.ret (false)))))) (.ret
 (false)))) (.ret (false)))) (.ret (false))))))))) (.ret (true))) (.ret (true))))
abbrev MJ(c:Cf)(o:Gr):Prop:=True
abbrev Xd(c:Cf)(o:Gr):Q0:=true
def agc:al:=bD [] ((ab (fy NV) (ab (fy cOp) ae))) (ae) (q0∘q2 MJ) (q0∘q2 Xd) aga agb
theorem Xe(c:Cf)(o:Gr)(h_:MJ c o):(acH c o).Is (Xd c o):=by
 delta Xd;have e2:th c o=c.1.length:=rfl;have e3:fv.1.1= -1:=rfl;simp only[acH,e2,e3,ah];refine⟨trivial,?_⟩
 by_cases c1:10<(c.1.length:Int)
 ·simp[c1,az,ai]
 ·by_cases c2:6<c.2
  ·simp[c1,c2,az,ai]
  ·by_cases c3:1≤c.1.length∧c.1.length≤8∧3≤c.2∧c.2≤100
   ·obtain⟨d1,d2,d3,d4⟩:=id c3;have d1':(1:Int)≤c.1.length:=(by omega);have d2':(c.1.length:Int)≤8:=(by omega);simp[c1,c2,c3,d1',d2',d3,az,ah,ai]
   ·by_cases d1:(1:Int)≤c.1.length<;>by_cases d2:(c.1.length:Int)≤8<;>by_cases d3:3≤c.2
    all_goals (try omega)
    all_goals rw[decide_eq_false c3]
    all_goals simp[c1,c2,d1,d2,d3,az,ah,ai]
theorem Xf:agc.Ok Tryz.prog 3:=
 a5 mixed ((aj B7 (aj zp (aj QO (aj Eg (aj Ek (aj QZ (aj MC (aj Mx (aj ME aw)))))))))) func3 (by kernel_rfl) call3 (ks:=fH) (fun _ _=>aS.nil _) (fun _ _=>by kernel_rfl) fun x_ y_ h=>Xe x_.1 x_.2.1 h
end Go.Proofs.YtmhcoaflmgajhaaGreat
end
