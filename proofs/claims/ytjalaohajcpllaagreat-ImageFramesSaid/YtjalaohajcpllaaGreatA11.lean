/- What the laws lean on, part 11: a reader of code, plain facts, and what each function gives; no conditions. -/
import Derived.Test.YtjalaohajcpllaaGreatA10
section
set_option linter.unusedVariables false
set_option linter.unusedSimpArgs false
namespace Go.Proofs.YtjalaohajcpllaaGreat
open Go Go.Ev
set_option maxRecDepth 100000
abbrev K5 {Y:Type} (r:a9 (List SV) Y):a9 (List SV) (Int×Int×Y):=ae (ay .i64) (ae (ay .i64) r)
abbrev T7 {Y:Type} (r:a9 (List SV) Y):a9 (List SV) (Int×Int×Int×List Int×List Int×Y):=ae (ay .u64) (ae (ay .u64) (ae (ay .i64) (ae (tM u8 64) (ae (tM u8 64) r))))
abbrev ac0:a9 (List LV) ((Int×Int×Unit)×Unit):=ae (FZ (K5 ag)) ag
abbrev W9:a9 (List LV) ((Int×Int×Int×List Int×List Int×Unit)×Unit):=ae (FZ (T7 ag)) ag
abbrev anS:a9 (List LV) ((Int×Int×Int×Int×Int×List Int×List Int×List Int×Unit)×Unit):=ae (FZ (K5 (T7 (ae (tM u8 64) ag)))) ag
def gE (a b:Int):List Int:=if 0≤a∧a<8∧1≤b∧b≤16 then [66,74,75,49,a,b,0,0] else []
def nL (c v s:Int):Bool:=decide (v≤c∧1≤s∧s≤131072)
noncomputable def al7:au:=au.bV [] ac0 ag fun x _=> .leaf none (.one (.sc (.sl 0 0))) [(0,.own 0 u8 (gE x.1.1 x.1.2.1))]
noncomputable def ac1:au:=au.bV [] W9 ag fun x _=> .leaf none (nB (nL x.1.1 x.1.2.1 x.1.2.2.1)) []
theorem Hr (a b:Int):aY Tryz.prog [(30,Hq)] [] Tryz.f57 (ac0.wr ((a,b,()),())) [] [.ct 0 u8,.auto,.ax]=
 End.ite (decide (a<(0:Int))==false) (End.ite (decide ((8:Int)≤a)==false) (End.ite (decide (b<(1:Int))==false) (End.ite (decide ((16:
 Int)<b)) (End.leaf (LV.one (VV.sc (SV.sl (0:Nat) (0:Nat)))) [some (Item.own (0:Nat) (Ty.int IntKind.u8) [])]) (End.need ((8:Nat)≤
 (70368744177664:Nat)∧(2:Nat)≤(140737488355328:Nat)) (End.leaf (LV.one (VV.sc (SV.sl (0:Nat) (0:Nat)))) [some (Item.own (0:Nat) (Ty.int
 IntKind.u8) [[(66:Int),(74:Int),(75:Int),(49:Int)],[IntKind.u8.wrap a,IntKind.u8.wrap b,(0:Int),(0:Int)]].flatten)]))) (End.leaf
 (LV.one (VV.sc (SV.sl (0:Nat) (0:Nat)))) [some (Item.own (0:Nat) (Ty.int IntKind.u8) [])])) (End.leaf (LV.one (VV.sc (SV.sl (0:Nat) (0:
 Nat)))) [some (Item.own (0:Nat) (Ty.int IntKind.u8) [])])) (End.leaf (LV.one (VV.sc (SV.sl (0:Nat) (0:Nat)))) [some (Item.own (0:Nat) (Ty.int
 IntKind.u8) [])]):=by kernel_rfl
theorem PU (c v s:Int) (a b:List Int):aY Tryz.prog [] [] Tryz.f96 (W9.wr ((c,v,s,a,b,()),())) [] [.fr [.sym],.auto]=
 End.ite (decide (v≤c)==true) (End.ite (decide ((1:Int)≤s)==true) (End.leaf (LV.one (VV.sc (SV.bool (SB.sym (decide (s≤(131072:Int)))))))
 []) (End.leaf (LV.one (VV.sc (SV.bool (SB.sym false)))) [])) (End.leaf (LV.one (VV.sc (SV.bool (SB.sym false)))) []):=by kernel_rfl
theorem ac2 (c v s:Int) (a b:List Int):aY Tryz.prog [(96,ac1),(97,acZ),(30,Hq)] [] Tryz.f58 (W9.wr ((c,v,s,a,b,()),())) [] [.ct 0 u8,.auto,.ax]=
 End.ite (!nL c v s) (End.leaf (LV.one (VV.sc (SV.sl (0:Nat) (0:Nat)))) [some (Item.own (0:Nat) (Ty.int IntKind.u8) [])]) (End.need ((0:Int)
 ≤c∧c<(18446744073709551616:Int)) (End.need ((0:Int)≤v∧v<(18446744073709551616:Int)) (End.need ((0:Int)≤IntKind.u64.wrap s∧
 IntKind.u64.wrap s<(18446744073709551616:Int)) (End.need ((0:Int)≤(0:Int)∧(0:Int)≤(64:Int)∧(64:Int)≤(64:Int)) (End.need ((0:
 Int)≤(0:Int)∧(0:Int)≤(64:Int)∧(64:Int)≤(64:Int)) (End.need ([fA (8:Nat) c,fA (8:Nat) v,fA (8:Nat) (IntKind.u64.wrap
 s),List.take (64:Nat) (List.drop (0:Nat) a),List.take (64:Nat) (List.drop (0:Nat) b)].flatten.length≤(70368744177664:Nat)∧(5:Nat)≤
 (140737488355328:Nat)) (End.leaf (LV.one (VV.sc (SV.sl (0:Nat) (0:Nat)))) [some (Item.own (0:Nat) (Ty.int IntKind.u8) [fA (8:Nat) c,fA
 (8:Nat) v,fA (8:Nat) (IntKind.u64.wrap s),List.take (64:Nat) (List.drop (0:Nat) a),List.take (64:Nat) (List.drop (0:Nat)
 b)].flatten)]))))))):=by kernel_rfl
theorem lV {l m:List Int} (h:l=m): [some (Item.own 0 u8 l)]=aK [(0,Item.own 0 u8 m)] []:=by rw[h];rfl
theorem aiN:al7.Ok Tryz.prog 57:=by
 refine (au.bE Tryz.call57 fun x y Q h=>?_).sym
 obtain ⟨⟨a,b,_⟩,_⟩:=x
 refine (aG mixed (ao pJ aD) Tryz.func57 rfl (LT:= []) (ks:= [.ct 0 u8,.auto,.ax]) (aP.nil _)).use (D:= [(0,.own 0 u8 (gE a b))]) ?_ h.2
 show (aY _ _ _ _ (ac0.wr ((a,b,()),())) [] _).sat _
 rw[Hr]
 refine ⟨fun h1=>⟨fun h2=>⟨fun h3=>⟨fun h4=>⟨rfl,lV ?_⟩,fun h4=>⟨by omega,rfl,lV ?_⟩⟩,fun h3=>⟨rfl,lV ?_⟩⟩,fun h2=>⟨rfl,lV ?_⟩⟩,fun h1=>⟨rfl,lV ?_⟩⟩<;>
  simp at* <;>unfold gE<;>first|(rw[if_neg (by omega)])|(rw[if_pos (by omega),wrap_u8,wrap_u8,Int.emod_eq_of_lt (by omega) (by omega),Int.emod_eq_of_lt (by omega) (by omega)])
theorem ac3 {b c:Bool} (h:b=c):nB b=nB c:=by rw[h]
theorem ac4:ac1.Ok Tryz.prog 96:=by
 refine (au.bE Tryz.call96 fun x y Q h=>?_).sym
 obtain ⟨⟨c,v,s,a,b,_⟩,_⟩:=x
 refine (aG mixed aD Tryz.func96 rfl (LT:= []) (ks:= [.fr [.sym],.auto]) (aP.nil _)).use (D:= []) ?_ h.2
 show (aY _ _ _ _ (W9.wr ((c,v,s,a,b,()),())) [] _).sat _
 rw[PU]
 refine ⟨fun h1=>⟨fun h2=>⟨ac3 ?_,rfl⟩,fun h2=>⟨ac3 ?_,rfl⟩⟩,fun h1=>⟨ac3 ?_,rfl⟩⟩<;>simp_all[nL]<;>omega
def j1 (c v s:Int) (a b:List Int):List Int:=if nL c v s=true then fA 8 c++fA 8 v++fA 8 s++a.take 64++b.take 64 else []
theorem Hs {c v s:Int} (h:nL c v s=true):1≤s∧s≤131072:=by simp[nL] at h;omega
noncomputable def arE:au:=au.bV [] W9 ag fun x _=> .leaf (some (0≤x.1.1∧x.1.1<18446744073709551616∧0≤x.1.2.1∧x.1.2.1<18446744073709551616)) (.one (.sc (.sl 0 0))) [(0,.own 0 u8 (j1 x.1.1 x.1.2.1 x.1.2.2.1 x.1.2.2.2.1 x.1.2.2.2.2.1))]
theorem anT:arE.Ok Tryz.prog 58:=by
 refine (au.bE Tryz.call58 fun x y Q h=>?_).sym
 obtain ⟨⟨c,v,s,a,b,_⟩,_⟩:=x
 obtain ⟨⟨h1,h2,h3,h4⟩,hq⟩:=h
 simp only at h1 h2 h3 h4
 refine (aG mixed (ao ac4 (ao anR (ao pJ aD))) Tryz.func58 rfl (LT:= []) (ks:= [.ct 0 u8,.auto,.ax]) (aP.nil _)).use (D:= [(0,.own 0 u8 (j1 c v s a b))]) ?_ hq
 show (aY _ _ _ _ (W9.wr ((c,v,s,a,b,()),())) [] _).sat _
 rw[ac2]
 refine ⟨fun hb=>⟨rfl,lV ?_⟩,fun hb=>?_⟩
 ·simp at hb;simp[j1,hb]
 ·simp at hb
  obtain ⟨r1,r2⟩:=Hs hb
  have e:=wrap_u64 (n:=s) (by omega) (by omega)
  rw[e]
  refine ⟨⟨h1,h2⟩,⟨h3,h4⟩,⟨by omega,by omega⟩,⟨by omega,by omega,by omega⟩,⟨by omega,by omega,by omega⟩,⟨?_,by omega⟩,rfl,lV ?_⟩
  ·simp[eK];omega
  ·simp[j1,hb]
def sD (hd mn sg:List Int):List Int:=if hd.length=0∨mn.length=0 then [] else hd++mn++sg.take 64
theorem DQ (a b c v s:Int) (x y z:List Int):aY Tryz.prog [(57,al7),(58,arE),(30,Hq)] [] Tryz.f29 (anS.wr ((a,b,c,v,s,x,y,z,()),())) [] [.ct 0 u8,.auto,.ax]=
 End.need ((0:Int)≤c∧c<(18446744073709551616:Int)∧(0:Int)≤v∧v<(18446744073709551616:Int)) (End.ite (((↑(gE a b).length:Int)
 ==(0:Int))==false) (End.ite ((↑(j1 c v s x y).length:Int)==(0:Int)) (End.leaf (LV.one (VV.sc (SV.sl (0:Nat) (0:Nat)))) [some (Item.own
 (0:Nat) (Ty.int IntKind.u8) [])]) (End.need ((0:Int)≤(0:Int)∧(0:Int)≤(64:Int)∧(64:Int)≤(64:Int)) (End.need ([gE a b,j1 c
 v s x y,List.take (64:Nat) (List.drop (0:Nat) z)].flatten.length≤(70368744177664:Nat)∧(3:Nat)≤(140737488355328:Nat)) (End.leaf (LV.one
 (VV.sc (SV.sl (0:Nat) (0:Nat)))) [some (Item.own (0:Nat) (Ty.int IntKind.u8) [gE a b,j1 c v s x y,List.take (64:Nat) (List.drop (0:
 Nat) z)].flatten)])))) (End.leaf (LV.one (VV.sc (SV.sl (0:Nat) (0:Nat)))) [some (Item.own (0:Nat) (Ty.int IntKind.u8) [])])):=by kernel_rfl
theorem EA (a b:Int):(gE a b).length≤8:=by unfold gE;split<;>simp
theorem ac5 (c v s:Int) (a b:List Int):(j1 c v s a b).length≤152:=by unfold j1;split<;>simp[eK];omega
noncomputable def anU:au:=au.bV [] anS ag fun x _=> .leaf (some (0≤x.1.2.2.1∧x.1.2.2.1<18446744073709551616∧0≤x.1.2.2.2.1∧x.1.2.2.2.1<18446744073709551616)) (.one (.sc (.sl 0 0)))
 [(0,.own 0 u8 (sD (gE x.1.1 x.1.2.1) (j1 x.1.2.2.1 x.1.2.2.2.1 x.1.2.2.2.2.1 x.1.2.2.2.2.2.1 x.1.2.2.2.2.2.2.1) x.1.2.2.2.2.2.2.2.1))]
theorem ac6:anU.Ok Tryz.prog 29:=by
 refine (au.bE Tryz.call29 fun x y Q h=>?_).sym
 obtain ⟨⟨a,b,c,v,s,x,y,z,_⟩,_⟩:=x
 obtain ⟨hr,hq⟩:=h
 simp only at hr
 refine (aG mixed (ao aiN (ao anT (ao pJ aD))) Tryz.func29 rfl (LT:= []) (ks:= [.ct 0 u8,.auto,.ax]) (aP.nil _)).use (D:= [(0,.own 0 u8 (sD (gE a b) (j1 c v s x y) z))]) ?_ hq
 show (aY _ _ _ _ (anS.wr ((a,b,c,v,s,x,y,z,()),())) [] _).sat _
 rw[DQ]
 have h1:=EA a b
 have h2:=ac5 c v s x y
 generalize gE a b=hd at*
 generalize j1 c v s x y=mn at*
 refine ⟨hr,fun hb=>⟨fun hc=>⟨rfl,lV ?_⟩,fun hc=>⟨by omega,⟨?_,by omega⟩,rfl,lV ?_⟩⟩,fun hb=>⟨rfl,lV ?_⟩⟩
 ·simp at hb hc;simp[sD,hc]
 ·simp;omega
 ·simp at hb hc;simp[sD,hc,hb]
 ·simp at hb;simp[sD,hb]
abbrev bbA:a9 (List LV) (List Int×List Int×Unit):=ae (ah (dB false false u8)) (ae (ah (dB false false u8)) ag)
theorem PV (a b:List Int):aY Tryz.prog [] [] Tryz.f46 (bbA.wr (a,b,())) [] []=
 End.leaf (LV.one (VV.sc (SV.bool (SB.sym (cA a b))))) []:=by kernel_rfl
theorem Ht:aY Tryz.prog [] [] Tryz.f27 [] [] [.auto,.ax]=
 End.leaf (LV.one (VV.sc (SV.sl (0:Nat) (0:Nat)))) [some (Item.own (0:Nat) (Ty.int IntKind.u8) [(98:Int),(111:Int),(111:Int),(116:Int),
 (106:Int),(97:Int),(99:Int),(107:Int)])]:=by kernel_rfl
end Go.Proofs.YtjalaohajcpllaaGreat
end
section
set_option linter.unusedVariables false
set_option linter.unusedSimpArgs false
namespace Go.Proofs.YtjalaohajcpllaaGreat
open Go Go.Ev
set_option maxRecDepth 100000
noncomputable def ac7:au:=au.bV [some u8,some u8] bbA ag fun x _=> .leaf none (nB (cA x.1 x.2.1)) []
theorem ac8:ac7.Ok Tryz.prog 46:=by
 refine (au.bE Tryz.call46 fun x y Q h=>?_).sym
 obtain ⟨a,b,_⟩:=x
 refine (aG mixed aD Tryz.func46 rfl (LT:= []) (ks:= []) (aP.nil _)).use (D:= []) ?_ h.2
 show (aY _ _ _ _ (bbA.wr (a,b,())) [] _).sat _
 rw[PV]
 exact ⟨rfl,rfl⟩
noncomputable def anV:au:=au.of [] ag ag fun _ _=> .leaf none (.one (.sc (.sl 0 0))) [(0,.own 0 u8 [98,111,111,116,106,97,99,107])]
theorem ac9:anV.Ok Tryz.prog 27:=by
 refine au.bE Tryz.call27 fun x y Q h=>?_
 refine (aG mixed aD Tryz.func27 rfl (LT:= []) (ks:= [.auto,.ax]) (aP.nil _)).use (D:= [(0,.own 0 u8 [98,111,111,116,106,97,99,107])]) ?_ h.2
 show (aY _ _ _ _ [] [] _).sat _
 rw[Ht]
 exact ⟨rfl,rfl⟩
end Go.Proofs.YtjalaohajcpllaaGreat
end
section
set_option linter.unusedVariables false
set_option linter.unusedSimpArgs false
namespace Go.Proofs.YtjalaohajcpllaaGreat
open Go Go.Ev
set_option maxRecDepth 1000000
abbrev PW:Type:=RH×(List Int)×(List Int)×(List Int)
noncomputable abbrev PX (x:PW):LV:=LV.one (VV.sc (SV.ptr 0 0))
noncomputable abbrev PY (x:PW):List (Nat×Ev.Item):= [(0,jRd.wr x.1),(1,jT2.wr ()),(2,Item.own 0 (Ty.int IntKind.u16) x.2.1),(3,
 jT4.wr ()),(4,Item.own 0 (Ty.int IntKind.u16) x.2.2.1),(5,jT6.wr ()),(6,Item.own 0 (Ty.int IntKind.u16) x.2.2.2)]
noncomputable def PZ:Tr (PW):=(.need (mM) (.ret ({cs:= [1024,1024],bh:=0,part:=0,node:=1,t:=(0,0,0)},bx 8,bx
 8,bx 6)))
theorem P0:aY Tryz.prog [(84,zO)] [] Tryz.f78 ((ag).wr (())) ((ag).wr (())) [.fr [.sym],.syms,.auto,.ax,.gC 0 0 2 .i64]=(PZ).end PX PY ((ag).wr (())):=by kernel_rfl
theorem Xa:aP Tryz.prog ((ag).wr (())) [] (aH Tryz.f78):=(aP.nil _)
abbrev vJ:Prop:=True
noncomputable def P1:au:=au.bV [] (ag) (ag) fun x_ y_=> .leaf (some (vJ)) (PX ((⟨[1024,1024],0,0,1,(0,0,0)⟩,bx 8,bx 8,bx 6))) (PY ((⟨[1024,1024],0,0,1,(0,0,0)⟩,bx 8,bx 8,bx 6)))
theorem ada (h_:vJ):(PZ).Is ((⟨[1024,1024],0,0,1,(0,0,0)⟩,bx 8,bx 8,bx 6)):=by
 exact ⟨trivial,rfl⟩
theorem K6:P1.Ok Tryz.prog 78:=
 bM (tys:= []) (A:=ag) (H:=ag) (LT:=fun x_ y_=> []) (ks:= [.fr [.sym],.syms,.auto,.ax,.gC 0 0 2 .i64]) (V:=PX) (D:=PY) (T:=fun x_ y_=>PZ) (pre:=fun x_ y_=>vJ) (sp:=fun x_ y_=>(⟨[1024,1024],0,0,1,(0,0,0)⟩,bx 8,bx 8,bx 6)) mixed ((ao xL aD)) Tryz.func78 (by kernel_rfl) Tryz.call78 (fun x_ y_=>Xa) (fun x_ y_=>P0) (fun x_ y_ h=>ada h)
abbrev avP:a9 Ev.Item RH:=tY 179 (cRH 2 4 6)
abbrev jT3:=jT 3
abbrev jT5:=jT 5
abbrev jT7:=jT 7
def dy:Nat→Int→Int→List Int→Dc→RH→List Int→List Int→List Int→List bQ→List bQ×Bool
 |0,_,_,_,_,_,_,_,_,_=>([],false)
 |n+1,plain,made,b,d,r,p1,p2,p3,out=>
  let f:=cI b d
  if f.1=true then
   if made=plain then (out,true)
   else
    let x:=c7 r p1 p2 p3 f.2.2
    if x.1.2=true then
     if g6 x.1.1 made=true∧bq x.1.1≤plain-made then dy n plain (made+bq x.1.1) f.2.1 x.2.2.2.2.2 x.2.1 x.2.2.1 x.2.2.2.1 x.2.2.2.2.1 (out++ [x.1.1])
     else ([],false)
    else dy n plain made f.2.1 x.2.2.2.2.2 x.2.1 x.2.2.1 x.2.2.2.1 x.2.2.2.2.1 out
  else ([],false)
theorem xU {p:List Int} (h:gD p) (n b:Int):gD (bZ p n b):=by
 intro i
 have ha:=pd (p.getD n.toNat 0) b
 unfold bZ
 split
 ·rw[iX];split
  ·omega
  ·exact h i
 ·exact h i
theorem adb {c w:Int} (h1:0≤c) (h2:c≤w) (h3:65536≤w) (h4:w<4294967296):kx (ky c w):=by
 unfold ky
 split
 ·exact ⟨h1,by simp only;omega,by simp only;omega,.inr (.inl ⟨rfl,by simp only;omega⟩)⟩
 ·exact ⟨h1,by simp only;omega,h4,.inl ⟨rfl,by simp only;omega⟩⟩
theorem K7 {d:Dc} (h:kx d) {x y:Int} (hx:65536≤x∧x<4294967296) (hy:65536≤y∧y<4294967296) (fq:d.1≤x+y):kx (e9 d x y).2:=by
 have h1:=h.1
 unfold e9
 split
 ·exact adb h1 (by omega) hx.1 hx.2
 ·exact adb (by omega) (by omega) hy.1 hy.2
theorem eC {d:Dc} (h:kx d) (p:Int):kx (aQ p d).2.2:=by
 unfold aQ
 split
 ·rename_i hm
  have hb:=eI p h.2.1 h.2.2.1
  have hm':=(il d).1 hm
  have:=h.2.2.1
  exact K7 h ⟨by omega,by omega⟩ ⟨by omega,by omega⟩ (by omega)
 ·exact h
theorem rq {d:Dc} (h:kx d):kx (bP d).2:=by
 unfold bP
 split
 ·rename_i hm
  have hm':=(il d).1 hm
  have h1:=h.2.1
  have h2:=h.2.2.1
  exact K7 h ⟨by omega,by omega⟩ ⟨by omega,by omega⟩ (by omega)
 ·exact h
theorem anY {r:RH} {p1 p2 p3:List Int} {d:Dc} (h1:gD p1) (h2:gD p2) (h3:gD p3) (h:kx d):
  let x:=(fZ r p1 p2 p3 d).2.2
  gD x.1∧gD x.2.1∧gD x.2.2.1∧kx x.2.2.2:=by
 unfold fZ
 split
 ·exact ⟨h1,h2,h3,eC h _⟩
 ·split
  ·exact ⟨h1,h2,h3,rq h⟩
  ·split
   ·exact ⟨xU h1 _ _,h2,h3,eC h _⟩
   ·split
    ·exact ⟨h1,xU h2 _ _,h3,eC h _⟩
    ·exact ⟨h1,h2,xU h3 _ _,eC h _⟩
theorem P2 (r:RH) (p1 p2 p3:List Int) (d:Dc):(c7 r p1 p2 p3 d).2.2=(fZ r p1 p2 p3 d).2.2:=by
 unfold c7
 simp only
 split
 ·rfl
 ·split<;>rfl
def muR (r:RH):Nat:=(if r.part=0 then 21 else if r.part=1 then 8 else if r.part=2 then 20 else if r.part=3 then 12 else 6)-r.node.toNat.log2
theorem ade (n b:Int) (h:1≤n) (h0:0≤b) (h1:b≤1):(2*n+b).toNat.log2=n.toNat.log2+1:=by
 have e:(2*n+b).toNat/2=n.toNat:=by omega
 rw[Nat.log2_def,if_pos (by omega),e]
theorem aiP {n:Int} {k:Nat} (h:1≤n) (h1:n<2 ^ k):n.toNat.log2<k:=by
 rw[Nat.log2_lt (by omega)]
 have:((2 ^ k:Nat):Int)=2 ^ k:=by exact_mod_cast rfl
 omega
theorem aiQ {r:RH} (h:ROk r) (p1 p2 p3:List Int) (d:Dc) (hw:(c7 r p1 p2 p3 d).1.2=false):muR (c7 r p1 p2 p3 d).2.1<muR r:=by
 obtain ⟨b1,b2,b3,b4,b5,b6,b7⟩:=xS r p1 p2 p3 d
 obtain ⟨k1,k2,k3,k4,k5,k6,k7⟩:=h
 have hl:=ade r.node (fZ r p1 p2 p3 d).1 k4.1 b6 b7
 have DE:r.node.toNat.log2<(if r.part=0 then 1 else if r.part=1∨r.part=2 then 8 else 6):=by
  refine aiP k4.1 ?_
  have:=k4.2
  unfold kA at this
  split at this
  ·rename_i e;rw[if_pos e];simpa using this
  ·rename_i e
   split at this
   ·rename_i e1;rw[if_neg e,if_pos e1];simpa using this
   ·rename_i e1;rw[if_neg e,if_neg e1];simpa using this
 unfold c7 at hw ⊢
 simp only at hw ⊢
 have l1:(1:Int).toNat.log2=0:=by decide
 split
 ·rename_i e
  unfold muR
  simp only[hl]
  split at DE
  ·rename_i e1;simp only[e1,if_true];omega
  ·rename_i e1
   simp only[e1,if_false]
   split at DE
   ·rename_i e2;rcases e2 with e2|e2
    ·simp only[e2,if_true];omega
    ·simp only[e2];simp;omega
   ·rename_i e2
    rw[if_neg (fun h=>e2 (.inl h)),if_neg (fun h=>e2 (.inr h))]
    split<;>omega
 ·rename_i e
  rw[if_neg e] at hw
  split
  ·rename_i hy;rw[if_pos hy] at hw;cases hw
  ·rename_i hy
   unfold fY at hy ⊢
   simp only at hy ⊢
   unfold muR
   by_cases c0:r.part=0
   ·rw[if_pos c0] at DE
    simp only[c0,if_true,l1] at hy ⊢
    split<;>simp<;>omega
   ·by_cases c1:r.part=1
    ·simp[c1] at hy
    ·by_cases c2:r.part=2
     ·rw[if_neg c0,if_pos (.inr c2)] at DE
      simp[c2,l1];omega
     ·by_cases c3:r.part=3
      ·rw[if_neg c0,if_neg (by omega)] at DE
       simp[c3,l1];omega
      ·simp[c0,c1,c2,c3] at hy
abbrev BM:Type:=(List Int)×Int×Int×(Int×Int×Int)×RH×(List Int)×(List Int)×(List Int)×(List (Int×Int×Int))
noncomputable abbrev xV:a9 St BM:=(bH (ae (ah (dB false false (Ty.int IntKind.u8))) (ae (ah (ay IntKind.i64)) (jk 4 (ak
 (ah (aJ (0) (0))) (ak (ah (aJ (1) (0))) (ak (ah (jY (8) (0))) (ae (ah (ay IntKind.i64)) (jk 45 ag)))))))) (ae (bG O5)
 (ae (bG avP) (ak (bG jT3) (ae (cg (0) (Ty.int IntKind.u16)) (ak (bG jT5) (ae (cg (0) (Ty.int IntKind.u16)) (ak (bG
 jT7) (ae (cg (0) (Ty.int IntKind.u16)) (ae (cg (0) ((Ty.int IntKind.i64).pair ((Ty.int IntKind.i64).pair (Ty.int IntKind.u8))))
 ag)))))))))).jQ (fun y=>(y.1.1,y.1.2.1,y.1.2.2.1,y.2.1,y.2.2.1,y.2.2.2.1,y.2.2.2.2.1,y.2.2.2.2.2.1,y.2.2.2.2.2.2.1)) (fun x=>((x.1,
 (x.2.1,(x.2.2.1,()))),(x.2.2.2.1,(x.2.2.2.2.1,(x.2.2.2.2.2.1,(x.2.2.2.2.2.2.1,(x.2.2.2.2.2.2.2.1,(x.2.2.2.2.2.2.2.2,())))))))) (fun _=>rfl)
abbrev Hu:List Wk:= [.ct 8 dw,.ct 4 dw,.fr (cK 55 [(0,.an),(1,.an),(6,.an),(7,.an),(8,.an),(9,.an)]),.syms,
 .auto,.ax]
abbrev adf:Exit→List Wk:=qI Hu 0 [.ct 8 dw,.ct 4 dw,.fr (cK 55 [(4,.an),(5,.an)]),.syms,.auto,.ax] [.ct 8 dw,
 .ct 4 dw,.fr (cK 55 [(4,.an),(5,.an)]),.syms,.auto,.ax]
noncomputable def Hv (b':List Int) (d:Int×Int×Int):Int×Int×Int:=(cI b' d).snd.snd
noncomputable def fP (b':List Int) (d:Int×Int×Int) (r:RH) (p1:List Int) (p2:List Int) (p3:List Int):((Int×Int×Int)×Bool)×
 RH×List Int×List Int×List Int×Int×Int×Int:=c7 r p1 p2 p3 (Hv b' d)
noncomputable def nM (b':List Int) (d:Int×Int×Int) (r:RH) (p1:List Int) (p2:List Int) (p3:List Int):Int×Int×Int:=(fP
 b' d r p1 p2 p3).fst.fst
abbrev adg:Type:=Bool×(List (Int×Int×Int))
noncomputable abbrev Hw (x:adg):Exit×St:=(Exit.ret,⟨(eE 4 (LV.one (VV.sc (SV.sl 0 0))::(LV.one (VV.sc (SV.bool (SB.sym x.1)))::
 (eE 49 [])))),[some (Item.own 0 ((Ty.int IntKind.i64).pair ((Ty.int IntKind.i64).pair (Ty.int IntKind.u8))) x.2)]⟩)
noncomputable def pK (b':List Int) (pl:Int) (made:Int) (d:Int×Int×Int) (r:RH) (p1:List Int) (p2:List Int) (p3:List Int) (out:
 List (Int×Int×Int)):Tr (BM⊕(adg)):=(.need (Ad b' d) (.ite (!(cI b' d).fst) (.ret (.inr (false,[]))) (.ite (made==pl) (.ret
 (.inr (true,out))) (.need (rp r p1 p2 p3 (Hv b' d)) (.ite (!(fP b' d r p1 p2 p3).fst.snd) (.ret (.inl ((cI b' d).snd.fst,pl,
 made,(fP b' d r p1 p2 p3).snd.snd.snd.snd.snd,(fP b' d r p1 p2 p3).snd.fst,(fP b' d r p1 p2 p3).snd.snd.fst,(fP b' d r p1 p2
 p3).snd.snd.snd.fst,(fP b' d r p1 p2 p3).snd.snd.snd.snd.fst,out))) (.need (uy (nM b' d r p1 p2 p3) made) (.ite ((!g6 (nM b' d
 r p1 p2 p3) made)==false) (.need (ic (nM b' d r p1 p2 p3)) (.ite (decide (IntKind.i64.wrap (pl-made)<bq (nM b' d r p1 p2 p3)))
 (.ret (.inr (false,[]))) (.need (ic (nM b' d r p1 p2 p3)) (.need ((out.length+1)*24≤70368744177664∧out.length+1≤70368744177664)
 (.ret (.inl ((cI b' d).snd.fst,pl,IntKind.i64.wrap (made+bq (nM b' d r p1 p2 p3)),(fP b' d r p1 p2 p3).snd.snd.snd.snd.snd,
 (fP b' d r p1 p2 p3).snd.fst,(fP b' d r p1 p2 p3).snd.snd.fst,(fP b' d r p1 p2 p3).snd.snd.snd.fst,(fP b' d r p1 p2
 p3).snd.snd.snd.snd.fst,out++ [(fP b' d r p1 p2 p3).fst.fst]))))))) (.ret (.inr (false,[]))))))))))
theorem P3 (b:List Int) (plain:Int) (b':List Int) (pl:Int) (made:Int) (d:Int×Int×Int) (r:RH) (p1:List Int) (p2:List Int) (p3:List Int) (out:List (Int×Int×Int)):c8 Tryz.prog [(78,P1),(77,abW),(79,al0),(80,T6),(81,TE),(82,xG)] [] Tryz.f45 0 ((ag).wr (())) adf (xV.wr (b',pl,made,d,r,p1,p2,p3,out))=(pK b' pl made d r p1 p2 p3 out).res xV.wr Hw:=by kernel_rfl
theorem adh {b:List Int} {d:Dc} (h:kx d) (hb:aC b):kx (cI b d).2.2∧aC (cI b d).2.1∧(cI b d).2.1.length≤b.length:=by
 obtain ⟨h1,h2,h3,_⟩:=vF b d h hb
 unfold cI
 split
 ·exact ⟨h1,h2,h3⟩
 ·exact ⟨h1,aC.nil,by simp⟩
theorem adi (r:RH):muR r≤21:=by unfold muR;split<;>(try split)<;>(try split)<;>(try split)<;>omega
abbrev vK (b':List Int) (pl:Int) (made:Int) (d:Int×Int×Int) (r:RH) (p1:List Int) (p2:List Int) (p3:List Int) (out:List (Int×Int×Int)):Prop:=kx d∧aC b'∧b'.length<1099511627776∧ROk r∧gD p1∧gD p2∧gD p3∧0≤made∧made≤pl∧pl≤8192∧out.length≤made
noncomputable abbrev Hx (x_:BM):a6:= .need ((fun (b':List Int) (pl:Int) (made:Int) (d:Int×Int×Int) (r:RH) (p1:List Int) (p2:List Int) (p3:List Int) (out:List (Int×Int×Int))=>vK b' pl made d r p1 p2 p3 out) x_.1 x_.2.1 x_.2.2.1 x_.2.2.2.1 x_.2.2.2.2.1 x_.2.2.2.2.2.1 x_.2.2.2.2.2.2.1 x_.2.2.2.2.2.2.2.1 x_.2.2.2.2.2.2.2.2) (.leaf (Hw ((fun (b':List Int) (pl:Int) (made:Int) (d:Int×Int×Int) (r:RH) (p1:List Int) (p2:List Int) (p3:List Int) (out:List (Int×Int×Int))=>((dy 200000 pl made b' d r p1 p2 p3 out).2,(dy 200000 pl made b' d r p1 p2 p3 out).1)) x_.1 x_.2.1 x_.2.2.1 x_.2.2.2.1 x_.2.2.2.2.1 x_.2.2.2.2.2.1 x_.2.2.2.2.2.2.1 x_.2.2.2.2.2.2.2.1 x_.2.2.2.2.2.2.2.2)).1 (Hw ((fun (b':List Int) (pl:Int) (made:Int) (d:Int×Int×Int) (r:RH) (p1:List Int) (p2:List Int) (p3:List Int) (out:List (Int×Int×Int))=>((dy 200000 pl made b' d r p1 p2 p3 out).2,(dy 200000 pl made b' d r p1 p2 p3 out).1)) x_.1 x_.2.1 x_.2.2.1 x_.2.2.2.1 x_.2.2.2.2.1 x_.2.2.2.2.2.1 x_.2.2.2.2.2.2.1 x_.2.2.2.2.2.2.2.1 x_.2.2.2.2.2.2.2.2)).2)
theorem adj (b':List Int) (pl:Int) (made:Int) (d:Int×Int×Int) (r:RH) (p1:List Int) (p2:List Int) (p3:List Int) (out:List (Int×Int×Int)) (h_:vK b' pl made d r p1 p2 p3 out):cJ (fun x_:BM=>pK x_.1 x_.2.1 x_.2.2.1 x_.2.2.2.1 x_.2.2.2.2.1 x_.2.2.2.2.2.1 x_.2.2.2.2.2.2.1 x_.2.2.2.2.2.2.2.1 x_.2.2.2.2.2.2.2.2) (b',pl,made,d,r,p1,p2,p3,out) (((dy 200000 pl made b' d r p1 p2 p3 out).2,(dy 200000 pl made b' d r p1 p2 p3 out).1)):=by
 obtain ⟨h1,h2,h3,h4,h5,h6,h7,h8,h9,h10,h11⟩:=h_
 obtain ⟨m,hm⟩: ∃ m:Nat,(pl-made).toNat*22+muR r<m:=⟨_,Nat.lt_succ_self _⟩
 have hf:m≤200000∨((pl-made).toNat*22+muR r<200000):=by
  have:=adi r;right;omega
 obtain ⟨n,hn1,hn2⟩: ∃ n:Nat,n=200000∧(pl-made).toNat*22+muR r<n:=⟨200000,rfl,by have:=adi r;omega⟩
 rw[← hn1]
 clear hf hm hn1
 clear m
 induction n generalizing made b' d r p1 p2 p3 out with
 |zero=>omega
 |succ n ih=>
  obtain ⟨f1,f2,f3⟩:=adh h1 h2
  have sC:Hv b' d=(cI b' d).2.2:=rfl
  rw[dy]
  simp only
  by_cases oK:(cI b' d).1=true
  ·rw[if_pos oK]
   by_cases he:made=pl
   ·rw[if_pos he]
    refine .stop ?_
    simp only[pK,ai,kr,da,aj]
    exact ⟨⟨h1,h2,h3⟩,fun _=>⟨fun _=>trivial,fun h=>absurd he h⟩,fun h=>by rw[oK] at h;cases h⟩
   ·rw[if_neg he]
    have nF:fP b' d r p1 p2 p3=c7 r p1 p2 p3 (cI b' d).2.2:=rfl
    have Zh:nM b' d r p1 p2 p3=(c7 r p1 p2 p3 (cI b' d).2.2).1.1:=rfl
    have n1:=KY h4 p1 p2 p3 (cI b' d).2.2
    have n2:=P2 r p1 p2 p3 (cI b' d).2.2
    have n3:=anY (r:=r) h5 h6 h7 f1
    rw[← n2] at n3
    have n4:=aiQ h4 p1 p2 p3 (cI b' d).2.2
    generalize hx:c7 r p1 p2 p3 (cI b' d).2.2=x at*
    obtain ⟨o1,o2,o3,o4⟩:=n3
    cases hw:x.1.2 with
    |false=>
     have n4:=n4 hw
     rw[if_neg (by simp)]
     have j9:=ih _ _ _ _ _ _ _ _ o4 f2 (by omega) n1 o1 o2 o3 h8 h9 h11 (by omega)
     refine .go ?_ j9
     simp only[pK,ai,kr,da,aj,sC,nF,hw,oK]
     exact ⟨⟨h1,h2,h3⟩,fun _=>⟨fun h=>absurd h he,fun _=>⟨⟨h4,h5,h6,h7,f1⟩,fun h=>by simp at h,fun _=>trivial⟩⟩,fun h=>by simp at h⟩
    |true=>
     rw[if_pos rfl]
     have w1:IntKind.i64.wrap (pl-made)=pl-made:=aq (by omega) (by omega)
     by_cases hc:g6 x.1.1 made=true∧bq x.1.1≤pl-made
     ·rw[if_pos hc]
      have Dx:=ie hc.1
      have hmu:=adi x.2.1
      have w2:IntKind.i64.wrap (made+bq x.1.1)=made+bq x.1.1:=aq (by omega) (by omega)
      have j9:=ih _ (made+bq x.1.1) _ _ _ _ _ (out++ [x.1.1]) o4 f2 (by omega) n1 o1 o2 o3 (by omega) (by omega) (by simp;omega) (by omega)
      refine .go ?_ j9
      simp only[pK,ai,kr,da,aN,aj,sC,nF,Zh,hw,oK,hc.1,w1,w2]
      have e1:(made==pl)=false:=by simp[he]
      have e2:decide (pl-made<bq x.1.1)=false:=by simp;omega
      simp only[e1,e2,a7,aS,ai,aj,kr,Bool.not_true,bI]
      exact ⟨⟨h1,h2,h3⟩,fun _=>⟨fun h=>absurd h he,fun _=>⟨⟨h4,h5,h6,h7,f1⟩,fun _=>⟨trivial,fun _=>⟨trivial,fun h=>by simp at h,fun _=>⟨trivial,⟨by omega,by omega⟩,trivial⟩⟩,fun h=>by simp at h⟩,fun h=>by simp at h⟩⟩,fun h=>by simp at h⟩
     ·rw[if_neg hc]
      refine .stop ?_
      simp only[pK,ai,kr,da,aN,aj,sC,nF,Zh,hw,oK,w1]
      refine ⟨⟨h1,h2,h3⟩,fun _=>⟨fun h=>absurd h he,fun _=>⟨⟨h4,h5,h6,h7,f1⟩,fun _=>⟨trivial,?_⟩,fun h=>by simp at h⟩⟩,fun h=>by simp at h⟩
      cases hmy:g6 x.1.1 made with
      |true=>
       simp only[Bool.not_true,beq_self_eq_true,aS,ai,aN,aj]
       exact ⟨trivial,fun _=>trivial,fun h=>absurd ⟨hmy,by omega⟩ hc⟩
      |false=>simp[bI,aj]
  ·rw[if_neg oK]
   refine .stop ?_
   simp only[pK,ai,kr,aj]
   exact ⟨⟨h1,h2,h3⟩,fun h=>absurd h oK,fun _=>trivial⟩
theorem Xb (b:List Int) (plain:Int): ∀ x:BM,Ex Tryz.prog ((ag).wr (())) (.loop (aU Tryz.f45 0)) (xV.wr x) (Hx x):=
 bT mixed ((ao K6 (ao TS (ao aiJ (ao W4 (ao Gp (ao pn aD))))))) (ws:=adf) (aP.nil _) (E:=Hw) (L:=fun x_=>pK x_.1 x_.2.1 x_.2.2.1 x_.2.2.2.1 x_.2.2.2.2.1 x_.2.2.2.2.2.1 x_.2.2.2.2.2.2.1 x_.2.2.2.2.2.2.2.1 x_.2.2.2.2.2.2.2.2) (pre:=fun x_=>(fun (b':List Int) (pl:Int) (made:Int) (d:Int×Int×Int) (r:RH) (p1:List Int) (p2:List Int) (p3:List Int) (out:List (Int×Int×Int))=>vK b' pl made d r p1 p2 p3 out) x_.1 x_.2.1 x_.2.2.1 x_.2.2.2.1 x_.2.2.2.2.1 x_.2.2.2.2.2.1 x_.2.2.2.2.2.2.1 x_.2.2.2.2.2.2.2.1 x_.2.2.2.2.2.2.2.2) (sp:=fun x_=>(fun (b':List Int) (pl:Int) (made:Int) (d:Int×Int×Int) (r:RH) (p1:List Int) (p2:List Int) (p3:List Int) (out:List (Int×Int×Int))=>((dy 200000 pl made b' d r p1 p2 p3 out).2,(dy 200000 pl made b' d r p1 p2 p3 out).1)) x_.1 x_.2.1 x_.2.2.1 x_.2.2.2.1 x_.2.2.2.2.1 x_.2.2.2.2.2.1 x_.2.2.2.2.2.2.1 x_.2.2.2.2.2.2.2.1 x_.2.2.2.2.2.2.2.2) (fun x_=>P3 b plain x_.1 x_.2.1 x_.2.2.1 x_.2.2.2.1 x_.2.2.2.2.1 x_.2.2.2.2.2.1 x_.2.2.2.2.2.2.1 x_.2.2.2.2.2.2.2.1 x_.2.2.2.2.2.2.2.2) (fun z e=>by cases e) dc (fun x_ h=>adj x_.1 x_.2.1 x_.2.2.1 x_.2.2.2.1 x_.2.2.2.2.1 x_.2.2.2.2.2.1 x_.2.2.2.2.2.2.1 x_.2.2.2.2.2.2.2.1 x_.2.2.2.2.2.2.2.2 h)
def Zj:RH:=⟨[1024,1024],0,0,1,(0,0,0)⟩
def eL (b:List Int) (plain:Int):List bQ×Bool:=dy 200000 plain 0 b (0,4294967295,4) Zj (bx 8) (bx 8) (bx 6) []
noncomputable def adk:RH:= {cs:= [1024,1024],bh:=0,part:=0,node:=1,t:=(0,0,0)}
noncomputable def adl (b:List Int) (plain:Int):List (Int×Int×Int)×Bool:=dy 200000 plain 0 b (0,4294967295,4) adk (bx 8)
 (bx 8) (bx 6) []
abbrev adm:Type:=Bool×(List (Int×Int×Int))
noncomputable abbrev adn (x:adm):LV:=LV.cV [VV.sc (SV.sl 0 0),VV.sc (SV.bool (SB.sym x.1))]
noncomputable abbrev ado (x:adm):List (Nat×Ev.Item):= [(0,Item.own 0 ((Ty.int IntKind.i64).pair ((Ty.int IntKind.i64).pair (Ty.int
 IntKind.u8))) x.2)]
noncomputable def T8 (b:List Int) (plain:Int):Tr (adm):=(.need (z6) (.need (vJ) (.need (vK b plain 0 (0,4294967295,4)
 adk (bx 8) (bx 8) (bx 6) []) (.ret ((adl b plain).snd,(adl b plain).fst)))))
theorem Xc (b:List Int) (plain:Int):aY Tryz.prog [(78,P1),(77,abW)] [(0,aX xV ((ag).wr (())) Hu (Hx))] Tryz.f45 (((ae (ah (dB false false u8)) (ae (ah (ay .i64)) ag))).wr (b,plain,())) ((ag).wr (())) [.ct 4 dw,.ct 8 dw,.fr [.sym],.syms,.auto,.ax]=(T8 b plain).end adn ado ((ag).wr (())):=by kernel_rfl
theorem adp (b:List Int) (plain:Int):aP Tryz.prog ((ag).wr (())) [(0,aX xV ((ag).wr (())) Hu (Hx))] (aH Tryz.f45):=(aP.cy (jr (by kernel_rfl) (bz (hp:=(ag).wr (())) (Xb b plain)) jH))
theorem BN (k:Nat) (h:k≤8):gD (bx k):=(jv k h).1.2.2.1
theorem anZ:kx (0,4294967295,4):=by
 exact ⟨by decide,by decide,by decide,.inr (.inr (by decide))⟩
theorem an0:ROk Zj:=⟨rfl,.inl rfl,by decide,by decide,by decide,by decide,by decide⟩
abbrev vL (b:List Int) (plain:Int):Prop:=aC b∧b.length<1099511627776∧0≤plain∧plain≤8192
noncomputable def al8:au:=au.bV [] ((ae (ah (dB false false u8)) (ae (ah (ay .i64)) ag))) (ag) fun x_ y_=> .leaf (some ((fun (b:List Int) (plain:Int)=>vL b plain) x_.1 x_.2.1)) (adn ((fun (b:List Int) (plain:Int)=>((eL b plain).2,(eL b plain).1)) x_.1 x_.2.1)) (ado ((fun (b:List Int) (plain:Int)=>((eL b plain).2,(eL b plain).1)) x_.1 x_.2.1))
theorem aiR (b:List Int) (plain:Int) (h_:vL b plain):(T8 b plain).Is (((eL b plain).2,(eL b plain).1)):=by
 obtain ⟨h1,h2,h3,h4⟩:=h_
 simp only[T8,ai,aj]
 exact ⟨trivial,trivial,⟨anZ,h1,h2,an0,BN 8 (by omega),BN 8 (by omega),BN 6 (by omega),by omega,h3,h4,by simp⟩,rfl⟩
theorem gl:al8.Ok Tryz.prog 45:=
 bM (tys:= []) (A:=(ae (ah (dB false false u8)) (ae (ah (ay .i64)) ag))) (H:=ag) (LT:=fun x_ y_=>(fun (b:List Int) (plain:Int)=> [(0,aX xV ((ag).wr (())) Hu (Hx))]) x_.1 x_.2.1) (ks:= [.ct 4 dw,.ct 8 dw,.fr [.sym],.syms,.auto,.ax]) (V:=adn) (D:=ado) (T:=fun x_ y_=>T8 x_.1 x_.2.1) (pre:=fun x_ y_=>(fun (b:List Int) (plain:Int)=>vL b plain) x_.1 x_.2.1) (sp:=fun x_ y_=>(fun (b:List Int) (plain:Int)=>((eL b plain).2,(eL b plain).1)) x_.1 x_.2.1) mixed ((ao K6 (ao TS aD))) Tryz.func45 (by kernel_rfl) Tryz.call45 (fun x_ y_=>adp x_.1 x_.2.1) (fun x_ y_=>Xc x_.1 x_.2.1) (fun x_ y_ h=>aiR x_.1 x_.2.1 h)
theorem adq (r:RH) (p1 p2 p3:List Int) (d:Dc) (h:(c7 r p1 p2 p3 d).1.2=true):(c7 r p1 p2 p3 d).1.1=(c7 r p1 p2 p3 d).2.1.t:=by
 unfold c7 at h ⊢
 simp only at h ⊢
 split at h
 ·cases h
 ·rename_i e
  rw[if_neg e] at*
  split at h
  ·rename_i e1;rw[if_pos e1]
  ·cases h
theorem gA: ∀ (n:Nat) (pl made:Int) (b:List Int) (d:Dc) (r:RH) (p1 p2 p3:List Int) (out:List bQ),ROk r→lr out→made≤pl→(out.length:Int)≤made→
  lr (dy n pl made b d r p1 p2 p3 out).1∧((dy n pl made b d r p1 p2 p3 out).1.length:Int)≤max pl 0
 |0,_,_,_,_,_,_,_,_,_,_,_,_,_=>⟨fun x h=>by simp[dy] at h,by simp[dy];omega⟩
 |n+1,pl,made,b,d,r,p1,p2,p3,out,h1,h2,h3,h4=>by
  have nil:lr (([],false):List bQ×Bool).1∧((([],false):List bQ×Bool).1.length:Int)≤max pl 0:=⟨fun x h=>by simp at h,by simp;omega⟩
  rw[dy]
  simp only
  split
  ·split
   ·exact ⟨h2,by simp only;omega⟩
   ·have n1:=KY h1 p1 p2 p3 (cI b d).2.2
    have n2:=adq r p1 p2 p3 (cI b d).2.2
    generalize c7 r p1 p2 p3 (cI b d).2.2=x at*
    split
    ·rename_i hw
     split
     ·rename_i hc
      have:=ie hc.1
      refine gA n _ _ _ _ _ _ _ _ _ n1 ?_ (by omega) (by simp;omega)
      intro t ht
      rw[List.mem_append] at ht
      rcases ht with ht|ht
      ·exact h2 t ht
      ·have:t=x.1.1:=by simpa using ht
       rw[this,n2 hw];exact n1.tb
     ·exact nil
    ·exact gA n _ _ _ _ _ _ _ _ _ n1 h2 h3 h4
  ·exact nil
def aT (b:List Int) (plain:Int):Int×List bQ:=
 if plain<0∨8192<plain then (1,[]) else if (eL b plain).2=true∧cA (cS (eL b plain).1) b=true then (0,(eL b plain).1) else (11,[])
abbrev BO:Type:=Int
noncomputable abbrev BP (x:BO):LV:=LV.cV [VV.sc (SV.gz (Value.slice none 0 0)),VV.sc (SV.int IntKind.i64 (SI.sym x))]
noncomputable abbrev BQ (x:BO):List (Nat×Ev.Item):= []
abbrev BR:Type:=Int×(List (Int×Int×Int))
noncomputable abbrev BS (x:BR):LV:=LV.cV [VV.sc (SV.sl 0 0),VV.sc (SV.int IntKind.i64 (SI.sym x.1))]
noncomputable abbrev BT (x:BR):List (Nat×Ev.Item):= [(0,Item.own 0 ((Ty.int IntKind.i64).pair ((Ty.int IntKind.i64).pair (Ty.int
 IntKind.u8))) x.2)]
noncomputable def ly (b:List Int) (plain:Int):Tr (BO⊕BR):=(.ite (decide (plain<0)==false) (.ite (decide (8192<plain))
 (.ret (.inl (1))) (.need (vL b plain) (.ite ((!(eL b plain).snd)==false) (.need (jw (eL b plain).fst) (.ite (!cA (cS (eL b
 plain).fst) b) (.ret (.inl (11))) (.ret (.inr (0,(eL b plain).fst))))) (.ret (.inl (11)))))) (.ret (.inl (1))))
theorem K8 (b:List Int) (plain:Int):aY Tryz.prog [(45,al8),(47,OY),(46,ac7)] [] Tryz.f23 (((ae (ah (dB false false u8)) (ae (ah (ay .i64)) ag))).wr (b,plain,())) ((ag).wr (())) [.ct 4 dw,.ct 6 dw,.fr [.sym],.syms,.auto,.ax]=(ly b plain).end (Sum.elim BP BS) (Sum.elim BQ BT) ((ag).wr (())):=by kernel_rfl
theorem P4 (b:List Int) (plain:Int):aP Tryz.prog ((ag).wr (())) [] (aH Tryz.f23):=(aP.nil _)
abbrev ja (b:List Int) (plain:Int):Prop:=aC b∧b.length<1099511627776
noncomputable def T9:au:=au.bV [some u8,none] ((ae (ah (dB false false u8)) (ae (ah (ay .i64)) ag))) (ag) fun x_ y_=> .ite ((fun (b:List Int) (plain:Int)=>decide ((aT b plain).1≠0)) x_.1 x_.2.1) (.leaf (some ((fun (b:List Int) (plain:Int)=>ja b plain) x_.1 x_.2.1)) (BP ((fun (b:List Int) (plain:Int)=>(aT b plain).1) x_.1 x_.2.1)) (BQ ((fun (b:List Int) (plain:Int)=>(aT b plain).1) x_.1 x_.2.1))) (.leaf (some ((fun (b:List Int) (plain:Int)=>ja b plain) x_.1 x_.2.1)) (BS ((fun (b:List Int) (plain:Int)=>(0,(aT b plain).2)) x_.1 x_.2.1)) (BT ((fun (b:List Int) (plain:Int)=>(0,(aT b plain).2)) x_.1 x_.2.1)))
theorem Xd (b:List Int) (plain:Int) (h_:ja b plain):(decide ((aT b plain).1≠0)=true→(ly b plain).Is (.inl ((aT b plain).1)))∧(decide ((aT b plain).1≠0)=false→(ly b plain).Is (.inr ((0,(aT b plain).2)))):=by
 obtain ⟨h1,h2⟩:=h_
 by_cases hp:plain<0∨8192<plain
 ·have e:aT b plain=(1,[]):=by unfold aT;rw[if_pos hp]
  simp only[e,ly,bI,aN,aj]
  grind
 ·obtain ⟨k1,k2⟩:=gA 200000 plain 0 b (0,4294967295,4) Zj (bx 8) (bx 8) (bx 6) [] an0 (fun x h=>by simp at h) (by omega) (by simp)
  have k3:jw (eL b plain).1:=⟨by show (dy _ _ _ _ _ _ _ _ _ _).1.length<_;omega,k1⟩
  have k4:vL b plain:=⟨h1,h2,by omega,by omega⟩
  have d1:(decide (plain<0)==false)=true:=by simp;omega
  have d2:decide (8192<plain)=false:=by simp;omega
  cases hr:(eL b plain).2 with
  |false=>
   have e:aT b plain=(11,[]):=by unfold aT;rw[if_neg hp,hr];simp
   simp only[e,ly,hr,d1,d2,aS,a7,ai,bI,aj]
   simp;exact k4
  |true=>
   by_cases hb:cA (cS (eL b plain).1) b=true
   ·have e:aT b plain=(0,(eL b plain).1):=by unfold aT;rw[if_neg hp,hr,if_pos ⟨rfl,hb⟩]
    have e1:cA (cS (eL b plain).1) b=true:=hb
    simp only[e,ly,hr,d1,d2,e1,aS,a7,ai,bI,aj]
    simp;exact ⟨k4,k3⟩
   ·have e:aT b plain=(11,[]):=by unfold aT;rw[if_neg hp,if_neg (fun h=>hb h.2)]
    have e1:cA (cS (eL b plain).1) b=false:=by simpa using hb
    simp only[e,ly,hr,d1,d2,e1,aS,a7,ai,bI,aj]
    simp;exact ⟨k4,k3⟩
theorem Xe:T9.Ok Tryz.prog 23:=
 lR (tys:= [some u8,none]) (A:=(ae (ah (dB false false u8)) (ae (ah (ay .i64)) ag))) (H:=ag) (LT:=fun x_ y_=>(fun (b:List Int) (plain:Int)=> []) x_.1 x_.2.1) (ks:= [.ct 4 dw,.ct 6 dw,.fr [.sym],.syms,.auto,.ax]) (V:=BP) (D:=BQ) (V':=BS) (D':=BT) (T:=fun x_ y_=>ly x_.1 x_.2.1) (pre:=fun x_ y_=>(fun (b:List Int) (plain:Int)=>ja b plain) x_.1 x_.2.1) (c:=fun x_ y_=>(fun (b:List Int) (plain:Int)=>decide ((aT b plain).1≠0)) x_.1 x_.2.1) (sp:=fun x_ y_=>(fun (b:List Int) (plain:Int)=>(aT b plain).1) x_.1 x_.2.1) (sp':=fun x_ y_=>(fun (b:List Int) (plain:Int)=>(0,(aT b plain).2)) x_.1 x_.2.1) mixed ((ao gl (ao KL (ao ac8 aD)))) Tryz.func23 (by kernel_rfl) Tryz.call23 (fun x_ y_=>P4 x_.1 x_.2.1) (fun x_ y_=>K8 x_.1 x_.2.1) (fun x_ y_ h=>Xd x_.1 x_.2.1 h)
end Go.Proofs.YtjalaohajcpllaaGreat
end
section
set_option linter.unusedVariables false
set_option linter.unusedSimpArgs false
namespace Go.Proofs.YtjalaohajcpllaaGreat
open Go Go.Ev
set_option maxRecDepth 1000000
structure RB where
 b:List Int
 cs:List Int
 bN:Int
 bad:Bool
abbrev cRB:a9 (List SV) RB:=(ak (aJ 1 0) (ae (dB false false u8) (ak (aJ 2 0) (ak (aJ 4 0) (ak (aJ 6 0) (ae (tM (.int .i64) 2) (ae (ay .i64) (ae Td ag)))))))).jQ
 (fun x=>⟨x.1,x.2.1,x.2.2.1,x.2.2.2.1⟩) (fun y=>(y.b,y.cs,y.bN,y.bad,())) (fun _=>rfl)
abbrev Hy:a9 Ev.Item RB:=tY 120 cRB
abbrev jb:a9 Hp (RB×Dc×Int×List Int×Int×List Int×Int×List Int×Unit):=
 ae (bG Hy) (ae (bG jJ) (ae (bG GY) (ae (cg 0 (.int .i64)) (ae (bG GZ) (ae (cg 0 (.int .i64)) (ae (bG G0) (ae (cg 0 (.int .i64)) ag)))))))
abbrev vM:Type:=RB×(Int×Int×Int)×Int×(List Int)×Int×(List Int)×Int×(List Int)
noncomputable abbrev rr:a9 St vM:=(bH (ak (ah (aJ (0) (0))) (jk 58 ag)) (ae (bG Hy) (ae (bG jJ) (ae (bG
 GY) (ae (cg (0) (Ty.int IntKind.i64)) (ae (bG GZ) (ae (cg (0) (Ty.int IntKind.i64)) (ae (bG G0) (ae (cg (0) (Ty.int
 IntKind.i64)) ag))))))))).jQ (fun y=>(y.2.1,y.2.2.1,y.2.2.2.1,y.2.2.2.2.1,y.2.2.2.2.2.1,y.2.2.2.2.2.2.1,y.2.2.2.2.2.2.2.1,
 y.2.2.2.2.2.2.2.2.1)) (fun x=>((),(x.1,(x.2.1,(x.2.2.1,(x.2.2.2.1,(x.2.2.2.2.1,(x.2.2.2.2.2.1,(x.2.2.2.2.2.2.1,(x.2.2.2.2.2.2.2,()))))))))))
 (fun _=>rfl)
abbrev Af:List Wk:= [.fr (cK 59 [(0,.an)]),.syms,.auto,.ax]
abbrev Ua:Exit→List Wk:=qI Af 0 [.fr (cK 59 [(0,.an)]),.syms,.auto,.ax] [.fr (cK 59 []),.syms,.auto,.ax]
abbrev K9:Type:=RB×(Int×Int×Int)×Int×(List Int)×Int×(List Int)×Int×(List Int)
noncomputable abbrev vN (x:K9):Exit×St:=(Exit.ret,⟨(eE 59 []),[some (Hy.wr x.1),some (jJ.wr x.2.1),some (GY.wr x.2.2.1),
 some (Item.own 0 (Ty.int IntKind.i64) x.2.2.2.1),some (GZ.wr x.2.2.2.2.1),some (Item.own 0 (Ty.int IntKind.i64) x.2.2.2.2.2.1),some (G0.wr
 x.2.2.2.2.2.2.1),some (Item.own 0 (Ty.int IntKind.i64) x.2.2.2.2.2.2.2)]⟩)
abbrev La:Type:=RB×(Int×Int×Int)×Int×(List Int)×Int×(List Int)×Int×(List Int)
noncomputable abbrev vO (x:La):Exit×St:=(Exit.exit 0,⟨(LV.one (VV.sc (SV.ptr 0 0))::(eE 58 [])),[some (Hy.wr x.1),some
 (jJ.wr x.2.1),some (GY.wr x.2.2.1),some (Item.own 0 (Ty.int IntKind.i64) x.2.2.2.1),some (GZ.wr x.2.2.2.2.1),some (Item.own 0 (Ty.int
 IntKind.i64) x.2.2.2.2.2.1),some (G0.wr x.2.2.2.2.2.2.1),some (Item.own 0 (Ty.int IntKind.i64) x.2.2.2.2.2.2.2)]⟩)
noncomputable def nN (r':RB) (d':Int×Int×Int) (cD:Int) (cd:List Int) (cE:Int) (cj:List Int) (cF:Int) (ck:List Int):Tr
 (vM⊕(K9⊕La)):=(.ite (decide (0<d'.snd.snd)==true) (.ite (!r'.bad) (.ite ((↑r'.b.length:Int)==0) (.ret (.inr (.inl ({b:=r'.b,cs:=r'.cs,bN:=r'.bN,bad:=true},
 d',cD,cd,cE,cj,cF,ck)))) (.need ((0:Int)≤0∧0<(↑r'.b.length:Int)) (.need (vm (r'.b.getD 0 0) d') (.need ((0:Int)≤1∧1≤
 (↑r'.b.length:Int)∧(↑r'.b.length:Int)≤(↑r'.b.length:Int)) (.ret (.inl ({b:=List.take ((↑r'.b.length:Int)-1).toNat (List.drop 1 r'.b),cs:=r'.cs,bN:=r'.bN,bad:=r'.bad},
 fy d' (r'.b.getD 0 0),cD,cd,cE,cj,cF,ck))))))) (.ret (.inr (.inr (r',d',cD,cd,cE,cj,cF,ck))))) (.ret (.inr (.inr (r',d',
 cD,cd,cE,cj,cF,ck)))))
theorem Lb (r:RB) (d:Dc) (b1:Int) (p1:List Int) (b2:Int) (p2:List Int) (b3:Int) (p3:List Int) (r':RB) (d':Int×Int×Int) (cD:Int) (cd:List Int) (cE:Int) (cj:List Int) (cF:Int) (ck:List Int):c8 Tryz.prog [(105,Py),(106,BB)] [] Tryz.f69 0 ((jb).wr (r,d,b1,p1,b2,p2,b3,p3,())) Ua (rr.wr (r',d',cD,cd,cE,cj,cF,ck))=(nN r' d' cD cd cE cj cF ck).res rr.wr (Sum.elim vN vO):=by kernel_rfl
def df (r:RB) (d:Dc):RB×Dc:=if r.bad=true then (r,d) else (⟨(bK r.b d).2.1,r.cs,r.bN,!(bK r.b d).1⟩,(bK r.b d).2.2)
abbrev ru (r':RB) (d':Int×Int×Int) (cD:Int) (cd:List Int) (cE:Int) (cj:List Int) (cF:Int) (ck:List Int):Prop:=kx d'∧aC r'.b∧r'.b.length<1099511627776
noncomputable abbrev Ag (x_:vM):a6:= .need ((fun (r':RB) (d':Int×Int×Int) (cD:Int) (cd:List Int) (cE:Int) (cj:List Int) (cF:Int) (ck:List Int)=>ru r' d' cD cd cE cj cF ck) x_.1 x_.2.1 x_.2.2.1 x_.2.2.2.1 x_.2.2.2.2.1 x_.2.2.2.2.2.1 x_.2.2.2.2.2.2.1 x_.2.2.2.2.2.2.2) (.ite ((fun (r':RB) (d':Int×Int×Int) (cD:Int) (cd:List Int) (cE:Int) (cj:List Int) (cF:Int) (ck:List Int)=> !r'.bad&& !(bK r'.b d').1) x_.1 x_.2.1 x_.2.2.1 x_.2.2.2.1 x_.2.2.2.2.1 x_.2.2.2.2.2.1 x_.2.2.2.2.2.2.1 x_.2.2.2.2.2.2.2) (.leaf (vN ((fun (r':RB) (d':Int×Int×Int) (cD:Int) (cd:List Int) (cE:Int) (cj:List Int) (cF:Int) (ck:List Int)=>((df r' d').1,(df r' d').2,cD,cd,cE,cj,cF,ck)) x_.1 x_.2.1 x_.2.2.1 x_.2.2.2.1 x_.2.2.2.2.1 x_.2.2.2.2.2.1 x_.2.2.2.2.2.2.1 x_.2.2.2.2.2.2.2)).1 (vN ((fun (r':RB) (d':Int×Int×Int) (cD:Int) (cd:List Int) (cE:Int) (cj:List Int) (cF:Int) (ck:List Int)=>((df r' d').1,(df r' d').2,cD,cd,cE,cj,cF,ck)) x_.1 x_.2.1 x_.2.2.1 x_.2.2.2.1 x_.2.2.2.2.1 x_.2.2.2.2.2.1 x_.2.2.2.2.2.2.1 x_.2.2.2.2.2.2.2)).2) (.leaf (vO ((fun (r':RB) (d':Int×Int×Int) (cD:Int) (cd:List Int) (cE:Int) (cj:List Int) (cF:Int) (ck:List Int)=>((df r' d').1,(df r' d').2,cD,cd,cE,cj,cF,ck)) x_.1 x_.2.1 x_.2.2.1 x_.2.2.2.1 x_.2.2.2.2.1 x_.2.2.2.2.2.1 x_.2.2.2.2.2.2.1 x_.2.2.2.2.2.2.2)).1 (vO ((fun (r':RB) (d':Int×Int×Int) (cD:Int) (cd:List Int) (cE:Int) (cj:List Int) (cF:Int) (ck:List Int)=>((df r' d').1,(df r' d').2,cD,cd,cE,cj,cF,ck)) x_.1 x_.2.1 x_.2.2.1 x_.2.2.2.1 x_.2.2.2.2.1 x_.2.2.2.2.2.1 x_.2.2.2.2.2.2.1 x_.2.2.2.2.2.2.2)).2))
theorem Xf (r':RB) (d':Int×Int×Int) (cD:Int) (cd:List Int) (cE:Int) (cj:List Int) (cF:Int) (ck:List Int) (h_:ru r' d' cD cd cE cj cF ck):cJ (fun x_:vM=>nN x_.1 x_.2.1 x_.2.2.1 x_.2.2.2.1 x_.2.2.2.2.1 x_.2.2.2.2.2.1 x_.2.2.2.2.2.2.1 x_.2.2.2.2.2.2.2) (r',d',cD,cd,cE,cj,cF,ck) (bif !r'.bad&& !(bK r'.b d').1 then .inl (((df r' d').1,(df r' d').2,cD,cd,cE,cj,cF,ck)) else .inr (((df r' d').1,(df r' d').2,cD,cd,cE,cj,cF,ck))):=by
 obtain ⟨h1,h2,h3⟩:=h_
 obtain ⟨b,cs,bN,bad⟩:=r'
 unfold df
 cases bad with
 |true=>
  refine .stop ?_
  simp only[nN,bI,aN,ai,aj,da]
  simp
 |false=>
 simp only[Bool.not_false,Bool.true_and] at*
 simp only[Bool.false_eq_true,if_false]
 induction b generalizing d' with
 |nil=>
  refine .stop ?_
  simp only[nN,bK,List.length_nil]
  by_cases hd:0<d'.2.2
  ·have e:decide (d'.2.2≤0)=false:=by simp;omega
   simp[hd,e,aS,aj]
  ·have e:decide (d'.2.2≤0)=true:=by simp;omega
   simp[hd,e,a7,aj]
 |cons x r ih=>
  have hr:aC r:=fun z hz=>h2 z (by simp[hz])
  have hx:By x:=h2 x (by simp)
  rw[List.length_cons] at h3
  by_cases hn:0<d'.2.2
  ·have j9:=ih (fy d' x) (BI h1 hx) hr (by omega)
   rw[bK,if_pos hn]
   refine .go ?_ j9
   have e:(((r.length+1:Nat):Int)-1).toNat=r.length:=by omega
   have e0:(((r.length+1:Nat):Int)==0)=false:=by simp;omega
   have e1:decide (0<d'.2.2)=true:=by simpa using hn
   simp only[nN,ai,aj,List.length_cons,e1,e0,beq_self_eq_true,Bool.not_false,aS,a7]
   refine ⟨⟨by omega,by omega⟩,⟨h1,hx⟩,⟨by omega,by omega,by omega⟩,?_⟩
   rw[e]
   simp
  ·rw[bK,if_neg hn]
   refine .stop ?_
   have e1:decide (0<d'.2.2)=false:=by simpa using hn
   simp only[nN,e1,aj]
   simp[a7,aj]
theorem P5 (r:RB) (d:Dc) (b1:Int) (p1:List Int) (b2:Int) (p2:List Int) (b3:Int) (p3:List Int): ∀ x:vM,Ex Tryz.prog ((jb).wr (r,d,b1,p1,b2,p2,b3,p3,())) (.loop (aU Tryz.f69 0)) (rr.wr x) (Ag x):=
 bT mixed ((ao KR (ao vn aD))) (ws:=Ua) (aP.nil _) (E:=Sum.elim vN vO) (L:=fun x_=>nN x_.1 x_.2.1 x_.2.2.1 x_.2.2.2.1 x_.2.2.2.2.1 x_.2.2.2.2.2.1 x_.2.2.2.2.2.2.1 x_.2.2.2.2.2.2.2) (pre:=fun x_=>(fun (r':RB) (d':Int×Int×Int) (cD:Int) (cd:List Int) (cE:Int) (cj:List Int) (cF:Int) (ck:List Int)=>ru r' d' cD cd cE cj cF ck) x_.1 x_.2.1 x_.2.2.1 x_.2.2.2.1 x_.2.2.2.2.1 x_.2.2.2.2.2.1 x_.2.2.2.2.2.2.1 x_.2.2.2.2.2.2.2) (sp:=fun x_=>bif (fun (r':RB) (d':Int×Int×Int) (cD:Int) (cd:List Int) (cE:Int) (cj:List Int) (cF:Int) (ck:List Int)=> !r'.bad&& !(bK r'.b d').1) x_.1 x_.2.1 x_.2.2.1 x_.2.2.2.1 x_.2.2.2.2.1 x_.2.2.2.2.2.1 x_.2.2.2.2.2.2.1 x_.2.2.2.2.2.2.2 then .inl ((fun (r':RB) (d':Int×Int×Int) (cD:Int) (cd:List Int) (cE:Int) (cj:List Int) (cF:Int) (ck:List Int)=>((df r' d').1,(df r' d').2,cD,cd,cE,cj,cF,ck)) x_.1 x_.2.1 x_.2.2.1 x_.2.2.2.1 x_.2.2.2.2.1 x_.2.2.2.2.2.1 x_.2.2.2.2.2.2.1 x_.2.2.2.2.2.2.2) else .inr ((fun (r':RB) (d':Int×Int×Int) (cD:Int) (cd:List Int) (cE:Int) (cj:List Int) (cF:Int) (ck:List Int)=>((df r' d').1,(df r' d').2,cD,cd,cE,cj,cF,ck)) x_.1 x_.2.1 x_.2.2.1 x_.2.2.2.1 x_.2.2.2.2.1 x_.2.2.2.2.2.1 x_.2.2.2.2.2.2.1 x_.2.2.2.2.2.2.2)) (fun x_=>Lb r d b1 p1 b2 p2 b3 p3 x_.1 x_.2.1 x_.2.2.1 x_.2.2.2.1 x_.2.2.2.2.1 x_.2.2.2.2.2.1 x_.2.2.2.2.2.2.1 x_.2.2.2.2.2.2.2) (fun z=>by cases z<;>(intro e;cases e)) sy (fun x_ h=>Xf x_.1 x_.2.1 x_.2.2.1 x_.2.2.2.1 x_.2.2.2.2.1 x_.2.2.2.2.2.1 x_.2.2.2.2.2.2.1 x_.2.2.2.2.2.2.2 h)
noncomputable def Hz (r:RB) (d:Int×Int×Int):Int×Int×Int:=(df r d).snd
abbrev P6:Type:=RB×(Int×Int×Int)
noncomputable abbrev P7 (x:P6):LV:=LV.cV []
noncomputable abbrev P8 (x:P6):List (Nat×Ev.Item):= [(0,Hy.wr x.1),(1,jJ.wr x.2)]
noncomputable def BU (r:RB) (d:Int×Int×Int) (b1:Int) (p1:List Int) (b2:Int) (p2:List Int) (b3:Int) (p3:List Int):Tr (P6)
 :=(.need (ru r d b1 p1 b2 p2 b3 p3) (.ite (!r.bad&& !(bK r.b d).fst) (.ret ((df r d).fst,(df r d).snd)) (.ite ((df r d).fst.bad
 ==false) (.need (mP (Hz r d)) (.ret ({b:=(df r d).fst.b,cs:=(df r d).fst.cs,bN:=(df r d).fst.bN,bad:=fX (Hz r d)},
 (df r d).snd))) (.ret ({b:=(df r d).fst.b,cs:=(df r d).fst.cs,bN:=(df r d).fst.bN,bad:=true},(df r d).snd)))))
theorem P9 (r:RB) (d:Dc) (b1:Int) (p1:List Int) (b2:Int) (p2:List Int) (b3:Int) (p3:List Int):aY Tryz.prog [(105,Py),(106,BB)] [(0,aX rr ((jb).wr (r,d,b1,p1,b2,p2,b3,p3,())) Af (Ag))] Tryz.f69 ((dE).wr (())) ((jb).wr (r,d,b1,p1,b2,p2,b3,p3,())) [.fr [.sym],.syms,.auto,.ax]=(BU r d b1 p1 b2 p2 b3 p3).end P7 P8 ((jb).wr (r,d,b1,p1,b2,p2,b3,p3,())):=by kernel_rfl
theorem Xg (r:RB) (d:Dc) (b1:Int) (p1:List Int) (b2:Int) (p2:List Int) (b3:Int) (p3:List Int):aP Tryz.prog ((jb).wr (r,d,b1,p1,b2,p2,b3,p3,())) [(0,aX rr ((jb).wr (r,d,b1,p1,b2,p2,b3,p3,())) Af (Ag))] (aH Tryz.f69):=(aP.cy (jr (by kernel_rfl) (bz (hp:=(jb).wr (r,d,b1,p1,b2,p2,b3,p3,())) (P5 r d b1 p1 b2 p2 b3 p3)) jH))
def bb (r:RB) (d:Dc):RB×Dc:=if r.bad=true then (r,d) else (⟨(bK r.b d).2.1,r.cs,r.bN,!(bK r.b d).1||fX (bK r.b d).2.2⟩,(bK r.b d).2.2)
theorem adr {r:RB} {d:Dc} (h1:kx d) (h2:aC r.b) (h3:r.b.length<1099511627776):kx (df r d).2∧aC (df r d).1.b∧(df r d).1.b.length≤r.b.length:=by
 unfold df
 split
 ·exact ⟨h1,h2,Nat.le_refl _⟩
 ·obtain ⟨k1,k2,k3,_⟩:=vF r.b d h1 h2
  exact ⟨k1,k2,k3⟩
abbrev ga (r:RB) (d:Dc) (b1:Int) (p1:List Int) (b2:Int) (p2:List Int) (b3:Int) (p3:List Int):Prop:=kx d∧aC r.b∧r.b.length<1099511627776
noncomputable def kB:au:=au.bV [] (dE) (jb) fun x_ y_=> .leaf (some ((fun (r:RB) (d:Dc) (b1:Int) (p1:List Int) (b2:Int) (p2:List Int) (b3:Int) (p3:List Int)=>ga r d b1 p1 b2 p2 b3 p3) y_.1 y_.2.1 y_.2.2.1 y_.2.2.2.1 y_.2.2.2.2.1 y_.2.2.2.2.2.1 y_.2.2.2.2.2.2.1 y_.2.2.2.2.2.2.2.1)) (P7 ((fun (r:RB) (d:Dc) (b1:Int) (p1:List Int) (b2:Int) (p2:List Int) (b3:Int) (p3:List Int)=>bb r d) y_.1 y_.2.1 y_.2.2.1 y_.2.2.2.1 y_.2.2.2.2.1 y_.2.2.2.2.2.1 y_.2.2.2.2.2.2.1 y_.2.2.2.2.2.2.2.1)) (P8 ((fun (r:RB) (d:Dc) (b1:Int) (p1:List Int) (b2:Int) (p2:List Int) (b3:Int) (p3:List Int)=>bb r d) y_.1 y_.2.1 y_.2.2.1 y_.2.2.2.1 y_.2.2.2.2.1 y_.2.2.2.2.2.1 y_.2.2.2.2.2.2.1 y_.2.2.2.2.2.2.2.1))
theorem ads (r:RB) (d:Dc) (b1:Int) (p1:List Int) (b2:Int) (p2:List Int) (b3:Int) (p3:List Int) (h_:ga r d b1 p1 b2 p2 b3 p3):(BU r d b1 p1 b2 p2 b3 p3).Is (bb r d):=by
 obtain ⟨h1,h2,h3⟩:=h_
 obtain ⟨k1,k2,k3⟩:=adr h1 h2 h3
 have ea:Hz r d=(df r d).2:=rfl
 obtain ⟨b,cs,bN,bad⟩:=r
 cases bad with
 |true=>
  simp only[BU,ai,bI,aj,bb,df,ea]
  simp
  exact ⟨h1,h2,h3⟩
 |false=>
  simp only[BU,ai,bI,aj,bb,df,ea]
  cases (bK b d).1<;>simp<;>exact ⟨h1,h2,h3⟩
theorem gF:kB.Ok Tryz.prog 69:=
 bM (tys:= []) (A:=dE) (H:=jb) (LT:=fun x_ y_=>(fun (r:RB) (d:Dc) (b1:Int) (p1:List Int) (b2:Int) (p2:List Int) (b3:Int) (p3:List Int)=> [(0,aX rr ((jb).wr (r,d,b1,p1,b2,p2,b3,p3,())) Af (Ag))]) y_.1 y_.2.1 y_.2.2.1 y_.2.2.2.1 y_.2.2.2.2.1 y_.2.2.2.2.2.1 y_.2.2.2.2.2.2.1 y_.2.2.2.2.2.2.2.1) (ks:= [.fr [.sym],.syms,.auto,.ax]) (V:=P7) (D:=P8) (T:=fun x_ y_=>BU y_.1 y_.2.1 y_.2.2.1 y_.2.2.2.1 y_.2.2.2.2.1 y_.2.2.2.2.2.1 y_.2.2.2.2.2.2.1 y_.2.2.2.2.2.2.2.1) (pre:=fun x_ y_=>(fun (r:RB) (d:Dc) (b1:Int) (p1:List Int) (b2:Int) (p2:List Int) (b3:Int) (p3:List Int)=>ga r d b1 p1 b2 p2 b3 p3) y_.1 y_.2.1 y_.2.2.1 y_.2.2.2.1 y_.2.2.2.2.1 y_.2.2.2.2.2.1 y_.2.2.2.2.2.2.1 y_.2.2.2.2.2.2.2.1) (sp:=fun x_ y_=>(fun (r:RB) (d:Dc) (b1:Int) (p1:List Int) (b2:Int) (p2:List Int) (b3:Int) (p3:List Int)=>bb r d) y_.1 y_.2.1 y_.2.2.1 y_.2.2.2.1 y_.2.2.2.2.1 y_.2.2.2.2.2.1 y_.2.2.2.2.2.2.1 y_.2.2.2.2.2.2.2.1) mixed ((ao KR (ao vn aD))) Tryz.func69 (by kernel_rfl) Tryz.call69 (fun x_ y_=>Xg y_.1 y_.2.1 y_.2.2.1 y_.2.2.2.1 y_.2.2.2.2.1 y_.2.2.2.2.2.1 y_.2.2.2.2.2.2.1 y_.2.2.2.2.2.2.2.1) (fun x_ y_=>P9 y_.1 y_.2.1 y_.2.2.1 y_.2.2.2.1 y_.2.2.2.2.1 y_.2.2.2.2.2.1 y_.2.2.2.2.2.2.1 y_.2.2.2.2.2.2.2.1) (fun x_ y_ h=>ads y_.1 y_.2.1 y_.2.2.1 y_.2.2.2.1 y_.2.2.2.2.1 y_.2.2.2.2.2.1 y_.2.2.2.2.2.2.1 y_.2.2.2.2.2.2.2.1 h)
theorem jx {r:RB} {d:Dc} (h1:kx d) (h2:aC r.b) (h3:r.b.length<1099511627776):kx (bb r d).2∧aC (bb r d).1.b∧(bb r d).1.b.length≤r.b.length:=by
 unfold bb
 split
 ·exact ⟨h1,h2,Nat.le_refl _⟩
 ·obtain ⟨k1,k2,k3,_⟩:=vF r.b d h1 h2
  exact ⟨k1,k2,k3⟩
def aA:Nat→Int→RB→Dc→List Int→Int×RB×Dc×List Int
 |0,node,r,d,p=>(node,r,d,p)
 |k+1,node,r,d,p=>
  let x:=aQ (dz p node) d
  aA k (2*node+x.1) (bb r x.2.2).1 (bb r x.2.2).2 (bZ p node x.1)
theorem pM: ∀ (k:Nat) (node:Int) (r:RB) (d:Dc) (p:List Int),kx d→aC r.b→r.b.length<1099511627776→1≤node→
  kx (aA k node r d p).2.2.1∧aC (aA k node r d p).2.1.b∧(aA k node r d p).2.1.b.length≤r.b.length∧(aA k node r d p).2.2.2.length=p.length∧
  2 ^ k*node≤(aA k node r d p).1∧(aA k node r d p).1<2 ^ k*(node+1)
 |0,node,r,d,p,h1,h2,h3,h4=>⟨h1,h2,Nat.le_refl _,rfl,by simp[aA],by simp[aA];omega⟩
 |k+1,node,r,d,p,h1,h2,h3,h4=>by
  obtain ⟨m1,m2,m3⟩:=jx (r:=r) (eC h1 (dz p node)) h2 h3
  obtain ⟨b1,b2⟩:=gK (dz p node) d
  obtain ⟨k1,k2,k3,k4,k5,k6⟩:=pM k (2*node+(aQ (dz p node) d).1) (bb r (aQ (dz p node) d).2.2).1 (bb r (aQ (dz p node) d).2.2).2 (bZ p node (aQ (dz p node) d).1) m1 m2 (by omega) (by omega)
  rw[aA]
  refine ⟨k1,k2,by omega,by rw[k4,mC],Int.le_trans ?_ k5,Int.lt_of_lt_of_le k6 ?_⟩
  ·rw[Int.pow_succ,Int.mul_assoc]
   exact Int.mul_le_mul_of_nonneg_left (by omega) (Int.le_of_lt (Int.pow_pos (by decide)))
  ·rw[Int.pow_succ,Int.mul_assoc]
   exact Int.mul_le_mul_of_nonneg_left (by omega) (Int.le_of_lt (Int.pow_pos (by decide)))
abbrev BV:Type:=Int×Int×RB×(Int×Int×Int)×Int×(List Int)×Int×(List Int)×Int×(List Int)
noncomputable abbrev xW:a9 St BV:=(bH (ak (ah (aJ (0) (0))) (ak (ah (aJ (2) (0))) (jk 3 (ae (ah (ay IntKind.i64))
 (ae (ah (ay IntKind.i64)) (jk 42 ag)))))) (ae (bG Hy) (ae (bG jJ) (ae (dN (168) ((ae (ay IntKind.i64) (ak (jY (3)
 (1)) ag)))) (ae (cg (1) (Ty.int IntKind.i64)) (ae (dN (168) ((ae (ay IntKind.i64) (ak (jY (5) (1)) ag)))) (ae (cg (1)
 (Ty.int IntKind.i64)) (ae (dN (168) ((ae (ay IntKind.i64) (ak (jY (7) (1)) ag)))) (ae (cg (1) (Ty.int IntKind.i64))
 ag))))))))).jQ (fun y=>(y.1.1,y.1.2.1,y.2.1,y.2.2.1,y.2.2.2.1.1,y.2.2.2.2.1,y.2.2.2.2.2.1.1,y.2.2.2.2.2.2.1,y.2.2.2.2.2.2.2.1.1,
 y.2.2.2.2.2.2.2.2.1)) (fun x=>((x.1,(x.2.1,())),(x.2.2.1,(x.2.2.2.1,((x.2.2.2.2.1,()),(x.2.2.2.2.2.1,((x.2.2.2.2.2.2.1,()),
 (x.2.2.2.2.2.2.2.1,((x.2.2.2.2.2.2.2.2.1,()),(x.2.2.2.2.2.2.2.2.2,())))))))))) (fun _=>rfl)
abbrev HA:List Wk:= [.one 3,.one 5,.one 7,.fr (cK 49 [(0,.an),(1,.an),(5,.an),(6,.an)]),.syms,.auto,.ax]
abbrev adt:Exit→List Wk:=qI HA 0 [.one 3,.one 5,.one 7,.fr (cK 49 [(1,.an),(5,.an)]),.syms,.auto,.ax] [.one 3,.one 5,
 .one 7,.fr (cK 49 [(4,.an)]),.syms,.auto,.ax]
noncomputable def Ah (node:Int) (d':Int×Int×Int) (cd:List Int):List Int:=bZ cd node (aQ (cd.getD node.toNat 0) d').fst
noncomputable def vP (node:Int) (d':Int×Int×Int) (cd:List Int):Int×Int×Int:=(aQ (cd.getD node.toNat 0) d').snd.snd
abbrev adu:Type:=Int×RB×(Int×Int×Int)×Int×(List Int)×Int×(List Int)×Int×(List Int)
noncomputable abbrev HB (x:adu):Exit×St:=(Exit.exit 0,⟨(eE 1 (LV.one (VV.sc (SV.ptr 2 0))::(eE 3 (LV.one (VV.sc (SV.int IntKind.i64
 (SI.sym x.1)))::(eE 43 []))))),[some (Hy.wr x.2.1),some (jJ.wr x.2.2.1),some (Item.a8 [SV.int IntKind.i64 (SI.sym x.2.2.2.1),SV.sl 3 1]
 168),some (Item.own 1 (Ty.int IntKind.i64) x.2.2.2.2.1),some (Item.a8 [SV.int IntKind.i64 (SI.sym x.2.2.2.2.2.1),SV.sl 5 1] 168),some (Item.own 1
 (Ty.int IntKind.i64) x.2.2.2.2.2.2.1),some (Item.a8 [SV.int IntKind.i64 (SI.sym x.2.2.2.2.2.2.2.1),SV.sl 7 1] 168),some (Item.own 1 (Ty.int
 IntKind.i64) x.2.2.2.2.2.2.2.2)]⟩)
noncomputable def BW (node:Int) (i:Int) (r':RB) (d':Int×Int×Int) (cD:Int) (cd:List Int) (cE:Int) (cj:List Int) (cF:Int)
 (ck:List Int):Tr (BV⊕(adu)):=(.ite (decide (i<cD)) (.need (0≤node∧node<(↑cd.length:Int)) (.need (nJ (cd.getD
 node.toNat 0) d') (.need (ga r' (vP node d' cd) cD (Ah node d' cd) cE cj cF ck) (.ret (.inl (IntKind.i64.wrap (IntKind.i64.wrap
 (2*node)+(aQ (cd.getD node.toNat 0) d').fst),IntKind.i64.wrap (i+1),(bb r' (vP node d' cd)).fst,(bb r' (vP node d'
 cd)).snd,cD,Ah node d' cd,cE,cj,cF,ck)))))) (.ret (.inr (node,r',d',cD,cd,cE,cj,cF,ck))))
theorem Qa (r:RB) (d:Dc) (b1:Int) (p1:List Int) (b2:Int) (p2:List Int) (b3:Int) (p3:List Int) (node:Int) (i:Int) (r':RB) (d':Int×Int×Int) (cD:Int) (cd:List Int) (cE:Int) (cj:List Int) (cF:Int) (ck:List Int):c8 Tryz.prog [(107,vo),(143,jZ),(69,kB)] [] Tryz.f108 0 ((jb).wr (r,d,b1,p1,b2,p2,b3,p3,())) adt (xW.wr (node,i,r',d',cD,cd,cE,cj,cF,ck))=(BW node i r' d' cD cd cE cj cF ck).res xW.wr HB:=by kernel_rfl
abbrev vQ (node:Int) (i:Int) (r':RB) (d':Int×Int×Int) (cD:Int) (cd:List Int) (cE:Int) (cj:List Int) (cF:Int) (ck:List Int):Prop:=kx d'∧aC r'.b∧r'.b.length<1099511627776∧cd.length=2 ^ cD.toNat∧cD≤8∧0≤i∧i≤cD∧1≤node∧node<2 ^ (i.toNat+1)
noncomputable abbrev HC (x_:BV):a6:= .need ((fun (node:Int) (i:Int) (r':RB) (d':Int×Int×Int) (cD:Int) (cd:List Int) (cE:Int) (cj:List Int) (cF:Int) (ck:List Int)=>vQ node i r' d' cD cd cE cj cF ck) x_.1 x_.2.1 x_.2.2.1 x_.2.2.2.1 x_.2.2.2.2.1 x_.2.2.2.2.2.1 x_.2.2.2.2.2.2.1 x_.2.2.2.2.2.2.2.1 x_.2.2.2.2.2.2.2.2.1 x_.2.2.2.2.2.2.2.2.2) (.leaf (HB ((fun (node:Int) (i:Int) (r':RB) (d':Int×Int×Int) (cD:Int) (cd:List Int) (cE:Int) (cj:List Int) (cF:Int) (ck:List Int)=>((aA (cD-i).toNat node r' d' cd).1,(aA (cD-i).toNat node r' d' cd).2.1,(aA (cD-i).toNat node r' d' cd).2.2.1,cD,(aA (cD-i).toNat node r' d' cd).2.2.2,cE,cj,cF,ck)) x_.1 x_.2.1 x_.2.2.1 x_.2.2.2.1 x_.2.2.2.2.1 x_.2.2.2.2.2.1 x_.2.2.2.2.2.2.1 x_.2.2.2.2.2.2.2.1 x_.2.2.2.2.2.2.2.2.1 x_.2.2.2.2.2.2.2.2.2)).1 (HB ((fun (node:Int) (i:Int) (r':RB) (d':Int×Int×Int) (cD:Int) (cd:List Int) (cE:Int) (cj:List Int) (cF:Int) (ck:List Int)=>((aA (cD-i).toNat node r' d' cd).1,(aA (cD-i).toNat node r' d' cd).2.1,(aA (cD-i).toNat node r' d' cd).2.2.1,cD,(aA (cD-i).toNat node r' d' cd).2.2.2,cE,cj,cF,ck)) x_.1 x_.2.1 x_.2.2.1 x_.2.2.2.1 x_.2.2.2.2.1 x_.2.2.2.2.2.1 x_.2.2.2.2.2.2.1 x_.2.2.2.2.2.2.2.1 x_.2.2.2.2.2.2.2.2.1 x_.2.2.2.2.2.2.2.2.2)).2)
theorem adv (node:Int) (i:Int) (r':RB) (d':Int×Int×Int) (cD:Int) (cd:List Int) (cE:Int) (cj:List Int) (cF:Int) (ck:List Int) (h_:vQ node i r' d' cD cd cE cj cF ck):cJ (fun x_:BV=>BW x_.1 x_.2.1 x_.2.2.1 x_.2.2.2.1 x_.2.2.2.2.1 x_.2.2.2.2.2.1 x_.2.2.2.2.2.2.1 x_.2.2.2.2.2.2.2.1 x_.2.2.2.2.2.2.2.2.1 x_.2.2.2.2.2.2.2.2.2) (node,i,r',d',cD,cd,cE,cj,cF,ck) (((aA (cD-i).toNat node r' d' cd).1,(aA (cD-i).toNat node r' d' cd).2.1,(aA (cD-i).toNat node r' d' cd).2.2.1,cD,(aA (cD-i).toNat node r' d' cd).2.2.2,cE,cj,cF,ck)):=by
 obtain ⟨h1,h2,h3,h4,h5,h6,h7,h8,h9⟩:=h_
 obtain ⟨k,hk⟩: ∃ k:Nat,(cD-i).toNat=k:=⟨_,rfl⟩
 rw[hk]
 induction k generalizing node i r' d' cd with
 |zero=>
  refine .stop ?_
  simp only[BW,aN,ai,aj]
  exact ⟨fun h=>by omega,fun _=>rfl⟩
 |succ k ih=>
  have hp:(2:Int) ^ (i.toNat+1)≤2 ^ cD.toNat:=eZ (by omega)
  have hp8:(2:Int) ^ cD.toNat≤2 ^ 8:=eZ (by omega)
  have hp9:(2:Int) ^ 8=256:=by decide
  have e:((2 ^ cD.toNat:Nat):Int)=2 ^ cD.toNat:=by exact_mod_cast rfl
  have hlen:node<(cd.length:Int):=by rw[h4];omega
  have Wi:cd.getD node.toNat 0=dz cd node:=by unfold dz nw;rw[if_pos (decide_eq_true ⟨h8,hlen⟩)]
  obtain ⟨m1,m2,m3⟩:=jx (r:=r') (eC h1 (dz cd node)) h2 h3
  obtain ⟨b1,b2⟩:=gK (dz cd node) d'
  have Ts:(2:Int) ^ ((i+1).toNat+1)=2*2 ^ (i.toNat+1):=by
   rw[show (i+1).toNat+1=(i.toNat+1)+1 from by omega,Int.pow_succ,Int.mul_comm]
  have j9:=ih (2*node+(aQ (dz cd node) d').1) (i+1) (bb r' (aQ (dz cd node) d').2.2).1 (bb r' (aQ (dz cd node) d').2.2).2 (bZ cd node (aQ (dz cd node) d').1) m1 m2 (by omega) (by rw[mC];exact h4) (by omega) (by omega) (by omega) (by rw[Ts];omega) (by omega)
  rw[aA]
  refine .go ?_ j9
  have ea:vP node d' cd=(aQ (dz cd node) d').2.2:=by unfold vP;rw[Wi]
  have sC:Ah node d' cd=bZ cd node (aQ (dz cd node) d').1:=by unfold Ah;rw[Wi]
  simp only[BW,aN,ai,aj,ea,sC,Wi]
  refine ⟨fun _=>⟨⟨by omega,hlen⟩,h1,⟨eC h1 _,h2,h3⟩,?_⟩,fun h=>by omega⟩
  rw[aq (n:=2*node) (by omega) (by omega),aq (n:=2*node+_) (by omega) (by omega),aq (n:=i+1) (by omega) (by omega)]
theorem Xh (r:RB) (d:Dc) (b1:Int) (p1:List Int) (b2:Int) (p2:List Int) (b3:Int) (p3:List Int): ∀ x:BV,Ex Tryz.prog ((jb).wr (r,d,b1,p1,b2,p2,b3,p3,())) (.loop (aU Tryz.f108 0)) (xW.wr x) (HC x):=
 bT mixed ((ao lu (ao gV (ao gF aD)))) (ws:=adt) (aP.nil _) (E:=HB) (L:=fun x_=>BW x_.1 x_.2.1 x_.2.2.1 x_.2.2.2.1 x_.2.2.2.2.1 x_.2.2.2.2.2.1 x_.2.2.2.2.2.2.1 x_.2.2.2.2.2.2.2.1 x_.2.2.2.2.2.2.2.2.1 x_.2.2.2.2.2.2.2.2.2) (pre:=fun x_=>(fun (node:Int) (i:Int) (r':RB) (d':Int×Int×Int) (cD:Int) (cd:List Int) (cE:Int) (cj:List Int) (cF:Int) (ck:List Int)=>vQ node i r' d' cD cd cE cj cF ck) x_.1 x_.2.1 x_.2.2.1 x_.2.2.2.1 x_.2.2.2.2.1 x_.2.2.2.2.2.1 x_.2.2.2.2.2.2.1 x_.2.2.2.2.2.2.2.1 x_.2.2.2.2.2.2.2.2.1 x_.2.2.2.2.2.2.2.2.2) (sp:=fun x_=>(fun (node:Int) (i:Int) (r':RB) (d':Int×Int×Int) (cD:Int) (cd:List Int) (cE:Int) (cj:List Int) (cF:Int) (ck:List Int)=>((aA (cD-i).toNat node r' d' cd).1,(aA (cD-i).toNat node r' d' cd).2.1,(aA (cD-i).toNat node r' d' cd).2.2.1,cD,(aA (cD-i).toNat node r' d' cd).2.2.2,cE,cj,cF,ck)) x_.1 x_.2.1 x_.2.2.1 x_.2.2.2.1 x_.2.2.2.2.1 x_.2.2.2.2.2.1 x_.2.2.2.2.2.2.1 x_.2.2.2.2.2.2.2.1 x_.2.2.2.2.2.2.2.2.1 x_.2.2.2.2.2.2.2.2.2) (fun x_=>Qa r d b1 p1 b2 p2 b3 p3 x_.1 x_.2.1 x_.2.2.1 x_.2.2.2.1 x_.2.2.2.2.1 x_.2.2.2.2.2.1 x_.2.2.2.2.2.2.1 x_.2.2.2.2.2.2.2.1 x_.2.2.2.2.2.2.2.2.1 x_.2.2.2.2.2.2.2.2.2) (fun z e=>by cases e) dc (fun x_ h=>adv x_.1 x_.2.1 x_.2.2.1 x_.2.2.2.1 x_.2.2.2.2.1 x_.2.2.2.2.2.1 x_.2.2.2.2.2.2.1 x_.2.2.2.2.2.2.2.1 x_.2.2.2.2.2.2.2.2.1 x_.2.2.2.2.2.2.2.2.2 h)
noncomputable def sE (r:RB) (d:Int×Int×Int) (b1:Int) (p1:List Int):Int×RB×(Int×Int×Int)×List Int:=aA (Int.toNat (b1-
 0)) 1 r d p1
abbrev adw:Type:=Int×RB×(Int×Int×Int)×Int×(List Int)×Int×(List Int)×Int×(List Int)
noncomputable abbrev adx (x:adw):LV:=LV.one (VV.sc (SV.int IntKind.i64 (SI.sym x.1)))
noncomputable abbrev ady (x:adw):List (Nat×Ev.Item):= [(0,Hy.wr x.2.1),(1,jJ.wr x.2.2.1),(2,Item.a8 [SV.int IntKind.i64 (SI.sym
 x.2.2.2.1),SV.sl 3 1] 168),(3,Item.own 1 (Ty.int IntKind.i64) x.2.2.2.2.1),(4,Item.a8 [SV.int IntKind.i64 (SI.sym x.2.2.2.2.2.1),SV.sl 5 1]
 168),(5,Item.own 1 (Ty.int IntKind.i64) x.2.2.2.2.2.2.1),(6,Item.a8 [SV.int IntKind.i64 (SI.sym x.2.2.2.2.2.2.2.1),SV.sl 7 1] 168),(7,Item.own
 1 (Ty.int IntKind.i64) x.2.2.2.2.2.2.2.2)]
noncomputable def Ub (r:RB) (d:Int×Int×Int) (b1:Int) (p1:List Int) (b2:Int) (p2:List Int) (b3:Int) (p3:List Int):Tr (adw):=
 (.need (vQ 1 0 r d b1 p1 b2 p2 b3 p3) (.ret (IntKind.i64.wrap ((sE r d b1 p1).fst-(↑(sE r d b1 p1).snd.snd.snd.length:Int)),(sE
 r d b1 p1).snd.fst,(sE r d b1 p1).snd.snd.fst,b1,(sE r d b1 p1).snd.snd.snd,b2,p2,b3,p3)))
theorem Xi (r:RB) (d:Dc) (b1:Int) (p1:List Int) (b2:Int) (p2:List Int) (b3:Int) (p3:List Int):aY Tryz.prog [(107,vo),(143,jZ),(69,kB)] [(0,aX xW ((jb).wr (r,d,b1,p1,b2,p2,b3,p3,())) HA (HC))] Tryz.f108 (((ak (ah (aJ 0 0)) (ak (ah (aJ 2 0)) ag))).wr (())) ((jb).wr (r,d,b1,p1,b2,p2,b3,p3,())) [.one 3,.one 5,.one 7,.fr [.sym],.syms,.auto,.ax]=(Ub r d b1 p1 b2 p2 b3 p3).end adx ady ((jb).wr (r,d,b1,p1,b2,p2,b3,p3,())):=by kernel_rfl
theorem adz (r:RB) (d:Dc) (b1:Int) (p1:List Int) (b2:Int) (p2:List Int) (b3:Int) (p3:List Int):aP Tryz.prog ((jb).wr (r,d,b1,p1,b2,p2,b3,p3,())) [(0,aX xW ((jb).wr (r,d,b1,p1,b2,p2,b3,p3,())) HA (HC))] (aH Tryz.f108):=(aP.cy (jr (by kernel_rfl) (bz (hp:=(jb).wr (r,d,b1,p1,b2,p2,b3,p3,())) (Xh r d b1 p1 b2 p2 b3 p3)) jH))
abbrev vR (r:RB) (d:Dc) (b1:Int) (p1:List Int) (b2:Int) (p2:List Int) (b3:Int) (p3:List Int):Prop:=kx d∧aC r.b∧r.b.length<1099511627776∧p1.length=2 ^ b1.toNat∧0≤b1∧b1≤8
noncomputable def al9:au:=au.bV [] ((ak (ah (aJ 0 0)) (ak (ah (aJ 2 0)) ag))) (jb) fun x_ y_=> .leaf (some ((fun (r:RB) (d:Dc) (b1:Int) (p1:List Int) (b2:Int) (p2:List Int) (b3:Int) (p3:List Int)=>vR r d b1 p1 b2 p2 b3 p3) y_.1 y_.2.1 y_.2.2.1 y_.2.2.2.1 y_.2.2.2.2.1 y_.2.2.2.2.2.1 y_.2.2.2.2.2.2.1 y_.2.2.2.2.2.2.2.1)) (adx ((fun (r:RB) (d:Dc) (b1:Int) (p1:List Int) (b2:Int) (p2:List Int) (b3:Int) (p3:List Int)=>((aA b1.toNat 1 r d p1).1-2 ^ b1.toNat,(aA b1.toNat 1 r d p1).2.1,(aA b1.toNat 1 r d p1).2.2.1,b1,(aA b1.toNat 1 r d p1).2.2.2,b2,p2,b3,p3)) y_.1 y_.2.1 y_.2.2.1 y_.2.2.2.1 y_.2.2.2.2.1 y_.2.2.2.2.2.1 y_.2.2.2.2.2.2.1 y_.2.2.2.2.2.2.2.1)) (ady ((fun (r:RB) (d:Dc) (b1:Int) (p1:List Int) (b2:Int) (p2:List Int) (b3:Int) (p3:List Int)=>((aA b1.toNat 1 r d p1).1-2 ^ b1.toNat,(aA b1.toNat 1 r d p1).2.1,(aA b1.toNat 1 r d p1).2.2.1,b1,(aA b1.toNat 1 r d p1).2.2.2,b2,p2,b3,p3)) y_.1 y_.2.1 y_.2.2.1 y_.2.2.2.1 y_.2.2.2.2.1 y_.2.2.2.2.2.1 y_.2.2.2.2.2.2.1 y_.2.2.2.2.2.2.2.1))
theorem aiS (r:RB) (d:Dc) (b1:Int) (p1:List Int) (b2:Int) (p2:List Int) (b3:Int) (p3:List Int) (h_:vR r d b1 p1 b2 p2 b3 p3):(Ub r d b1 p1 b2 p2 b3 p3).Is (((aA b1.toNat 1 r d p1).1-2 ^ b1.toNat,(aA b1.toNat 1 r d p1).2.1,(aA b1.toNat 1 r d p1).2.2.1,b1,(aA b1.toNat 1 r d p1).2.2.2,b2,p2,b3,p3)):=by
 obtain ⟨h1,h2,h3,h4,h5,h6⟩:=h_
 have ea:sE r d b1 p1=aA b1.toNat 1 r d p1:=by unfold sE;rw[Int.sub_zero]
 obtain ⟨k1,k2,k3,k4,k5,k6⟩:=pM b1.toNat 1 r d p1 h1 h2 h3 (by omega)
 have hp:(2:Int) ^ b1.toNat≤2 ^ 8:=eZ (by omega)
 have hp9:(2:Int) ^ 8=256:=by decide
 have e:((2 ^ b1.toNat:Nat):Int)=2 ^ b1.toNat:=by exact_mod_cast rfl
 simp only[Ub,ai,aj,ea,k4,h4,e]
 refine ⟨⟨h1,h2,h3,h4,h6,by omega,h5,by omega,by decide⟩,?_⟩
 rw[aq (by omega) (by omega)]
theorem aiT:al9.Ok Tryz.prog 108:=
 bM (tys:= []) (A:=(ak (ah (aJ 0 0)) (ak (ah (aJ 2 0)) ag))) (H:=jb) (LT:=fun x_ y_=>(fun (r:RB) (d:Dc) (b1:Int) (p1:List Int) (b2:Int) (p2:List Int) (b3:Int) (p3:List Int)=> [(0,aX xW ((jb).wr (r,d,b1,p1,b2,p2,b3,p3,())) HA (HC))]) y_.1 y_.2.1 y_.2.2.1 y_.2.2.2.1 y_.2.2.2.2.1 y_.2.2.2.2.2.1 y_.2.2.2.2.2.2.1 y_.2.2.2.2.2.2.2.1) (ks:= [.one 3,.one 5,.one 7,.fr [.sym],.syms,.auto,.ax]) (V:=adx) (D:=ady) (T:=fun x_ y_=>Ub y_.1 y_.2.1 y_.2.2.1 y_.2.2.2.1 y_.2.2.2.2.1 y_.2.2.2.2.2.1 y_.2.2.2.2.2.2.1 y_.2.2.2.2.2.2.2.1) (pre:=fun x_ y_=>(fun (r:RB) (d:Dc) (b1:Int) (p1:List Int) (b2:Int) (p2:List Int) (b3:Int) (p3:List Int)=>vR r d b1 p1 b2 p2 b3 p3) y_.1 y_.2.1 y_.2.2.1 y_.2.2.2.1 y_.2.2.2.2.1 y_.2.2.2.2.2.1 y_.2.2.2.2.2.2.1 y_.2.2.2.2.2.2.2.1) (sp:=fun x_ y_=>(fun (r:RB) (d:Dc) (b1:Int) (p1:List Int) (b2:Int) (p2:List Int) (b3:Int) (p3:List Int)=>((aA b1.toNat 1 r d p1).1-2 ^ b1.toNat,(aA b1.toNat 1 r d p1).2.1,(aA b1.toNat 1 r d p1).2.2.1,b1,(aA b1.toNat 1 r d p1).2.2.2,b2,p2,b3,p3)) y_.1 y_.2.1 y_.2.2.1 y_.2.2.2.1 y_.2.2.2.2.1 y_.2.2.2.2.2.1 y_.2.2.2.2.2.2.1 y_.2.2.2.2.2.2.2.1) mixed ((ao lu (ao gV (ao gF aD)))) Tryz.func108 (by kernel_rfl) Tryz.call108 (fun x_ y_=>adz y_.1 y_.2.1 y_.2.2.1 y_.2.2.2.1 y_.2.2.2.2.1 y_.2.2.2.2.2.1 y_.2.2.2.2.2.2.1 y_.2.2.2.2.2.2.2.1) (fun x_ y_=>Xi y_.1 y_.2.1 y_.2.2.1 y_.2.2.2.1 y_.2.2.2.2.1 y_.2.2.2.2.2.1 y_.2.2.2.2.2.2.1 y_.2.2.2.2.2.2.2.1) (fun x_ y_ h=>aiS y_.1 y_.2.1 y_.2.2.1 y_.2.2.2.1 y_.2.2.2.2.1 y_.2.2.2.2.2.1 y_.2.2.2.2.2.2.1 y_.2.2.2.2.2.2.2.1 h)
abbrev BX:Type:=Int×Int×RB×(Int×Int×Int)×Int×(List Int)×Int×(List Int)×Int×(List Int)
noncomputable abbrev xX:a9 St BX:=(bH (ak (ah (aJ (0) (0))) (ak (ah (aJ (4) (0))) (jk 3 (ae (ah (ay IntKind.i64))
 (ae (ah (ay IntKind.i64)) (jk 42 ag)))))) (ae (bG Hy) (ae (bG jJ) (ae (dN (168) ((ae (ay IntKind.i64) (ak (jY (3)
 (1)) ag)))) (ae (cg (1) (Ty.int IntKind.i64)) (ae (dN (168) ((ae (ay IntKind.i64) (ak (jY (5) (1)) ag)))) (ae (cg (1)
 (Ty.int IntKind.i64)) (ae (dN (168) ((ae (ay IntKind.i64) (ak (jY (7) (1)) ag)))) (ae (cg (1) (Ty.int IntKind.i64))
 ag))))))))).jQ (fun y=>(y.1.1,y.1.2.1,y.2.1,y.2.2.1,y.2.2.2.1.1,y.2.2.2.2.1,y.2.2.2.2.2.1.1,y.2.2.2.2.2.2.1,y.2.2.2.2.2.2.2.1.1,
 y.2.2.2.2.2.2.2.2.1)) (fun x=>((x.1,(x.2.1,())),(x.2.2.1,(x.2.2.2.1,((x.2.2.2.2.1,()),(x.2.2.2.2.2.1,((x.2.2.2.2.2.2.1,()),
 (x.2.2.2.2.2.2.2.1,((x.2.2.2.2.2.2.2.2.1,()),(x.2.2.2.2.2.2.2.2.2,())))))))))) (fun _=>rfl)
abbrev HD:List Wk:= [.one 3,.one 5,.one 7,.fr (cK 49 [(0,.an),(1,.an),(5,.an),(6,.an)]),.syms,.auto,.ax]
abbrev adA:Exit→List Wk:=qI HD 0 [.one 3,.one 5,.one 7,.fr (cK 49 [(1,.an),(5,.an)]),.syms,.auto,.ax] [.one 3,.one 5,
 .one 7,.fr (cK 49 [(4,.an)]),.syms,.auto,.ax]
noncomputable def Ai (node:Int) (d':Int×Int×Int) (cj:List Int):List Int:=bZ cj node (aQ (cj.getD node.toNat 0) d').fst
noncomputable def vS (node:Int) (d':Int×Int×Int) (cj:List Int):Int×Int×Int:=(aQ (cj.getD node.toNat 0) d').snd.snd
abbrev adB:Type:=Int×RB×(Int×Int×Int)×Int×(List Int)×Int×(List Int)×Int×(List Int)
noncomputable abbrev HE (x:adB):Exit×St:=(Exit.exit 0,⟨(eE 1 (LV.one (VV.sc (SV.ptr 4 0))::(eE 3 (LV.one (VV.sc (SV.int IntKind.i64
 (SI.sym x.1)))::(eE 43 []))))),[some (Hy.wr x.2.1),some (jJ.wr x.2.2.1),some (Item.a8 [SV.int IntKind.i64 (SI.sym x.2.2.2.1),SV.sl 3 1]
 168),some (Item.own 1 (Ty.int IntKind.i64) x.2.2.2.2.1),some (Item.a8 [SV.int IntKind.i64 (SI.sym x.2.2.2.2.2.1),SV.sl 5 1] 168),some (Item.own 1
 (Ty.int IntKind.i64) x.2.2.2.2.2.2.1),some (Item.a8 [SV.int IntKind.i64 (SI.sym x.2.2.2.2.2.2.2.1),SV.sl 7 1] 168),some (Item.own 1 (Ty.int
 IntKind.i64) x.2.2.2.2.2.2.2.2)]⟩)
noncomputable def BY (node:Int) (i:Int) (r':RB) (d':Int×Int×Int) (cD:Int) (cd:List Int) (cE:Int) (cj:List Int) (cF:Int)
 (ck:List Int):Tr (BX⊕(adB)):=(.ite (decide (i<cE)) (.need (0≤node∧node<(↑cj.length:Int)) (.need (nJ (cj.getD
 node.toNat 0) d') (.need (ga r' (vS node d' cj) cD cd cE (Ai node d' cj) cF ck) (.ret (.inl (IntKind.i64.wrap (IntKind.i64.wrap
 (2*node)+(aQ (cj.getD node.toNat 0) d').fst),IntKind.i64.wrap (i+1),(bb r' (vS node d' cj)).fst,(bb r' (vS node d'
 cj)).snd,cD,cd,cE,Ai node d' cj,cF,ck)))))) (.ret (.inr (node,r',d',cD,cd,cE,cj,cF,ck))))
theorem Qb (r:RB) (d:Dc) (b1:Int) (p1:List Int) (b2:Int) (p2:List Int) (b3:Int) (p3:List Int) (node:Int) (i:Int) (r':RB) (d':Int×Int×Int) (cD:Int) (cd:List Int) (cE:Int) (cj:List Int) (cF:Int) (ck:List Int):c8 Tryz.prog [(107,vo),(143,jZ),(69,kB)] [] Tryz.f108 0 ((jb).wr (r,d,b1,p1,b2,p2,b3,p3,())) adA (xX.wr (node,i,r',d',cD,cd,cE,cj,cF,ck))=(BY node i r' d' cD cd cE cj cF ck).res xX.wr HE:=by kernel_rfl
abbrev vT (node:Int) (i:Int) (r':RB) (d':Int×Int×Int) (cD:Int) (cd:List Int) (cE:Int) (cj:List Int) (cF:Int) (ck:List Int):Prop:=kx d'∧aC r'.b∧r'.b.length<1099511627776∧cj.length=2 ^ cE.toNat∧cE≤8∧0≤i∧i≤cE∧1≤node∧node<2 ^ (i.toNat+1)
noncomputable abbrev HF (x_:BX):a6:= .need ((fun (node:Int) (i:Int) (r':RB) (d':Int×Int×Int) (cD:Int) (cd:List Int) (cE:Int) (cj:List Int) (cF:Int) (ck:List Int)=>vT node i r' d' cD cd cE cj cF ck) x_.1 x_.2.1 x_.2.2.1 x_.2.2.2.1 x_.2.2.2.2.1 x_.2.2.2.2.2.1 x_.2.2.2.2.2.2.1 x_.2.2.2.2.2.2.2.1 x_.2.2.2.2.2.2.2.2.1 x_.2.2.2.2.2.2.2.2.2) (.leaf (HE ((fun (node:Int) (i:Int) (r':RB) (d':Int×Int×Int) (cD:Int) (cd:List Int) (cE:Int) (cj:List Int) (cF:Int) (ck:List Int)=>((aA (cE-i).toNat node r' d' cj).1,(aA (cE-i).toNat node r' d' cj).2.1,(aA (cE-i).toNat node r' d' cj).2.2.1,cD,cd,cE,(aA (cE-i).toNat node r' d' cj).2.2.2,cF,ck)) x_.1 x_.2.1 x_.2.2.1 x_.2.2.2.1 x_.2.2.2.2.1 x_.2.2.2.2.2.1 x_.2.2.2.2.2.2.1 x_.2.2.2.2.2.2.2.1 x_.2.2.2.2.2.2.2.2.1 x_.2.2.2.2.2.2.2.2.2)).1 (HE ((fun (node:Int) (i:Int) (r':RB) (d':Int×Int×Int) (cD:Int) (cd:List Int) (cE:Int) (cj:List Int) (cF:Int) (ck:List Int)=>((aA (cE-i).toNat node r' d' cj).1,(aA (cE-i).toNat node r' d' cj).2.1,(aA (cE-i).toNat node r' d' cj).2.2.1,cD,cd,cE,(aA (cE-i).toNat node r' d' cj).2.2.2,cF,ck)) x_.1 x_.2.1 x_.2.2.1 x_.2.2.2.1 x_.2.2.2.2.1 x_.2.2.2.2.2.1 x_.2.2.2.2.2.2.1 x_.2.2.2.2.2.2.2.1 x_.2.2.2.2.2.2.2.2.1 x_.2.2.2.2.2.2.2.2.2)).2)
theorem adC (node:Int) (i:Int) (r':RB) (d':Int×Int×Int) (cD:Int) (cd:List Int) (cE:Int) (cj:List Int) (cF:Int) (ck:List Int) (h_:vT node i r' d' cD cd cE cj cF ck):cJ (fun x_:BX=>BY x_.1 x_.2.1 x_.2.2.1 x_.2.2.2.1 x_.2.2.2.2.1 x_.2.2.2.2.2.1 x_.2.2.2.2.2.2.1 x_.2.2.2.2.2.2.2.1 x_.2.2.2.2.2.2.2.2.1 x_.2.2.2.2.2.2.2.2.2) (node,i,r',d',cD,cd,cE,cj,cF,ck) (((aA (cE-i).toNat node r' d' cj).1,(aA (cE-i).toNat node r' d' cj).2.1,(aA (cE-i).toNat node r' d' cj).2.2.1,cD,cd,cE,(aA (cE-i).toNat node r' d' cj).2.2.2,cF,ck)):=by
 obtain ⟨h1,h2,h3,h4,h5,h6,h7,h8,h9⟩:=h_
 obtain ⟨k,hk⟩: ∃ k:Nat,(cE-i).toNat=k:=⟨_,rfl⟩
 rw[hk]
 induction k generalizing node i r' d' cj with
 |zero=>
  refine .stop ?_
  simp only[BY,aN,ai,aj]
  exact ⟨fun h=>by omega,fun _=>rfl⟩
 |succ k ih=>
  have hp:(2:Int) ^ (i.toNat+1)≤2 ^ cE.toNat:=eZ (by omega)
  have hp8:(2:Int) ^ cE.toNat≤2 ^ 8:=eZ (by omega)
  have hp9:(2:Int) ^ 8=256:=by decide
  have e:((2 ^ cE.toNat:Nat):Int)=2 ^ cE.toNat:=by exact_mod_cast rfl
  have hlen:node<(cj.length:Int):=by rw[h4];omega
  have Wi:cj.getD node.toNat 0=dz cj node:=by unfold dz nw;rw[if_pos (decide_eq_true ⟨h8,hlen⟩)]
  obtain ⟨m1,m2,m3⟩:=jx (r:=r') (eC h1 (dz cj node)) h2 h3
  obtain ⟨b1,b2⟩:=gK (dz cj node) d'
  have Ts:(2:Int) ^ ((i+1).toNat+1)=2*2 ^ (i.toNat+1):=by
   rw[show (i+1).toNat+1=(i.toNat+1)+1 from by omega,Int.pow_succ,Int.mul_comm]
  have j9:=ih (2*node+(aQ (dz cj node) d').1) (i+1) (bb r' (aQ (dz cj node) d').2.2).1 (bb r' (aQ (dz cj node) d').2.2).2 (bZ cj node (aQ (dz cj node) d').1) m1 m2 (by omega) (by rw[mC];exact h4) (by omega) (by omega) (by omega) (by rw[Ts];omega) (by omega)
  rw[aA]
  refine .go ?_ j9
  have ea:vS node d' cj=(aQ (dz cj node) d').2.2:=by unfold vS;rw[Wi]
  have sC:Ai node d' cj=bZ cj node (aQ (dz cj node) d').1:=by unfold Ai;rw[Wi]
  simp only[BY,aN,ai,aj,ea,sC,Wi]
  refine ⟨fun _=>⟨⟨by omega,hlen⟩,h1,⟨eC h1 _,h2,h3⟩,?_⟩,fun h=>by omega⟩
  rw[aq (n:=2*node) (by omega) (by omega),aq (n:=2*node+_) (by omega) (by omega),aq (n:=i+1) (by omega) (by omega)]
theorem Xj (r:RB) (d:Dc) (b1:Int) (p1:List Int) (b2:Int) (p2:List Int) (b3:Int) (p3:List Int): ∀ x:BX,Ex Tryz.prog ((jb).wr (r,d,b1,p1,b2,p2,b3,p3,())) (.loop (aU Tryz.f108 0)) (xX.wr x) (HF x):=
 bT mixed ((ao lu (ao gV (ao gF aD)))) (ws:=adA) (aP.nil _) (E:=HE) (L:=fun x_=>BY x_.1 x_.2.1 x_.2.2.1 x_.2.2.2.1 x_.2.2.2.2.1 x_.2.2.2.2.2.1 x_.2.2.2.2.2.2.1 x_.2.2.2.2.2.2.2.1 x_.2.2.2.2.2.2.2.2.1 x_.2.2.2.2.2.2.2.2.2) (pre:=fun x_=>(fun (node:Int) (i:Int) (r':RB) (d':Int×Int×Int) (cD:Int) (cd:List Int) (cE:Int) (cj:List Int) (cF:Int) (ck:List Int)=>vT node i r' d' cD cd cE cj cF ck) x_.1 x_.2.1 x_.2.2.1 x_.2.2.2.1 x_.2.2.2.2.1 x_.2.2.2.2.2.1 x_.2.2.2.2.2.2.1 x_.2.2.2.2.2.2.2.1 x_.2.2.2.2.2.2.2.2.1 x_.2.2.2.2.2.2.2.2.2) (sp:=fun x_=>(fun (node:Int) (i:Int) (r':RB) (d':Int×Int×Int) (cD:Int) (cd:List Int) (cE:Int) (cj:List Int) (cF:Int) (ck:List Int)=>((aA (cE-i).toNat node r' d' cj).1,(aA (cE-i).toNat node r' d' cj).2.1,(aA (cE-i).toNat node r' d' cj).2.2.1,cD,cd,cE,(aA (cE-i).toNat node r' d' cj).2.2.2,cF,ck)) x_.1 x_.2.1 x_.2.2.1 x_.2.2.2.1 x_.2.2.2.2.1 x_.2.2.2.2.2.1 x_.2.2.2.2.2.2.1 x_.2.2.2.2.2.2.2.1 x_.2.2.2.2.2.2.2.2.1 x_.2.2.2.2.2.2.2.2.2) (fun x_=>Qb r d b1 p1 b2 p2 b3 p3 x_.1 x_.2.1 x_.2.2.1 x_.2.2.2.1 x_.2.2.2.2.1 x_.2.2.2.2.2.1 x_.2.2.2.2.2.2.1 x_.2.2.2.2.2.2.2.1 x_.2.2.2.2.2.2.2.2.1 x_.2.2.2.2.2.2.2.2.2) (fun z e=>by cases e) dc (fun x_ h=>adC x_.1 x_.2.1 x_.2.2.1 x_.2.2.2.1 x_.2.2.2.2.1 x_.2.2.2.2.2.1 x_.2.2.2.2.2.2.1 x_.2.2.2.2.2.2.2.1 x_.2.2.2.2.2.2.2.2.1 x_.2.2.2.2.2.2.2.2.2 h)
noncomputable def sF (r:RB) (d:Int×Int×Int) (b2:Int) (p2:List Int):Int×RB×(Int×Int×Int)×List Int:=aA (Int.toNat (b2-
 0)) 1 r d p2
abbrev adD:Type:=Int×RB×(Int×Int×Int)×Int×(List Int)×Int×(List Int)×Int×(List Int)
noncomputable abbrev adE (x:adD):LV:=LV.one (VV.sc (SV.int IntKind.i64 (SI.sym x.1)))
noncomputable abbrev adF (x:adD):List (Nat×Ev.Item):= [(0,Hy.wr x.2.1),(1,jJ.wr x.2.2.1),(2,Item.a8 [SV.int IntKind.i64 (SI.sym
 x.2.2.2.1),SV.sl 3 1] 168),(3,Item.own 1 (Ty.int IntKind.i64) x.2.2.2.2.1),(4,Item.a8 [SV.int IntKind.i64 (SI.sym x.2.2.2.2.2.1),SV.sl 5 1]
 168),(5,Item.own 1 (Ty.int IntKind.i64) x.2.2.2.2.2.2.1),(6,Item.a8 [SV.int IntKind.i64 (SI.sym x.2.2.2.2.2.2.2.1),SV.sl 7 1] 168),(7,Item.own
 1 (Ty.int IntKind.i64) x.2.2.2.2.2.2.2.2)]
noncomputable def Uc (r:RB) (d:Int×Int×Int) (b1:Int) (p1:List Int) (b2:Int) (p2:List Int) (b3:Int) (p3:List Int):Tr (adD):=
 (.need (vT 1 0 r d b1 p1 b2 p2 b3 p3) (.ret (IntKind.i64.wrap ((sF r d b2 p2).fst-(↑(sF r d b2 p2).snd.snd.snd.length:Int)),(sF
 r d b2 p2).snd.fst,(sF r d b2 p2).snd.snd.fst,b1,p1,b2,(sF r d b2 p2).snd.snd.snd,b3,p3)))
theorem Xk (r:RB) (d:Dc) (b1:Int) (p1:List Int) (b2:Int) (p2:List Int) (b3:Int) (p3:List Int):aY Tryz.prog [(107,vo),(143,jZ),(69,kB)] [(0,aX xX ((jb).wr (r,d,b1,p1,b2,p2,b3,p3,())) HD (HF))] Tryz.f108 (((ak (ah (aJ 0 0)) (ak (ah (aJ 4 0)) ag))).wr (())) ((jb).wr (r,d,b1,p1,b2,p2,b3,p3,())) [.one 3,.one 5,.one 7,.fr [.sym],.syms,.auto,.ax]=(Uc r d b1 p1 b2 p2 b3 p3).end adE adF ((jb).wr (r,d,b1,p1,b2,p2,b3,p3,())):=by kernel_rfl
theorem adG (r:RB) (d:Dc) (b1:Int) (p1:List Int) (b2:Int) (p2:List Int) (b3:Int) (p3:List Int):aP Tryz.prog ((jb).wr (r,d,b1,p1,b2,p2,b3,p3,())) [(0,aX xX ((jb).wr (r,d,b1,p1,b2,p2,b3,p3,())) HD (HF))] (aH Tryz.f108):=(aP.cy (jr (by kernel_rfl) (bz (hp:=(jb).wr (r,d,b1,p1,b2,p2,b3,p3,())) (Xj r d b1 p1 b2 p2 b3 p3)) jH))
abbrev vU (r:RB) (d:Dc) (b1:Int) (p1:List Int) (b2:Int) (p2:List Int) (b3:Int) (p3:List Int):Prop:=kx d∧aC r.b∧r.b.length<1099511627776∧p2.length=2 ^ b2.toNat∧0≤b2∧b2≤8
noncomputable def ama:au:=au.bV [] ((ak (ah (aJ 0 0)) (ak (ah (aJ 4 0)) ag))) (jb) fun x_ y_=> .leaf (some ((fun (r:RB) (d:Dc) (b1:Int) (p1:List Int) (b2:Int) (p2:List Int) (b3:Int) (p3:List Int)=>vU r d b1 p1 b2 p2 b3 p3) y_.1 y_.2.1 y_.2.2.1 y_.2.2.2.1 y_.2.2.2.2.1 y_.2.2.2.2.2.1 y_.2.2.2.2.2.2.1 y_.2.2.2.2.2.2.2.1)) (adE ((fun (r:RB) (d:Dc) (b1:Int) (p1:List Int) (b2:Int) (p2:List Int) (b3:Int) (p3:List Int)=>((aA b2.toNat 1 r d p2).1-2 ^ b2.toNat,(aA b2.toNat 1 r d p2).2.1,(aA b2.toNat 1 r d p2).2.2.1,b1,p1,b2,(aA b2.toNat 1 r d p2).2.2.2,b3,p3)) y_.1 y_.2.1 y_.2.2.1 y_.2.2.2.1 y_.2.2.2.2.1 y_.2.2.2.2.2.1 y_.2.2.2.2.2.2.1 y_.2.2.2.2.2.2.2.1)) (adF ((fun (r:RB) (d:Dc) (b1:Int) (p1:List Int) (b2:Int) (p2:List Int) (b3:Int) (p3:List Int)=>((aA b2.toNat 1 r d p2).1-2 ^ b2.toNat,(aA b2.toNat 1 r d p2).2.1,(aA b2.toNat 1 r d p2).2.2.1,b1,p1,b2,(aA b2.toNat 1 r d p2).2.2.2,b3,p3)) y_.1 y_.2.1 y_.2.2.1 y_.2.2.2.1 y_.2.2.2.2.1 y_.2.2.2.2.2.1 y_.2.2.2.2.2.2.1 y_.2.2.2.2.2.2.2.1))
theorem aiU (r:RB) (d:Dc) (b1:Int) (p1:List Int) (b2:Int) (p2:List Int) (b3:Int) (p3:List Int) (h_:vU r d b1 p1 b2 p2 b3 p3):(Uc r d b1 p1 b2 p2 b3 p3).Is (((aA b2.toNat 1 r d p2).1-2 ^ b2.toNat,(aA b2.toNat 1 r d p2).2.1,(aA b2.toNat 1 r d p2).2.2.1,b1,p1,b2,(aA b2.toNat 1 r d p2).2.2.2,b3,p3)):=by
 obtain ⟨h1,h2,h3,h4,h5,h6⟩:=h_
 have ea:sF r d b2 p2=aA b2.toNat 1 r d p2:=by unfold sF;rw[Int.sub_zero]
 obtain ⟨k1,k2,k3,k4,k5,k6⟩:=pM b2.toNat 1 r d p2 h1 h2 h3 (by omega)
 have hp:(2:Int) ^ b2.toNat≤2 ^ 8:=eZ (by omega)
 have hp9:(2:Int) ^ 8=256:=by decide
 have e:((2 ^ b2.toNat:Nat):Int)=2 ^ b2.toNat:=by exact_mod_cast rfl
 simp only[Uc,ai,aj,ea,k4,h4,e]
 refine ⟨⟨h1,h2,h3,h4,h6,by omega,h5,by omega,by decide⟩,?_⟩
 rw[aq (by omega) (by omega)]
theorem aiV:ama.Ok Tryz.prog 108:=
 bM (tys:= []) (A:=(ak (ah (aJ 0 0)) (ak (ah (aJ 4 0)) ag))) (H:=jb) (LT:=fun x_ y_=>(fun (r:RB) (d:Dc) (b1:Int) (p1:List Int) (b2:Int) (p2:List Int) (b3:Int) (p3:List Int)=> [(0,aX xX ((jb).wr (r,d,b1,p1,b2,p2,b3,p3,())) HD (HF))]) y_.1 y_.2.1 y_.2.2.1 y_.2.2.2.1 y_.2.2.2.2.1 y_.2.2.2.2.2.1 y_.2.2.2.2.2.2.1 y_.2.2.2.2.2.2.2.1) (ks:= [.one 3,.one 5,.one 7,.fr [.sym],.syms,.auto,.ax]) (V:=adE) (D:=adF) (T:=fun x_ y_=>Uc y_.1 y_.2.1 y_.2.2.1 y_.2.2.2.1 y_.2.2.2.2.1 y_.2.2.2.2.2.1 y_.2.2.2.2.2.2.1 y_.2.2.2.2.2.2.2.1) (pre:=fun x_ y_=>(fun (r:RB) (d:Dc) (b1:Int) (p1:List Int) (b2:Int) (p2:List Int) (b3:Int) (p3:List Int)=>vU r d b1 p1 b2 p2 b3 p3) y_.1 y_.2.1 y_.2.2.1 y_.2.2.2.1 y_.2.2.2.2.1 y_.2.2.2.2.2.1 y_.2.2.2.2.2.2.1 y_.2.2.2.2.2.2.2.1) (sp:=fun x_ y_=>(fun (r:RB) (d:Dc) (b1:Int) (p1:List Int) (b2:Int) (p2:List Int) (b3:Int) (p3:List Int)=>((aA b2.toNat 1 r d p2).1-2 ^ b2.toNat,(aA b2.toNat 1 r d p2).2.1,(aA b2.toNat 1 r d p2).2.2.1,b1,p1,b2,(aA b2.toNat 1 r d p2).2.2.2,b3,p3)) y_.1 y_.2.1 y_.2.2.1 y_.2.2.2.1 y_.2.2.2.2.1 y_.2.2.2.2.2.1 y_.2.2.2.2.2.2.1 y_.2.2.2.2.2.2.2.1) mixed ((ao lu (ao gV (ao gF aD)))) Tryz.func108 (by kernel_rfl) Tryz.call108 (fun x_ y_=>adG y_.1 y_.2.1 y_.2.2.1 y_.2.2.2.1 y_.2.2.2.2.1 y_.2.2.2.2.2.1 y_.2.2.2.2.2.2.1 y_.2.2.2.2.2.2.2.1) (fun x_ y_=>Xk y_.1 y_.2.1 y_.2.2.1 y_.2.2.2.1 y_.2.2.2.2.1 y_.2.2.2.2.2.1 y_.2.2.2.2.2.2.1 y_.2.2.2.2.2.2.2.1) (fun x_ y_ h=>aiU y_.1 y_.2.1 y_.2.2.1 y_.2.2.2.1 y_.2.2.2.2.1 y_.2.2.2.2.2.1 y_.2.2.2.2.2.2.1 y_.2.2.2.2.2.2.2.1 h)
abbrev BZ:Type:=Int×Int×RB×(Int×Int×Int)×Int×(List Int)×Int×(List Int)×Int×(List Int)
noncomputable abbrev xY:a9 St BZ:=(bH (ak (ah (aJ (0) (0))) (ak (ah (aJ (6) (0))) (jk 3 (ae (ah (ay IntKind.i64))
 (ae (ah (ay IntKind.i64)) (jk 42 ag)))))) (ae (bG Hy) (ae (bG jJ) (ae (dN (168) ((ae (ay IntKind.i64) (ak (jY (3)
 (1)) ag)))) (ae (cg (1) (Ty.int IntKind.i64)) (ae (dN (168) ((ae (ay IntKind.i64) (ak (jY (5) (1)) ag)))) (ae (cg (1)
 (Ty.int IntKind.i64)) (ae (dN (168) ((ae (ay IntKind.i64) (ak (jY (7) (1)) ag)))) (ae (cg (1) (Ty.int IntKind.i64))
 ag))))))))).jQ (fun y=>(y.1.1,y.1.2.1,y.2.1,y.2.2.1,y.2.2.2.1.1,y.2.2.2.2.1,y.2.2.2.2.2.1.1,y.2.2.2.2.2.2.1,y.2.2.2.2.2.2.2.1.1,
 y.2.2.2.2.2.2.2.2.1)) (fun x=>((x.1,(x.2.1,())),(x.2.2.1,(x.2.2.2.1,((x.2.2.2.2.1,()),(x.2.2.2.2.2.1,((x.2.2.2.2.2.2.1,()),
 (x.2.2.2.2.2.2.2.1,((x.2.2.2.2.2.2.2.2.1,()),(x.2.2.2.2.2.2.2.2.2,())))))))))) (fun _=>rfl)
abbrev HG:List Wk:= [.one 3,.one 5,.one 7,.fr (cK 49 [(0,.an),(1,.an),(5,.an),(6,.an)]),.syms,.auto,.ax]
abbrev adH:Exit→List Wk:=qI HG 0 [.one 3,.one 5,.one 7,.fr (cK 49 [(1,.an),(5,.an)]),.syms,.auto,.ax] [.one 3,.one 5,
 .one 7,.fr (cK 49 [(4,.an)]),.syms,.auto,.ax]
noncomputable def Aj (node:Int) (d':Int×Int×Int) (ck:List Int):List Int:=bZ ck node (aQ (ck.getD node.toNat 0) d').fst
noncomputable def vV (node:Int) (d':Int×Int×Int) (ck:List Int):Int×Int×Int:=(aQ (ck.getD node.toNat 0) d').snd.snd
abbrev adI:Type:=Int×RB×(Int×Int×Int)×Int×(List Int)×Int×(List Int)×Int×(List Int)
noncomputable abbrev HI (x:adI):Exit×St:=(Exit.exit 0,⟨(eE 1 (LV.one (VV.sc (SV.ptr 6 0))::(eE 3 (LV.one (VV.sc (SV.int IntKind.i64
 (SI.sym x.1)))::(eE 43 []))))),[some (Hy.wr x.2.1),some (jJ.wr x.2.2.1),some (Item.a8 [SV.int IntKind.i64 (SI.sym x.2.2.2.1),SV.sl 3 1]
 168),some (Item.own 1 (Ty.int IntKind.i64) x.2.2.2.2.1),some (Item.a8 [SV.int IntKind.i64 (SI.sym x.2.2.2.2.2.1),SV.sl 5 1] 168),some (Item.own 1
 (Ty.int IntKind.i64) x.2.2.2.2.2.2.1),some (Item.a8 [SV.int IntKind.i64 (SI.sym x.2.2.2.2.2.2.2.1),SV.sl 7 1] 168),some (Item.own 1 (Ty.int
 IntKind.i64) x.2.2.2.2.2.2.2.2)]⟩)
noncomputable def B0 (node:Int) (i:Int) (r':RB) (d':Int×Int×Int) (cD:Int) (cd:List Int) (cE:Int) (cj:List Int) (cF:Int)
 (ck:List Int):Tr (BZ⊕(adI)):=(.ite (decide (i<cF)) (.need (0≤node∧node<(↑ck.length:Int)) (.need (nJ (ck.getD
 node.toNat 0) d') (.need (ga r' (vV node d' ck) cD cd cE cj cF (Aj node d' ck)) (.ret (.inl (IntKind.i64.wrap (IntKind.i64.wrap
 (2*node)+(aQ (ck.getD node.toNat 0) d').fst),IntKind.i64.wrap (i+1),(bb r' (vV node d' ck)).fst,(bb r' (vV node d'
 ck)).snd,cD,cd,cE,cj,cF,Aj node d' ck)))))) (.ret (.inr (node,r',d',cD,cd,cE,cj,cF,ck))))
theorem Qc (r:RB) (d:Dc) (b1:Int) (p1:List Int) (b2:Int) (p2:List Int) (b3:Int) (p3:List Int) (node:Int) (i:Int) (r':RB) (d':Int×Int×Int) (cD:Int) (cd:List Int) (cE:Int) (cj:List Int) (cF:Int) (ck:List Int):c8 Tryz.prog [(107,vo),(143,jZ),(69,kB)] [] Tryz.f108 0 ((jb).wr (r,d,b1,p1,b2,p2,b3,p3,())) adH (xY.wr (node,i,r',d',cD,cd,cE,cj,cF,ck))=(B0 node i r' d' cD cd cE cj cF ck).res xY.wr HI:=by kernel_rfl
abbrev vW (node:Int) (i:Int) (r':RB) (d':Int×Int×Int) (cD:Int) (cd:List Int) (cE:Int) (cj:List Int) (cF:Int) (ck:List Int):Prop:=kx d'∧aC r'.b∧r'.b.length<1099511627776∧ck.length=2 ^ cF.toNat∧cF≤8∧0≤i∧i≤cF∧1≤node∧node<2 ^ (i.toNat+1)
noncomputable abbrev HJ (x_:BZ):a6:= .need ((fun (node:Int) (i:Int) (r':RB) (d':Int×Int×Int) (cD:Int) (cd:List Int) (cE:Int) (cj:List Int) (cF:Int) (ck:List Int)=>vW node i r' d' cD cd cE cj cF ck) x_.1 x_.2.1 x_.2.2.1 x_.2.2.2.1 x_.2.2.2.2.1 x_.2.2.2.2.2.1 x_.2.2.2.2.2.2.1 x_.2.2.2.2.2.2.2.1 x_.2.2.2.2.2.2.2.2.1 x_.2.2.2.2.2.2.2.2.2) (.leaf (HI ((fun (node:Int) (i:Int) (r':RB) (d':Int×Int×Int) (cD:Int) (cd:List Int) (cE:Int) (cj:List Int) (cF:Int) (ck:List Int)=>((aA (cF-i).toNat node r' d' ck).1,(aA (cF-i).toNat node r' d' ck).2.1,(aA (cF-i).toNat node r' d' ck).2.2.1,cD,cd,cE,cj,cF,(aA (cF-i).toNat node r' d' ck).2.2.2)) x_.1 x_.2.1 x_.2.2.1 x_.2.2.2.1 x_.2.2.2.2.1 x_.2.2.2.2.2.1 x_.2.2.2.2.2.2.1 x_.2.2.2.2.2.2.2.1 x_.2.2.2.2.2.2.2.2.1 x_.2.2.2.2.2.2.2.2.2)).1 (HI ((fun (node:Int) (i:Int) (r':RB) (d':Int×Int×Int) (cD:Int) (cd:List Int) (cE:Int) (cj:List Int) (cF:Int) (ck:List Int)=>((aA (cF-i).toNat node r' d' ck).1,(aA (cF-i).toNat node r' d' ck).2.1,(aA (cF-i).toNat node r' d' ck).2.2.1,cD,cd,cE,cj,cF,(aA (cF-i).toNat node r' d' ck).2.2.2)) x_.1 x_.2.1 x_.2.2.1 x_.2.2.2.1 x_.2.2.2.2.1 x_.2.2.2.2.2.1 x_.2.2.2.2.2.2.1 x_.2.2.2.2.2.2.2.1 x_.2.2.2.2.2.2.2.2.1 x_.2.2.2.2.2.2.2.2.2)).2)
theorem adJ (node:Int) (i:Int) (r':RB) (d':Int×Int×Int) (cD:Int) (cd:List Int) (cE:Int) (cj:List Int) (cF:Int) (ck:List Int) (h_:vW node i r' d' cD cd cE cj cF ck):cJ (fun x_:BZ=>B0 x_.1 x_.2.1 x_.2.2.1 x_.2.2.2.1 x_.2.2.2.2.1 x_.2.2.2.2.2.1 x_.2.2.2.2.2.2.1 x_.2.2.2.2.2.2.2.1 x_.2.2.2.2.2.2.2.2.1 x_.2.2.2.2.2.2.2.2.2) (node,i,r',d',cD,cd,cE,cj,cF,ck) (((aA (cF-i).toNat node r' d' ck).1,(aA (cF-i).toNat node r' d' ck).2.1,(aA (cF-i).toNat node r' d' ck).2.2.1,cD,cd,cE,cj,cF,(aA (cF-i).toNat node r' d' ck).2.2.2)):=by
 obtain ⟨h1,h2,h3,h4,h5,h6,h7,h8,h9⟩:=h_
 obtain ⟨k,hk⟩: ∃ k:Nat,(cF-i).toNat=k:=⟨_,rfl⟩
 rw[hk]
 induction k generalizing node i r' d' ck with
 |zero=>
  refine .stop ?_
  simp only[B0,aN,ai,aj]
  exact ⟨fun h=>by omega,fun _=>rfl⟩
 |succ k ih=>
  have hp:(2:Int) ^ (i.toNat+1)≤2 ^ cF.toNat:=eZ (by omega)
  have hp8:(2:Int) ^ cF.toNat≤2 ^ 8:=eZ (by omega)
  have hp9:(2:Int) ^ 8=256:=by decide
  have e:((2 ^ cF.toNat:Nat):Int)=2 ^ cF.toNat:=by exact_mod_cast rfl
  have hlen:node<(ck.length:Int):=by rw[h4];omega
  have Wi:ck.getD node.toNat 0=dz ck node:=by unfold dz nw;rw[if_pos (decide_eq_true ⟨h8,hlen⟩)]
  obtain ⟨m1,m2,m3⟩:=jx (r:=r') (eC h1 (dz ck node)) h2 h3
  obtain ⟨b1,b2⟩:=gK (dz ck node) d'
  have Ts:(2:Int) ^ ((i+1).toNat+1)=2*2 ^ (i.toNat+1):=by
   rw[show (i+1).toNat+1=(i.toNat+1)+1 from by omega,Int.pow_succ,Int.mul_comm]
  have j9:=ih (2*node+(aQ (dz ck node) d').1) (i+1) (bb r' (aQ (dz ck node) d').2.2).1 (bb r' (aQ (dz ck node) d').2.2).2 (bZ ck node (aQ (dz ck node) d').1) m1 m2 (by omega) (by rw[mC];exact h4) (by omega) (by omega) (by omega) (by rw[Ts];omega) (by omega)
  rw[aA]
  refine .go ?_ j9
  have ea:vV node d' ck=(aQ (dz ck node) d').2.2:=by unfold vV;rw[Wi]
  have sC:Aj node d' ck=bZ ck node (aQ (dz ck node) d').1:=by unfold Aj;rw[Wi]
  simp only[B0,aN,ai,aj,ea,sC,Wi]
  refine ⟨fun _=>⟨⟨by omega,hlen⟩,h1,⟨eC h1 _,h2,h3⟩,?_⟩,fun h=>by omega⟩
  rw[aq (n:=2*node) (by omega) (by omega),aq (n:=2*node+_) (by omega) (by omega),aq (n:=i+1) (by omega) (by omega)]
theorem Xl (r:RB) (d:Dc) (b1:Int) (p1:List Int) (b2:Int) (p2:List Int) (b3:Int) (p3:List Int): ∀ x:BZ,Ex Tryz.prog ((jb).wr (r,d,b1,p1,b2,p2,b3,p3,())) (.loop (aU Tryz.f108 0)) (xY.wr x) (HJ x):=
 bT mixed ((ao lu (ao gV (ao gF aD)))) (ws:=adH) (aP.nil _) (E:=HI) (L:=fun x_=>B0 x_.1 x_.2.1 x_.2.2.1 x_.2.2.2.1 x_.2.2.2.2.1 x_.2.2.2.2.2.1 x_.2.2.2.2.2.2.1 x_.2.2.2.2.2.2.2.1 x_.2.2.2.2.2.2.2.2.1 x_.2.2.2.2.2.2.2.2.2) (pre:=fun x_=>(fun (node:Int) (i:Int) (r':RB) (d':Int×Int×Int) (cD:Int) (cd:List Int) (cE:Int) (cj:List Int) (cF:Int) (ck:List Int)=>vW node i r' d' cD cd cE cj cF ck) x_.1 x_.2.1 x_.2.2.1 x_.2.2.2.1 x_.2.2.2.2.1 x_.2.2.2.2.2.1 x_.2.2.2.2.2.2.1 x_.2.2.2.2.2.2.2.1 x_.2.2.2.2.2.2.2.2.1 x_.2.2.2.2.2.2.2.2.2) (sp:=fun x_=>(fun (node:Int) (i:Int) (r':RB) (d':Int×Int×Int) (cD:Int) (cd:List Int) (cE:Int) (cj:List Int) (cF:Int) (ck:List Int)=>((aA (cF-i).toNat node r' d' ck).1,(aA (cF-i).toNat node r' d' ck).2.1,(aA (cF-i).toNat node r' d' ck).2.2.1,cD,cd,cE,cj,cF,(aA (cF-i).toNat node r' d' ck).2.2.2)) x_.1 x_.2.1 x_.2.2.1 x_.2.2.2.1 x_.2.2.2.2.1 x_.2.2.2.2.2.1 x_.2.2.2.2.2.2.1 x_.2.2.2.2.2.2.2.1 x_.2.2.2.2.2.2.2.2.1 x_.2.2.2.2.2.2.2.2.2) (fun x_=>Qc r d b1 p1 b2 p2 b3 p3 x_.1 x_.2.1 x_.2.2.1 x_.2.2.2.1 x_.2.2.2.2.1 x_.2.2.2.2.2.1 x_.2.2.2.2.2.2.1 x_.2.2.2.2.2.2.2.1 x_.2.2.2.2.2.2.2.2.1 x_.2.2.2.2.2.2.2.2.2) (fun z e=>by cases e) dc (fun x_ h=>adJ x_.1 x_.2.1 x_.2.2.1 x_.2.2.2.1 x_.2.2.2.2.1 x_.2.2.2.2.2.1 x_.2.2.2.2.2.2.1 x_.2.2.2.2.2.2.2.1 x_.2.2.2.2.2.2.2.2.1 x_.2.2.2.2.2.2.2.2.2 h)
noncomputable def sG (r:RB) (d:Int×Int×Int) (b3:Int) (p3:List Int):Int×RB×(Int×Int×Int)×List Int:=aA (Int.toNat (b3-
 0)) 1 r d p3
abbrev adK:Type:=Int×RB×(Int×Int×Int)×Int×(List Int)×Int×(List Int)×Int×(List Int)
noncomputable abbrev adL (x:adK):LV:=LV.one (VV.sc (SV.int IntKind.i64 (SI.sym x.1)))
noncomputable abbrev adM (x:adK):List (Nat×Ev.Item):= [(0,Hy.wr x.2.1),(1,jJ.wr x.2.2.1),(2,Item.a8 [SV.int IntKind.i64 (SI.sym
 x.2.2.2.1),SV.sl 3 1] 168),(3,Item.own 1 (Ty.int IntKind.i64) x.2.2.2.2.1),(4,Item.a8 [SV.int IntKind.i64 (SI.sym x.2.2.2.2.2.1),SV.sl 5 1]
 168),(5,Item.own 1 (Ty.int IntKind.i64) x.2.2.2.2.2.2.1),(6,Item.a8 [SV.int IntKind.i64 (SI.sym x.2.2.2.2.2.2.2.1),SV.sl 7 1] 168),(7,Item.own
 1 (Ty.int IntKind.i64) x.2.2.2.2.2.2.2.2)]
noncomputable def Ud (r:RB) (d:Int×Int×Int) (b1:Int) (p1:List Int) (b2:Int) (p2:List Int) (b3:Int) (p3:List Int):Tr (adK):=
 (.need (vW 1 0 r d b1 p1 b2 p2 b3 p3) (.ret (IntKind.i64.wrap ((sG r d b3 p3).fst-(↑(sG r d b3 p3).snd.snd.snd.length:Int)),(sG
 r d b3 p3).snd.fst,(sG r d b3 p3).snd.snd.fst,b1,p1,b2,p2,b3,(sG r d b3 p3).snd.snd.snd)))
theorem Xm (r:RB) (d:Dc) (b1:Int) (p1:List Int) (b2:Int) (p2:List Int) (b3:Int) (p3:List Int):aY Tryz.prog [(107,vo),(143,jZ),(69,kB)] [(0,aX xY ((jb).wr (r,d,b1,p1,b2,p2,b3,p3,())) HG (HJ))] Tryz.f108 (((ak (ah (aJ 0 0)) (ak (ah (aJ 6 0)) ag))).wr (())) ((jb).wr (r,d,b1,p1,b2,p2,b3,p3,())) [.one 3,.one 5,.one 7,.fr [.sym],.syms,.auto,.ax]=(Ud r d b1 p1 b2 p2 b3 p3).end adL adM ((jb).wr (r,d,b1,p1,b2,p2,b3,p3,())):=by kernel_rfl
theorem adN (r:RB) (d:Dc) (b1:Int) (p1:List Int) (b2:Int) (p2:List Int) (b3:Int) (p3:List Int):aP Tryz.prog ((jb).wr (r,d,b1,p1,b2,p2,b3,p3,())) [(0,aX xY ((jb).wr (r,d,b1,p1,b2,p2,b3,p3,())) HG (HJ))] (aH Tryz.f108):=(aP.cy (jr (by kernel_rfl) (bz (hp:=(jb).wr (r,d,b1,p1,b2,p2,b3,p3,())) (Xl r d b1 p1 b2 p2 b3 p3)) jH))
abbrev vX (r:RB) (d:Dc) (b1:Int) (p1:List Int) (b2:Int) (p2:List Int) (b3:Int) (p3:List Int):Prop:=kx d∧aC r.b∧r.b.length<1099511627776∧p3.length=2 ^ b3.toNat∧0≤b3∧b3≤8
noncomputable def amb:au:=au.bV [] ((ak (ah (aJ 0 0)) (ak (ah (aJ 6 0)) ag))) (jb) fun x_ y_=> .leaf (some ((fun (r:RB) (d:Dc) (b1:Int) (p1:List Int) (b2:Int) (p2:List Int) (b3:Int) (p3:List Int)=>vX r d b1 p1 b2 p2 b3 p3) y_.1 y_.2.1 y_.2.2.1 y_.2.2.2.1 y_.2.2.2.2.1 y_.2.2.2.2.2.1 y_.2.2.2.2.2.2.1 y_.2.2.2.2.2.2.2.1)) (adL ((fun (r:RB) (d:Dc) (b1:Int) (p1:List Int) (b2:Int) (p2:List Int) (b3:Int) (p3:List Int)=>((aA b3.toNat 1 r d p3).1-2 ^ b3.toNat,(aA b3.toNat 1 r d p3).2.1,(aA b3.toNat 1 r d p3).2.2.1,b1,p1,b2,p2,b3,(aA b3.toNat 1 r d p3).2.2.2)) y_.1 y_.2.1 y_.2.2.1 y_.2.2.2.1 y_.2.2.2.2.1 y_.2.2.2.2.2.1 y_.2.2.2.2.2.2.1 y_.2.2.2.2.2.2.2.1)) (adM ((fun (r:RB) (d:Dc) (b1:Int) (p1:List Int) (b2:Int) (p2:List Int) (b3:Int) (p3:List Int)=>((aA b3.toNat 1 r d p3).1-2 ^ b3.toNat,(aA b3.toNat 1 r d p3).2.1,(aA b3.toNat 1 r d p3).2.2.1,b1,p1,b2,p2,b3,(aA b3.toNat 1 r d p3).2.2.2)) y_.1 y_.2.1 y_.2.2.1 y_.2.2.2.1 y_.2.2.2.2.1 y_.2.2.2.2.2.1 y_.2.2.2.2.2.2.1 y_.2.2.2.2.2.2.2.1))
theorem aiW (r:RB) (d:Dc) (b1:Int) (p1:List Int) (b2:Int) (p2:List Int) (b3:Int) (p3:List Int) (h_:vX r d b1 p1 b2 p2 b3 p3):(Ud r d b1 p1 b2 p2 b3 p3).Is (((aA b3.toNat 1 r d p3).1-2 ^ b3.toNat,(aA b3.toNat 1 r d p3).2.1,(aA b3.toNat 1 r d p3).2.2.1,b1,p1,b2,p2,b3,(aA b3.toNat 1 r d p3).2.2.2)):=by
 obtain ⟨h1,h2,h3,h4,h5,h6⟩:=h_
 have ea:sG r d b3 p3=aA b3.toNat 1 r d p3:=by unfold sG;rw[Int.sub_zero]
 obtain ⟨k1,k2,k3,k4,k5,k6⟩:=pM b3.toNat 1 r d p3 h1 h2 h3 (by omega)
 have hp:(2:Int) ^ b3.toNat≤2 ^ 8:=eZ (by omega)
 have hp9:(2:Int) ^ 8=256:=by decide
 have e:((2 ^ b3.toNat:Nat):Int)=2 ^ b3.toNat:=by exact_mod_cast rfl
 simp only[Ud,ai,aj,ea,k4,h4,e]
 refine ⟨⟨h1,h2,h3,h4,h6,by omega,h5,by omega,by decide⟩,?_⟩
 rw[aq (by omega) (by omega)]
theorem aiX:amb.Ok Tryz.prog 108:=
 bM (tys:= []) (A:=(ak (ah (aJ 0 0)) (ak (ah (aJ 6 0)) ag))) (H:=jb) (LT:=fun x_ y_=>(fun (r:RB) (d:Dc) (b1:Int) (p1:List Int) (b2:Int) (p2:List Int) (b3:Int) (p3:List Int)=> [(0,aX xY ((jb).wr (r,d,b1,p1,b2,p2,b3,p3,())) HG (HJ))]) y_.1 y_.2.1 y_.2.2.1 y_.2.2.2.1 y_.2.2.2.2.1 y_.2.2.2.2.2.1 y_.2.2.2.2.2.2.1 y_.2.2.2.2.2.2.2.1) (ks:= [.one 3,.one 5,.one 7,.fr [.sym],.syms,.auto,.ax]) (V:=adL) (D:=adM) (T:=fun x_ y_=>Ud y_.1 y_.2.1 y_.2.2.1 y_.2.2.2.1 y_.2.2.2.2.1 y_.2.2.2.2.2.1 y_.2.2.2.2.2.2.1 y_.2.2.2.2.2.2.2.1) (pre:=fun x_ y_=>(fun (r:RB) (d:Dc) (b1:Int) (p1:List Int) (b2:Int) (p2:List Int) (b3:Int) (p3:List Int)=>vX r d b1 p1 b2 p2 b3 p3) y_.1 y_.2.1 y_.2.2.1 y_.2.2.2.1 y_.2.2.2.2.1 y_.2.2.2.2.2.1 y_.2.2.2.2.2.2.1 y_.2.2.2.2.2.2.2.1) (sp:=fun x_ y_=>(fun (r:RB) (d:Dc) (b1:Int) (p1:List Int) (b2:Int) (p2:List Int) (b3:Int) (p3:List Int)=>((aA b3.toNat 1 r d p3).1-2 ^ b3.toNat,(aA b3.toNat 1 r d p3).2.1,(aA b3.toNat 1 r d p3).2.2.1,b1,p1,b2,p2,b3,(aA b3.toNat 1 r d p3).2.2.2)) y_.1 y_.2.1 y_.2.2.1 y_.2.2.2.1 y_.2.2.2.2.1 y_.2.2.2.2.2.1 y_.2.2.2.2.2.2.1 y_.2.2.2.2.2.2.2.1) mixed ((ao lu (ao gV (ao gF aD)))) Tryz.func108 (by kernel_rfl) Tryz.call108 (fun x_ y_=>adN y_.1 y_.2.1 y_.2.2.1 y_.2.2.2.1 y_.2.2.2.2.1 y_.2.2.2.2.2.1 y_.2.2.2.2.2.2.1 y_.2.2.2.2.2.2.2.1) (fun x_ y_=>Xm y_.1 y_.2.1 y_.2.2.1 y_.2.2.2.1 y_.2.2.2.2.1 y_.2.2.2.2.2.1 y_.2.2.2.2.2.2.1 y_.2.2.2.2.2.2.2.1) (fun x_ y_ h=>aiW y_.1 y_.2.1 y_.2.2.1 y_.2.2.2.1 y_.2.2.2.2.1 y_.2.2.2.2.2.1 y_.2.2.2.2.2.2.1 y_.2.2.2.2.2.2.2.1 h)
end Go.Proofs.YtjalaohajcpllaaGreat
end
