/- What the laws lean on, part 12: a reader of code, plain facts, and what each function gives; no conditions. -/
import Derived.Test.YtjalaohajcpllaaGreatA11
section
set_option linter.unusedVariables false
set_option linter.unusedSimpArgs false
namespace Go.Proofs.YtjalaohajcpllaaGreat
open Go Go.Ev
set_option maxRecDepth 1000000
noncomputable abbrev an1:au:=al9.or (ama.or amb)
theorem adO:an1.Ok Tryz.prog 108:=aiT.or (aiV.or aiX)
abbrev B1:Type:=Int×Int×RB×(Int×Int×Int)×Int×(List Int)×Int×(List Int)×Int×(List Int)×Int×Int×Int×Int×Int×Int
noncomputable abbrev xZ:a9 St B1:=(bH (ak (ah (aJ (0) (0))) (jk 1 (ak (ah (aJ (8) (0))) (jk 2 (ak (ah (aJ (9) (0)))
 (ae (ah (ay IntKind.i64)) (ae (ah (ay IntKind.i64)) (jk 74 ag)))))))) (ae (bG Hy) (ae (bG jJ) (ae (dN (168) ((ae
 (ay IntKind.i64) (ak (jY (3) (1)) ag)))) (ae (cg (1) (Ty.int IntKind.i64)) (ae (dN (168) ((ae (ay IntKind.i64) (ak (jY (5)
 (1)) ag)))) (ae (cg (1) (Ty.int IntKind.i64)) (ae (dN (168) ((ae (ay IntKind.i64) (ak (jY (7) (1)) ag)))) (ae (cg (1)
 (Ty.int IntKind.i64)) (ae (dN (90) ((ae (ay IntKind.i64) (ae (ay IntKind.i64) (ae (ay IntKind.u8) ag))))) (ae (dN (90)
 ((ae (ay IntKind.i64) (ae (ay IntKind.i64) (ae (ay IntKind.u8) ag))))) ag))))))))))).jQ (fun y=>(y.1.1,y.1.2.1,y.2.1,y.2.2.1,
 y.2.2.2.1.1,y.2.2.2.2.1,y.2.2.2.2.2.1.1,y.2.2.2.2.2.2.1,y.2.2.2.2.2.2.2.1.1,y.2.2.2.2.2.2.2.2.1,y.2.2.2.2.2.2.2.2.2.1.1,
 y.2.2.2.2.2.2.2.2.2.1.2.1,y.2.2.2.2.2.2.2.2.2.1.2.2.1,y.2.2.2.2.2.2.2.2.2.2.1.1,y.2.2.2.2.2.2.2.2.2.2.1.2.1,y.2.2.2.2.2.2.2.2.2.2.1.2.2.1)) (fun x
 =>((x.1,(x.2.1,())),(x.2.2.1,(x.2.2.2.1,((x.2.2.2.2.1,()),(x.2.2.2.2.2.1,((x.2.2.2.2.2.2.1,()),(x.2.2.2.2.2.2.2.1,((x.2.2.2.2.2.2.2.2.1,
 ()),(x.2.2.2.2.2.2.2.2.2.1,((x.2.2.2.2.2.2.2.2.2.2.1,(x.2.2.2.2.2.2.2.2.2.2.2.1,(x.2.2.2.2.2.2.2.2.2.2.2.2.1,()))),
 ((x.2.2.2.2.2.2.2.2.2.2.2.2.2.1,(x.2.2.2.2.2.2.2.2.2.2.2.2.2.2.1,(x.2.2.2.2.2.2.2.2.2.2.2.2.2.2.2,()))),())))))))))))) (fun _=>rfl)
abbrev HK:List Wk:= [.one 3,.one 5,.one 7,.fr (cK 82 [(0,.an),(2,.an),(5,.an),(6,.an),(7,.an)]),.syms,.auto,.ax]
abbrev adP:Exit→List Wk:=qI HK 0 [.one 3,.one 5,.one 7,.fr (cK 82 [(2,.an),(5,.an),(6,.an)]),.syms,.auto,.ax] [.one
 3,.one 5,.one 7,.fr (cK 82 [(2,.an)]),.syms,.auto,.ax]
noncomputable def Ak (d':Int×Int×Int):Int×Int×Int:=(bP d').snd
abbrev adQ:Type:=Int×RB×(Int×Int×Int)×Int×(List Int)×Int×(List Int)×Int×(List Int)×Int×Int×Int×Int×Int×Int
noncomputable abbrev HL (x:adQ):Exit×St:=(Exit.exit 0,⟨(eE 2 (LV.one (VV.sc (SV.ptr 8 0))::(eE 2 (LV.one (VV.sc (SV.ptr 9 0))::
 (LV.one (VV.sc (SV.int IntKind.i64 (SI.sym x.1)))::(eE 75 [])))))),[some (Hy.wr x.2.1),some (jJ.wr x.2.2.1),some (Item.a8 [SV.int IntKind.i64
 (SI.sym x.2.2.2.1),SV.sl 3 1] 168),some (Item.own 1 (Ty.int IntKind.i64) x.2.2.2.2.1),some (Item.a8 [SV.int IntKind.i64 (SI.sym x.2.2.2.2.2.1),
 SV.sl 5 1] 168),some (Item.own 1 (Ty.int IntKind.i64) x.2.2.2.2.2.2.1),some (Item.a8 [SV.int IntKind.i64 (SI.sym x.2.2.2.2.2.2.2.1),SV.sl 7 1]
 168),some (Item.own 1 (Ty.int IntKind.i64) x.2.2.2.2.2.2.2.2.1),some (Item.a8 [SV.int IntKind.i64 (SI.sym x.2.2.2.2.2.2.2.2.2.1),SV.int IntKind.i64
 (SI.sym x.2.2.2.2.2.2.2.2.2.2.1),SV.int IntKind.u8 (SI.sym x.2.2.2.2.2.2.2.2.2.2.2.1)] 90),some (Item.a8 [SV.int IntKind.i64 (SI.sym
 x.2.2.2.2.2.2.2.2.2.2.2.2.1),SV.int IntKind.i64 (SI.sym x.2.2.2.2.2.2.2.2.2.2.2.2.2.1),SV.int IntKind.u8 (SI.sym x.2.2.2.2.2.2.2.2.2.2.2.2.2.2)]
 90)]⟩)
noncomputable def B2 (di:Int) (k:Int) (r':RB) (d':Int×Int×Int) (cD:Int) (cd:List Int) (cE:Int) (cj:List Int) (cF:Int)
 (ck:List Int) (t1:Int) (t2:Int) (t3:Int) (u1:Int) (u2:Int) (u3:Int):Tr (B1⊕(adQ)):=(.ite (decide (k<6)) (.need (vp
 d') (.need (ga r' (Ak d') cD cd cE cj cF ck) (.ret (.inl (IntKind.i64.wrap (IntKind.i64.wrap (2*di)+(bP d').fst),
 IntKind.i64.wrap (k+1),(bb r' (Ak d')).fst,(bb r' (Ak d')).snd,cD,cd,cE,cj,cF,ck,t1,t2,t3,u1,u2,u3))))) (.ret
 (.inr (di,r',d',cD,cd,cE,cj,cF,ck,t1,t2,t3,u1,u2,u3))))
theorem Qd (r:RB) (d:Dc) (b1:Int) (p1:List Int) (b2:Int) (p2:List Int) (b3:Int) (p3:List Int) (di:Int) (k:Int) (r':RB) (d':Int×Int×Int) (cD:Int) (cd:List Int) (cE:Int) (cj:List Int) (cF:Int) (ck:List Int) (t1:Int) (t2:Int) (t3:Int) (u1:Int) (u2:Int) (u3:Int):c8 Tryz.prog [(107,vo),(69,kB),(108,an1),(109,PH)] [] Tryz.f70 0 ((jb).wr (r,d,b1,p1,b2,p2,b3,p3,())) adP (xZ.wr (di,k,r',d',cD,cd,cE,cj,cF,ck,t1,t2,t3,u1,u2,u3))=(B2 di k r' d' cD cd cE cj cF ck t1 t2 t3 u1 u2 u3).res xZ.wr HL:=by kernel_rfl
def cb:Nat→Int→RB→Dc→Int×RB×Dc
 |0,di,r,d=>(di,r,d)
 |k+1,di,r,d=>cb k (2*di+(bP d).1) (bb r (bP d).2).1 (bb r (bP d).2).2
theorem Lc: ∀ (k:Nat) (di:Int) (r:RB) (d:Dc),kx d→aC r.b→r.b.length<1099511627776→
  kx (cb k di r d).2.2∧aC (cb k di r d).2.1.b∧(cb k di r d).2.1.b.length≤r.b.length∧
  2 ^ k*di≤(cb k di r d).1∧(cb k di r d).1<2 ^ k*(di+1)
 |0,di,r,d,h1,h2,h3=>⟨h1,h2,Nat.le_refl _,by simp[cb],by simp[cb];omega⟩
 |k+1,di,r,d,h1,h2,h3=>by
  obtain ⟨m1,m2,m3⟩:=jx (r:=r) (rq h1) h2 h3
  obtain ⟨b1,b2⟩:=vH d
  obtain ⟨k1,k2,k3,k5,k6⟩:=Lc k (2*di+(bP d).1) (bb r (bP d).2).1 (bb r (bP d).2).2 m1 m2 (by omega)
  rw[cb]
  refine ⟨k1,k2,by omega,Int.le_trans ?_ k5,Int.lt_of_lt_of_le k6 ?_⟩
  ·rw[Int.pow_succ,Int.mul_assoc]
   exact Int.mul_le_mul_of_nonneg_left (by omega) (Int.le_of_lt (Int.pow_pos (by decide)))
  ·rw[Int.pow_succ,Int.mul_assoc]
   exact Int.mul_le_mul_of_nonneg_left (by omega) (Int.le_of_lt (Int.pow_pos (by decide)))
abbrev vY (di:Int) (k:Int) (r':RB) (d':Int×Int×Int) (cD:Int) (cd:List Int) (cE:Int) (cj:List Int) (cF:Int) (ck:List Int) (t1:Int) (t2:Int) (t3:Int) (u1:Int) (u2:Int) (u3:Int):Prop:=kx d'∧aC r'.b∧r'.b.length<1099511627776∧0≤k∧k≤6∧0≤di∧di<2 ^ (k.toNat+6)
noncomputable abbrev HM (x_:B1):a6:= .need ((fun (di:Int) (k:Int) (r':RB) (d':Int×Int×Int) (cD:Int) (cd:List Int) (cE:Int) (cj:List Int) (cF:Int) (ck:List Int) (t1:Int) (t2:Int) (t3:Int) (u1:Int) (u2:Int) (u3:Int)=>vY di k r' d' cD cd cE cj cF ck t1 t2 t3 u1 u2 u3) x_.1 x_.2.1 x_.2.2.1 x_.2.2.2.1 x_.2.2.2.2.1 x_.2.2.2.2.2.1 x_.2.2.2.2.2.2.1 x_.2.2.2.2.2.2.2.1 x_.2.2.2.2.2.2.2.2.1 x_.2.2.2.2.2.2.2.2.2.1 x_.2.2.2.2.2.2.2.2.2.2.1 x_.2.2.2.2.2.2.2.2.2.2.2.1 x_.2.2.2.2.2.2.2.2.2.2.2.2.1 x_.2.2.2.2.2.2.2.2.2.2.2.2.2.1 x_.2.2.2.2.2.2.2.2.2.2.2.2.2.2.1 x_.2.2.2.2.2.2.2.2.2.2.2.2.2.2.2) (.leaf (HL ((fun (di:Int) (k:Int) (r':RB) (d':Int×Int×Int) (cD:Int) (cd:List Int) (cE:Int) (cj:List Int) (cF:Int) (ck:List Int) (t1:Int) (t2:Int) (t3:Int) (u1:Int) (u2:Int) (u3:Int)=>((cb (6-k).toNat di r' d').1,(cb (6-k).toNat di r' d').2.1,(cb (6-k).toNat di r' d').2.2,cD,cd,cE,cj,cF,ck,t1,t2,t3,u1,u2,u3)) x_.1 x_.2.1 x_.2.2.1 x_.2.2.2.1 x_.2.2.2.2.1 x_.2.2.2.2.2.1 x_.2.2.2.2.2.2.1 x_.2.2.2.2.2.2.2.1 x_.2.2.2.2.2.2.2.2.1 x_.2.2.2.2.2.2.2.2.2.1 x_.2.2.2.2.2.2.2.2.2.2.1 x_.2.2.2.2.2.2.2.2.2.2.2.1 x_.2.2.2.2.2.2.2.2.2.2.2.2.1 x_.2.2.2.2.2.2.2.2.2.2.2.2.2.1 x_.2.2.2.2.2.2.2.2.2.2.2.2.2.2.1 x_.2.2.2.2.2.2.2.2.2.2.2.2.2.2.2)).1 (HL ((fun (di:Int) (k:Int) (r':RB) (d':Int×Int×Int) (cD:Int) (cd:List Int) (cE:Int) (cj:List Int) (cF:Int) (ck:List Int) (t1:Int) (t2:Int) (t3:Int) (u1:Int) (u2:Int) (u3:Int)=>((cb (6-k).toNat di r' d').1,(cb (6-k).toNat di r' d').2.1,(cb (6-k).toNat di r' d').2.2,cD,cd,cE,cj,cF,ck,t1,t2,t3,u1,u2,u3)) x_.1 x_.2.1 x_.2.2.1 x_.2.2.2.1 x_.2.2.2.2.1 x_.2.2.2.2.2.1 x_.2.2.2.2.2.2.1 x_.2.2.2.2.2.2.2.1 x_.2.2.2.2.2.2.2.2.1 x_.2.2.2.2.2.2.2.2.2.1 x_.2.2.2.2.2.2.2.2.2.2.1 x_.2.2.2.2.2.2.2.2.2.2.2.1 x_.2.2.2.2.2.2.2.2.2.2.2.2.1 x_.2.2.2.2.2.2.2.2.2.2.2.2.2.1 x_.2.2.2.2.2.2.2.2.2.2.2.2.2.2.1 x_.2.2.2.2.2.2.2.2.2.2.2.2.2.2.2)).2)
theorem adR (di:Int) (k:Int) (r':RB) (d':Int×Int×Int) (cD:Int) (cd:List Int) (cE:Int) (cj:List Int) (cF:Int) (ck:List Int) (t1:Int) (t2:Int) (t3:Int) (u1:Int) (u2:Int) (u3:Int) (h_:vY di k r' d' cD cd cE cj cF ck t1 t2 t3 u1 u2 u3):cJ (fun x_:B1=>B2 x_.1 x_.2.1 x_.2.2.1 x_.2.2.2.1 x_.2.2.2.2.1 x_.2.2.2.2.2.1 x_.2.2.2.2.2.2.1 x_.2.2.2.2.2.2.2.1 x_.2.2.2.2.2.2.2.2.1 x_.2.2.2.2.2.2.2.2.2.1 x_.2.2.2.2.2.2.2.2.2.2.1 x_.2.2.2.2.2.2.2.2.2.2.2.1 x_.2.2.2.2.2.2.2.2.2.2.2.2.1 x_.2.2.2.2.2.2.2.2.2.2.2.2.2.1 x_.2.2.2.2.2.2.2.2.2.2.2.2.2.2.1 x_.2.2.2.2.2.2.2.2.2.2.2.2.2.2.2) (di,k,r',d',cD,cd,cE,cj,cF,ck,t1,t2,t3,u1,u2,u3) (((cb (6-k).toNat di r' d').1,(cb (6-k).toNat di r' d').2.1,(cb (6-k).toNat di r' d').2.2,cD,cd,cE,cj,cF,ck,t1,t2,t3,u1,u2,u3)):=by
 obtain ⟨h1,h2,h3,h4,h5,h6,h7⟩:=h_
 obtain ⟨n,hn⟩: ∃ n:Nat,(6-k).toNat=n:=⟨_,rfl⟩
 rw[hn]
 induction n generalizing di k r' d' with
 |zero=>
  refine .stop ?_
  simp only[B2,aN,ai,aj]
  exact ⟨fun h=>by omega,fun _=>rfl⟩
 |succ n ih=>
  have hp:(2:Int) ^ (k.toNat+6)≤2 ^ 12:=eZ (by omega)
  have hp9:(2:Int) ^ 12=4096:=by decide
  obtain ⟨m1,m2,m3⟩:=jx (r:=r') (rq h1) h2 h3
  obtain ⟨b1,b2⟩:=vH d'
  have Ts:(2:Int) ^ ((k+1).toNat+6)=2*2 ^ (k.toNat+6):=by
   rw[show (k+1).toNat+6=(k.toNat+6)+1 from by omega,Int.pow_succ,Int.mul_comm]
  have j9:=ih (2*di+(bP d').1) (k+1) (bb r' (bP d').2).1 (bb r' (bP d').2).2 m1 m2 (by omega) (by omega) (by omega) (by omega) (by rw[Ts];omega) (by omega)
  rw[cb]
  refine .go ?_ j9
  have ea:Ak d'=(bP d').2:=rfl
  simp only[B2,aN,ai,aj,ea]
  refine ⟨fun _=>⟨h1,⟨rq h1,h2,h3⟩,?_⟩,fun h=>by omega⟩
  rw[aq (n:=2*di) (by omega) (by omega),aq (n:=2*di+_) (by omega) (by omega),aq (n:=k+1) (by omega) (by omega)]
theorem Xn (r:RB) (d:Dc) (b1:Int) (p1:List Int) (b2:Int) (p2:List Int) (b3:Int) (p3:List Int): ∀ x:B1,Ex Tryz.prog ((jb).wr (r,d,b1,p1,b2,p2,b3,p3,())) (.loop (aU Tryz.f70 0)) (xZ.wr x) (HM x):=
 bT mixed ((ao lu (ao gF (ao adO (ao KS aD))))) (ws:=adP) (aP.nil _) (E:=HL) (L:=fun x_=>B2 x_.1 x_.2.1 x_.2.2.1 x_.2.2.2.1 x_.2.2.2.2.1 x_.2.2.2.2.2.1 x_.2.2.2.2.2.2.1 x_.2.2.2.2.2.2.2.1 x_.2.2.2.2.2.2.2.2.1 x_.2.2.2.2.2.2.2.2.2.1 x_.2.2.2.2.2.2.2.2.2.2.1 x_.2.2.2.2.2.2.2.2.2.2.2.1 x_.2.2.2.2.2.2.2.2.2.2.2.2.1 x_.2.2.2.2.2.2.2.2.2.2.2.2.2.1 x_.2.2.2.2.2.2.2.2.2.2.2.2.2.2.1 x_.2.2.2.2.2.2.2.2.2.2.2.2.2.2.2) (pre:=fun x_=>(fun (di:Int) (k:Int) (r':RB) (d':Int×Int×Int) (cD:Int) (cd:List Int) (cE:Int) (cj:List Int) (cF:Int) (ck:List Int) (t1:Int) (t2:Int) (t3:Int) (u1:Int) (u2:Int) (u3:Int)=>vY di k r' d' cD cd cE cj cF ck t1 t2 t3 u1 u2 u3) x_.1 x_.2.1 x_.2.2.1 x_.2.2.2.1 x_.2.2.2.2.1 x_.2.2.2.2.2.1 x_.2.2.2.2.2.2.1 x_.2.2.2.2.2.2.2.1 x_.2.2.2.2.2.2.2.2.1 x_.2.2.2.2.2.2.2.2.2.1 x_.2.2.2.2.2.2.2.2.2.2.1 x_.2.2.2.2.2.2.2.2.2.2.2.1 x_.2.2.2.2.2.2.2.2.2.2.2.2.1 x_.2.2.2.2.2.2.2.2.2.2.2.2.2.1 x_.2.2.2.2.2.2.2.2.2.2.2.2.2.2.1 x_.2.2.2.2.2.2.2.2.2.2.2.2.2.2.2) (sp:=fun x_=>(fun (di:Int) (k:Int) (r':RB) (d':Int×Int×Int) (cD:Int) (cd:List Int) (cE:Int) (cj:List Int) (cF:Int) (ck:List Int) (t1:Int) (t2:Int) (t3:Int) (u1:Int) (u2:Int) (u3:Int)=>((cb (6-k).toNat di r' d').1,(cb (6-k).toNat di r' d').2.1,(cb (6-k).toNat di r' d').2.2,cD,cd,cE,cj,cF,ck,t1,t2,t3,u1,u2,u3)) x_.1 x_.2.1 x_.2.2.1 x_.2.2.2.1 x_.2.2.2.2.1 x_.2.2.2.2.2.1 x_.2.2.2.2.2.2.1 x_.2.2.2.2.2.2.2.1 x_.2.2.2.2.2.2.2.2.1 x_.2.2.2.2.2.2.2.2.2.1 x_.2.2.2.2.2.2.2.2.2.2.1 x_.2.2.2.2.2.2.2.2.2.2.2.1 x_.2.2.2.2.2.2.2.2.2.2.2.2.1 x_.2.2.2.2.2.2.2.2.2.2.2.2.2.1 x_.2.2.2.2.2.2.2.2.2.2.2.2.2.2.1 x_.2.2.2.2.2.2.2.2.2.2.2.2.2.2.2) (fun x_=>Qd r d b1 p1 b2 p2 b3 p3 x_.1 x_.2.1 x_.2.2.1 x_.2.2.2.1 x_.2.2.2.2.1 x_.2.2.2.2.2.1 x_.2.2.2.2.2.2.1 x_.2.2.2.2.2.2.2.1 x_.2.2.2.2.2.2.2.2.1 x_.2.2.2.2.2.2.2.2.2.1 x_.2.2.2.2.2.2.2.2.2.2.1 x_.2.2.2.2.2.2.2.2.2.2.2.1 x_.2.2.2.2.2.2.2.2.2.2.2.2.1 x_.2.2.2.2.2.2.2.2.2.2.2.2.2.1 x_.2.2.2.2.2.2.2.2.2.2.2.2.2.2.1 x_.2.2.2.2.2.2.2.2.2.2.2.2.2.2.2) (fun z e=>by cases e) dc (fun x_ h=>adR x_.1 x_.2.1 x_.2.2.1 x_.2.2.2.1 x_.2.2.2.2.1 x_.2.2.2.2.2.1 x_.2.2.2.2.2.2.1 x_.2.2.2.2.2.2.2.1 x_.2.2.2.2.2.2.2.2.1 x_.2.2.2.2.2.2.2.2.2.1 x_.2.2.2.2.2.2.2.2.2.2.1 x_.2.2.2.2.2.2.2.2.2.2.2.1 x_.2.2.2.2.2.2.2.2.2.2.2.2.1 x_.2.2.2.2.2.2.2.2.2.2.2.2.2.1 x_.2.2.2.2.2.2.2.2.2.2.2.2.2.2.1 x_.2.2.2.2.2.2.2.2.2.2.2.2.2.2.2 h)
noncomputable def nO (r:RB) (d:Int×Int×Int):Int×Int×Int×Int×Int:=aQ ((List.take 2 (List.drop 0 r.cs)).getD r.bN.toNat 0) d
noncomputable def x6 (r:RB) (d:Int×Int×Int):RB:= {b:=r.b,cs:=r.cs.set (0+r.bN.toNat) (nO r d).snd.fst,bN:=(nO r d).fst,bad:=r.bad}
noncomputable def sH (r:RB) (d:Int×Int×Int):Int×Int×Int:=(nO r d).snd.snd
noncomputable def ir (r:RB) (d:Int×Int×Int):Int×Int×Int:=(bb (x6 r d) (sH r d)).snd
noncomputable def iu (r:RB) (d:Int×Int×Int):RB:=(bb (x6 r d) (sH r d)).fst
noncomputable def Qe (r:RB) (d:Int×Int×Int) (b2:Int) (p2:List Int):Int:=IntKind.i64.wrap ((aA b2.toNat 1 (iu r d) (ir r
 d) p2).fst-2 ^ b2.toNat+2)
noncomputable def sI (r:RB) (d:Int×Int×Int) (b2:Int) (p2:List Int):Int×Int×Int:=(aA b2.toNat 1 (iu r d) (ir r d)
 p2).snd.snd.fst
noncomputable def sJ (r:RB) (d:Int×Int×Int) (b2:Int) (p2:List Int):RB:=(aA b2.toNat 1 (iu r d) (ir r d) p2).snd.fst
noncomputable def B3 (r:RB) (d:Int×Int×Int) (b2:Int) (p2:List Int) (b3:Int) (p3:List Int):Int:=(aA b3.toNat 1 (sJ r d b2
 p2) (sI r d b2 p2) p3).fst-2 ^ b3.toNat
noncomputable def B4 (r:RB) (d:Int×Int×Int) (b2:Int) (p2:List Int) (b3:Int) (p3:List Int):Int×Int×Int:=(aA b3.toNat 1
 (sJ r d b2 p2) (sI r d b2 p2) p3).snd.snd.fst
noncomputable def vZ (r:RB) (d:Int×Int×Int) (b2:Int) (p2:List Int) (b3:Int) (p3:List Int):RB:=(aA b3.toNat 1 (sJ r d b2
 p2) (sI r d b2 p2) p3).snd.fst
abbrev adS:Type:=Int×Int×Int×RB×(Int×Int×Int)×Int×(List Int)×Int×(List Int)×Int×(List Int)
noncomputable abbrev adT (x:adS):LV:=LV.one (VV.agg [SV.int IntKind.i64 (SI.sym x.1),SV.int IntKind.i64 (SI.sym x.2.1),SV.int IntKind.u8
 (SI.sym x.2.2.1)])
noncomputable abbrev adU (x:adS):List (Nat×Ev.Item):= [(0,Hy.wr x.2.2.2.1),(1,jJ.wr x.2.2.2.2.1),(2,Item.a8 [SV.int IntKind.i64
 (SI.sym x.2.2.2.2.2.1),SV.sl 3 1] 168),(3,Item.own 1 (Ty.int IntKind.i64) x.2.2.2.2.2.2.1),(4,Item.a8 [SV.int IntKind.i64 (SI.sym
 x.2.2.2.2.2.2.2.1),SV.sl 5 1] 168),(5,Item.own 1 (Ty.int IntKind.i64) x.2.2.2.2.2.2.2.2.1),(6,Item.a8 [SV.int IntKind.i64 (SI.sym
 x.2.2.2.2.2.2.2.2.2.1),SV.sl 7 1] 168),(7,Item.own 1 (Ty.int IntKind.i64) x.2.2.2.2.2.2.2.2.2.2)]
noncomputable def Ue (r:RB) (d:Int×Int×Int) (b1:Int) (p1:List Int) (b2:Int) (p2:List Int) (b3:Int) (p3:List Int):Tr (adS):=
 (.need (0≤r.bN∧r.bN<2) (.need (nJ ((List.take 2 (List.drop 0 r.cs)).getD r.bN.toNat 0) d) (.need (0≤r.bN∧r.bN<2) (.need (ga
 (x6 r d) (sH r d) b1 p1 b2 p2 b3 p3) (.ite ((nO r d).fst==0) (.need (vR (iu r d) (ir r d) b1 p1 b2 p2 b3 p3) (.ret (0,0,
 IntKind.u8.wrap ((aA b1.toNat 1 (iu r d) (ir r d) p1).fst-2 ^ b1.toNat),(aA b1.toNat 1 (iu r d) (ir r d) p1).snd.fst,(aA
 b1.toNat 1 (iu r d) (ir r d) p1).snd.snd.fst,b1,(aA b1.toNat 1 (iu r d) (ir r d) p1).snd.snd.snd,b2,p2,b3,p3))) (.need
 (vU (iu r d) (ir r d) b1 p1 b2 p2 b3 p3) (.need (vX (sJ r d b2 p2) (sI r d b2 p2) b1 p1 b2 (aA b2.toNat 1 (iu r d)
 (ir r d) p2).snd.snd.snd b3 p3) (.need (vY (B3 r d b2 p2 b3 p3) 0 (vZ r d b2 p2 b3 p3) (B4 r d b2 p2 b3 p3) b1 p1 b2 (aA
 b2.toNat 1 (iu r d) (ir r d) p2).snd.snd.snd b3 (aA b3.toNat 1 (sJ r d b2 p2) (sI r d b2 p2) p3).snd.snd.snd 0 0 0 (Qe r d b2
 p2) 0 0) (.ret (Qe r d b2 p2,IntKind.i64.wrap ((cb 6 (B3 r d b2 p2 b3 p3) (vZ r d b2 p2 b3 p3) (B4 r d b2 p2 b3 p3)).fst+1),0,
 (cb 6 (B3 r d b2 p2 b3 p3) (vZ r d b2 p2 b3 p3) (B4 r d b2 p2 b3 p3)).snd.fst,(cb 6 (B3 r d b2 p2 b3 p3) (vZ r d b2 p2 b3
 p3) (B4 r d b2 p2 b3 p3)).snd.snd,b1,p1,b2,(aA b2.toNat 1 (iu r d) (ir r d) p2).snd.snd.snd,b3,(aA b3.toNat 1 (sJ r d b2
 p2) (sI r d b2 p2) p3).snd.snd.snd))))))))))
theorem Xo (r:RB) (d:Dc) (b1:Int) (p1:List Int) (b2:Int) (p2:List Int) (b3:Int) (p3:List Int):aY Tryz.prog [(107,vo),(69,kB),(108,an1),(109,PH)] [(0,aX xZ ((jb).wr (r,d,b1,p1,b2,p2,b3,p3,())) HK (HM))] Tryz.f70 ((dE).wr (())) ((jb).wr (r,d,b1,p1,b2,p2,b3,p3,())) [.one 3,.one 5,.one 7,.fr [.sym],.syms,.auto,.ax]=(Ue r d b1 p1 b2 p2 b3 p3).end adT adU ((jb).wr (r,d,b1,p1,b2,p2,b3,p3,())):=by kernel_rfl
theorem adV (r:RB) (d:Dc) (b1:Int) (p1:List Int) (b2:Int) (p2:List Int) (b3:Int) (p3:List Int):aP Tryz.prog ((jb).wr (r,d,b1,p1,b2,p2,b3,p3,())) [(0,aX xZ ((jb).wr (r,d,b1,p1,b2,p2,b3,p3,())) HK (HM))] (aH Tryz.f70):=(aP.cy (jr (by kernel_rfl) (bz (hp:=(jb).wr (r,d,b1,p1,b2,p2,b3,p3,())) (Xn r d b1 p1 b2 p2 b3 p3)) jH))
def kW (r:RB) (d:Dc):Int×RB×Dc:=
 let x:=aQ (r.cs.getD r.bN.toNat 0) d
 let m:=bb ⟨r.b,r.cs.set r.bN.toNat x.2.1,x.1,r.bad⟩ x.2.2
 (x.1,m.1,m.2)
def cu (r:RB) (d:Dc) (p1 p2 p3:List Int):bQ×RB×Dc×List Int×List Int×List Int:=
 let m:=kW r d
 if m.1=0 then
  let y:=aA 8 1 m.2.1 m.2.2 p1
  ((0,0,y.1-256),y.2.1,y.2.2.1,y.2.2.2,p2,p3)
 else
  let y:=aA 8 1 m.2.1 m.2.2 p2
  let z:=aA 6 1 y.2.1 y.2.2.1 p3
  let h:=cb 6 (z.1-64) z.2.1 z.2.2.1
  ((y.1-256+2,h.1+1,0),h.2.1,h.2.2,p1,y.2.2.2,z.2.2.2)
structure Jf (r:RB) (d:Dc) (p1 p2 p3:List Int):Prop where
 d:kx d
 b:aC r.b
 n:r.b.length<1099511627776
 cs:r.cs.length=2
 bN:r.bN=0∨r.bN=1
 l1:p1.length=256
 l2:p2.length=256
 l3:p3.length=64
theorem dT (r:RB) (d:Dc):(bb r d).1.cs=r.cs∧(bb r d).1.bN=r.bN:=by unfold bb;split<;>exact ⟨rfl,rfl⟩
theorem Ld: ∀ (k:Nat) (n:Int) (r:RB) (d:Dc) (p:List Int),(aA k n r d p).2.1.cs=r.cs∧(aA k n r d p).2.1.bN=r.bN
 |0,_,_,_,_=>⟨rfl,rfl⟩
 |k+1,n,r,d,p=>by rw[aA];obtain ⟨h1,h2⟩:=Ld k (2*n+(aQ (dz p n) d).1) (bb r (aQ (dz p n) d).2.2).1 (bb r (aQ (dz p n) d).2.2).2 (bZ p n (aQ (dz p n) d).1);rw[(dT _ _).1] at h1;rw[(dT _ _).2] at h2;exact ⟨h1,h2⟩
theorem Le: ∀ (k:Nat) (n:Int) (r:RB) (d:Dc),(cb k n r d).2.1.cs=r.cs∧(cb k n r d).2.1.bN=r.bN
 |0,_,_,_=>⟨rfl,rfl⟩
 |k+1,n,r,d=>by rw[cb];obtain ⟨h1,h2⟩:=Le k (2*n+(bP d).1) (bb r (bP d).2).1 (bb r (bP d).2).2;rw[(dT _ _).1] at h1;rw[(dT _ _).2] at h2;exact ⟨h1,h2⟩
theorem Uf {r:RB} {d:Dc} {p1 p2 p3:List Int} (h:Jf r d p1 p2 p3):Jf (kW r d).2.1 (kW r d).2.2 p1 p2 p3∧0≤(kW r d).1∧(kW r d).1≤1:=by
 obtain ⟨h1,h2,h3,h4,h5,h6,h7,h8⟩:=h
 have hb:=gK (r.cs.getD r.bN.toNat 0) d
 unfold kW
 simp only
 generalize hx:aQ (r.cs.getD r.bN.toNat 0) d=x at*
 have hd:kx x.2.2:=by rw[← hx];exact eC h1 _
 obtain ⟨m1,m2,m3⟩:=jx (r:=⟨r.b,r.cs.set r.bN.toNat x.2.1,x.1,r.bad⟩) hd h2 h3
 obtain ⟨c1,c2⟩:=dT ⟨r.b,r.cs.set r.bN.toNat x.2.1,x.1,r.bad⟩ x.2.2
 simp only at m3
 refine ⟨⟨m1,m2,by omega,by rw[c1];simpa using h4,by rw[c2];simp only;omega,h6,h7,h8⟩,hb⟩
theorem mQ {r:RB} {d:Dc} {p1 p2 p3:List Int} (h:Jf r d p1 p2 p3) (k:Nat) (p:List Int):
  Jf (aA k 1 r d p).2.1 (aA k 1 r d p).2.2.1 p1 p2 p3∧(aA k 1 r d p).2.2.2.length=p.length∧2 ^ k≤(aA k 1 r d p).1∧(aA k 1 r d p).1<2 ^ k*2:=by
 obtain ⟨h1,h2,h3,h4,h5,h6,h7,h8⟩:=h
 obtain ⟨k1,k2,k3,k4,k5,k6⟩:=pM k 1 r d p h1 h2 h3 (by omega)
 obtain ⟨c1,c2⟩:=Ld k 1 r d p
 exact ⟨⟨k1,k2,by omega,by rw[c1];exact h4,by rw[c2];exact h5,h6,h7,h8⟩,k4,by omega,by simpa using k6⟩
theorem Lf {r:RB} {d:Dc} {p1 p2 p3:List Int} (h:Jf r d p1 p2 p3) (k:Nat) (di:Int):
  Jf (cb k di r d).2.1 (cb k di r d).2.2 p1 p2 p3∧2 ^ k*di≤(cb k di r d).1∧(cb k di r d).1<2 ^ k*(di+1):=by
 obtain ⟨h1,h2,h3,h4,h5,h6,h7,h8⟩:=h
 obtain ⟨k1,k2,k3,k5,k6⟩:=Lc k di r d h1 h2 h3
 obtain ⟨c1,c2⟩:=Le k di r d
 exact ⟨⟨k1,k2,by omega,by rw[c1];exact h4,by rw[c2];exact h5,h6,h7,h8⟩,k5,k6⟩
theorem Jf.put {r:RB} {d:Dc} {p1 p2 p3 q1 q2 q3:List Int} (h:Jf r d p1 p2 p3) (e1:q1.length=p1.length) (e2:q2.length=p2.length) (e3:q3.length=p3.length):Jf r d q1 q2 q3:=
 ⟨h.d,h.b,h.n,h.cs,h.bN,e1▸h.l1,e2▸h.l2,e3▸h.l3⟩
theorem Ug {r:RB} {d:Dc} {p1 p2 p3:List Int} (h:Jf r d p1 p2 p3):
  let x:=cu r d p1 p2 p3
  Jf x.2.1 x.2.2.1 x.2.2.2.1 x.2.2.2.2.1 x.2.2.2.2.2∧0≤x.1.2.2∧x.1.2.2<256∧1≤bq x.1∧bq x.1≤257∧0≤x.1.2.1∧x.1.2.1≤4096:=by
 obtain ⟨c1,c2,c3⟩:=Uf h
 unfold cu
 simp only
 split
 ·obtain ⟨y1,y2,y3,y4⟩:=mQ c1 8 p1
  exact ⟨y1.put y2 rfl rfl,by simp only;omega,by simp only;omega,by simp[bq],by simp[bq],by simp,by simp⟩
 ·obtain ⟨y1,y2,y3,y4⟩:=mQ c1 8 p2
  obtain ⟨z1,z2,z3,z4⟩:=mQ y1 6 p3
  obtain ⟨w1,w3,w4⟩:=Lf z1 6 ((aA 6 1 (aA 8 1 (kW r d).2.1 (kW r d).2.2 p2).2.1 (aA 8 1 (kW r d).2.1 (kW r d).2.2 p2).2.2.1 p3).1-64)
  refine ⟨w1.put rfl y2 z2,by simp,by simp,?_,?_,by simp only;omega,by simp only;omega⟩<;>
  ·unfold bq;simp only;split<;>omega
abbrev v5 (r:RB) (d:Dc) (b1:Int) (p1:List Int) (b2:Int) (p2:List Int) (b3:Int) (p3:List Int):Prop:=Jf r d p1 p2 p3∧b1=8∧b2=8∧b3=6
noncomputable def adW:au:=au.bV [] (dE) (jb) fun x_ y_=> .leaf (some ((fun (r:RB) (d:Dc) (b1:Int) (p1:List Int) (b2:Int) (p2:List Int) (b3:Int) (p3:List Int)=>v5 r d b1 p1 b2 p2 b3 p3) y_.1 y_.2.1 y_.2.2.1 y_.2.2.2.1 y_.2.2.2.2.1 y_.2.2.2.2.2.1 y_.2.2.2.2.2.2.1 y_.2.2.2.2.2.2.2.1)) (adT ((fun (r:RB) (d:Dc) (b1:Int) (p1:List Int) (b2:Int) (p2:List Int) (b3:Int) (p3:List Int)=>((cu r d p1 p2 p3).1.1,(cu r d p1 p2 p3).1.2.1,(cu r d p1 p2 p3).1.2.2,(cu r d p1 p2 p3).2.1,(cu r d p1 p2 p3).2.2.1,b1,(cu r d p1 p2 p3).2.2.2.1,b2,(cu r d p1 p2 p3).2.2.2.2.1,b3,(cu r d p1 p2 p3).2.2.2.2.2)) y_.1 y_.2.1 y_.2.2.1 y_.2.2.2.1 y_.2.2.2.2.1 y_.2.2.2.2.2.1 y_.2.2.2.2.2.2.1 y_.2.2.2.2.2.2.2.1)) (adU ((fun (r:RB) (d:Dc) (b1:Int) (p1:List Int) (b2:Int) (p2:List Int) (b3:Int) (p3:List Int)=>((cu r d p1 p2 p3).1.1,(cu r d p1 p2 p3).1.2.1,(cu r d p1 p2 p3).1.2.2,(cu r d p1 p2 p3).2.1,(cu r d p1 p2 p3).2.2.1,b1,(cu r d p1 p2 p3).2.2.2.1,b2,(cu r d p1 p2 p3).2.2.2.2.1,b3,(cu r d p1 p2 p3).2.2.2.2.2)) y_.1 y_.2.1 y_.2.2.1 y_.2.2.2.1 y_.2.2.2.2.1 y_.2.2.2.2.2.1 y_.2.2.2.2.2.2.1 y_.2.2.2.2.2.2.2.1))
theorem aiY (r:RB) (d:Dc) (b1:Int) (p1:List Int) (b2:Int) (p2:List Int) (b3:Int) (p3:List Int) (h_:v5 r d b1 p1 b2 p2 b3 p3):(Ue r d b1 p1 b2 p2 b3 p3).Is (((cu r d p1 p2 p3).1.1,(cu r d p1 p2 p3).1.2.1,(cu r d p1 p2 p3).1.2.2,(cu r d p1 p2 p3).2.1,(cu r d p1 p2 p3).2.2.1,b1,(cu r d p1 p2 p3).2.2.2.1,b2,(cu r d p1 p2 p3).2.2.2.2.1,b3,(cu r d p1 p2 p3).2.2.2.2.2)):=by
 obtain ⟨h,rfl,rfl,rfl⟩:=h_
 obtain ⟨c1,c2,c3⟩:=Uf h
 have hr:=h
 obtain ⟨h1,h2,h3,h4,h5,h6,h7,h8⟩:=h
 have e0:(List.take 2 (List.drop 0 r.cs)).getD r.bN.toNat 0=r.cs.getD r.bN.toNat 0:=by rw[List.drop_zero,List.take_of_length_le (by omega)]
 have sC:nO r d=aQ (r.cs.getD r.bN.toNat 0) d:=by unfold nO;rw[e0]
 have nF:x6 r d=⟨r.b,r.cs.set r.bN.toNat (nO r d).2.1,(nO r d).1,r.bad⟩:=by unfold x6;rw[Nat.zero_add]
 have ec:(nO r d).1=(kW r d).1:=by rw[sC];rfl
 have Zi:ir r d=(kW r d).2.2:=by unfold ir sH;rw[nF,sC];rfl
 have ea4:iu r d=(kW r d).2.1:=by unfold iu sH;rw[nF,sC];rfl
 have w0:0≤r.bN∧r.bN<2:=by omega
 have hm:ga (x6 r d) (sH r d) 8 p1 8 p2 6 p3:=by
  refine ⟨?_,?_,?_⟩
  ·unfold sH;rw[sC];exact eC h1 _
  ·rw[nF];exact h2
  ·rw[nF];exact h3
 have n8:(8:Int).toNat=8:=rfl
 have n6:(6:Int).toNat=6:=rfl
 have p8:(2:Int) ^ 8=256:=by decide
 have p6:(2:Int) ^ 6=64:=by decide
 have pt: ∀ {r d} {q1 q2 q3:List Int},Jf r d q1 q2 q3→vR r d 8 q1 8 q2 6 q3:=fun h=>⟨h.d,h.b,h.n,h.l1,by decide,by decide⟩
 have pu: ∀ {r d} {q1 q2 q3:List Int},Jf r d q1 q2 q3→vU r d 8 q1 8 q2 6 q3:=fun h=>⟨h.d,h.b,h.n,h.l2,by decide,by decide⟩
 have pv: ∀ {r d} {q1 q2 q3:List Int},Jf r d q1 q2 q3→vX r d 8 q1 8 q2 6 q3:=fun h=>⟨h.d,h.b,h.n,h.l3,by decide,by decide⟩
 unfold cu
 simp only[Ue,ai,da,aj,ec,Zi,ea4,Qe,sI,sJ,B3,B4,vZ,n8,n6,p8,p6]
 refine ⟨w0,h1,w0,hm,fun e=>⟨pt c1,?_⟩,fun e=>⟨pu c1,?_⟩⟩
 ·obtain ⟨y1,y2,y3,y4⟩:=mQ c1 8 p1
  rw[if_pos e,wrap_u8,Int.emod_eq_of_lt (by omega) (by omega)]
 ·rw[if_neg e]
  obtain ⟨y1,y2,y3,y4⟩:=mQ c1 8 p2
  obtain ⟨z1,z2,z3,z4⟩:=mQ y1 6 p3
  obtain ⟨w1,w3,w4⟩:=Lf z1 6 ((aA 6 1 (aA 8 1 (kW r d).2.1 (kW r d).2.2 p2).2.1 (aA 8 1 (kW r d).2.1 (kW r d).2.2 p2).2.2.1 p3).1-64)
  refine ⟨pv (y1.put rfl y2 rfl),⟨z1.d,z1.b,z1.n,by decide,by decide,by omega,by rw[show (2:Int) ^ ((0:Int).toNat+6)=64 from by decide];omega⟩,?_⟩
  rw[aq (by omega) (by omega),aq (by omega) (by omega)]
theorem Uh:adW.Ok Tryz.prog 70:=
 bM (tys:= []) (A:=dE) (H:=jb) (LT:=fun x_ y_=>(fun (r:RB) (d:Dc) (b1:Int) (p1:List Int) (b2:Int) (p2:List Int) (b3:Int) (p3:List Int)=> [(0,aX xZ ((jb).wr (r,d,b1,p1,b2,p2,b3,p3,())) HK (HM))]) y_.1 y_.2.1 y_.2.2.1 y_.2.2.2.1 y_.2.2.2.2.1 y_.2.2.2.2.2.1 y_.2.2.2.2.2.2.1 y_.2.2.2.2.2.2.2.1) (ks:= [.one 3,.one 5,.one 7,.fr [.sym],.syms,.auto,.ax]) (V:=adT) (D:=adU) (T:=fun x_ y_=>Ue y_.1 y_.2.1 y_.2.2.1 y_.2.2.2.1 y_.2.2.2.2.1 y_.2.2.2.2.2.1 y_.2.2.2.2.2.2.1 y_.2.2.2.2.2.2.2.1) (pre:=fun x_ y_=>(fun (r:RB) (d:Dc) (b1:Int) (p1:List Int) (b2:Int) (p2:List Int) (b3:Int) (p3:List Int)=>v5 r d b1 p1 b2 p2 b3 p3) y_.1 y_.2.1 y_.2.2.1 y_.2.2.2.1 y_.2.2.2.2.1 y_.2.2.2.2.2.1 y_.2.2.2.2.2.2.1 y_.2.2.2.2.2.2.2.1) (sp:=fun x_ y_=>(fun (r:RB) (d:Dc) (b1:Int) (p1:List Int) (b2:Int) (p2:List Int) (b3:Int) (p3:List Int)=>((cu r d p1 p2 p3).1.1,(cu r d p1 p2 p3).1.2.1,(cu r d p1 p2 p3).1.2.2,(cu r d p1 p2 p3).2.1,(cu r d p1 p2 p3).2.2.1,b1,(cu r d p1 p2 p3).2.2.2.1,b2,(cu r d p1 p2 p3).2.2.2.2.1,b3,(cu r d p1 p2 p3).2.2.2.2.2)) y_.1 y_.2.1 y_.2.2.1 y_.2.2.2.1 y_.2.2.2.2.1 y_.2.2.2.2.2.1 y_.2.2.2.2.2.2.1 y_.2.2.2.2.2.2.2.1) mixed ((ao lu (ao gF (ao adO (ao KS aD))))) Tryz.func70 (by kernel_rfl) Tryz.call70 (fun x_ y_=>adV y_.1 y_.2.1 y_.2.2.1 y_.2.2.2.1 y_.2.2.2.2.1 y_.2.2.2.2.2.1 y_.2.2.2.2.2.2.1 y_.2.2.2.2.2.2.2.1) (fun x_ y_=>Xo y_.1 y_.2.1 y_.2.2.1 y_.2.2.2.1 y_.2.2.2.2.1 y_.2.2.2.2.2.1 y_.2.2.2.2.2.2.1 y_.2.2.2.2.2.2.2.1) (fun x_ y_ h=>aiY y_.1 y_.2.1 y_.2.2.1 y_.2.2.2.1 y_.2.2.2.2.1 y_.2.2.2.2.2.1 y_.2.2.2.2.2.2.1 y_.2.2.2.2.2.2.2.1 h)
end Go.Proofs.YtjalaohajcpllaaGreat
end
section
set_option linter.unusedVariables false
set_option linter.unusedSimpArgs false
namespace Go.Proofs.YtjalaohajcpllaaGreat
open Go Go.Ev
set_option maxRecDepth 1000000
def iF:Nat→Int→Int→RB→Dc→List Int→List Int→List Int→List bQ→RB×Dc×List Int×List Int×List Int×List bQ
 |0,_,_,r,d,p1,p2,p3,l=>(r,d,p1,p2,p3,l)
 |k+1,pl,n,r,d,p1,p2,p3,l=>
  if n<pl∧r.bad=false then
   let x:=cu r d p1 p2 p3
   iF k pl (n+bq x.1) x.2.1 x.2.2.1 x.2.2.2.1 x.2.2.2.2.1 x.2.2.2.2.2 (l++ [x.1])
  else (r,d,p1,p2,p3,l)
theorem rv (b:List Int) (cs:List Int) (bN:Int) (d:Dc):
  (bb ⟨b,cs,bN,false⟩ d).1.bad= !(cI b d).1∧((cI b d).1=true→(cI b d).2.1=(bb ⟨b,cs,bN,false⟩ d).1.b∧(cI b d).2.2=(bb ⟨b,cs,bN,false⟩ d).2):=by
 unfold bb cI
 rw[if_neg (by simp)]
 cases (bK b d).1<;>simp
theorem x7 {r:RB} (h:r.bad=true) (d:Dc):bb r d=(r,d):=by unfold bb;rw[if_pos h]
theorem kb: ∀ (k:Nat) (n:Int) {r:RB} (d:Dc) (p:List Int),r.bad=true→(aA k n r d p).2.1.bad=true
 |0,_,_,_,_,h=>h
 |k+1,n,r,d,p,h=>by rw[aA];exact kb k _ _ _ (by rw[x7 h];exact h)
theorem mR: ∀ (k:Nat) (n:Int) {r:RB} (d:Dc),r.bad=true→(cb k n r d).2.1.bad=true
 |0,_,_,_,h=>h
 |k+1,n,r,d,h=>by rw[cb];exact mR k _ _ (by rw[x7 h];exact h)
theorem yU: ∀ (k:Nat) (n m:Int) (r:RB) (d:Dc),cb k n r d=((cb k m r d).1+2 ^ k*(n-m),(cb k m r d).2)
 |0,n,m,r,d=>by simp[cb];omega
 |k+1,n,m,r,d=>by
  rw[cb,cb,yU k _ (2*m+(bP d).1)]
  congr 1
  rw[Int.pow_succ,show 2*n+(bP d).1-(2*m+(bP d).1)=2*(n-m) from by omega,Int.mul_assoc]
abbrev Q3:Type:=List Int×List Int×List Int
def oJ (part:Int) (q:Q3):List Int:=if part=1 then q.1 else if part=2 then q.2.1 else q.2.2
def v7 (part:Int) (q:Q3) (p:List Int):Q3:=if part=1 then (p,q.2.1,q.2.2) else if part=2 then (q.1,p,q.2.2) else (q.1,q.2.1,p)
theorem aiZ (part:Int) (q:Q3) (p:List Int):oJ part (v7 part q p)=p:=by
 unfold oJ v7;split
 ·rfl
 ·split<;>rfl
theorem ai0 (part:Int) (q:Q3) (p p':List Int):v7 part (v7 part q p) p'=v7 part q p':=by
 unfold v7;split
 ·rfl
 ·split<;>rfl
def B5 (n:Nat) (pl made:Int) (b:List Int) (d:Dc) (r:RH) (q:Q3) (out:List bQ):List bQ×Bool:=dy n pl made b d r q.1 q.2.1 q.2.2 out
def sK (n:Nat) (pl made:Int) (b:List Int) (d:Dc) (r:RH) (v:Int) (q:Q3) (out:List bQ):List bQ×Bool:=
 let y:=fY r v
 if y.1=true then if g6 y.2.t made=true∧bq y.2.t≤pl-made then B5 n pl (made+bq y.2.t) b d y.2 q (out++ [y.2.t]) else ([],false)
 else B5 n pl made b d y.2 q out
theorem HN {n:Nat} {pl made:Int} {b:List Int} {d:Dc} {r:RH} {q:Q3} {out:List bQ} (h:(cI b d).1=false):B5 (n+1) pl made b d r q out=([],false):=by
 unfold B5;rw[dy];simp only;rw[if_neg (by rw[h];simp)]
theorem HO {n:Nat} {pl made:Int} {b:List Int} {d:Dc} {r:RH} {q:Q3} {out:List bQ} (h:(cI b d).1=true) (hm:made≠pl):
  B5 (n+1) pl made b d r q out=
   (let x:=fZ r q.1 q.2.1 q.2.2 (cI b d).2.2
    if 2*r.node+x.1<kA r.part then B5 n pl made (cI b d).2.1 x.2.2.2.2.2 ⟨x.2.1.cs,r.bh,r.part,2*r.node+x.1,r.t⟩ (x.2.2.1,x.2.2.2.1,x.2.2.2.2.1) out
    else sK n pl made (cI b d).2.1 x.2.2.2.2.2 ⟨x.2.1.cs,r.bh,r.part,1,r.t⟩ (2*r.node+x.1-kA r.part) (x.2.2.1,x.2.2.2.1,x.2.2.2.2.1) out):=by
 unfold B5;rw[dy];simp only
 rw[if_pos h,if_neg hm]
 unfold c7
 simp only
 split
 ·rw[if_neg (by simp)]
 ·unfold sK B5
  simp only
  split
  ·rw[if_pos rfl]
  ·rw[if_neg (by simp)]
theorem adX {r:RH} (h:1≤r.part∧r.part≤3) (q:Q3) (d:Dc):
  fZ r q.1 q.2.1 q.2.2 d=((aQ (dz (oJ r.part q) r.node) d).1,r,(v7 r.part q (bZ (oJ r.part q) r.node (aQ (dz (oJ r.part q) r.node) d).1)).1,(v7 r.part q (bZ (oJ r.part q) r.node (aQ (dz (oJ r.part q) r.node) d).1)).2.1,(v7 r.part q (bZ (oJ r.part q) r.node (aQ (dz (oJ r.part q) r.node) d).1)).2.2,(aQ (dz (oJ r.part q) r.node) d).2.2):=by
 unfold fZ oJ v7
 rw[if_neg (by omega),if_neg (by omega)]
 split
 ·rfl
 ·split<;>rfl
theorem v8 {pl made:Int} (hm:made≠pl) (cs:List Int) (bN:Int) (out:List bQ): ∀ (k j n:Nat) (b:List Int) (d:Dc) (r:RH) (q:Q3),1≤r.part∧r.part≤3→kA r.part=2 ^ (j+(k+1))→2 ^ j≤r.node→r.node<2 ^ (j+1)→
  let m:=bb ⟨b,cs,bN,false⟩ d
  let T:=aA (k+1) r.node m.1 m.2 (oJ r.part q)
  (T.2.1.bad=true∧B5 (n+(k+1)) pl made b d r q out=([],false))∨
  ∃ b' d',bb ⟨b',cs,bN,false⟩ d'=(T.2.1,T.2.2.1)∧B5 (n+(k+1)) pl made b d r q out=sK n pl made b' d' ⟨r.cs,r.bh,r.part,1,r.t⟩ (T.1-kA r.part) (v7 r.part q T.2.2.2) out
 |k,j,n,b,d,r,q,h1,h2,h3,h4=>by
  obtain ⟨f1,f2⟩:=rv b cs bN d
  obtain ⟨c1,c2⟩:=dT ⟨b,cs,bN,false⟩ d
  generalize hmm:bb ⟨b,cs,bN,false⟩ d=m at*
  simp only
  cases hf:(cI b d).1 with
  |false=>
   rw[hf] at f1
   exact .inl ⟨kb _ _ _ _ f1,by rw[← Nat.add_assoc];exact HN hf⟩
  |true=>
   obtain ⟨f3,f4⟩:=f2 hf
   rw[hf] at f1
   have em:m.1=⟨m.1.b,cs,bN,false⟩:=by
    obtain ⟨⟨a1,a2,a3,a4⟩,a5⟩:=m
    simp only at c1 c2 f1 ⊢
    rw[c1,c2,f1];rfl
   have hb:=gK (dz (oJ r.part q) r.node) m.2
   rw[← Nat.add_assoc,HO hf hm,f3,f4,adX h1]
   simp only
   rw[aA]
   generalize aQ (dz (oJ r.part q) r.node) m.2=x at*
   cases k with
   |zero=>
    have hp:(2:Int) ^ (j+1)=2*2 ^ j:=by rw[Int.pow_succ,Int.mul_comm]
    rw[Nat.zero_add] at h2
    rw[if_neg (by omega),aA]
    refine .inr ⟨m.1.b,x.2.2,?_,rfl⟩
    rw[← em]
   |succ k=>
    have hp:(2:Int) ^ (j+1)=2*2 ^ j:=by rw[Int.pow_succ,Int.mul_comm]
    have Zb:(2:Int) ^ (j+1+1)=2*2 ^ (j+1):=by rw[Int.pow_succ,Int.mul_comm]
    have hp2:(2:Int) ^ (j+1+1)≤2 ^ (j+(k+1+1)):=eZ (by omega)
    rw[if_pos (by omega)]
    have ih:=v8 hm cs bN out k (j+1) n m.1.b x.2.2 ⟨r.cs,r.bh,r.part,2*r.node+x.1,r.t⟩ (v7 r.part q (bZ (oJ r.part q) r.node x.1)) h1 (by rw[h2];congr 1;omega) (by simp only;omega) (by simp only;omega)
    simp only[aiZ,ai0] at ih
    rw[← em] at ih
    exact ih
theorem Lg {pl made:Int} (hm:made≠pl) (cs:List Int) (bN:Int) (out:List bQ): ∀ (k j n:Nat) (b:List Int) (d:Dc) (r:RH) (q:Q3),r.part=4→kA r.part=2 ^ (j+(k+1))→2 ^ j≤r.node→r.node<2 ^ (j+1)→
  let m:=bb ⟨b,cs,bN,false⟩ d
  let T:=cb (k+1) r.node m.1 m.2
  (T.2.1.bad=true∧B5 (n+(k+1)) pl made b d r q out=([],false))∨
  ∃ b' d',bb ⟨b',cs,bN,false⟩ d'=(T.2.1,T.2.2)∧B5 (n+(k+1)) pl made b d r q out=sK n pl made b' d' ⟨r.cs,r.bh,r.part,1,r.t⟩ (T.1-kA r.part) q out
 |k,j,n,b,d,r,q,h1,h2,h3,h4=>by
  obtain ⟨f1,f2⟩:=rv b cs bN d
  obtain ⟨c1,c2⟩:=dT ⟨b,cs,bN,false⟩ d
  generalize hmm:bb ⟨b,cs,bN,false⟩ d=m at*
  simp only
  cases hf:(cI b d).1 with
  |false=>
   rw[hf] at f1
   exact .inl ⟨mR _ _ _ f1,by rw[← Nat.add_assoc];exact HN hf⟩
  |true=>
   obtain ⟨f3,f4⟩:=f2 hf
   rw[hf] at f1
   have em:m.1=⟨m.1.b,cs,bN,false⟩:=by
    obtain ⟨⟨a1,a2,a3,a4⟩,a5⟩:=m
    simp only at c1 c2 f1 ⊢
    rw[c1,c2,f1];rfl
   have hb:=vH m.2
   have an2:fZ r q.1 q.2.1 q.2.2 m.2=((bP m.2).1,r,q.1,q.2.1,q.2.2,(bP m.2).2):=by
    unfold fZ;rw[if_neg (by omega),if_pos h1]
   rw[← Nat.add_assoc,HO hf hm,f3,f4,an2]
   simp only
   rw[cb]
   generalize bP m.2=x at*
   cases k with
   |zero=>
    have hp:(2:Int) ^ (j+1)=2*2 ^ j:=by rw[Int.pow_succ,Int.mul_comm]
    rw[Nat.zero_add] at h2
    rw[if_neg (by omega),cb]
    refine .inr ⟨m.1.b,x.2,?_,rfl⟩
    rw[← em]
   |succ k=>
    have hp:(2:Int) ^ (j+1)=2*2 ^ j:=by rw[Int.pow_succ,Int.mul_comm]
    have Zb:(2:Int) ^ (j+1+1)=2*2 ^ (j+1):=by rw[Int.pow_succ,Int.mul_comm]
    have hp2:(2:Int) ^ (j+1+1)≤2 ^ (j+(k+1+1)):=eZ (by omega)
    rw[if_pos (by omega)]
    have ih:=Lg hm cs bN out k (j+1) n m.1.b x.2 ⟨r.cs,r.bh,r.part,2*r.node+x.1,r.t⟩ q h1 (by rw[h2];congr 1;omega) (by simp only;omega) (by simp only;omega)
    simp only at ih
    rw[← em] at ih
    exact ih
theorem ai1 {pl made:Int} (hm:made≠pl) (n:Nat) (b:List Int) (d:Dc) (r:RH) (q:Q3) (out:List bQ) (h0:r.part=0) (h1:r.node=1) (hq:r.bh=0∨r.bh=1):
  let m:=bb ⟨b,r.cs,r.bh,false⟩ d
  let X:=cu m.1 m.2 q.1 q.2.1 q.2.2
  (X.2.1.bad=true∧B5 (n+21) pl made b d r q out=([],false))∨
  ∃ n' b' d' r',n≤n'∧r'.part=0∧r'.node=1∧(r'.bh=0∨r'.bh=1)∧bb ⟨b',r'.cs,r'.bh,false⟩ d'=(X.2.1,X.2.2.1)∧
   B5 (n+21) pl made b d r q out=if g6 X.1 made=true∧bq X.1≤pl-made then B5 n' pl (made+bq X.1) b' d' r' X.2.2.2 (out++ [X.1]) else ([],false):=by
 obtain ⟨f1,f2⟩:=rv b r.cs r.bh d
 obtain ⟨c1,c2⟩:=dT ⟨b,r.cs,r.bh,false⟩ d
 generalize hmm:bb ⟨b,r.cs,r.bh,false⟩ d=m at*
 simp only
 simp only at c1 c2
 cases hf:(cI b d).1 with
 |false=>
  rw[hf] at f1
  have hc:(kW m.1 m.2).2.1.bad=true:=by unfold kW;simp only;rw[x7 (by exact f1)];exact f1
  refine .inl ⟨?_,HN hf⟩
  unfold cu
  simp only
  split
  ·exact kb _ _ _ _ hc
  ·exact mR _ _ _ (kb _ _ _ _ (kb _ _ _ _ hc))
 |true=>
  obtain ⟨f3,f4⟩:=f2 hf
  rw[hf] at f1
  have hb:=gK (r.cs.getD r.bh.toNat 0) m.2
  have an2:fZ r q.1 q.2.1 q.2.2 m.2=((aQ (r.cs.getD r.bh.toNat 0) m.2).1,⟨r.cs.set r.bh.toNat (aQ (r.cs.getD r.bh.toNat 0) m.2).2.1,r.bh,r.part,r.node,r.t⟩,q.1,q.2.1,q.2.2,(aQ (r.cs.getD r.bh.toNat 0) m.2).2.2):=by
   unfold fZ;rw[if_pos h0]
  have avQ:kW m.1 m.2=((aQ (r.cs.getD r.bh.toNat 0) m.2).1,bb ⟨m.1.b,r.cs.set r.bh.toNat (aQ (r.cs.getD r.bh.toNat 0) m.2).2.1,(aQ (r.cs.getD r.bh.toNat 0) m.2).1,false⟩ (aQ (r.cs.getD r.bh.toNat 0) m.2).2.2):=by
   unfold kW;simp only;rw[c1,c2,f1];rfl
  generalize aQ (r.cs.getD r.bh.toNat 0) m.2=x at*
  have avR:kA r.part=2:=by rw[h0];rfl
  have erd:B5 (n+21) pl made b d r q out=B5 (n+20) pl made m.1.b x.2.2 ⟨r.cs.set r.bh.toNat x.2.1,x.1,if x.1=1 then 2 else 1,1,(0,0,0)⟩ q out:=by
   rw[show n+21=(n+20)+1 from rfl,HO hf hm,f3,f4,an2]
   simp only
   rw[avR,h1,if_neg (by omega)]
   unfold sK fY
   simp only
   rw[if_pos h0]
   simp only
   rw[if_neg (by simp),show 2*1+x.1-2=x.1 from by omega]
  rw[erd]
  generalize hcs:r.cs.set r.bh.toNat x.2.1=cs at*
  unfold cu
  rw[avQ]
  simp only
  by_cases hx:x.1=0
  ·simp only[hx,if_true]
   rw[if_neg (show ¬ (0:Int)=1 by omega)]
   have hs:=v8 hm cs 0 out 7 0 (n+12) m.1.b x.2.2 ⟨cs,0,1,1,(0,0,0)⟩ q (by simp) (by simp only;decide) (by simp) (by simp)
   simp only[show oJ 1 q=q.1 from rfl,Nat.reduceAdd] at hs
   rw[show n+12+8=n+20 from rfl] at hs
   generalize aA 8 1 (bb ⟨m.1.b,cs,0,false⟩ x.2.2).1 (bb ⟨m.1.b,cs,0,false⟩ x.2.2).2 q.1=T at*
   rcases hs with ⟨s1,s2⟩|⟨b',d',s1,s2⟩
   ·exact .inl ⟨s1,s2⟩
   ·refine .inr ⟨n+12,b',d',⟨cs,0,0,1,(0,0,T.1-256)⟩,by omega,rfl,rfl,.inl rfl,s1,?_⟩
    rw[s2]
    rfl
  ·have Ft:x.1=1:=by omega
   simp only[Ft,if_true]
   rw[if_neg (show ¬ (1:Int)=0 by omega)]
   have hs:=v8 hm cs 1 out 7 0 (n+12) m.1.b x.2.2 ⟨cs,1,2,1,(0,0,0)⟩ q (by simp) (by simp only;decide) (by simp) (by simp)
   simp only[show oJ 2 q=q.2.1 from rfl,Nat.reduceAdd] at hs
   rw[show n+12+8=n+20 from rfl] at hs
   simp only[Ft,if_neg (show ¬ (1:Int)=0 by omega)]
   generalize aA 8 1 (bb ⟨m.1.b,cs,1,false⟩ x.2.2).1 (bb ⟨m.1.b,cs,1,false⟩ x.2.2).2 q.2.1=T at*
   rcases hs with ⟨s1,s2⟩|⟨b',d',s1,s2⟩
   ·exact .inl ⟨mR _ _ _ (kb _ _ _ _ s1),s2⟩
   ·have e2:sK (n+12) pl made b' d' ⟨cs,1,2,1,(0,0,0)⟩ (T.1-kA 2) (v7 2 q T.2.2.2) out=B5 (n+12) pl made b' d' ⟨cs,1,3,1,(T.1-256+2,0,0)⟩ (q.1,T.2.2.2,q.2.2) out:=rfl
    rw[e2] at s2
    have hs:=v8 hm cs 1 out 5 0 (n+6) b' d' ⟨cs,1,3,1,(T.1-256+2,0,0)⟩ (q.1,T.2.2.2,q.2.2) (by simp) (by simp only;decide) (by simp) (by simp)
    simp only[show oJ 3 (q.1,T.2.2.2,q.2.2)=q.2.2 from rfl,Nat.reduceAdd,s1] at hs
    rw[show n+6+6=n+12 from rfl] at hs
    generalize aA 6 1 T.2.1 T.2.2.1 q.2.2=U at*
    rcases hs with ⟨u1,u2⟩|⟨b2,d2,u1,u2⟩
    ·exact .inl ⟨mR _ _ _ u1,s2.trans u2⟩
    ·have e3:sK (n+6) pl made b2 d2 ⟨cs,1,3,1,(T.1-256+2,0,0)⟩ (U.1-kA 3) (v7 3 (q.1,T.2.2.2,q.2.2) U.2.2.2) out=B5 (n+6) pl made b2 d2 ⟨cs,1,4,1,(T.1-256+2,(U.1-64)*64,0)⟩ (q.1,T.2.2.2,U.2.2.2) out:=rfl
     rw[e3] at u2
     have hs:=Lg hm cs 1 out 5 0 n b2 d2 ⟨cs,1,4,1,(T.1-256+2,(U.1-64)*64,0)⟩ (q.1,T.2.2.2,U.2.2.2) rfl (by simp only;decide) (by simp) (by simp)
     simp only[Nat.reduceAdd,u1] at hs
     rw[yU 6 (U.1-64) 1]
     generalize cb 6 1 U.2.1 U.2.2.1=V at*
     rcases hs with ⟨v1,v2⟩|⟨b3,d3,v1,v2⟩
     ·exact .inl ⟨v1,s2.trans (u2.trans v2)⟩
     ·refine .inr ⟨n,b3,d3,⟨cs,1,0,1,(T.1-256+2,(U.1-64)*64+(V.1-64+1),0)⟩,Nat.le_refl _,rfl,rfl,.inr rfl,v1,?_⟩
      rw[s2,u2,v2]
      have et:V.1+2 ^ 6*(U.1-64-1)+1=(U.1-64)*64+(V.1-64+1):=by
       rw[show (2:Int) ^ 6=64 from by decide];omega
      simp only[et]
      rfl
def cC:List bQ→Int
 | []=>0
 |t::l=>bq t+cC l
theorem iv: ∀ (l m:List bQ),cC (l++m)=cC l+cC m
 | [],m=>by simp[cC]
 |t::l,m=>by rw[List.cons_append,cC,cC,iv l m];omega
theorem iw: ∀ (l m:List bQ) (made:Int),aW made (l++m)=(aW made l&&aW (made+cC l) m)
 | [],m,made=>by simp[cC,aW]
 |t::l,m,made=>by
  rw[List.cons_append,aW,aW,cC,iw l m,Int.add_assoc];simp only[Bool.and_assoc]
theorem B6: ∀ (l:List bQ) (made:Int) (o:List Int),aW made l=true→(o.length:Int)=made→((cY o l).length:Int)=made+cC l
 | [],made,o,_,h=>by rw[cY,cC,h,Int.add_zero]
 |t::l,made,o,hr,h=>by
  rw[aW,Bool.and_eq_true,Bool.and_eq_true] at hr
  have:=Bo (o:=o) hr.1.1
  rw[cY,cC,B6 l (made+bq t) (ze o t) hr.2 (by omega)]
  omega
theorem Qf {l:List bQ} (h:aW 0 l=true):((dO l).length:Int)=cC l:=by
 unfold dO;rw[if_pos h,B6 l 0 [] h rfl,Int.zero_add]
def sL (u:RB×Dc×List Int×List Int×List Int×List bQ):List bQ:=u.2.2.2.2.2
theorem pN {k:Nat} {pl n:Int} {r:RB} {d:Dc} {p1 p2 p3:List Int} {l:List bQ} (h: ¬ (n<pl∧r.bad=false)):iF k pl n r d p1 p2 p3 l=(r,d,p1,p2,p3,l):=by
 cases k with
 |zero=>rfl
 |succ k=>rw[iF,if_neg h]
theorem Ui: ∀ (k:Nat) (pl n:Int) (r:RB) (d:Dc) (p1 p2 p3:List Int) (l:List bQ),∃ m,sL (iF k pl n r d p1 p2 p3 l)=l++m
 |0,_,_,_,_,_,_,_,l=>⟨[],by simp[iF,sL]⟩
 |k+1,pl,n,r,d,p1,p2,p3,l=>by
  rw[iF]
  simp only
  split
  ·obtain ⟨m,hm⟩:=Ui k pl (n+bq (cu r d p1 p2 p3).1) (cu r d p1 p2 p3).2.1 (cu r d p1 p2 p3).2.2.1 (cu r d p1 p2 p3).2.2.2.1 (cu r d p1 p2 p3).2.2.2.2.1 (cu r d p1 p2 p3).2.2.2.2.2 (l++ [(cu r d p1 p2 p3).1])
   exact ⟨(cu r d p1 p2 p3).1::m,by rw[hm];simp⟩
  ·exact ⟨[],by simp[sL]⟩
theorem Qg {pl:Int} (Zp:pl≤8192): ∀ (m k n:Nat) (made:Int) (b:List Int) (d:Dc) (r:RH) (q:Q3) (out:List bQ),(pl-made).toNat≤m→m<k→21*m+1≤n→r.part=0→r.node=1→(r.bh=0∨r.bh=1)→made≤pl→aW 0 out=true→cC out=made→
  let M:=bb ⟨b,r.cs,r.bh,false⟩ d
  let U:=iF k pl made M.1 M.2 q.1 q.2.1 q.2.2 out
  B5 n pl made b d r q out=if U.1.bad=false∧aW 0 (sL U)=true∧cC (sL U)=pl then (sL U,true) else ([],false)
 |m,k,n,made,b,d,r,q,out,h1,h2,h3,h4,h5,h6,h7,h8,h9=>by
  have hts:=fun hm n0=>ai1 (pl:=pl) (made:=made) hm n0 b d r q out h4 h5 h6
  obtain ⟨f1,f2⟩:=rv b r.cs r.bh d
  simp only at hts ⊢
  generalize bb ⟨b,r.cs,r.bh,false⟩ d=M at*
  obtain ⟨n,rfl⟩: ∃ n0,n=n0+1:=⟨n-1,by omega⟩
  cases hf:(cI b d).1 with
  |false=>
   rw[hf] at f1
   have f1:M.1.bad=true:=f1
   rw[HN hf,pN (by rw[f1];simp),if_neg (by simp[f1])]
  |true=>
   rw[hf] at f1
   have f1:M.1.bad=false:=f1
   by_cases hm:made=pl
   ·rw[pN (by omega)]
    rw[if_pos ⟨f1,h8,h9.trans hm⟩]
    unfold B5
    rw[dy]
    simp only
    rw[if_pos hf,if_pos hm];rfl
   ·obtain ⟨m,rfl⟩: ∃ m0,m=m0+1:=⟨m-1,by omega⟩
    obtain ⟨k,rfl⟩: ∃ k0,k=k0+1:=⟨k-1,by omega⟩
    obtain ⟨n,rfl⟩: ∃ n0,n=n0+20:=⟨n-20,by omega⟩
    have hs:=hts hm n
    have eU:iF (k+1) pl made M.1 M.2 q.1 q.2.1 q.2.2 out=(let x:=cu M.1 M.2 q.1 q.2.1 q.2.2
      iF k pl (made+bq x.1) x.2.1 x.2.2.1 x.2.2.2.1 x.2.2.2.2.1 x.2.2.2.2.2 (out++ [x.1])):=by
     rw[iF,if_pos ⟨by omega,f1⟩]
    rw[eU,show n+20+1=n+21 from rfl]
    simp only
    generalize cu M.1 M.2 q.1 q.2.1 q.2.2=X at*
    rcases hs with ⟨s1,s2⟩|⟨n',b',d',r',s1,s2,s3,s4,s5,s6⟩
    ·rw[s2,pN (by rw[s1];simp),if_neg (by simp[s1])]
    ·rw[s6]
     by_cases hc:g6 X.1 made=true∧bq X.1≤pl-made
     ·rw[if_pos hc]
      have hl:=ie hc.1
      have ih:=Qg Zp m k n' (made+bq X.1) b' d' r' X.2.2.2 (out++ [X.1]) (by omega) (by omega) (by omega) s2 s3 s4 (by omega)
       (by rw[iw,h8,h9,Int.zero_add,aW,aW,hc.1];simp;omega) (by rw[iv,h9];simp[cC])
      simp only[s5] at ih
      exact ih
     ·rw[if_neg hc,if_neg]
      rintro ⟨u1,u2,u3⟩
      obtain ⟨z,hz⟩:=Ui k pl (made+bq X.1) X.2.1 X.2.2.1 X.2.2.2.1 X.2.2.2.2.1 X.2.2.2.2.2 (out++ [X.1])
      have an3:g6 X.1 made=true:=by
       rw[hz,List.append_assoc,iw,h9,Int.zero_add,List.cons_append,aW] at u2
       simp only[Bool.and_eq_true] at u2
       exact u2.2.1.1
      have azD:pl<made+bq X.1:=Int.not_le.1 fun hh=>hc ⟨an3,by omega⟩
      rw[pN (by omega)] at u3
      simp only[sL,iv,cC] at u3
      omega
end Go.Proofs.YtjalaohajcpllaaGreat
end
section
set_option linter.unusedVariables false
set_option linter.unusedSimpArgs false
namespace Go.Proofs.YtjalaohajcpllaaGreat
open Go Go.Ev
set_option maxRecDepth 1000000
theorem Al: ∀ (k:Nat) (n:Int) (r:RB) (d:Dc) (p:List Int) (x:Int),1≤n→aA k n r d (p.set 0 x)=((aA k n r d p).1,(aA k n r d p).2.1,(aA k n r d p).2.2.1,(aA k n r d p).2.2.2.set 0 x)
 |0,_,_,_,_,_,_=>rfl
 |k+1,n,r,d,p,x,h=>by
  have hb:=gK (dz p n) d
  rw[aA,aA]
  simp only[ary p x h,abN p x _ h]
  exact Al k _ _ _ _ x (by omega)
theorem an4 (r:RB) (d:Dc) (p1 p2 p3:List Int) (x:Int):
  cu r d (p1.set 0 x) (p2.set 0 x) (p3.set 0 x)=((cu r d p1 p2 p3).1,(cu r d p1 p2 p3).2.1,(cu r d p1 p2 p3).2.2.1,(cu r d p1 p2 p3).2.2.2.1.set 0 x,(cu r d p1 p2 p3).2.2.2.2.1.set 0 x,(cu r d p1 p2 p3).2.2.2.2.2.set 0 x):=by
 unfold cu
 simp only
 split
 ·rw[Al 8 1 _ _ p1 x (by omega)]
 ·rw[Al 8 1 _ _ p2 x (by omega),Al 6 1 _ _ p3 x (by omega)]
theorem amc: ∀ (k:Nat) (pl n:Int) (r:RB) (d:Dc) (p1 p2 p3:List Int) (l:List bQ) (x:Int),
  (iF k pl n r d (p1.set 0 x) (p2.set 0 x) (p3.set 0 x) l).1=(iF k pl n r d p1 p2 p3 l).1∧sL (iF k pl n r d (p1.set 0 x) (p2.set 0 x) (p3.set 0 x) l)=sL (iF k pl n r d p1 p2 p3 l)
 |0,_,_,_,_,_,_,_,_,_=>⟨rfl,rfl⟩
 |k+1,pl,n,r,d,p1,p2,p3,l,x=>by
  rw[iF,iF]
  simp only[an4]
  split
  ·exact amc k _ _ _ _ _ _ _ _ x
  ·exact ⟨rfl,rfl⟩
theorem adY: ∀ (k:Nat) (pl n:Int) (r:RB) (d:Dc) (p1 p2 p3:List Int) (l:List bQ),Jf r d p1 p2 p3→lr l→
  lr (sL (iF k pl n r d p1 p2 p3 l))∧(sL (iF k pl n r d p1 p2 p3 l)).length≤l.length+k
 |0,_,_,_,_,_,_,_,_,_,h=>⟨h,Nat.le_refl _⟩
 |k+1,pl,n,r,d,p1,p2,p3,l,h1,h2=>by
  rw[iF]
  simp only
  split
  ·obtain ⟨t1,t2,t3,t4,t5,t6,t7⟩:=Ug h1
   generalize cu r d p1 p2 p3=X at*
   obtain ⟨k1,k2⟩:=adY k pl (n+bq X.1) X.2.1 X.2.2.1 X.2.2.2.1 X.2.2.2.2.1 X.2.2.2.2.2 (l++ [X.1]) t1 (by
    intro t ht
    rw[List.mem_append] at ht
    rcases ht with ht|ht
    ·exact h2 t ht
    ·have:t=X.1:=by simpa using ht
     rw[this];exact ⟨t2,t3⟩)
   refine ⟨k1,Nat.le_trans k2 (by simp;omega)⟩
  ·exact ⟨h2,by simp[sL]⟩
noncomputable abbrev an5:au:=kB.or (kB.aay 0 5 2 .i64)
theorem adZ:an5.Ok Tryz.prog 69:=gF.or (gF.aay 0 5 2 .i64)
abbrev Lh:Type:=(List Int)×Int×Int×RB×(Int×Int×Int)×Int×(List Int)×Int×(List Int)×Int×(List Int)×(List (Int×Int×
 Int))
noncomputable abbrev EB:a9 St Lh:=(bH (ae (ah (dB false false (Ty.int IntKind.u8))) (ae (ah (ay IntKind.i64)) (jk 4 (ak
 (ah (aJ (0) (0))) (ak (ah (jY (8) (0))) (ae (ah (ay IntKind.i64)) (jk 67 ag))))))) (ae (bG Hy) (ae (bG jJ) (ae
 (bG GY) (ae (cg (0) (Ty.int IntKind.i64)) (ae (bG GZ) (ae (cg (0) (Ty.int IntKind.i64)) (ae (bG G0) (ae (cg (0)
 (Ty.int IntKind.i64)) (ae (cg (0) ((Ty.int IntKind.i64).pair ((Ty.int IntKind.i64).pair (Ty.int IntKind.u8)))) ag)))))))))).jQ (fun y=>
 (y.1.1,y.1.2.1,y.1.2.2.1,y.2.1,y.2.2.1,y.2.2.2.1,y.2.2.2.2.1,y.2.2.2.2.2.1,y.2.2.2.2.2.2.1,y.2.2.2.2.2.2.2.1,y.2.2.2.2.2.2.2.2.1,
 y.2.2.2.2.2.2.2.2.2.1)) (fun x=>((x.1,(x.2.1,(x.2.2.1,()))),(x.2.2.2.1,(x.2.2.2.2.1,(x.2.2.2.2.2.1,(x.2.2.2.2.2.2.1,(x.2.2.2.2.2.2.2.1,
 (x.2.2.2.2.2.2.2.2.1,(x.2.2.2.2.2.2.2.2.2.1,(x.2.2.2.2.2.2.2.2.2.2.1,(x.2.2.2.2.2.2.2.2.2.2.2,()))))))))))) (fun _=>rfl)
abbrev Uj:List Wk:= [.ct 4 dw,.ct 7 dw,.fr (cK 76 [(0,.an),(1,.an),(6,.an),(7,.an),(8,.an)]),.syms,.auto,.ax]
abbrev amd:Exit→List Wk:=qI Uj 0 [.ct 4 dw,.ct 7 dw,.fr (cK 76 [(0,.an),(1,.an),(6,.an),(7,.an)]),.syms,.auto,
 .ax] [.ct 4 dw,.ct 7 dw,.fr (cK 76 [(4,.an),(5,.an)]),.syms,.auto,.ax]
abbrev ame:Type:=(List Int)×Int×RB×(Int×Int×Int)×Int×(List Int)×Int×(List Int)×Int×(List Int)×(List (Int×Int×Int))
noncomputable abbrev Uk (x:ame):Exit×St:=(Exit.exit 0,⟨(LV.one (VV.sc (SV.rd false false (Ty.int IntKind.u8) x.1))::(LV.one (VV.sc
 (SV.int IntKind.i64 (SI.sym x.2.1)))::(eE 4 (LV.one (VV.sc (SV.ptr 0 0))::(LV.one (VV.sc (SV.sl 8 0))::(eE 68 [])))))),[some (Hy.wr x.2.2.1),
 some (jJ.wr x.2.2.2.1),some (GY.wr x.2.2.2.2.1),some (Item.own 0 (Ty.int IntKind.i64) x.2.2.2.2.2.1),some (GZ.wr x.2.2.2.2.2.2.1),some
 (Item.own 0 (Ty.int IntKind.i64) x.2.2.2.2.2.2.2.1),some (G0.wr x.2.2.2.2.2.2.2.2.1),some (Item.own 0 (Ty.int IntKind.i64) x.2.2.2.2.2.2.2.2.2.1),
 some (Item.own 0 ((Ty.int IntKind.i64).pair ((Ty.int IntKind.i64).pair (Ty.int IntKind.u8))) x.2.2.2.2.2.2.2.2.2.2)]⟩)
noncomputable def Li (b':List Int) (pl:Int) (n:Int) (r:RB) (d:Int×Int×Int) (b1:Int) (p1:List Int) (b2:Int) (p2:List Int) (b3:
 Int) (p3:List Int) (l:List (Int×Int×Int)):Tr (Lh⊕(ame)):=(.ite (decide (n<pl)==true) (.ite (!r.bad) (.need (v5 r d b1 p1 b2
 p2 b3 p3) (.need ((l.length+1)*24≤70368744177664∧l.length+1≤70368744177664) (.ite ((cu r d p1 p2 p3).fst.fst==0) (.ret (.inl (b',pl,
 IntKind.i64.wrap (IntKind.i64.wrap (n+1)+(cu r d p1 p2 p3).fst.fst),(cu r d p1 p2 p3).snd.fst,(cu r d p1 p2 p3).snd.snd.fst,b1,(cu r d
 p1 p2 p3).snd.snd.snd.fst,b2,(cu r d p1 p2 p3).snd.snd.snd.snd.fst,b3,(cu r d p1 p2 p3).snd.snd.snd.snd.snd,l++ [(cu r d p1 p2 p3).fst])))
 (.ret (.inl (b',pl,IntKind.i64.wrap (n+(cu r d p1 p2 p3).fst.fst),(cu r d p1 p2 p3).snd.fst,(cu r d p1 p2 p3).snd.snd.fst,b1,(cu r d p1
 p2 p3).snd.snd.snd.fst,b2,(cu r d p1 p2 p3).snd.snd.snd.snd.fst,b3,(cu r d p1 p2 p3).snd.snd.snd.snd.snd,l++ [(cu r d p1 p2 p3).fst]))))))
 (.ret (.inr (b',pl,r,d,b1,p1,b2,p2,b3,p3,l)))) (.ret (.inr (b',pl,r,d,b1,p1,b2,p2,b3,p3,l))))
theorem Xp (b:List Int) (plain:Int) (b':List Int) (pl:Int) (n:Int) (r:RB) (d:Int×Int×Int) (b1:Int) (p1:List Int) (b2:Int) (p2:List Int) (b3:Int) (p3:List Int) (l:List (Int×Int×Int)):c8 Tryz.prog [(67,acn),(68,xF),(69,an5),(70,adW),(71,j0),(41,zN),(64,G2)] [] Tryz.f40 0 ((ag).wr (())) amd (EB.wr (b',pl,n,r,d,b1,p1,b2,p2,b3,p3,l))=(Li b' pl n r d b1 p1 b2 p2 b3 p3 l).res EB.wr Uk:=by kernel_rfl
abbrev v9 (b':List Int) (pl:Int) (n:Int) (r:RB) (d:Int×Int×Int) (b1:Int) (p1:List Int) (b2:Int) (p2:List Int) (b3:Int) (p3:List Int) (l:List (Int×Int×Int)):Prop:=Jf r d p1 p2 p3∧b1=8∧b2=8∧b3=6∧0≤n∧pl≤8192∧n≤9000∧l.length≤n
noncomputable abbrev Ul (x_:Lh):a6:= .need ((fun (b':List Int) (pl:Int) (n:Int) (r:RB) (d:Int×Int×Int) (b1:Int) (p1:List Int) (b2:Int) (p2:List Int) (b3:Int) (p3:List Int) (l:List (Int×Int×Int))=>v9 b' pl n r d b1 p1 b2 p2 b3 p3 l) x_.1 x_.2.1 x_.2.2.1 x_.2.2.2.1 x_.2.2.2.2.1 x_.2.2.2.2.2.1 x_.2.2.2.2.2.2.1 x_.2.2.2.2.2.2.2.1 x_.2.2.2.2.2.2.2.2.1 x_.2.2.2.2.2.2.2.2.2.1 x_.2.2.2.2.2.2.2.2.2.2.1 x_.2.2.2.2.2.2.2.2.2.2.2) (.leaf (Uk ((fun (b':List Int) (pl:Int) (n:Int) (r:RB) (d:Int×Int×Int) (b1:Int) (p1:List Int) (b2:Int) (p2:List Int) (b3:Int) (p3:List Int) (l:List (Int×Int×Int))=>(b',pl,(iF 9000 pl n r d p1 p2 p3 l).1,(iF 9000 pl n r d p1 p2 p3 l).2.1,b1,(iF 9000 pl n r d p1 p2 p3 l).2.2.1,b2,(iF 9000 pl n r d p1 p2 p3 l).2.2.2.1,b3,(iF 9000 pl n r d p1 p2 p3 l).2.2.2.2.1,(iF 9000 pl n r d p1 p2 p3 l).2.2.2.2.2)) x_.1 x_.2.1 x_.2.2.1 x_.2.2.2.1 x_.2.2.2.2.1 x_.2.2.2.2.2.1 x_.2.2.2.2.2.2.1 x_.2.2.2.2.2.2.2.1 x_.2.2.2.2.2.2.2.2.1 x_.2.2.2.2.2.2.2.2.2.1 x_.2.2.2.2.2.2.2.2.2.2.1 x_.2.2.2.2.2.2.2.2.2.2.2)).1 (Uk ((fun (b':List Int) (pl:Int) (n:Int) (r:RB) (d:Int×Int×Int) (b1:Int) (p1:List Int) (b2:Int) (p2:List Int) (b3:Int) (p3:List Int) (l:List (Int×Int×Int))=>(b',pl,(iF 9000 pl n r d p1 p2 p3 l).1,(iF 9000 pl n r d p1 p2 p3 l).2.1,b1,(iF 9000 pl n r d p1 p2 p3 l).2.2.1,b2,(iF 9000 pl n r d p1 p2 p3 l).2.2.2.1,b3,(iF 9000 pl n r d p1 p2 p3 l).2.2.2.2.1,(iF 9000 pl n r d p1 p2 p3 l).2.2.2.2.2)) x_.1 x_.2.1 x_.2.2.1 x_.2.2.2.1 x_.2.2.2.2.1 x_.2.2.2.2.2.1 x_.2.2.2.2.2.2.1 x_.2.2.2.2.2.2.2.1 x_.2.2.2.2.2.2.2.2.1 x_.2.2.2.2.2.2.2.2.2.1 x_.2.2.2.2.2.2.2.2.2.2.1 x_.2.2.2.2.2.2.2.2.2.2.2)).2)
theorem ai2 (b':List Int) (pl:Int) (n:Int) (r:RB) (d:Int×Int×Int) (b1:Int) (p1:List Int) (b2:Int) (p2:List Int) (b3:Int) (p3:List Int) (l:List (Int×Int×Int)) (h_:v9 b' pl n r d b1 p1 b2 p2 b3 p3 l):cJ (fun x_:Lh=>Li x_.1 x_.2.1 x_.2.2.1 x_.2.2.2.1 x_.2.2.2.2.1 x_.2.2.2.2.2.1 x_.2.2.2.2.2.2.1 x_.2.2.2.2.2.2.2.1 x_.2.2.2.2.2.2.2.2.1 x_.2.2.2.2.2.2.2.2.2.1 x_.2.2.2.2.2.2.2.2.2.2.1 x_.2.2.2.2.2.2.2.2.2.2.2) (b',pl,n,r,d,b1,p1,b2,p2,b3,p3,l) ((b',pl,(iF 9000 pl n r d p1 p2 p3 l).1,(iF 9000 pl n r d p1 p2 p3 l).2.1,b1,(iF 9000 pl n r d p1 p2 p3 l).2.2.1,b2,(iF 9000 pl n r d p1 p2 p3 l).2.2.2.1,b3,(iF 9000 pl n r d p1 p2 p3 l).2.2.2.2.1,(iF 9000 pl n r d p1 p2 p3 l).2.2.2.2.2)):=by
 obtain ⟨h1,rfl,rfl,rfl,h2,h3,h4,h5⟩:=h_
 obtain ⟨f,hf1,hf2⟩: ∃ f:Nat,f=9000∧(pl-n).toNat<f:=⟨9000,rfl,by omega⟩
 rw[← hf1]
 clear hf1 h4
 induction f generalizing n r d p1 p2 p3 l with
 |zero=>omega
 |succ f ih=>
  by_cases hc:n<pl∧r.bad=false
  ·obtain ⟨t1,t2,t3,t4,t5,t6,t7⟩:=Ug h1
   rw[iF,if_pos hc]
   have hk:v5 r d 8 p1 8 p2 6 p3:=⟨h1,rfl,rfl,rfl⟩
   generalize hx:cu r d p1 p2 p3=x at*
   have j9:=ih (n+bq x.1) x.2.1 x.2.2.1 x.2.2.2.1 x.2.2.2.2.1 x.2.2.2.2.2 (l++ [x.1]) t1 (by omega) (by simp;omega) (by omega)
   refine .go ?_ j9
   have e1:(decide (n<pl)==true)=true:=by simpa using hc.1
   have e2:(!r.bad)=true:=by rw[hc.2];rfl
   simp only[Li,e1,e2,aS,ai,da,aj,hx]
   refine ⟨hk,⟨by omega,by omega⟩,fun e=>?_,fun e=>?_⟩
   ·rw[aq (n:=n+1) (by omega) (by omega),e,aq (by omega) (by omega)]
    unfold bq;rw[if_pos e,Int.add_zero]
   ·have hl:bq x.1=x.1.1:=by unfold bq;rw[if_neg e]
    rw[hl] at t4 t5 ⊢
    rw[aq (by omega) (by omega)]
  ·rw[iF,if_neg hc]
   refine .stop ?_
   simp only[Li,bI,aj,aN]
   grind
theorem ad0 (b:List Int) (plain:Int): ∀ x:Lh,Ex Tryz.prog ((ag).wr (())) (.loop (aU Tryz.f40 0)) (EB.wr x) (Ul x):=
 bT mixed ((ao TX (ao pj (ao adZ (ao Uh (ao gX (ao xH (ao Bw aD)))))))) (ws:=amd) (aP.nil _) (E:=Uk) (L:=fun x_=>Li x_.1 x_.2.1 x_.2.2.1 x_.2.2.2.1 x_.2.2.2.2.1 x_.2.2.2.2.2.1 x_.2.2.2.2.2.2.1 x_.2.2.2.2.2.2.2.1 x_.2.2.2.2.2.2.2.2.1 x_.2.2.2.2.2.2.2.2.2.1 x_.2.2.2.2.2.2.2.2.2.2.1 x_.2.2.2.2.2.2.2.2.2.2.2) (pre:=fun x_=>(fun (b':List Int) (pl:Int) (n:Int) (r:RB) (d:Int×Int×Int) (b1:Int) (p1:List Int) (b2:Int) (p2:List Int) (b3:Int) (p3:List Int) (l:List (Int×Int×Int))=>v9 b' pl n r d b1 p1 b2 p2 b3 p3 l) x_.1 x_.2.1 x_.2.2.1 x_.2.2.2.1 x_.2.2.2.2.1 x_.2.2.2.2.2.1 x_.2.2.2.2.2.2.1 x_.2.2.2.2.2.2.2.1 x_.2.2.2.2.2.2.2.2.1 x_.2.2.2.2.2.2.2.2.2.1 x_.2.2.2.2.2.2.2.2.2.2.1 x_.2.2.2.2.2.2.2.2.2.2.2) (sp:=fun x_=>(fun (b':List Int) (pl:Int) (n:Int) (r:RB) (d:Int×Int×Int) (b1:Int) (p1:List Int) (b2:Int) (p2:List Int) (b3:Int) (p3:List Int) (l:List (Int×Int×Int))=>(b',pl,(iF 9000 pl n r d p1 p2 p3 l).1,(iF 9000 pl n r d p1 p2 p3 l).2.1,b1,(iF 9000 pl n r d p1 p2 p3 l).2.2.1,b2,(iF 9000 pl n r d p1 p2 p3 l).2.2.2.1,b3,(iF 9000 pl n r d p1 p2 p3 l).2.2.2.2.1,(iF 9000 pl n r d p1 p2 p3 l).2.2.2.2.2)) x_.1 x_.2.1 x_.2.2.1 x_.2.2.2.1 x_.2.2.2.2.1 x_.2.2.2.2.2.1 x_.2.2.2.2.2.2.1 x_.2.2.2.2.2.2.2.1 x_.2.2.2.2.2.2.2.2.1 x_.2.2.2.2.2.2.2.2.2.1 x_.2.2.2.2.2.2.2.2.2.2.1 x_.2.2.2.2.2.2.2.2.2.2.2) (fun x_=>Xp b plain x_.1 x_.2.1 x_.2.2.1 x_.2.2.2.1 x_.2.2.2.2.1 x_.2.2.2.2.2.1 x_.2.2.2.2.2.2.1 x_.2.2.2.2.2.2.2.1 x_.2.2.2.2.2.2.2.2.1 x_.2.2.2.2.2.2.2.2.2.1 x_.2.2.2.2.2.2.2.2.2.2.1 x_.2.2.2.2.2.2.2.2.2.2.2) (fun z e=>by cases e) dc (fun x_ h=>ai2 x_.1 x_.2.1 x_.2.2.1 x_.2.2.2.1 x_.2.2.2.2.1 x_.2.2.2.2.2.1 x_.2.2.2.2.2.2.1 x_.2.2.2.2.2.2.2.1 x_.2.2.2.2.2.2.2.2.1 x_.2.2.2.2.2.2.2.2.2.1 x_.2.2.2.2.2.2.2.2.2.2.1 x_.2.2.2.2.2.2.2.2.2.2.2 h)
noncomputable def kC (b:List Int):RB:= {b:=(bK b (0,4294967295,4)).snd.fst,cs:= [1024,1024],bN:=0,bad:= !(bK b (0,4294967295,4)).fst||fX (bK b (0,4294967295,4)).snd.snd}
noncomputable def kD (b:List Int):Int×Int×Int:=(bb {b:=b,cs:= [1024,1024],bN:=0,bad:=false} (0,4294967295,4)).snd
abbrev ad1:Type:=Int
noncomputable abbrev ad2 (x:ad1):LV:=LV.cV [VV.sc (SV.gz (Value.slice none 0 0)),VV.sc (SV.int IntKind.i64 (SI.sym x))]
noncomputable abbrev ad3 (x:ad1):List (Nat×Ev.Item):= []
abbrev ad4:Type:=Int×(List (Int×Int×Int))
noncomputable abbrev ad5 (x:ad4):LV:=LV.cV [VV.sc (SV.sl 0 0),VV.sc (SV.int IntKind.i64 (SI.sym x.1))]
noncomputable abbrev ad6 (x:ad4):List (Nat×Ev.Item):= [(0,Item.own 0 ((Ty.int IntKind.i64).pair ((Ty.int IntKind.i64).pair (Ty.int
 IntKind.u8))) x.2)]
noncomputable def Xq (b:List Int) (plain:Int):Tr (ad1⊕ad4):=(.ite (decide (plain<0)==false) (.ite (decide (8192<plain)) (.ret
 (.inl (1))) (.need (z9) (.need (fW 8) (.need (fW 8) (.need (fW 6) (.need (ga {b:=b,cs:= [1024,1024],bN:=0,bad:=false}
 (0,4294967295,4) 8 (bJ 8) 8 (bJ 8) 6 (bJ 6)) (.need (v9 b plain 0 (kC b) (kD b) 8 (bJ 8) 8 (bJ 8) 6 (bJ 6) []) (.ite
 ((iF 9000 plain 0 (kC b) (kD b) (bJ 8) (bJ 8) (bJ 6) []).fst.bad==false) (.need (iY (iF 9000 plain 0 (kC b) (kD b)
 (bJ 8) (bJ 8) (bJ 6) []).snd.snd.snd.snd.snd) (.ite ((!aW 0 (iF 9000 plain 0 (kC b) (kD b) (bJ 8) (bJ 8) (bJ 6)
 []).snd.snd.snd.snd.snd)==false) (.need (iZ (iF 9000 plain 0 (kC b) (kD b) (bJ 8) (bJ 8) (bJ 6) []).snd.snd.snd.snd.snd) (.ite
 (((↑(dO (iF 9000 plain 0 (kC b) (kD b) (bJ 8) (bJ 8) (bJ 6) []).snd.snd.snd.snd.snd).length:Int)!=plain)==false) (.need
 (kv (iF 9000 plain 0 (kC b) (kD b) (bJ 8) (bJ 8) (bJ 6) []).snd.snd.snd.snd.snd) (.ite (!cA (cS (iF 9000 plain 0 (kC b)
 (kD b) (bJ 8) (bJ 8) (bJ 6) []).snd.snd.snd.snd.snd) b) (.ret (.inl (11))) (.ret (.inr (0,(iF 9000 plain 0 (kC b) (kD b) (bJ 8)
 (bJ 8) (bJ 6) []).snd.snd.snd.snd.snd))))) (.ret (.inl (11))))) (.ret (.inl (11))))) (.ret (.inl (11))))))))))) (.ret (.inl (1))))
theorem ad7 (b:List Int) (plain:Int):aY Tryz.prog [(67,acn),(68,xF),(69,an5),(70,adW),(71,j0),(41,zN),(64,G2)] [(0,aX EB ((ag).wr (())) Uj (Ul))] Tryz.f40 (((ae (ah (dB false false u8)) (ae (ah (ay .i64)) ag))).wr (b,plain,())) ((ag).wr (())) [.ct 4 dw,.ct 7 dw,.fr [.sym],.syms,.auto,.ax]=(Xq b plain).end (Sum.elim ad2 ad5) (Sum.elim ad3 ad6) ((ag).wr (())):=by kernel_rfl
theorem ai3 (b:List Int) (plain:Int):aP Tryz.prog ((ag).wr (())) [(0,aX EB ((ag).wr (())) Uj (Ul))] (aH Tryz.f40):=(aP.cy (jr (by kernel_rfl) (bz (hp:=(ag).wr (())) (ad0 b plain)) jH))
abbrev sM (b:List Int) (plain:Int):Prop:=aC b∧b.length<1099511627776
noncomputable def arF:au:=au.bV [some u8,none] ((ae (ah (dB false false u8)) (ae (ah (ay .i64)) ag))) (ag) fun x_ y_=> .ite ((fun (b:List Int) (plain:Int)=>decide ((aT b plain).1≠0)) x_.1 x_.2.1) (.leaf (some ((fun (b:List Int) (plain:Int)=>sM b plain) x_.1 x_.2.1)) (ad2 ((fun (b:List Int) (plain:Int)=>(aT b plain).1) x_.1 x_.2.1)) (ad3 ((fun (b:List Int) (plain:Int)=>(aT b plain).1) x_.1 x_.2.1))) (.leaf (some ((fun (b:List Int) (plain:Int)=>sM b plain) x_.1 x_.2.1)) (ad5 ((fun (b:List Int) (plain:Int)=>(0,(aT b plain).2)) x_.1 x_.2.1)) (ad6 ((fun (b:List Int) (plain:Int)=>(0,(aT b plain).2)) x_.1 x_.2.1)))
theorem an6 (b:List Int) (plain:Int) (h_:sM b plain):(decide ((aT b plain).1≠0)=true→(Xq b plain).Is (.inl ((aT b plain).1)))∧(decide ((aT b plain).1≠0)=false→(Xq b plain).Is (.inr ((0,(aT b plain).2)))):=by
 obtain ⟨h1,h2⟩:=h_
 by_cases hp:plain<0∨8192<plain
 ·have e:aT b plain=(1,[]):=by unfold aT;rw[if_pos hp]
  simp only[e,Xq,bI,aN,aj]
  grind
 ·have d1:(decide (plain<0)==false)=true:=by simp;omega
  have d2:decide (8192<plain)=false:=by simp;omega
  obtain ⟨m1,m2,m3⟩:=jx (r:=⟨b,[1024,1024],0,false⟩) anZ h1 h2
  obtain ⟨c1,c2⟩:=dT ⟨b,[1024,1024],0,false⟩ (0,4294967295,4)
  have sC:kC b=(bb ⟨b,[1024,1024],0,false⟩ (0,4294967295,4)).1:=rfl
  have nF:kD b=(bb ⟨b,[1024,1024],0,false⟩ (0,4294967295,4)).2:=rfl
  have Um:=Qg (pl:=plain) (by omega) 8192 9000 200000 0 b (0,4294967295,4) Zj (bx 8,bx 8,bx 6) [] (by omega) (by omega) (by omega) rfl rfl (.inl rfl) (by omega) rfl rfl
  have oE:B5 200000 plain 0 b (0,4294967295,4) Zj (bx 8,bx 8,bx 6) []=eL b plain:=rfl
  rw[oE] at Um
  simp only[show Zj.cs= [1024,1024] from rfl,show Zj.bh=0 from rfl,← sC,← nF] at Um
  have hk:Jf (kC b) (kD b) (bJ 8) (bJ 8) (bJ 6):=by
   rw[sC,nF]
   refine ⟨m1,m2,by simp only at m3;omega,by rw[c1];rfl,by rw[c2];exact .inl rfl,?_,?_,?_⟩<;>(unfold bJ;simp)
  obtain ⟨z1,z2⟩:=amc 9000 plain 0 (kC b) (kD b) (bx 8) (bx 8) (bx 6) [] 0
  rw[← u7,← u7] at z1 z2
  rw[← z1,← z2] at Um
  obtain ⟨k1,k2⟩:=adY 9000 plain 0 (kC b) (kD b) (bJ 8) (bJ 8) (bJ 6) [] hk (fun x h=>by simp at h)
  have ad8:v9 b plain 0 (kC b) (kD b) 8 (bJ 8) 8 (bJ 8) 6 (bJ 6) []:=⟨hk,rfl,rfl,rfl,by omega,by omega,by omega,by simp⟩
  have hm:ga ⟨b,[1024,1024],0,false⟩ (0,4294967295,4) 8 (bJ 8) 8 (bJ 8) 6 (bJ 6):=⟨anZ,h1,h2⟩
  simp only[Xq,d1,d2,aS,a7,ai]
  have t8:fW 8:=by decide
  have t6:fW 6:=by decide
  unfold sL at*
  generalize iF 9000 plain 0 (kC b) (kD b) (bJ 8) (bJ 8) (bJ 6) []=U at*
  obtain ⟨ur,ud,u1,u2,u3,l⟩:=U
  simp only at Um k1 k2 ⊢
  have l1:iY l:=by show _<_;simp only[List.length_nil] at k2;omega
  have l2:iZ l:=by show _<_;simp only[List.length_nil] at k2;omega
  have l3:kv l:=⟨by simp only[List.length_nil] at k2;omega,k1⟩
  have no:(eL b plain).2=false→aT b plain=(11,[]):=fun h=>by unfold aT;rw[if_neg hp,h];simp
  cases hb:ur.bad with
  |true=>
   have e:=no (by rw[Um,hb];simp)
   simp only[e,bI,aj]
   simp
   exact ⟨t8,t6,hm,ad8⟩
  |false=>
   cases hr:aW 0 l with
   |false=>
    have e:=no (by rw[Um,hr];simp)
    simp only[e,bI,ai,aj]
    simp
    exact ⟨t8,t6,hm,ad8,l1⟩
   |true=>
    rw[Qf hr]
    by_cases hl:cC l=plain
    ·rw[if_pos ⟨hb,hr,hl⟩] at Um
     have e3:(cC l !=plain)=false:=by simpa using hl
     cases hs:cA (cS l) b with
     |true=>
      have e:aT b plain=(0,l):=by unfold aT;rw[if_neg hp,Um,if_pos ⟨rfl,hs⟩]
      simp only[e,e3,bI,ai,aj]
      simp
      exact ⟨t8,t6,hm,ad8,l1,l3⟩
     |false=>
      have e:aT b plain=(11,[]):=by unfold aT;rw[if_neg hp,Um,if_neg (by rw[hs];simp)]
      simp only[e,e3,bI,ai,aj]
      simp
      exact ⟨t8,t6,hm,ad8,l1,l3⟩
    ·have e:=no (by rw[Um,if_neg (fun h=>hl h.2.2)])
     have e3:(cC l !=plain)=true:=by simpa using hl
     simp only[e,e3,bI,ai,aj]
     simp
     exact ⟨t8,t6,hm,ad8,l1⟩
theorem an7:arF.Ok Tryz.prog 40:=
 lR (tys:= [some u8,none]) (A:=(ae (ah (dB false false u8)) (ae (ah (ay .i64)) ag))) (H:=ag) (LT:=fun x_ y_=>(fun (b:List Int) (plain:Int)=> [(0,aX EB ((ag).wr (())) Uj (Ul))]) x_.1 x_.2.1) (ks:= [.ct 4 dw,.ct 7 dw,.fr [.sym],.syms,.auto,.ax]) (V:=ad2) (D:=ad3) (V':=ad5) (D':=ad6) (T:=fun x_ y_=>Xq x_.1 x_.2.1) (pre:=fun x_ y_=>(fun (b:List Int) (plain:Int)=>sM b plain) x_.1 x_.2.1) (c:=fun x_ y_=>(fun (b:List Int) (plain:Int)=>decide ((aT b plain).1≠0)) x_.1 x_.2.1) (sp:=fun x_ y_=>(fun (b:List Int) (plain:Int)=>(aT b plain).1) x_.1 x_.2.1) (sp':=fun x_ y_=>(fun (b:List Int) (plain:Int)=>(0,(aT b plain).2)) x_.1 x_.2.1) mixed ((ao TX (ao pj (ao adZ (ao Uh (ao gX (ao xH (ao Bw aD)))))))) Tryz.func40 (by kernel_rfl) Tryz.call40 (fun x_ y_=>ai3 x_.1 x_.2.1) (fun x_ y_=>ad7 x_.1 x_.2.1) (fun x_ y_ h=>an6 x_.1 x_.2.1 h)
end Go.Proofs.YtjalaohajcpllaaGreat
end
section
set_option linter.unusedVariables false
set_option linter.unusedSimpArgs false
namespace Go.Proofs.YtjalaohajcpllaaGreat
open Go Go.Ev
set_option maxRecDepth 1000000
def iJ (l:List Int):Int:=l.foldl (fun a x=>a*256+x) 0
theorem j3 (l:List Int) (x:Int):iJ (l++ [x])=iJ l*256+x:=by simp[iJ]
theorem ry: ∀ (m l:List Int),iJ (l++m)=iJ l*256 ^ m.length+iJ m
 | [],l=>by simp[iJ]
 |x::m,l=>by
  have e:l++x::m=(l++ [x])++m:=by simp
  have h2:iJ (x::m)=iJ [x]*256 ^ m.length+iJ m:=ry m [x]
  have e1:iJ [x]=x:=by simp[iJ]
  rw[e,ry m (l++ [x]),j3,h2,e1,List.length_cons,Int.pow_succ,Int.add_mul,Int.mul_assoc,Int.mul_comm 256,Int.add_assoc]
theorem ai4 (x:Int) (m:List Int):iJ (x::m)=x*256 ^ m.length+iJ m:=by
 have:=ry m [x]
 have e1:iJ [x]=x:=by simp[iJ]
 rw[e1] at this
 exact this
theorem B7 (k:Nat):(0:Int)<256 ^ k:=Int.pow_pos (by decide)
theorem mS: ∀ {l:List Int},aC l→0≤iJ l∧iJ l<256 ^ l.length
 | [],_=>by simp[iJ]
 |x::m,h=>by
  obtain ⟨h1,h2⟩:=mS (l:=m) fun z hz=>h z (List.mem_cons_of_mem _ hz)
  obtain ⟨h3,h4⟩:=h x List.mem_cons_self
  have hp:=B7 m.length
  rw[ai4,List.length_cons,Int.pow_succ]
  generalize (256:Int) ^ m.length=P at*
  have a1:0≤x*P:=Int.mul_nonneg h3 (by omega)
  have a2:x*P≤255*P:=Int.mul_le_mul_of_nonneg_right (by omega) (by omega)
  omega
theorem Lj: ∀ (k:Nat) (a r:List Int) (n:Int),a.length=k→0≤n→aC a→iJ a+n<256 ^ k→ ∃ a',cm k n (a++r)=a'++r∧a'.length=k∧iJ a'=iJ a+n
 |0,a,r,n,h1,h2,h3,h4=>by
  have:a= []:=List.length_eq_zero_iff.1 h1
  subst this
  refine ⟨[],rfl,rfl,?_⟩
  simp[iJ] at h4 ⊢;omega
 |k+1,a,r,n,h1,h2,h3,h4=>by
  have gk:a≠ []:=by intro e;rw[e] at h1;simp at h1
  obtain ⟨a0,x,rfl⟩: ∃ a0 x,a=a0++ [x]:=⟨a.dropLast,a.getLast gk,(List.dropLast_concat_getLast gk).symm⟩
  rw[cm]
  split
  ·have hk:a0.length=k:=by simp at h1;omega
   have hx:=h3 x (by simp)
   obtain ⟨Ft,Nc⟩:=hx
   have eg:(a0++ [x]++r).getD k 0=x:=by
    rw[← hk,List.append_assoc,List.getD_eq_getElem?_getD,List.getElem?_append_right (Nat.le_refl _)];simp
   have es: ∀ y,(a0++ [x]++r).set k y=a0++(y::r):=fun y=>by
    rw[← hk,List.append_assoc,List.set_append_right _ _ (Nat.le_refl _)];simp
   rw[eg,es]
   rw[j3,Int.pow_succ] at h4
   obtain ⟨a',q1,q2,q3⟩:=Lj k a0 ((n+x)%256::r) ((n+x)/256) hk (by omega) (fun z hz=>h3 z (by simp[hz])) (by omega)
   refine ⟨a'++ [(n+x)%256],by rw[q1];simp,by simp[q2],?_⟩
   rw[j3,j3,q3];omega
  ·exact ⟨a0++ [x],rfl,h1,by omega⟩
theorem rz {l:List Int} {n:Int} (h2:0≤n) (h3:aC l) (h4:iJ l+n<256 ^ l.length):iJ (cm l.length n l)=iJ l+n:=by
 obtain ⟨a',q1,q2,q3⟩:=Lj l.length l [] n rfl h2 h3 h4
 rw[List.append_nil,List.append_nil] at q1
 rw[q1,q3]
def nP (w:Int) (o:List Int):Prop:=pe w o∧iJ o+w≤256 ^ o.length
def Fin (F:List Int) (w:Int) (o:List Int):Prop:=o.length≤F.length∧iJ o*256 ^ (F.length-o.length)≤iJ F∧iJ F<(iJ o+w)*256 ^ (F.length-o.length)
structure Sy (F:List Int) (w:Int) (o:List Int) (r:RB) (d:Dc):Prop where
 d:d=(iJ (F.take o.length)-iJ o,w,0)
 b:r.b=F.drop o.length
 bad:r.bad=false
theorem kE {F:List Int} {w:Int} {o:List Int} (hF:aC F) (h:Fin F w o):iJ o≤iJ (F.take o.length)∧iJ (F.take o.length)<iJ o+w:=by
 obtain ⟨h1,h2,h3⟩:=h
 have e:=ry (F.drop o.length) (F.take o.length)
 rw[List.take_append_drop] at e
 have hr:=mS (l:=F.drop o.length) fun z hz=>hF z (List.mem_of_mem_drop hz)
 rw[List.length_drop] at e hr
 rw[e] at h2 h3
 have hp:=B7 (F.length-o.length)
 generalize (256:Int) ^ (F.length-o.length)=P at*
 generalize iJ (F.take o.length)=T at*
 generalize iJ (F.drop o.length)=R at*
 constructor
 ·have:iJ o*P<(T+1)*P:=by rw[Int.add_mul];omega
  have:=Int.lt_of_mul_lt_mul_right this (by omega)
  omega
 ·have:T*P<(iJ o+w)*P:=by omega
  exact Int.lt_of_mul_lt_mul_right this (by omega)
theorem jy {F:List Int} {w:Int} {o:List Int} (h:Fin F (ca w o).1 (ca w o).2):Fin F w o:=by
 unfold ca at h
 split at h
 ·obtain ⟨h1,h2,h3⟩:=h
  simp only[List.length_append,List.length_cons,List.length_nil] at h1 h2 h3
  obtain ⟨m,hm⟩: ∃ m,F.length-o.length=m+1:=⟨F.length-o.length-1,by omega⟩
  have e:F.length-(o.length+(0+1))=m:=by omega
  rw[e,j3,Int.add_zero] at h2
  rw[e,j3,Int.add_zero] at h3
  refine ⟨by omega,?_,?_⟩
  ·rw[hm,Int.pow_succ,← Int.mul_assoc,Int.mul_right_comm];exact h2
  ·rw[hm,Int.pow_succ,← Int.mul_assoc,Int.mul_right_comm,Int.add_mul (iJ o)];exact h3
 ·exact h
theorem Am {F:List Int} {w w1:Int} {o o1:List Int} (hl:o1.length=o.length) (h1:iJ o≤iJ o1) (h2:iJ o1+w1≤iJ o+w) (h:Fin F w1 o1):Fin F w o:=by
 obtain ⟨k1,k2,k3⟩:=h
 rw[hl] at k1 k2 k3
 unfold Fin
 have hp:=B7 (F.length-o.length)
 generalize (256:Int) ^ (F.length-o.length)=P at*
 have a1:=Int.mul_le_mul_of_nonneg_right h1 (Int.le_of_lt hp)
 have a2:=Int.mul_le_mul_of_nonneg_right h2 (Int.le_of_lt hp)
 exact ⟨k1,by omega,by omega⟩
theorem wa {w:Int} {o:List Int} (h1:65536≤w) (h2:w<4294967296) (h3:aC o) (h4:o.length<1099511627775) (h:iJ o+w≤256 ^ o.length):nP (ca w o).1 (ca w o).2:=by
 refine ⟨ub h1 h2 h3 h4,?_⟩
 unfold ca
 split
 ·simp only[List.length_append,List.length_cons,List.length_nil,j3]
  rw[show o.length+(0+1)=o.length+1 from rfl,Int.pow_succ];omega
 ·exact h
theorem HQ: ∀ (b:List Int) {d:Dc},d.2.2≤0→bK b d=(true,b,d)
 | [],d,h=>by rw[bK,decide_eq_true h]
 |x::r,d,h=>by rw[bK,if_neg (by omega)]
theorem An {F:List Int} {w1:Int} {o1:List Int} {r:RB} (hF:aC F) (hb:r.b=F.drop o1.length) (avS:r.bad=false) (h:Fin F (ca w1 o1).1 (ca w1 o1).2):
  Sy F (ca w1 o1).1 (ca w1 o1).2 (bb r (ky (iJ (F.take o1.length)-iJ o1) w1)).1 (bb r (ky (iJ (F.take o1.length)-iJ o1) w1)).2:=by
 have ht:=kE hF h
 unfold bb ky ca at*
 rw[if_neg (show ¬ r.bad=true by rw[avS];simp)]
 split at h
 ·rename_i hw
  rw[if_pos hw] at ht ⊢
  rw[if_pos hw]
  simp only at*
  have hl:o1.length<F.length:=by have:=h.1;simp at this;omega
  have ed:F.drop o1.length=F.getD o1.length 0::F.drop (o1.length+1):=gq 0 hl
  have et:F.take (o1.length+1)=F.take o1.length++ [F.getD o1.length 0]:=by
   rw[List.take_add_one,List.getD_eq_getElem?_getD,List.getElem?_eq_getElem hl];simp
  simp only[List.length_append,List.length_cons,List.length_nil,Nat.zero_add,et,j3,Int.add_zero] at ht ⊢
  rw[hb,ed,bK,if_pos (by simp),HQ _ (by unfold fy;simp)]
  unfold fy fX
  simp only
  generalize F.getD o1.length 0=x at*
  refine ⟨?_,by simp,?_⟩
  ·simp only[List.length_append,List.length_cons,List.length_nil,Nat.zero_add,et,j3,Int.add_zero]
   rw[if_neg (by omega)];simp;omega
  ·simp;omega
 ·rename_i hw
  rw[if_neg hw] at ht ⊢
  rw[if_neg hw]
  simp only at*
  rw[HQ _ (by simp)]
  unfold fX
  refine ⟨rfl,hb,?_⟩
  simp;omega
theorem pO {p b w:Int} {o:List Int} (h:nP w o) (hl:o.length<1099511627775):nP (ba p b w o).1 (ba p b w o).2∧ ∀ F,Fin F (ba p b w o).1 (ba p b w o).2→Fin F w o:=by
 obtain ⟨⟨h1,h2,h3,h4⟩,h5⟩:=h
 have hb:=eI p h1 h2
 have hr:=mS h3
 unfold ba
 generalize w/2048*aM p=z at*
 split
 ·exact ⟨wa (by omega) (by omega) h3 hl (by omega),fun F h=>Am rfl (Int.le_refl _) (by omega) (jy h)⟩
 ·have ea:=rz (n:=z) (by omega) h3 (by omega)
  refine ⟨wa (by omega) (by omega) (pg _ _ _ h3) (by rw[bX];exact hl) (by rw[bX,ea];omega),fun F h=>Am (bX _ _ _) (by rw[ea];omega) (by rw[ea];omega) (jy h)⟩
theorem x8 {b w:Int} {o:List Int} (h:nP w o) (hl:o.length<1099511627775):nP (bY b w o).1 (bY b w o).2∧ ∀ F,Fin F (bY b w o).1 (bY b w o).2→Fin F w o:=by
 obtain ⟨⟨h1,h2,h3,h4⟩,h5⟩:=h
 have hr:=mS h3
 unfold bY
 split
 ·exact ⟨wa (by omega) (by omega) h3 hl (by omega),fun F h=>Am rfl (Int.le_refl _) (by omega) (jy h)⟩
 ·have ea:=rz (n:=w/2) (by omega) h3 (by omega)
  refine ⟨wa (by omega) (by omega) (pg _ _ _ h3) (by rw[bX];exact hl) (by rw[bX,ea];omega),fun F h=>Am (bX _ _ _) (by rw[ea];omega) (by rw[ea];omega) (jy h)⟩
theorem ad9 {F:List Int} {w:Int} {o:List Int} (hF:aC F) (h:Fin F w o):u9 (iJ (F.take o.length)-iJ o,w,0)=true:=by
 have:=kE hF h
 rw[il];exact ⟨rfl,by simp only;omega⟩
theorem Un {F:List Int} {p b w:Int} {o:List Int} {r:RB} {d:Dc} (hF:aC F) (an8:b=0∨b=1) (h:nP w o) (hl:o.length<1099511627775) (hs:Sy F w o r d) (hf:Fin F (ba p b w o).1 (ba p b w o).2):
  (aQ p d).1=b∧(aQ p d).2.1=cq p b∧ ∀ cs bN,Sy F (ba p b w o).1 (ba p b w o).2 (bb ⟨r.b,cs,bN,r.bad⟩ (aQ p d).2.2).1 (bb ⟨r.b,cs,bN,r.bad⟩ (aQ p d).2.2).2:=by
 have hfw:=(pO h hl).2 F hf
 have hm:=ad9 hF hfw
 obtain ⟨⟨h1,h2,h3,h4⟩,h5⟩:=h
 have hb:=eI p h1 h2
 obtain ⟨s1,s2,s3⟩:=hs
 rw[s1]
 unfold aQ
 rw[if_pos hm]
 unfold e9
 simp only
 rcases an8 with rfl|rfl
 ·have e:ba p 0 w o=ca (w/2048*aM p) o:=by unfold ba;rw[if_pos rfl]
  rw[e] at hf ⊢
  have ht:=kE hF (jy hf)
  rw[if_pos (by omega)]
  exact ⟨rfl,rfl,fun cs bN=>An hF s2 s3 hf⟩
 ·have hr:=mS h3
  have e:ba p 1 w o=ca (w-w/2048*aM p) (cm o.length (w/2048*aM p) o):=by unfold ba;rw[if_neg (by decide)]
  have ea:=rz (n:=w/2048*aM p) (by omega) h3 (by omega)
  rw[e] at hf ⊢
  have ht:=kE hF (jy hf)
  rw[bX,ea] at ht
  rw[if_neg (by omega)]
  refine ⟨rfl,rfl,fun cs bN=>?_⟩
  have:=An (r:=⟨r.b,cs,bN,r.bad⟩) hF (by rw[bX];exact s2) s3 hf
  rw[bX,ea,← Int.sub_sub] at this
  exact this
theorem aea {F:List Int} {b w:Int} {o:List Int} {r:RB} {d:Dc} (hF:aC F) (an8:b=0∨b=1) (h:nP w o) (hl:o.length<1099511627775) (hs:Sy F w o r d) (hf:Fin F (bY b w o).1 (bY b w o).2):
  (bP d).1=b∧Sy F (bY b w o).1 (bY b w o).2 (bb r (bP d).2).1 (bb r (bP d).2).2:=by
 have hfw:=(x8 h hl).2 F hf
 have hm:=ad9 hF hfw
 obtain ⟨⟨h1,h2,h3,h4⟩,h5⟩:=h
 obtain ⟨s1,s2,s3⟩:=hs
 rw[s1]
 unfold bP
 rw[if_pos hm]
 unfold e9
 simp only
 rcases an8 with rfl|rfl
 ·have e:bY 0 w o=ca (w/2) o:=by unfold bY;rw[if_pos rfl]
  rw[e] at hf ⊢
  have ht:=kE hF (jy hf)
  rw[if_pos (by omega)]
  exact ⟨rfl,An hF s2 s3 hf⟩
 ·have hr:=mS h3
  have e:bY 1 w o=ca (w/2) (cm o.length (w/2) o):=by unfold bY;rw[if_neg (by decide)]
  have ea:=rz (n:=w/2) (by omega) h3 (by omega)
  rw[e] at hf ⊢
  have ht:=kE hF (jy hf)
  rw[bX,ea] at ht
  rw[if_neg (by omega)]
  refine ⟨rfl,?_⟩
  have:=An (r:=r) hF (by rw[bX];exact s2) s3 hf
  rw[bX,ea,← Int.sub_sub] at this
  exact this
theorem gZ: ∀ (k:Nat) (v node w:Int) (o p:List Int),nP w o→o.length+k<1099511627775→
  nP (aF k v node w o p).1 (aF k v node w o p).2.1∧ ∀ F,Fin F (aF k v node w o p).1 (aF k v node w o p).2.1→Fin F w o
 |0,_,_,_,_,_,h,_=>⟨h,fun _ h=>h⟩
 |k+1,v,node,w,o,p,h,hl=>by
  obtain ⟨c1,c2⟩:=pO (p:=dz p node) (b:=v/2 ^ k%2) h (by omega)
  have cl:=fx (dz p node) (v/2 ^ k%2) w o
  obtain ⟨t1,t2⟩:=gZ k v (2*node+v/2 ^ k%2) _ _ (bZ p node (v/2 ^ k%2)) c1 (by omega)
  rw[aF]
  exact ⟨t1,fun F hf=>c2 F (t2 F hf)⟩
theorem nQ: ∀ (k:Nat) (v w:Int) (o:List Int),nP w o→o.length+k<1099511627775→
  nP (bw k v w o).1 (bw k v w o).2∧ ∀ F,Fin F (bw k v w o).1 (bw k v w o).2→Fin F w o
 |0,_,_,_,h,_=>⟨h,fun _ h=>h⟩
 |k+1,v,w,o,h,hl=>by
  obtain ⟨c1,c2⟩:=x8 (b:=v/2 ^ k%2) h (by omega)
  have cl:=ka (v/2 ^ k%2) w o
  obtain ⟨t1,t2⟩:=nQ k v _ _ c1 (by omega)
  rw[bw]
  exact ⟨t1,fun F hf=>c2 F (t2 F hf)⟩
theorem Lk {v:Int} (k:Nat):v%2 ^ (k+1)=2 ^ k*(v/2 ^ k%2)+v%2 ^ k:=by
 have hp:(0:Int)<2 ^ k:=Int.pow_pos (by decide)
 rw[Int.pow_succ]
 generalize (2:Int) ^ k=P at*
 have e1:=Int.mul_ediv_add_emod v P
 have e2:=Int.mul_ediv_add_emod (v/P) 2
 have h1:=Int.emod_nonneg v (show P≠0 by omega)
 have h2:=Int.emod_lt_of_pos v hp
 have e3:v=(P*(v/P%2)+v%P)+P*2*(v/P/2):=by
  rw[Int.mul_assoc]
  have:P*(2*(v/P/2))+P*(v/P%2)=P*(v/P):=by rw[← Int.mul_add,e2]
  omega
 have h3:0≤P*(v/P%2):=Int.mul_nonneg (by omega) (by omega)
 have h4:P*(v/P%2)≤P*1:=Int.mul_le_mul_of_nonneg_left (by omega) (by omega)
 have e4:(P*(v/P%2)+v%P+P*2*(v/P/2))%(P*2)=P*(v/P%2)+v%P:=by
  rw[Int.add_mul_emod_self_left];exact Int.emod_eq_of_lt (by omega) (by omega)
 rw[← e3] at e4
 exact e4
theorem wb {F:List Int} (hF:aC F): ∀ (k:Nat) (v node w:Int) (o p:List Int) (r:RB) (d:Dc),nP w o→o.length+k<1099511627775→Sy F w o r d→Fin F (aF k v node w o p).1 (aF k v node w o p).2.1→
  (aA k node r d p).1=2 ^ k*node+v%2 ^ k∧Sy F (aF k v node w o p).1 (aF k v node w o p).2.1 (aA k node r d p).2.1 (aA k node r d p).2.2.1∧
  (aA k node r d p).2.2.2=(aF k v node w o p).2.2∧(aA k node r d p).2.1.cs=r.cs∧(aA k node r d p).2.1.bN=r.bN
 |0,v,node,w,o,p,r,d,h,hl,hs,hf=>⟨by rw[aA];simp,hs,rfl,rfl,rfl⟩
 |k+1,v,node,w,o,p,r,d,h,hl,hs,hf=>by
  obtain ⟨c1,c2⟩:=pO (p:=dz p node) (b:=v/2 ^ k%2) h (by omega)
  have cl:=fx (dz p node) (v/2 ^ k%2) w o
  rw[aF] at hf ⊢
  have ZS:=(gZ k v (2*node+v/2 ^ k%2) _ _ (bZ p node (v/2 ^ k%2)) c1 (by omega)).2 F hf
  obtain ⟨b1,b2,b3⟩:=Un hF (by omega) h (by omega) hs ZS
  obtain ⟨m1,m2⟩:=dT r (aQ (dz p node) d).2.2
  have ih:=wb hF k v (2*node+v/2 ^ k%2) _ _ (bZ p node (v/2 ^ k%2)) _ _ c1 (by omega) (b3 r.cs r.bN) hf
  rw[aA]
  simp only[b1]
  obtain ⟨i1,i2,i3,i4,i5⟩:=ih
  refine ⟨?_,i2,i3,i4.trans m1,i5.trans m2⟩
  refine i1.trans ?_
  rw[Lk,Int.pow_succ,Int.mul_add,Int.mul_assoc];omega
theorem EC {F:List Int} (hF:aC F): ∀ (k:Nat) (v di w:Int) (o:List Int) (r:RB) (d:Dc),nP w o→o.length+k<1099511627775→Sy F w o r d→Fin F (bw k v w o).1 (bw k v w o).2→
  (cb k di r d).1=2 ^ k*di+v%2 ^ k∧Sy F (bw k v w o).1 (bw k v w o).2 (cb k di r d).2.1 (cb k di r d).2.2∧(cb k di r d).2.1.cs=r.cs∧(cb k di r d).2.1.bN=r.bN
 |0,v,di,w,o,r,d,h,hl,hs,hf=>⟨by rw[cb];simp,hs,rfl,rfl⟩
 |k+1,v,di,w,o,r,d,h,hl,hs,hf=>by
  obtain ⟨c1,c2⟩:=x8 (b:=v/2 ^ k%2) h (by omega)
  have cl:=ka (v/2 ^ k%2) w o
  rw[bw] at hf ⊢
  have ZS:=(nQ k v _ _ c1 (by omega)).2 F hf
  obtain ⟨b1,b3⟩:=aea hF (by omega) h (by omega) hs ZS
  obtain ⟨m1,m2⟩:=dT r (bP d).2
  have ih:=EC hF k v (2*di+v/2 ^ k%2) _ _ _ _ c1 (by omega) b3 hf
  rw[cb]
  simp only[b1]
  obtain ⟨i1,i2,i4,i5⟩:=ih
  refine ⟨?_,i2,i4.trans m1,i5.trans m2⟩
  refine i1.trans ?_
  rw[Lk,Int.pow_succ,Int.mul_add,Int.mul_assoc];omega
end Go.Proofs.YtjalaohajcpllaaGreat
end
section
set_option linter.unusedVariables false
set_option linter.unusedSimpArgs false
namespace Go.Proofs.YtjalaohajcpllaaGreat
open Go Go.Ev
set_option maxRecDepth 1000000
theorem Uo (t:bQ) {s:List Int×Int} {p1 p2 p3:List Int} {w:Int} {o:List Int} (hs:TI s p1 p2 p3) (h:nP w o) (hl:o.length+30<1099511627775):
  let r:=g7 t s p1 p2 p3 w o
  nP r.2.2.2.2.1 r.2.2.2.2.2∧ ∀ F,Fin F r.2.2.2.2.1 r.2.2.2.2.2→Fin F w o:=by
 obtain ⟨c1,c2⟩:=pO (p:=s.1.getD s.2.toNat 0) (b:=if t.1=0 then 0 else 1) h (by omega)
 have cl:=fx (s.1.getD s.2.toNat 0) (if t.1=0 then 0 else 1) w o
 unfold g7
 simp only
 generalize ba (s.1.getD s.2.toNat 0) (if t.1=0 then 0 else 1) w o=c at*
 split
 ·rw[hs.l1]
  obtain ⟨t1,t2⟩:=gZ 8 t.2.2 1 c.1 c.2 p1 c1 (by omega)
  exact ⟨t1,fun F hf=>c2 F (t2 F hf)⟩
 ·rw[hs.l2,hs.l3]
  obtain ⟨t1,t2⟩:=gZ 8 (t.1-2) 1 c.1 c.2 p2 c1 (by omega)
  have tl:=(dS 8 (t.1-2) 1 c.1 c.2 p2 c1.1 (by omega)).2
  generalize aF 8 (t.1-2) 1 c.1 c.2 p2=x at*
  obtain ⟨u1,u2⟩:=gZ 6 ((t.2.1-1)/64) 1 x.1 x.2.1 p3 t1 (by omega)
  have ul:=(dS 6 ((t.2.1-1)/64) 1 x.1 x.2.1 p3 t1.1 (by omega)).2
  generalize aF 6 ((t.2.1-1)/64) 1 x.1 x.2.1 p3=y at*
  obtain ⟨v1,v2⟩:=nQ 6 (t.2.1-1) y.1 y.2.1 u1 (by omega)
  exact ⟨v1,fun F hf=>c2 F (t2 F (u2 F (v2 F hf)))⟩
def ai5 (t:bQ):Prop:=(t.1=0∧t.2.1=0∧0≤t.2.2∧t.2.2<256)∨(2≤t.1∧t.1≤257∧1≤t.2.1∧t.2.1≤4096∧t.2.2=0)
theorem an9 {F:List Int} (hF:aC F) {t:bQ} (ht:ai5 t) {s:List Int×Int} {p1 p2 p3:List Int} {w:Int} {o:List Int} {r:RB} {d:Dc} (hs:TI s p1 p2 p3) (h:nP w o) (hl:o.length+30<1099511627775)
  (hy:Sy F w o r d) (e1:r.cs=s.1) (e2:r.bN=s.2)
  (hf:Fin F (g7 t s p1 p2 p3 w o).2.2.2.2.1 (g7 t s p1 p2 p3 w o).2.2.2.2.2):
  let x:=g7 t s p1 p2 p3 w o
  let y:=cu r d p1 p2 p3
  y.1=t∧Sy F x.2.2.2.2.1 x.2.2.2.2.2 y.2.1 y.2.2.1∧y.2.1.cs=x.1.1∧y.2.1.bN=x.1.2∧y.2.2.2=(x.2.1,x.2.2.1,x.2.2.2.1):=by
 obtain ⟨c1,c2⟩:=pO (p:=s.1.getD s.2.toNat 0) (b:=if t.1=0 then 0 else 1) h (by omega)
 have cl:=fx (s.1.getD s.2.toNat 0) (if t.1=0 then 0 else 1) w o
 have b01:(if t.1=0 then 0 else 1)=(0:Int)∨(if t.1=0 then 0 else 1)=(1:Int):=by split<;>simp
 have cs:=fun hf=>Un (p:=s.1.getD s.2.toNat 0) hF b01 h (by omega) hy hf
 unfold g7 at hf ⊢
 simp only at hf ⊢
 unfold cu kW
 rw[e1,e2]
 simp only
 rcases ht with ⟨h1,h2,h3,h4⟩|⟨h1,h2,h3,h4,h5⟩
 ·simp only[if_pos h1] at*
  rw[hs.l1] at hf ⊢
  generalize ba (s.1.getD s.2.toNat 0) 0 w o=c at*
  obtain ⟨t1,t2⟩:=gZ 8 t.2.2 1 c.1 c.2 p1 c1 (by omega)
  obtain ⟨a1,a2,a3⟩:=cs (t2 F hf)
  have a3:=a3 (s.1.set s.2.toNat (aQ (s.1.getD s.2.toNat 0) d).2.1) (aQ (s.1.getD s.2.toNat 0) d).1
  have mc:=dT ⟨r.b,s.1.set s.2.toNat (aQ (s.1.getD s.2.toNat 0) d).2.1,(aQ (s.1.getD s.2.toNat 0) d).1,r.bad⟩ (aQ (s.1.getD s.2.toNat 0) d).2.2
  rw[if_pos a1]
  generalize bb ⟨r.b,s.1.set s.2.toNat (aQ (s.1.getD s.2.toNat 0) d).2.1,(aQ (s.1.getD s.2.toNat 0) d).1,r.bad⟩ (aQ (s.1.getD s.2.toNat 0) d).2.2=m at*
  obtain ⟨y1,y2,y3,y4,y5⟩:=wb hF 8 t.2.2 1 c.1 c.2 p1 m.1 m.2 c1 (by omega) a3 hf
  refine ⟨?_,y2,?_,?_,?_⟩
  ·have e:(aA 8 1 m.1 m.2 p1).1-256=t.2.2:=by rw[y1,show (2:Int) ^ 8=256 from by decide];omega
   rw[e]
   obtain ⟨ta,tb,tc⟩:=t
   simp only at h1 h2 ⊢
   rw[h1,h2]
  ·rw[y4,mc.1];simp only;rw[a2]
  ·rw[y5,mc.2];simp only;rw[a1]
  ·simp only[y3]
 ·have hn: ¬ t.1=0:=by omega
  simp only[if_neg hn] at*
  rw[hs.l2,hs.l3] at hf ⊢
  generalize ba (s.1.getD s.2.toNat 0) 1 w o=c at*
  obtain ⟨t1,t2⟩:=gZ 8 (t.1-2) 1 c.1 c.2 p2 c1 (by omega)
  have tl:=(dS 8 (t.1-2) 1 c.1 c.2 p2 c1.1 (by omega)).2
  have ts:=fun r d=>wb (F:=F) hF 8 (t.1-2) 1 c.1 c.2 p2 r d c1 (by omega)
  generalize aF 8 (t.1-2) 1 c.1 c.2 p2=x at*
  obtain ⟨u1,u2⟩:=gZ 6 ((t.2.1-1)/64) 1 x.1 x.2.1 p3 t1 (by omega)
  have ul:=(dS 6 ((t.2.1-1)/64) 1 x.1 x.2.1 p3 t1.1 (by omega)).2
  have us:=fun r d=>wb (F:=F) hF 6 ((t.2.1-1)/64) 1 x.1 x.2.1 p3 r d t1 (by omega)
  generalize aF 6 ((t.2.1-1)/64) 1 x.1 x.2.1 p3=y at*
  obtain ⟨v1,v2⟩:=nQ 6 (t.2.1-1) y.1 y.2.1 u1 (by omega)
  have vs:=fun di r d=>EC (F:=F) hF 6 (t.2.1-1) di y.1 y.2.1 r d u1 (by omega)
  obtain ⟨a1,a2,a3⟩:=cs (t2 F (u2 F (v2 F hf)))
  have a3:=a3 (s.1.set s.2.toNat (aQ (s.1.getD s.2.toNat 0) d).2.1) (aQ (s.1.getD s.2.toNat 0) d).1
  have mc:=dT ⟨r.b,s.1.set s.2.toNat (aQ (s.1.getD s.2.toNat 0) d).2.1,(aQ (s.1.getD s.2.toNat 0) d).1,r.bad⟩ (aQ (s.1.getD s.2.toNat 0) d).2.2
  rw[if_neg (by rw[a1];decide)]
  generalize bb ⟨r.b,s.1.set s.2.toNat (aQ (s.1.getD s.2.toNat 0) d).2.1,(aQ (s.1.getD s.2.toNat 0) d).1,r.bad⟩ (aQ (s.1.getD s.2.toNat 0) d).2.2=m at*
  obtain ⟨y1,y2,y3,y4,y5⟩:=ts m.1 m.2 a3 (u2 F (v2 F hf))
  generalize aA 8 1 m.1 m.2 p2=A at*
  obtain ⟨z1,z2,z3,z4,z5⟩:=us A.2.1 A.2.2.1 y2 (v2 F hf)
  generalize aA 6 1 A.2.1 A.2.2.1 p3=B at*
  obtain ⟨k1,k2,k4,k5⟩:=vs (B.1-64) B.2.1 B.2.2.1 z2 hf
  generalize cb 6 (B.1-64) B.2.1 B.2.2.1=C at*
  refine ⟨?_,k2,?_,?_,?_⟩
  ·rw[show (2:Int) ^ 8=256 from by decide] at y1
   rw[show (2:Int) ^ 6=64 from by decide] at z1 k1
   have e1:A.1-256+2=t.1:=by omega
   have e2:C.1+1=t.2.1:=by omega
   rw[e1,e2]
   obtain ⟨ta,tb,tc⟩:=t
   simp only at h5 ⊢
   rw[h5]
  ·rw[k4,z4,y4,mc.1];simp only;rw[a2]
  ·rw[k5,z5,y5,mc.2];simp only;rw[a1]
  ·simp only[y3,z3]
theorem wc: ∀ (l:List bQ) {s:List Int×Int} {p1 p2 p3:List Int} {w:Int} {o:List Int},TI s p1 p2 p3→nP w o→o.length+21*l.length<1099500000000→
  ∀ F,Fin F (c6 l s p1 p2 p3 w o).1 (c6 l s p1 p2 p3 w o).2→Fin F w o
 | [],_,_,_,_,_,_,_,_,_=>fun F h=>h
 |t::l,s,p1,p2,p3,w,o,hs,h,hl=>fun F hf=>by
  rw[List.length_cons] at hl
  obtain ⟨f1,f2⟩:=Uo t hs h (by omega)
  obtain ⟨g1,g2,g3⟩:=xN (t:=t) hs h.1 (by omega)
  rw[c6] at hf
  exact f2 F (wc l g1 f1 (by omega) F hf)
theorem Up {F:List Int} (hF:aC F) {pl:Int}: ∀ (l:List bQ) (k:Nat) (n:Int) (s:List Int×Int) (p1 p2 p3:List Int) (w:Int) (o:List Int) (r:RB) (d:Dc) (out:List bQ),TI s p1 p2 p3→nP w o→o.length+21*l.length<1099500000000→
  (∀ t∈l,ai5 t)→Sy F w o r d→r.cs=s.1→r.bN=s.2→n+cC l=pl→l.length<k→Fin F (c6 l s p1 p2 p3 w o).1 (c6 l s p1 p2 p3 w o).2→
  (iF k pl n r d p1 p2 p3 out).1.bad=false∧sL (iF k pl n r d p1 p2 p3 out)=out++l
 | [],k,n,s,p1,p2,p3,w,o,r,d,out,hs,h,hl,ht,hy,e1,e2,hn,hk,hf=>by
  simp only[cC] at hn
  rw[pN (by omega)]
  exact ⟨hy.bad,by simp[sL]⟩
 |t::l,k,n,s,p1,p2,p3,w,o,r,d,out,hs,h,hl,ht,hy,e1,e2,hn,hk,hf=>by
  rw[List.length_cons] at hl hk
  obtain ⟨k,rfl⟩: ∃ k0,k=k0+1:=⟨k-1,by omega⟩
  obtain ⟨f1,f2⟩:=Uo t hs h (by omega)
  obtain ⟨g1,g2,g3⟩:=xN (t:=t) hs h.1 (by omega)
  rw[c6] at hf
  have ZS:=wc l g1 f1 (by omega) F hf
  have htn:=ht t List.mem_cons_self
  obtain ⟨x1,x2,x3,x4,x5⟩:=an9 hF htn hs h (by omega) hy e1 e2 ZS
  have iO:1≤bq t:=by
   unfold bq
   rcases htn with h'|h'
   ·rw[if_pos h'.1];omega
   ·rw[if_neg (by omega)];omega
  have Qh: ∀ l:List bQ,(∀ t∈l,ai5 t)→0≤cC l:=fun l=>by
   induction l with
   |nil=>intro _;simp[cC]
   |cons t l ih=>
    intro h
    have:=ih fun t ht=>h t (List.mem_cons_of_mem _ ht)
    rw[cC]
    have:0≤bq t:=by
     unfold bq
     rcases h t List.mem_cons_self with h'|h'
     ·rw[if_pos h'.1];omega
     ·rw[if_neg (by omega)];omega
    omega
  have Zp:=Qh l fun t h=>ht t (List.mem_cons_of_mem _ h)
  simp only[cC] at hn
  rw[iF,if_pos ⟨by omega,hy.bad⟩]
  simp only[x1,x5]
  have:=Up hF (pl:=pl) l k (n+bq t) _ _ _ _ _ _ _ _ (out++ [t]) g1 f1 (by omega) (fun t h=>ht t (List.mem_cons_of_mem _ h)) x2 x3 x4 (by omega) (by omega) hf
  refine ⟨this.1,this.2.trans (by simp)⟩
theorem yV: ∀ (l:List bQ) (made:Int),aW made l=true→made≤8192→made+cC l≤8192∧(l.length:Int)≤cC l
 | [],made,_,h=>by simp[cC];omega
 |t::l,made,hr,h=>by
  rw[aW,Bool.and_eq_true,Bool.and_eq_true] at hr
  have h2:=of_decide_eq_true hr.1.2
  have h3:=ie hr.1.1
  have:=yV l (made+bq t) hr.2 h2
  rw[cC,List.length_cons];omega
theorem B8: ∀ (l:List bQ) (made:Int),aW made l=true→lr l→ ∀ t∈l,ai5 t
 | [],_,_,_,t,h=>by simp at h
 |t::l,made,hr,hb,x,hx=>by
  rw[aW,Bool.and_eq_true,Bool.and_eq_true] at hr
  rcases List.mem_cons.1 hx with rfl|hx
  ·have hm:=hr.1.1
   have:=hb x List.mem_cons_self
   unfold g6 at hm
   split at hm
   ·exact .inl ⟨by assumption,of_decide_eq_true hm,this⟩
   ·have hm:=of_decide_eq_true hm;exact .inr ⟨hm.2.1,hm.2.2.1,hm.2.2.2.1,hm.2.2.2.2.1,hm.1⟩
  ·exact B8 l _ hr.2 (fun t h=>hb t (List.mem_cons_of_mem _ h)) x hx
theorem aeb:nP 4294967295 [0,0,0,0]:=⟨KK,by decide⟩
theorem sy0 {F:List Int} (hF:aC F) (h:Fin F 4294967295 [0,0,0,0]):
  Sy F 4294967295 [0,0,0,0] (bb ⟨F,[1024,1024],0,false⟩ (0,4294967295,4)).1 (bb ⟨F,[1024,1024],0,false⟩ (0,4294967295,4)).2:=by
 have ht:=kE hF h
 have hl:4≤F.length:=h.1
 match F,hl with
 |x0::x1::x2::x3::F,_=>
  have e:bK (x0::x1::x2::x3::F) (0,4294967295,4)=(true,F,((((0*256+x0)*256+x1)*256+x2)*256+x3,4294967295,0)):=by
   rw[bK,if_pos (by decide),bK,if_pos (by simp[fy]),bK,if_pos (by simp[fy]),bK,if_pos (by simp[fy]),HQ _ (by simp[fy])]
   simp[fy]
  have eb:iJ (List.take [(0:Int),0,0,0].length (x0::x1::x2::x3::F))=(((0*256+x0)*256+x1)*256+x2)*256+x3:=by simp[iJ]
  have e0:iJ [0,0,0,0]=0:=by decide
  rw[eb,e0] at ht
  unfold bb
  rw[if_neg (by simp)]
  rw[e]
  refine ⟨by rw[eb,e0];simp only;rw[Int.sub_zero],rfl,?_⟩
  unfold fX
  simp;omega
theorem Ll {l:List bQ} (hr:aW 0 l=true) (hb:lr l):aT (cS l) (cC l)=(0,l):=by
 obtain ⟨l1,l2⟩:=yV l 0 hr (by omega)
 have ht:=B8 l 0 hr hb
 have ok:=uT l GX KK (by simp;omega)
 have hs:=fun F hF=>Up (F:=F) hF (pl:=cC l) l 9000 0 ([1024,1024],0) (bx 8) (bx 8) (bx 6) 4294967295 [0,0,0,0]
 have FA:=wc l GX aeb (by simp;omega)
 have ep:cS l=(c6 l ([1024,1024],0) (bx 8) (bx 8) (bx 6) 4294967295 [0,0,0,0]).2:=by unfold cS;rw[if_pos hr]
 rw[← ep] at ok FA hs
 generalize (c6 l ([1024,1024],0) (bx 8) (bx 8) (bx 6) 4294967295 [0,0,0,0]).1=W at*
 generalize hP:cS l=P at*
 have hF:aC P:=ok.1.2.2.1
 have hw:16777216≤W:=ok.1.1
 have ai6:Fin P W P:=⟨Nat.le_refl _,by rw[Nat.sub_self];simp,by rw[Nat.sub_self];simp;omega⟩
 have hf0:=FA P ai6
 have hy:=sy0 hF hf0
 have mc:=dT ⟨P,[1024,1024],0,false⟩ (0,4294967295,4)
 have Um:=Qg (pl:=cC l) (by omega) 8192 9000 200000 0 P (0,4294967295,4) Zj (bx 8,bx 8,bx 6) [] (by omega) (by omega) (by omega) rfl rfl (.inl rfl) (by omega) rfl rfl
 have oE:B5 200000 (cC l) 0 P (0,4294967295,4) Zj (bx 8,bx 8,bx 6) []=eL P (cC l):=rfl
 rw[oE] at Um
 simp only[show Zj.cs= [1024,1024] from rfl,show Zj.bh=0 from rfl] at Um
 obtain ⟨b1,b2⟩:=hs P hF _ _ [] GX aeb (by simp;omega) ht hy mc.1 mc.2 (by omega) (by omega) ai6
 rw[List.nil_append] at b2
 have er:eL P (cC l)=(l,true):=by
  rw[Um,b1,b2,if_pos ⟨rfl,hr,rfl⟩]
 unfold aT
 rw[if_neg (by omega),er,if_pos ⟨rfl,by rw[hP];simp[cA]⟩]
end Go.Proofs.YtjalaohajcpllaaGreat
end
