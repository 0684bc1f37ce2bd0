/- What the laws lean on, part 10: a reader of code, plain facts, and what each function gives; no conditions. -/
import Derived.WalkKit
import Derived.Lib.Walk
import Derived.Lib.SliceRun
import Derived.Lib.AppendZerosOnto
import Derived.Test.YtjalaohajcpllaaGreatA9
section
set_option linter.unusedVariables false
set_option linter.unusedSimpArgs false
namespace Go.Proofs.YtjalaohajcpllaaGreat
open Go Go.Ev
set_option maxRecDepth 1000000
abbrev Dc:Type:=Int×Int×Int
abbrev cDc:a9 (List SV) Dc:=(ae (ay .u64) (ae (ay .u64) (ae (ay .i64) ag))).jQ (fun x=>(x.1,x.2.1,x.2.2.1)) (fun y=>(y.1,y.2.1,y.2.2,())) (fun _=>rfl)
abbrev O5:a9 Ev.Item Dc:=tY 177 cDc
abbrev jJ:a9 Ev.Item Dc:=tY 165 cDc
abbrev jK:a9 Hp (Dc×Unit):=ae (bG O5) ag
abbrev jL:a9 Hp (Dc×Unit):=ae (bG jJ) ag
abbrev WD:a9 (List LV) (Int×Unit):=ak (ah (aJ 0 0)) (ae (ah (ay .u8)) ag)
abbrev abQ:a9 (List LV) (Int×Int×Unit):=ak (ah (aJ 0 0)) (ae (ah (ay .u64)) (ae (ah (ay .u64)) ag))
def kx (d:Dc):Prop:=0≤d.1∧16777216≤d.2.1∧d.2.1<4294967296∧
 ((d.2.2=0∧d.1<4294967296)∨(d.2.2=1∧d.1<16777216)∨(d.2.2=2∧d.1<65536)∨(d.2.2=3∧d.1<256)∨(d.2.2=4∧d.1=0))
def fy (d:Dc) (b:Int):Dc:=if d.2.2=0 then d else (d.1*256+b,d.2.1,d.2.2-1)
def fX (d:Dc):Bool:=decide (d.2.2=0∧d.2.1≤d.1)
def u9 (d:Dc):Bool:=decide (d.2.2=0∧d.1<d.2.1)
def ky (c w:Int):Dc:=if w<16777216 then (c,w*256,1) else (c,w,0)
def e9 (d:Dc) (bound eJ:Int):Int×Dc:=if d.1<bound then (0,ky d.1 bound) else (1,ky (d.1-bound) eJ)
def aQ (p:Int) (d:Dc):Int×Int×Dc:=
 if u9 d=true then
  let r:=e9 d (d.2.1/2048*aM p) (d.2.1-d.2.1/2048*aM p)
  (r.1,cq p r.1,r.2)
 else (0,aM p,d)
def bP (d:Dc):Int×Dc:=if u9 d=true then e9 d (d.2.1/2) (d.2.1/2) else (0,d)
abbrev abR:Type:=Int×Int×Int
noncomputable abbrev abS (x:abR):LV:=LV.one (VV.sc (SV.ptr 0 0))
noncomputable abbrev abT (x:abR):List (Nat×Ev.Item):= [(0,O5.wr x)]
noncomputable def abU:Tr (abR):=(.ret ((0,4294967295,4)))
theorem WE:aY Tryz.prog [] [] Tryz.f77 ((ag).wr (())) ((ag).wr (())) [.fr [.sym],.syms,.auto,.ax]=(abU).end abS abT ((ag).wr (())):=by kernel_rfl
theorem abV:aP Tryz.prog ((ag).wr (())) [] (aH Tryz.f77):=(aP.nil _)
abbrev z6:Prop:=True
noncomputable def abW:au:=au.bV [] (ag) (ag) fun x_ y_=> .leaf (some (z6)) (abS ((0,4294967295,4))) (abT ((0,4294967295,4)))
theorem aiy (h_:z6):(abU).Is ((0,4294967295,4)):=by
 exact rfl
theorem TS:abW.Ok Tryz.prog 77:=
 bM (tys:= []) (A:=ag) (H:=ag) (LT:=fun x_ y_=> []) (ks:= [.fr [.sym],.syms,.auto,.ax]) (V:=abS) (D:=abT) (T:=fun x_ y_=>abU) (pre:=fun x_ y_=>z6) (sp:=fun x_ y_=>(0,4294967295,4)) mixed aD Tryz.func77 (by kernel_rfl) Tryz.call77 (fun x_ y_=>abV) (fun x_ y_=>WE) (fun x_ y_ h=>aiy h)
abbrev O6:Type:=Bool
noncomputable abbrev O7 (x:O6):LV:=LV.one (VV.sc (SV.bool (SB.sym x)))
noncomputable abbrev O8 (x:O6):List (Nat×Ev.Item):= []
noncomputable def O9 (d:Int×Int×Int):Tr (O6):=(.ret (decide (0<d.snd.snd)))
theorem Pa (d:Dc):aY Tryz.prog [] [] Tryz.f112 ((dE).wr (())) ((jK).wr (d,())) [.fr [.sym],.syms,.auto,.ax]=(O9 d).end O7 O8 ((jK).wr (d,())):=by kernel_rfl
theorem WG (d:Dc):aP Tryz.prog ((jK).wr (d,())) [] (aH Tryz.f112):=(aP.nil _)
abbrev pI (d:Dc):Prop:=True
noncomputable def G3:au:=au.bV [] (dE) (jK) fun x_ y_=> .leaf (some ((fun (d:Dc)=>pI d) y_.1)) (O7 ((fun (d:Dc)=>decide (0<d.2.2)) y_.1)) (O8 ((fun (d:Dc)=>decide (0<d.2.2)) y_.1))
theorem abX (d:Dc) (h_:pI d):(O9 d).Is (decide (0<d.2.2)):=by
 exact rfl
theorem Bx:G3.Ok Tryz.prog 112:=
 bM (tys:= []) (A:=dE) (H:=jK) (LT:=fun x_ y_=>(fun (d:Dc)=> []) y_.1) (ks:= [.fr [.sym],.syms,.auto,.ax]) (V:=O7) (D:=O8) (T:=fun x_ y_=>O9 y_.1) (pre:=fun x_ y_=>(fun (d:Dc)=>pI d) y_.1) (sp:=fun x_ y_=>(fun (d:Dc)=>decide (0<d.2.2)) y_.1) mixed aD Tryz.func112 (by kernel_rfl) Tryz.call112 (fun x_ y_=>WG y_.1) (fun x_ y_=>Pa y_.1) (fun x_ y_ h=>abX y_.1 h)
abbrev Pb:Type:=Bool×(Int×Int×Int)
noncomputable abbrev Pc (x:Pb):LV:=LV.one (VV.sc (SV.bool (SB.sym x.1)))
noncomputable abbrev Pd (x:Pb):List (Nat×Ev.Item):= [(0,O5.wr x.2)]
noncomputable def G4 (b:Int) (d:Int×Int×Int):Tr (Pb):=(.need (pI d) (.ite (!decide (0<d.snd.snd)) (.ret (false,d)) (.ret
 (true,(bD IntKind.u64 (shl IntKind.u64 d.fst 8) (IntKind.u64.wrap b),d.snd.fst,IntKind.i64.wrap (d.snd.snd-1))))))
theorem Pe (b:Int) (d:Dc):aY Tryz.prog [(112,G3)] [] Tryz.f113 ((WD).wr (b,())) ((jK).wr (d,())) [.fr [.sym],.syms,.auto,.ax]=(G4 b d).end Pc Pd ((jK).wr (d,())):=by kernel_rfl
theorem WH (b:Int) (d:Dc):aP Tryz.prog ((jK).wr (d,())) [] (aH Tryz.f113):=(aP.nil _)
abbrev vf (b:Int) (d:Dc):Prop:=kx d∧By b
noncomputable def Pf:au:=au.bV [] (WD) (jK) fun x_ y_=> .leaf (some ((fun (b:Int) (d:Dc)=>vf b d) x_.1 y_.1)) (Pc ((fun (b:Int) (d:Dc)=>(decide (0<d.2.2),fy d b)) x_.1 y_.1)) (Pd ((fun (b:Int) (d:Dc)=>(decide (0<d.2.2),fy d b)) x_.1 y_.1))
theorem abY (b:Int) (d:Dc) (h_:vf b d):(G4 b d).Is ((decide (0<d.2.2),fy d b)):=by
 obtain ⟨⟨h1,h2,h3,h4⟩,h5,h6⟩:=h_
 have e0:IntKind.u64.wrap b=b:=wrap_u64 h5 (by omega)
 have e1:shl .u64 d.1 8=d.1*256:=by
  have:=ia .u64 d.1 8 (by decide)
  rw[show ((8:Nat):Int)=8 from rfl] at this
  rw[this,wrap_u64]<;>omega
 have e2:bD .u64 (d.1*256) b=d.1*256+b:=pc (m:=8) (by omega) (by omega) h5 (by omega) (by omega)
 have e3:IntKind.i64.wrap (d.2.2-1)=d.2.2-1:=aq (by omega) (by omega)
 simp only[G4,fy,ai,kr,aj,e0,e1,e2,e3,decide_eq_true_eq,decide_eq_false_iff_not]
 refine ⟨trivial,fun h=>?_,fun h=>?_⟩
 ·rw[if_neg (by omega),decide_eq_true h]
 ·rw[if_pos (by omega),decide_eq_false h]
theorem KO:Pf.Ok Tryz.prog 113:=
 bM (tys:= []) (A:=WD) (H:=jK) (LT:=fun x_ y_=>(fun (b:Int) (d:Dc)=> []) x_.1 y_.1) (ks:= [.fr [.sym],.syms,.auto,.ax]) (V:=Pc) (D:=Pd) (T:=fun x_ y_=>G4 x_.1 y_.1) (pre:=fun x_ y_=>(fun (b:Int) (d:Dc)=>vf b d) x_.1 y_.1) (sp:=fun x_ y_=>(fun (b:Int) (d:Dc)=>(decide (0<d.2.2),fy d b)) x_.1 y_.1) mixed ((ao Bx aD)) Tryz.func113 (by kernel_rfl) Tryz.call113 (fun x_ y_=>WH x_.1 y_.1) (fun x_ y_=>Pe x_.1 y_.1) (fun x_ y_ h=>abY x_.1 y_.1 h)
abbrev Pg:Type:=Bool
noncomputable abbrev Ph (x:Pg):LV:=LV.one (VV.sc (SV.bool (SB.sym x)))
noncomputable abbrev Pj (x:Pg):List (Nat×Ev.Item):= []
noncomputable def G5 (d:Int×Int×Int):Tr (Pg):=(.ite ((d.snd.snd==0)==true) (.ret (decide (d.snd.fst≤d.fst))) (.ret (false)))
theorem Pk (d:Dc):aY Tryz.prog [] [] Tryz.f114 ((dE).wr (())) ((jK).wr (d,())) [.fr [.sym],.syms,.auto,.ax]=(G5 d).end Ph Pj ((jK).wr (d,())):=by kernel_rfl
theorem WI (d:Dc):aP Tryz.prog ((jK).wr (d,())) [] (aH Tryz.f114):=(aP.nil _)
abbrev vg (d:Dc):Prop:=True
noncomputable def Pl:au:=au.bV [] (dE) (jK) fun x_ y_=> .leaf (some ((fun (d:Dc)=>vg d) y_.1)) (Ph ((fun (d:Dc)=>fX d) y_.1)) (Pj ((fun (d:Dc)=>fX d) y_.1))
theorem abZ (d:Dc) (h_:vg d):(G5 d).Is (fX d):=by
 simp only[G5,fX,bI,aj,ib,beq_iff_eq,beq_eq_false_iff_ne]
 exact ⟨fun h=>decide_eq_decide.2 (by omega),fun h=>(decide_eq_false (by omega)).symm⟩
theorem KP:Pl.Ok Tryz.prog 114:=
 bM (tys:= []) (A:=dE) (H:=jK) (LT:=fun x_ y_=>(fun (d:Dc)=> []) y_.1) (ks:= [.fr [.sym],.syms,.auto,.ax]) (V:=Ph) (D:=Pj) (T:=fun x_ y_=>G5 y_.1) (pre:=fun x_ y_=>(fun (d:Dc)=>vg d) y_.1) (sp:=fun x_ y_=>(fun (d:Dc)=>fX d) y_.1) mixed aD Tryz.func114 (by kernel_rfl) Tryz.call114 (fun x_ y_=>WI y_.1) (fun x_ y_=>Pk y_.1) (fun x_ y_ h=>abZ y_.1 h)
abbrev ab0:Type:=Bool
noncomputable abbrev ab1 (x:ab0):LV:=LV.one (VV.sc (SV.bool (SB.sym x)))
noncomputable abbrev ab2 (x:ab0):List (Nat×Ev.Item):= []
noncomputable def TT (d:Int×Int×Int):Tr (ab0):=(.ite ((d.snd.snd==0)==true) (.ret (decide (d.fst<d.snd.fst))) (.ret (false)))
theorem WJ (d:Dc):aY Tryz.prog [] [] Tryz.f173 ((dE).wr (())) ((jK).wr (d,())) [.fr [.sym],.syms,.auto,.ax]=(TT d).end ab1 ab2 ((jK).wr (d,())):=by kernel_rfl
theorem ab3 (d:Dc):aP Tryz.prog ((jK).wr (d,())) [] (aH Tryz.f173):=(aP.nil _)
abbrev vh (d:Dc):Prop:=True
noncomputable def ab4:au:=au.bV [] (dE) (jK) fun x_ y_=> .leaf (some ((fun (d:Dc)=>vh d) y_.1)) (ab1 ((fun (d:Dc)=>u9 d) y_.1)) (ab2 ((fun (d:Dc)=>u9 d) y_.1))
theorem aiz (d:Dc) (h_:vh d):(TT d).Is (u9 d):=by
 simp only[TT,u9,bI,aj,ib,beq_iff_eq,beq_eq_false_iff_ne]
 exact ⟨fun h=>decide_eq_decide.2 (by omega),fun h=>(decide_eq_false (by omega)).symm⟩
theorem TU:ab4.Ok Tryz.prog 173:=
 bM (tys:= []) (A:=dE) (H:=jK) (LT:=fun x_ y_=>(fun (d:Dc)=> []) y_.1) (ks:= [.fr [.sym],.syms,.auto,.ax]) (V:=ab1) (D:=ab2) (T:=fun x_ y_=>TT y_.1) (pre:=fun x_ y_=>(fun (d:Dc)=>vh d) y_.1) (sp:=fun x_ y_=>(fun (d:Dc)=>u9 d) y_.1) mixed aD Tryz.func173 (by kernel_rfl) Tryz.call173 (fun x_ y_=>ab3 y_.1) (fun x_ y_=>WJ y_.1) (fun x_ y_ h=>aiz y_.1 h)
abbrev ab5:Type:=Int×Int×Int
noncomputable abbrev ab6 (x:ab5):LV:=LV.cV []
noncomputable abbrev ab7 (x:ab5):List (Nat×Ev.Item):= [(0,O5.wr x)]
noncomputable def TV (d:Int×Int×Int):Tr (ab5):=(.ite (decide (d.snd.fst<16777216)) (.ret ((d.fst,shl IntKind.u64 d.snd.fst 8,1)))
 (.ret (d)))
theorem WK (d:Dc):aY Tryz.prog [] [] Tryz.f180 ((dE).wr (())) ((jK).wr (d,())) [.fr [.sym],.syms,.auto,.ax]=(TV d).end ab6 ab7 ((jK).wr (d,())):=by kernel_rfl
theorem ab8 (d:Dc):aP Tryz.prog ((jK).wr (d,())) [] (aH Tryz.f180):=(aP.nil _)
abbrev vk (d:Dc):Prop:=0≤d.2.1∧d.2.1<4294967296∧d.2.2=0
noncomputable def alY:au:=au.bV [] (dE) (jK) fun x_ y_=> .leaf (some ((fun (d:Dc)=>vk d) y_.1)) (ab6 ((fun (d:Dc)=>ky d.1 d.2.1) y_.1)) (ab7 ((fun (d:Dc)=>ky d.1 d.2.1) y_.1))
theorem aiA (d:Dc) (h_:vk d):(TV d).Is (ky d.1 d.2.1):=by
 obtain ⟨h1,h2,h3⟩:=h_
 obtain ⟨c,w,n⟩:=d
 simp only at h1 h2 h3
 subst h3
 simp only[TV,ky,aN,aj]
 refine ⟨fun h=>?_,fun h=>by rw[if_neg h]⟩
 have:=ia .u64 w 8 (by decide)
 rw[show ((8:Nat):Int)=8 from rfl] at this
 rw[this,wrap_u64 (by omega) (by omega),if_pos h];rfl
theorem aiB:alY.Ok Tryz.prog 180:=
 bM (tys:= []) (A:=dE) (H:=jK) (LT:=fun x_ y_=>(fun (d:Dc)=> []) y_.1) (ks:= [.fr [.sym],.syms,.auto,.ax]) (V:=ab6) (D:=ab7) (T:=fun x_ y_=>TV y_.1) (pre:=fun x_ y_=>(fun (d:Dc)=>vk d) y_.1) (sp:=fun x_ y_=>(fun (d:Dc)=>ky d.1 d.2.1) y_.1) mixed aD Tryz.func180 (by kernel_rfl) Tryz.call180 (fun x_ y_=>ab8 y_.1) (fun x_ y_=>WK y_.1) (fun x_ y_ h=>aiA y_.1 h)
abbrev G6:Type:=Int×(Int×Int×Int)
noncomputable abbrev G7 (x:G6):LV:=LV.one (VV.sc (SV.int IntKind.i64 (SI.sym x.1)))
noncomputable abbrev G8 (x:G6):List (Nat×Ev.Item):= [(0,O5.wr x.2)]
noncomputable def z7 (bound:Int) (eJ:Int) (d:Int×Int×Int):Tr (G6):=(.ite (decide (d.fst<bound)) (.need (vk (d.fst,
 bound,d.snd.snd)) (.ret (0,ky d.fst bound))) (.need (vk (IntKind.u64.wrap (d.fst-bound),eJ,d.snd.snd)) (.ret (1,ky (IntKind.u64.wrap
 (d.fst-bound)) eJ))))
theorem KQ (bound eJ:Int) (d:Dc):aY Tryz.prog [(180,alY)] [] Tryz.f174 ((abQ).wr (bound,eJ,())) ((jK).wr (d,())) [.fr [.sym],.syms,.auto,.ax]=(z7 bound eJ d).end G7 G8 ((jK).wr (d,())):=by kernel_rfl
theorem Pm (bound eJ:Int) (d:Dc):aP Tryz.prog ((jK).wr (d,())) [] (aH Tryz.f174):=(aP.nil _)
abbrev mO (bound eJ:Int) (d:Dc):Prop:=kx d∧d.2.2=0∧65536≤bound∧bound<4294967296∧65536≤eJ∧eJ<4294967296
noncomputable def G9:au:=au.bV [] (abQ) (jK) fun x_ y_=> .leaf (some ((fun (bound eJ:Int) (d:Dc)=>mO bound eJ d) x_.1 x_.2.1 y_.1)) (G7 ((fun (bound eJ:Int) (d:Dc)=>e9 d bound eJ) x_.1 x_.2.1 y_.1)) (G8 ((fun (bound eJ:Int) (d:Dc)=>e9 d bound eJ) x_.1 x_.2.1 y_.1))
theorem WL (bound eJ:Int) (d:Dc) (h_:mO bound eJ d):(z7 bound eJ d).Is (e9 d bound eJ):=by
 obtain ⟨⟨h1,h2,h3,h4⟩,h5,h6,h7,h8,h9⟩:=h_
 simp only[z7,e9,aN,ai,aj]
 refine ⟨fun h=>⟨⟨by simp only;omega,h7,h5⟩,by rw[if_pos h]⟩,fun h=>?_⟩
 have e:IntKind.u64.wrap (d.1-bound)=d.1-bound:=wrap_u64 (by omega) (by omega)
 rw[e]
 exact ⟨⟨by simp only;omega,h9,h5⟩,by rw[if_neg h]⟩
theorem Et:G9.Ok Tryz.prog 174:=
 bM (tys:= []) (A:=abQ) (H:=jK) (LT:=fun x_ y_=>(fun (bound eJ:Int) (d:Dc)=> []) x_.1 x_.2.1 y_.1) (ks:= [.fr [.sym],.syms,.auto,.ax]) (V:=G7) (D:=G8) (T:=fun x_ y_=>z7 x_.1 x_.2.1 y_.1) (pre:=fun x_ y_=>(fun (bound eJ:Int) (d:Dc)=>mO bound eJ d) x_.1 x_.2.1 y_.1) (sp:=fun x_ y_=>(fun (bound eJ:Int) (d:Dc)=>e9 d bound eJ) x_.1 x_.2.1 y_.1) mixed ((ao aiB aD)) Tryz.func174 (by kernel_rfl) Tryz.call174 (fun x_ y_=>Pm x_.1 x_.2.1 y_.1) (fun x_ y_=>KQ x_.1 x_.2.1 y_.1) (fun x_ y_ h=>WL x_.1 x_.2.1 y_.1 h)
theorem WM (p:Int):aM (aM p)=aM p:=by
 have:=eY p
 rw[aM,if_neg (by omega),if_neg (by omega)]
theorem Po (p b:Int):cq (aM p) b=cq p b:=by unfold cq;rw[WM]
theorem il (d:Dc):u9 d=true↔d.2.2=0∧d.1<d.2.1:=by unfold u9;simp
theorem Bz (d:Dc):fX d=true↔d.2.2=0∧d.2.1≤d.1:=by unfold fX;simp
theorem Eu (d:Dc):fX d=false↔ ¬ (d.2.2=0∧d.2.1≤d.1):=by rw[← Bz];simp
noncomputable def BA (p:Int) (d:Int×Int×Int):Int×Int×Int×Int:=e9 d (IntKind.u64.wrap (shr IntKind.u64 d.snd.fst 11*
 IntKind.u64.wrap (aM p))) (IntKind.u64.wrap (d.snd.fst-IntKind.u64.wrap (shr IntKind.u64 d.snd.fst 11*IntKind.u64.wrap (aM p))))
abbrev ab9:Type:=Int×Int×(Int×Int×Int)
noncomputable abbrev aca (x:ab9):LV:=LV.cV [VV.sc (SV.int IntKind.i64 (SI.sym x.1)),VV.sc (SV.int IntKind.i64 (SI.sym x.2.1))]
noncomputable abbrev acb (x:ab9):List (Nat×Ev.Item):= [(0,O5.wr x.2.2)]
noncomputable def TW (p:Int) (d:Int×Int×Int):Tr (ab9):=(.need (vh d) (.ite (!u9 d) (.ret (0,aM p,d)) (.need (mO
 (IntKind.u64.wrap (shr IntKind.u64 d.snd.fst 11*IntKind.u64.wrap (aM p))) (IntKind.u64.wrap (d.snd.fst-IntKind.u64.wrap (shr IntKind.u64
 d.snd.fst 11*IntKind.u64.wrap (aM p)))) d) (.ret ((BA p d).fst,cq (aM p) (BA p d).fst,(BA p d).snd)))))
theorem WN (p:Int) (d:Dc):aY Tryz.prog [(173,ab4),(174,G9),(155,F1),(158,tT)] [] Tryz.f150 ((lQ).wr (p,())) ((jK).wr (d,())) [.fr [.sym],.syms,.auto,.ax]=(TW p d).end aca acb ((jK).wr (d,())):=by kernel_rfl
theorem acd (p:Int) (d:Dc):aP Tryz.prog ((jK).wr (d,())) [] (aH Tryz.f150):=(aP.nil _)
abbrev nG (p:Int) (d:Dc):Prop:=kx d
noncomputable def alZ:au:=au.bV [] (lQ) (jK) fun x_ y_=> .leaf (some ((fun (p:Int) (d:Dc)=>nG p d) x_.1 y_.1)) (aca ((fun (p:Int) (d:Dc)=>aQ p d) x_.1 y_.1)) (acb ((fun (p:Int) (d:Dc)=>aQ p d) x_.1 y_.1))
theorem aiC (p:Int) (d:Dc) (h_:nG p d):(TW p d).Is (aQ p d):=by
 obtain ⟨h1,h2,h3,h4⟩:=h_
 have hb:=eI p h2 h3
 have hh:=eY p
 have e0:IntKind.u64.wrap (aM p)=aM p:=wrap_u64 (by omega) (by omega)
 have e1:shr .u64 d.2.1 11=d.2.1/2048:=eX .u64 d.2.1 11 (by decide)
 have e2:IntKind.u64.wrap (d.2.1/2048*aM p)=d.2.1/2048*aM p:=wrap_u64 (by omega) (by omega)
 have e3:IntKind.u64.wrap (d.2.1-d.2.1/2048*aM p)=d.2.1-d.2.1/2048*aM p:=wrap_u64 (by omega) (by omega)
 have ea:BA p d=e9 d (d.2.1/2048*aM p) (d.2.1-d.2.1/2048*aM p):=by unfold BA;rw[e0,e1,e2,e3]
 simp only[TW,aQ,ai,kr,aj,e0,e1,e2,e3,ea,Po]
 refine ⟨trivial,fun h=>⟨⟨⟨h1,h2,h3,h4⟩,((il d).1 h).1,by omega,by omega,by omega,by omega⟩,by rw[if_pos h]⟩,fun h=>by rw[if_neg (by simp[h])]⟩
theorem aiD:alZ.Ok Tryz.prog 150:=
 bM (tys:= []) (A:=lQ) (H:=jK) (LT:=fun x_ y_=>(fun (p:Int) (d:Dc)=> []) x_.1 y_.1) (ks:= [.fr [.sym],.syms,.auto,.ax]) (V:=aca) (D:=acb) (T:=fun x_ y_=>TW x_.1 y_.1) (pre:=fun x_ y_=>(fun (p:Int) (d:Dc)=>nG p d) x_.1 y_.1) (sp:=fun x_ y_=>(fun (p:Int) (d:Dc)=>aQ p d) x_.1 y_.1) mixed ((ao TU (ao Et (ao tS (ao qG aD))))) Tryz.func150 (by kernel_rfl) Tryz.call150 (fun x_ y_=>acd x_.1 y_.1) (fun x_ y_=>WN x_.1 y_.1) (fun x_ y_ h=>aiC x_.1 y_.1 h)
noncomputable def z8 (d:Int×Int×Int):Int×Int×Int×Int:=e9 d (IntKind.u64.wrap (d.snd.fst.tdiv 2)) (IntKind.u64.wrap
 (d.snd.fst.tdiv 2))
abbrev Pp:Type:=Int×(Int×Int×Int)
noncomputable abbrev Pq (x:Pp):LV:=LV.one (VV.sc (SV.int IntKind.i64 (SI.sym x.1)))
noncomputable abbrev Pr (x:Pp):List (Nat×Ev.Item):= [(0,O5.wr x.2)]
noncomputable def Ha (d:Int×Int×Int):Tr (Pp):=(.need (vh d) (.ite (!u9 d) (.ret (0,d)) (.need (mO (IntKind.u64.wrap
 (d.snd.fst.tdiv 2)) (IntKind.u64.wrap (d.snd.fst.tdiv 2)) d) (.ret ((z8 d).fst,(z8 d).snd)))))
theorem Ps (d:Dc):aY Tryz.prog [(173,ab4),(174,G9)] [] Tryz.f151 ((dE).wr (())) ((jK).wr (d,())) [.fr [.sym],.syms,.auto,.ax]=(Ha d).end Pq Pr ((jK).wr (d,())):=by kernel_rfl
theorem WO (d:Dc):aP Tryz.prog ((jK).wr (d,())) [] (aH Tryz.f151):=(aP.nil _)
abbrev vl (d:Dc):Prop:=kx d
noncomputable def ace:au:=au.bV [] (dE) (jK) fun x_ y_=> .leaf (some ((fun (d:Dc)=>vl d) y_.1)) (Pq ((fun (d:Dc)=>bP d) y_.1)) (Pr ((fun (d:Dc)=>bP d) y_.1))
theorem acf (d:Dc) (h_:vl d):(Ha d).Is (bP d):=by
 obtain ⟨h1,h2,h3,h4⟩:=h_
 have e1:d.2.1.tdiv 2=d.2.1/2:=Int.tdiv_eq_ediv_of_nonneg (by omega)
 have e2:IntKind.u64.wrap (d.2.1/2)=d.2.1/2:=wrap_u64 (by omega) (by omega)
 have ea:z8 d=e9 d (d.2.1/2) (d.2.1/2):=by unfold z8;rw[e1,e2]
 simp only[Ha,bP,ai,kr,aj,e1,e2,ea]
 refine ⟨trivial,fun h=>⟨⟨⟨h1,h2,h3,h4⟩,((il d).1 h).1,by omega,by omega,by omega,by omega⟩,by rw[if_pos h]⟩,fun h=>by rw[if_neg (by simp[h])]⟩
theorem acg:ace.Ok Tryz.prog 151:=
 bM (tys:= []) (A:=dE) (H:=jK) (LT:=fun x_ y_=>(fun (d:Dc)=> []) y_.1) (ks:= [.fr [.sym],.syms,.auto,.ax]) (V:=Pq) (D:=Pr) (T:=fun x_ y_=>Ha y_.1) (pre:=fun x_ y_=>(fun (d:Dc)=>vl d) y_.1) (sp:=fun x_ y_=>(fun (d:Dc)=>bP d) y_.1) mixed ((ao TU (ao Et aD))) Tryz.func151 (by kernel_rfl) Tryz.call151 (fun x_ y_=>WO y_.1) (fun x_ y_=>Ps y_.1) (fun x_ y_ h=>acf y_.1 h)
abbrev ach:Type:=Int×Int×Int
noncomputable abbrev aci (x:ach):LV:=LV.one (VV.sc (SV.ptr 0 0))
noncomputable abbrev acj (x:ach):List (Nat×Ev.Item):= [(0,jJ.wr x)]
noncomputable def ack:Tr (ach):=(.ret ((0,4294967295,4)))
theorem WQ:aY Tryz.prog [] [] Tryz.f67 ((ag).wr (())) ((ag).wr (())) [.fr [.sym],.syms,.auto,.ax]=(ack).end aci acj ((ag).wr (())):=by kernel_rfl
theorem acm:aP Tryz.prog ((ag).wr (())) [] (aH Tryz.f67):=(aP.nil _)
abbrev z9:Prop:=True
noncomputable def acn:au:=au.bV [] (ag) (ag) fun x_ y_=> .leaf (some (z9)) (aci ((0,4294967295,4))) (acj ((0,4294967295,4)))
theorem aiE (h_:z9):(ack).Is ((0,4294967295,4)):=by
 exact rfl
theorem TX:acn.Ok Tryz.prog 67:=
 bM (tys:= []) (A:=ag) (H:=ag) (LT:=fun x_ y_=> []) (ks:= [.fr [.sym],.syms,.auto,.ax]) (V:=aci) (D:=acj) (T:=fun x_ y_=>ack) (pre:=fun x_ y_=>z9) (sp:=fun x_ y_=>(0,4294967295,4)) mixed aD Tryz.func67 (by kernel_rfl) Tryz.call67 (fun x_ y_=>acm) (fun x_ y_=>WQ) (fun x_ y_ h=>aiE h)
abbrev Pu:Type:=Bool×(Int×Int×Int)
noncomputable abbrev Pv (x:Pu):LV:=LV.one (VV.sc (SV.bool (SB.sym x.1)))
noncomputable abbrev Pw (x:Pu):List (Nat×Ev.Item):= [(0,jJ.wr x.2)]
noncomputable def Hb (b:Int) (d:Int×Int×Int):Tr (Pu):=(.ite (d.snd.snd==0) (.ret (false,d)) (.ret (true,(IntKind.u64.wrap
 (IntKind.u64.wrap (d.fst*256)+IntKind.u64.wrap b),d.snd.fst,IntKind.i64.wrap (d.snd.snd-1)))))
theorem Px (b:Int) (d:Dc):aY Tryz.prog [] [] Tryz.f105 ((WD).wr (b,())) ((jL).wr (d,())) [.fr [.sym],.syms,.auto,.ax]=(Hb b d).end Pv Pw ((jL).wr (d,())):=by kernel_rfl
theorem WR (b:Int) (d:Dc):aP Tryz.prog ((jL).wr (d,())) [] (aH Tryz.f105):=(aP.nil _)
abbrev vm (b:Int) (d:Dc):Prop:=kx d∧By b
noncomputable def Py:au:=au.bV [] (WD) (jL) fun x_ y_=> .leaf (some ((fun (b:Int) (d:Dc)=>vm b d) x_.1 y_.1)) (Pv ((fun (b:Int) (d:Dc)=>(decide (0<d.2.2),fy d b)) x_.1 y_.1)) (Pw ((fun (b:Int) (d:Dc)=>(decide (0<d.2.2),fy d b)) x_.1 y_.1))
theorem aco (b:Int) (d:Dc) (h_:vm b d):(Hb b d).Is ((decide (0<d.2.2),fy d b)):=by
 obtain ⟨⟨h1,h2,h3,h4⟩,h5,h6⟩:=h_
 have e0:IntKind.u64.wrap b=b:=wrap_u64 h5 (by omega)
 have e1:IntKind.u64.wrap (d.1*256)=d.1*256:=wrap_u64 (by omega) (by omega)
 have e2:IntKind.u64.wrap (d.1*256+b)=d.1*256+b:=wrap_u64 (by omega) (by omega)
 have e3:IntKind.i64.wrap (d.2.2-1)=d.2.2-1:=aq (by omega) (by omega)
 simp only[Hb,fy,da,aj,e0,e1,e2,e3]
 refine ⟨fun h=>?_,fun h=>?_⟩
 ·rw[if_pos (by omega),decide_eq_false (by omega)]
 ·rw[if_neg (by omega),decide_eq_true (by omega)]
theorem KR:Py.Ok Tryz.prog 105:=
 bM (tys:= []) (A:=WD) (H:=jL) (LT:=fun x_ y_=>(fun (b:Int) (d:Dc)=> []) x_.1 y_.1) (ks:= [.fr [.sym],.syms,.auto,.ax]) (V:=Pv) (D:=Pw) (T:=fun x_ y_=>Hb x_.1 y_.1) (pre:=fun x_ y_=>(fun (b:Int) (d:Dc)=>vm b d) x_.1 y_.1) (sp:=fun x_ y_=>(fun (b:Int) (d:Dc)=>(decide (0<d.2.2),fy d b)) x_.1 y_.1) mixed aD Tryz.func105 (by kernel_rfl) Tryz.call105 (fun x_ y_=>WR x_.1 y_.1) (fun x_ y_=>Px x_.1 y_.1) (fun x_ y_ h=>aco x_.1 y_.1 h)
abbrev Pz:Type:=Bool
noncomputable abbrev PA (x:Pz):LV:=LV.one (VV.sc (SV.bool (SB.sym x)))
noncomputable abbrev PB (x:Pz):List (Nat×Ev.Item):= []
noncomputable def Hc (d:Int×Int×Int):Tr (Pz):=(.ite ((d.snd.snd==0)==true) (.ret (decide (d.snd.fst≤d.fst))) (.ret (false)))
theorem PC (d:Dc):aY Tryz.prog [] [] Tryz.f106 ((dE).wr (())) ((jL).wr (d,())) [.fr [.sym],.syms,.auto,.ax]=(Hc d).end PA PB ((jL).wr (d,())):=by kernel_rfl
theorem WS (d:Dc):aP Tryz.prog ((jL).wr (d,())) [] (aH Tryz.f106):=(aP.nil _)
abbrev mP (d:Dc):Prop:=True
noncomputable def BB:au:=au.bV [] (dE) (jL) fun x_ y_=> .leaf (some ((fun (d:Dc)=>mP d) y_.1)) (PA ((fun (d:Dc)=>fX d) y_.1)) (PB ((fun (d:Dc)=>fX d) y_.1))
theorem acp (d:Dc) (h_:mP d):(Hc d).Is (fX d):=by
 simp only[Hc,fX,bI,aj,ib,beq_iff_eq,beq_eq_false_iff_ne]
 exact ⟨fun h=>decide_eq_decide.2 (by omega),fun h=>(decide_eq_false (by omega)).symm⟩
theorem vn:BB.Ok Tryz.prog 106:=
 bM (tys:= []) (A:=dE) (H:=jL) (LT:=fun x_ y_=>(fun (d:Dc)=> []) y_.1) (ks:= [.fr [.sym],.syms,.auto,.ax]) (V:=PA) (D:=PB) (T:=fun x_ y_=>Hc y_.1) (pre:=fun x_ y_=>(fun (d:Dc)=>mP d) y_.1) (sp:=fun x_ y_=>(fun (d:Dc)=>fX d) y_.1) mixed aD Tryz.func106 (by kernel_rfl) Tryz.call106 (fun x_ y_=>WS y_.1) (fun x_ y_=>PC y_.1) (fun x_ y_ h=>acp y_.1 h)
abbrev acq:Type:=Int×Int×Int
noncomputable abbrev acr (x:acq):LV:=LV.cV []
noncomputable abbrev acs (x:acq):List (Nat×Ev.Item):= [(0,jJ.wr x)]
noncomputable def TY (d:Int×Int×Int):Tr (acq):=(.ite (decide (d.snd.fst<16777216)) (.ret ((d.fst,IntKind.u64.wrap (d.snd.fst*256),
 1))) (.ret (d)))
theorem WT (d:Dc):aY Tryz.prog [] [] Tryz.f144 ((dE).wr (())) ((jL).wr (d,())) [.fr [.sym],.syms,.auto,.ax]=(TY d).end acr acs ((jL).wr (d,())):=by kernel_rfl
theorem acu (d:Dc):aP Tryz.prog ((jL).wr (d,())) [] (aH Tryz.f144):=(aP.nil _)
abbrev nH (d:Dc):Prop:=0≤d.2.1∧d.2.1<4294967296∧d.2.2=0
noncomputable def acv:au:=au.bV [] (dE) (jL) fun x_ y_=> .leaf (some ((fun (d:Dc)=>nH d) y_.1)) (acr ((fun (d:Dc)=>ky d.1 d.2.1) y_.1)) (acs ((fun (d:Dc)=>ky d.1 d.2.1) y_.1))
theorem aiF (d:Dc) (h_:nH d):(TY d).Is (ky d.1 d.2.1):=by
 obtain ⟨h1,h2,h3⟩:=h_
 obtain ⟨c,w,n⟩:=d
 simp only at h1 h2 h3
 subst h3
 simp only[TY,ky,aN,aj]
 refine ⟨fun h=>?_,fun h=>by rw[if_neg h]⟩
 rw[wrap_u64 (by omega) (by omega),if_pos h]
theorem TZ:acv.Ok Tryz.prog 144:=
 bM (tys:= []) (A:=dE) (H:=jL) (LT:=fun x_ y_=>(fun (d:Dc)=> []) y_.1) (ks:= [.fr [.sym],.syms,.auto,.ax]) (V:=acr) (D:=acs) (T:=fun x_ y_=>TY y_.1) (pre:=fun x_ y_=>(fun (d:Dc)=>nH d) y_.1) (sp:=fun x_ y_=>(fun (d:Dc)=>ky d.1 d.2.1) y_.1) mixed aD Tryz.func144 (by kernel_rfl) Tryz.call144 (fun x_ y_=>acu y_.1) (fun x_ y_=>WT y_.1) (fun x_ y_ h=>aiF y_.1 h)
noncomputable def acw (p:Int) (d:Int×Int×Int):Int×Int×Int:=ky (IntKind.u64.wrap (d.fst-IntKind.u64.wrap (IntKind.u64.wrap
 (d.snd.fst.tdiv 2048)*IntKind.u64.wrap (aM p)))) (IntKind.u64.wrap (d.snd.fst-IntKind.u64.wrap (IntKind.u64.wrap (d.snd.fst.tdiv 2048)*
 IntKind.u64.wrap (aM p))))
abbrev acx:Type:=Int×Int×(Int×Int×Int)
noncomputable abbrev acy (x:acx):LV:=LV.cV [VV.sc (SV.int IntKind.i64 (SI.sym x.1)),VV.sc (SV.int IntKind.i64 (SI.sym x.2.1))]
noncomputable abbrev acz (x:acx):List (Nat×Ev.Item):= [(0,jJ.wr x.2.2)]
noncomputable def T0 (p:Int) (d:Int×Int×Int):Tr (acx):=(.ite (decide (0<d.snd.snd)==false) (.need (mP d) (.ite (fX d)
 (.ret (0,aM p,d)) (.ite (decide (d.fst<IntKind.u64.wrap (IntKind.u64.wrap (d.snd.fst.tdiv 2048)*IntKind.u64.wrap (aM p)))) (.need (nH
 (d.fst,IntKind.u64.wrap (IntKind.u64.wrap (d.snd.fst.tdiv 2048)*IntKind.u64.wrap (aM p)),d.snd.snd)) (.ret (0,cq p 0,ky d.fst
 (IntKind.u64.wrap (IntKind.u64.wrap (d.snd.fst.tdiv 2048)*IntKind.u64.wrap (aM p)))))) (.need (nH (IntKind.u64.wrap (d.fst-IntKind.u64.wrap
 (IntKind.u64.wrap (d.snd.fst.tdiv 2048)*IntKind.u64.wrap (aM p))),IntKind.u64.wrap (d.snd.fst-IntKind.u64.wrap (IntKind.u64.wrap
 (d.snd.fst.tdiv 2048)*IntKind.u64.wrap (aM p))),d.snd.snd)) (.ret (1,cq p 1,acw p d)))))) (.ret (0,aM p,d)))
theorem WU (p:Int) (d:Dc):aY Tryz.prog [(106,BB),(144,acv),(139,F3),(142,tV)] [] Tryz.f107 ((lQ).wr (p,())) ((jL).wr (d,())) [.fr [.sym],.syms,.auto,.ax]=(T0 p d).end acy acz ((jL).wr (d,())):=by kernel_rfl
theorem acA (p:Int) (d:Dc):aP Tryz.prog ((jL).wr (d,())) [] (aH Tryz.f107):=(aP.nil _)
abbrev nJ (p:Int) (d:Dc):Prop:=kx d
noncomputable def vo:au:=au.bV [] (lQ) (jL) fun x_ y_=> .leaf (some ((fun (p:Int) (d:Dc)=>nJ p d) x_.1 y_.1)) (acy ((fun (p:Int) (d:Dc)=>aQ p d) x_.1 y_.1)) (acz ((fun (p:Int) (d:Dc)=>aQ p d) x_.1 y_.1))
theorem aiG (p:Int) (d:Dc) (h_:nJ p d):(T0 p d).Is (aQ p d):=by
 obtain ⟨h1,h2,h3,h4⟩:=h_
 have hb:=eI p h2 h3
 have hh:=eY p
 have e0:IntKind.u64.wrap (aM p)=aM p:=wrap_u64 (by omega) (by omega)
 have e1:IntKind.u64.wrap (d.2.1.tdiv 2048)=d.2.1/2048:=by rw[Int.tdiv_eq_ediv_of_nonneg (by omega),wrap_u64 (by omega) (by omega)]
 have e2:IntKind.u64.wrap (d.2.1/2048*aM p)=d.2.1/2048*aM p:=wrap_u64 (by omega) (by omega)
 have e3:IntKind.u64.wrap (d.2.1-d.2.1/2048*aM p)=d.2.1-d.2.1/2048*aM p:=wrap_u64 (by omega) (by omega)
 simp only[T0,acw,aQ,e9,bI,ai,aj,e0,e1,e2,e3,Bz,Eu,beq_iff_eq,beq_eq_false_iff_ne,decide_eq_true_eq,decide_eq_false_iff_not]
 refine ⟨fun h=>⟨trivial,fun h5=>?_,fun h5=>?_⟩,fun h=>?_⟩
 ·rw[if_neg (by rw[il];omega)]
 ·have hm:u9 d=true:=by rw[il];omega
  rw[if_pos hm]
  refine ⟨fun h6=>⟨⟨by simp only;omega,by simp only;omega,by simp only;omega⟩,by rw[if_pos h6]⟩,fun h6=>?_⟩
  have e4:IntKind.u64.wrap (d.1-d.2.1/2048*aM p)=d.1-d.2.1/2048*aM p:=wrap_u64 (by omega) (by omega)
  rw[e4]
  exact ⟨⟨by simp only;omega,by simp only;omega,by simp only;omega⟩,by rw[if_neg h6]⟩
 ·rw[if_neg (by rw[il];simp at h;omega)]
theorem lu:vo.Ok Tryz.prog 107:=
 bM (tys:= []) (A:=lQ) (H:=jL) (LT:=fun x_ y_=>(fun (p:Int) (d:Dc)=> []) x_.1 y_.1) (ks:= [.fr [.sym],.syms,.auto,.ax]) (V:=acy) (D:=acz) (T:=fun x_ y_=>T0 x_.1 y_.1) (pre:=fun x_ y_=>(fun (p:Int) (d:Dc)=>nJ p d) x_.1 y_.1) (sp:=fun x_ y_=>(fun (p:Int) (d:Dc)=>aQ p d) x_.1 y_.1) mixed ((ao vn (ao TZ (ao tU (ao qH aD))))) Tryz.func107 (by kernel_rfl) Tryz.call107 (fun x_ y_=>acA x_.1 y_.1) (fun x_ y_=>WU x_.1 y_.1) (fun x_ y_ h=>aiG x_.1 y_.1 h)
abbrev PD:Type:=Int×(Int×Int×Int)
noncomputable abbrev PE (x:PD):LV:=LV.one (VV.sc (SV.int IntKind.i64 (SI.sym x.1)))
noncomputable abbrev PF (x:PD):List (Nat×Ev.Item):= [(0,jJ.wr x.2)]
noncomputable def Hd (d:Int×Int×Int):Tr (PD):=(.ite (decide (0<d.snd.snd)==false) (.need (mP d) (.ite (fX d) (.ret (0,
 d)) (.ite (decide (IntKind.u64.wrap (d.snd.fst.tdiv 2)≤d.fst)) (.need (nH (IntKind.u64.wrap (d.fst-IntKind.u64.wrap (d.snd.fst.tdiv 2)),
 IntKind.u64.wrap (d.snd.fst.tdiv 2),d.snd.snd)) (.ret (1,ky (IntKind.u64.wrap (d.fst-IntKind.u64.wrap (d.snd.fst.tdiv 2))) (IntKind.u64.wrap
 (d.snd.fst.tdiv 2))))) (.need (nH (d.fst,IntKind.u64.wrap (d.snd.fst.tdiv 2),d.snd.snd)) (.ret (0,ky d.fst (IntKind.u64.wrap (d.snd.fst.tdiv
 2)))))))) (.ret (0,d)))
theorem PG (d:Dc):aY Tryz.prog [(106,BB),(144,acv)] [] Tryz.f109 ((dE).wr (())) ((jL).wr (d,())) [.fr [.sym],.syms,.auto,.ax]=(Hd d).end PE PF ((jL).wr (d,())):=by kernel_rfl
theorem WV (d:Dc):aP Tryz.prog ((jL).wr (d,())) [] (aH Tryz.f109):=(aP.nil _)
abbrev vp (d:Dc):Prop:=kx d
noncomputable def PH:au:=au.bV [] (dE) (jL) fun x_ y_=> .leaf (some ((fun (d:Dc)=>vp d) y_.1)) (PE ((fun (d:Dc)=>bP d) y_.1)) (PF ((fun (d:Dc)=>bP d) y_.1))
theorem acB (d:Dc) (h_:vp d):(Hd d).Is (bP d):=by
 obtain ⟨h1,h2,h3,h4⟩:=h_
 have e1:d.2.1.tdiv 2=d.2.1/2:=Int.tdiv_eq_ediv_of_nonneg (by omega)
 have e2:IntKind.u64.wrap (d.2.1/2)=d.2.1/2:=wrap_u64 (by omega) (by omega)
 simp only[Hd,bP,e9,bI,ai,aj,e1,e2,Bz,Eu,beq_iff_eq,beq_eq_false_iff_ne,decide_eq_true_eq,decide_eq_false_iff_not]
 refine ⟨fun h=>⟨trivial,fun h5=>?_,fun h5=>?_⟩,fun h=>?_⟩
 ·rw[if_neg (by rw[il];omega)]
 ·have hm:u9 d=true:=by rw[il];omega
  rw[if_pos hm]
  refine ⟨fun h6=>?_,fun h6=>⟨⟨by simp only;omega,by simp only;omega,by simp only;omega⟩,by rw[if_pos (by omega)]⟩⟩
  have e4:IntKind.u64.wrap (d.1-d.2.1/2)=d.1-d.2.1/2:=wrap_u64 (by omega) (by omega)
  rw[e4]
  exact ⟨⟨by simp only;omega,by simp only;omega,by simp only;omega⟩,by rw[if_neg (by omega)]⟩
 ·rw[if_neg (by rw[il];simp at h;omega)]
theorem KS:PH.Ok Tryz.prog 109:=
 bM (tys:= []) (A:=dE) (H:=jL) (LT:=fun x_ y_=>(fun (d:Dc)=> []) y_.1) (ks:= [.fr [.sym],.syms,.auto,.ax]) (V:=PE) (D:=PF) (T:=fun x_ y_=>Hd y_.1) (pre:=fun x_ y_=>(fun (d:Dc)=>vp d) y_.1) (sp:=fun x_ y_=>(fun (d:Dc)=>bP d) y_.1) mixed ((ao vn (ao TZ aD))) Tryz.func109 (by kernel_rfl) Tryz.call109 (fun x_ y_=>WV y_.1) (fun x_ y_=>PG y_.1) (fun x_ y_ h=>acB y_.1 h)
end Go.Proofs.YtjalaohajcpllaaGreat
end
section
set_option linter.unusedVariables false
set_option linter.unusedSimpArgs false
namespace Go.Proofs.YtjalaohajcpllaaGreat
open Go Go.Ev
set_option maxRecDepth 1000000
structure RH where
 cs:List Int
 bh:Int
 part:Int
 node:Int
 t:bQ
abbrev cRH (a b c:Nat):a9 (List SV) RH:=(ae (tM (.int .i64) 2) (ae (ay .i64) (ak (aJ a 0) (ak (aJ b 0) (ak (aJ c 0) (ae (ay .i64) (ae (ay .i64) (ae (ay .i64) (ae (ay .i64) (ae (ay .u8) ag)))))))))).jQ
 (fun x=>⟨x.1,x.2.1,x.2.2.1,x.2.2.2.1,(x.2.2.2.2.1,x.2.2.2.2.2.1,x.2.2.2.2.2.2.1)⟩) (fun y=>(y.cs,y.bh,y.part,y.node,y.t.1,y.t.2.1,y.t.2.2,())) (fun _=>rfl)
abbrev jRd:a9 Ev.Item RH:=tY 179 (cRH 1 3 5)
abbrev PI:a9 Hp (RH×List Int×List Int×List Int×Unit):=
 ae (bG jRd) (ak (bG jT2) (ae (cg 0 (.int .u16)) (ak (bG jT4) (ae (cg 0 (.int .u16)) (ak (bG jT6) (ae (cg 0 (.int .u16)) ag))))))
abbrev DP:a9 Hp (RH×List Int×List Int×List Int×Dc×Unit):=
 ae (bG jRd) (ak (bG jT2) (ae (cg 0 (.int .u16)) (ak (bG jT4) (ae (cg 0 (.int .u16)) (ak (bG jT6) (ae (cg 0 (.int .u16)) (ae (bG O5) ag)))))))
def oB (part:Int):Int:=if part=0 then 1 else if part=1∨part=2 then 8 else 6
def fY (r:RH) (v:Int):Bool×RH:=
 if r.part=0 then (false,⟨r.cs,v,if v=1 then 2 else 1,r.node,(0,0,0)⟩)
 else if r.part=1 then (true,⟨r.cs,r.bh,0,r.node,(r.t.1,r.t.2.1,v)⟩)
 else if r.part=2 then (false,⟨r.cs,r.bh,3,r.node,(v+2,r.t.2)⟩)
 else if r.part=3 then (false,⟨r.cs,r.bh,4,r.node,(r.t.1,v*64,r.t.2.2)⟩)
 else (true,⟨r.cs,r.bh,0,r.node,(r.t.1,r.t.2.1+(v+1),r.t.2.2)⟩)
abbrev BC:Type:=Unit
noncomputable abbrev vq (x:BC):LV:=LV.one (VV.sc (SV.ptr 1 0))
noncomputable abbrev vr (x:BC):List (Nat×Ev.Item):= []
abbrev BD:Type:=Unit
noncomputable abbrev vt (x:BD):LV:=LV.one (VV.sc (SV.ptr 3 0))
noncomputable abbrev vu (x:BD):List (Nat×Ev.Item):= []
abbrev BE:Type:=Unit
noncomputable abbrev vA (x:BE):LV:=LV.one (VV.sc (SV.ptr 5 0))
noncomputable abbrev vB (x:BE):List (Nat×Ev.Item):= []
noncomputable def rm (r:RH) (p1:List Int) (p2:List Int) (p3:List Int):Tr (BC⊕BD⊕BE):=(.ite (r.part==1) (.ret
 (.inl ())) (.ite (r.part==2) (.ret (.inr (.inl ()))) (.ret (.inr (.inr ())))))
theorem KT (r:RH) (p1:List Int) (p2:List Int) (p3:List Int):aY Tryz.prog [] [] Tryz.f152 ((dE).wr (())) ((PI).wr (r,p1,p2,p3,())) [.fr [.sym],.syms,.auto,.ax]=(rm r p1 p2 p3).end (Sum.elim vq (Sum.elim vt vA)) (Sum.elim vr (Sum.elim vu vB)) ((PI).wr (r,p1,p2,p3,())):=by kernel_rfl
theorem PJ (r:RH) (p1:List Int) (p2:List Int) (p3:List Int):aP Tryz.prog ((PI).wr (r,p1,p2,p3,())) [] (aH Tryz.f152):=(aP.nil _)
abbrev fG (r:RH) (p1:List Int) (p2:List Int) (p3:List Int):Prop:=True
noncomputable def T1:au:=au.bV [] (dE) (PI) fun x_ y_=> .ite ((fun (r:RH) (p1:List Int) (p2:List Int) (p3:List Int)=>decide (r.part=1)) y_.1 y_.2.1 y_.2.2.1 y_.2.2.2.1) (.leaf (some ((fun (r:RH) (p1:List Int) (p2:List Int) (p3:List Int)=>fG r p1 p2 p3) y_.1 y_.2.1 y_.2.2.1 y_.2.2.2.1)) (vq ((fun (r:RH) (p1:List Int) (p2:List Int) (p3:List Int)=>()) y_.1 y_.2.1 y_.2.2.1 y_.2.2.2.1)) (vr ((fun (r:RH) (p1:List Int) (p2:List Int) (p3:List Int)=>()) y_.1 y_.2.1 y_.2.2.1 y_.2.2.2.1))) (.ite ((fun (r:RH) (p1:List Int) (p2:List Int) (p3:List Int)=>decide (r.part=2)) y_.1 y_.2.1 y_.2.2.1 y_.2.2.2.1) (.leaf (some ((fun (r:RH) (p1:List Int) (p2:List Int) (p3:List Int)=>fG r p1 p2 p3) y_.1 y_.2.1 y_.2.2.1 y_.2.2.2.1)) (vt ((fun (r:RH) (p1:List Int) (p2:List Int) (p3:List Int)=>()) y_.1 y_.2.1 y_.2.2.1 y_.2.2.2.1)) (vu ((fun (r:RH) (p1:List Int) (p2:List Int) (p3:List Int)=>()) y_.1 y_.2.1 y_.2.2.1 y_.2.2.2.1))) (.leaf (some ((fun (r:RH) (p1:List Int) (p2:List Int) (p3:List Int)=>fG r p1 p2 p3) y_.1 y_.2.1 y_.2.2.1 y_.2.2.2.1)) (vA ((fun (r:RH) (p1:List Int) (p2:List Int) (p3:List Int)=>()) y_.1 y_.2.1 y_.2.2.1 y_.2.2.2.1)) (vB ((fun (r:RH) (p1:List Int) (p2:List Int) (p3:List Int)=>()) y_.1 y_.2.1 y_.2.2.1 y_.2.2.2.1))))
theorem xP (r:RH) (p1:List Int) (p2:List Int) (p3:List Int) (h_:fG r p1 p2 p3):((decide (r.part=1))=true→(rm r p1 p2 p3).Is (.inl (())))∧((decide (r.part=1))=false→(decide (r.part=2))=true→(rm r p1 p2 p3).Is (.inr (.inl (()))))∧((decide (r.part=1))=false→(decide (r.part=2))=false→(rm r p1 p2 p3).Is (.inr (.inr (())))):=by
 simp only[rm,da,aj,decide_eq_true_eq,decide_eq_false_iff_not]
 grind
theorem WW:T1.Ok Tryz.prog 152:=by
 refine anM (tys:= []) (A:=dE) (H:=PI) (LT:=fun x_ y_=>(fun (r:RH) (p1:List Int) (p2:List Int) (p3:List Int)=> []) y_.1 y_.2.1 y_.2.2.1 y_.2.2.2.1) (ks:= [.fr [.sym],.syms,.auto,.ax]) (V:=Sum.elim vq (Sum.elim vt vA)) (D:=Sum.elim vr (Sum.elim vu vB)) (T:=fun x_ y_=>rm y_.1 y_.2.1 y_.2.2.1 y_.2.2.2.1) (out:=fun x_ y_=> .ite ((fun (r:RH) (p1:List Int) (p2:List Int) (p3:List Int)=>decide (r.part=1)) y_.1 y_.2.1 y_.2.2.1 y_.2.2.2.1) (.leaf (some ((fun (r:RH) (p1:List Int) (p2:List Int) (p3:List Int)=>fG r p1 p2 p3) y_.1 y_.2.1 y_.2.2.1 y_.2.2.2.1)) (vq ((fun (r:RH) (p1:List Int) (p2:List Int) (p3:List Int)=>()) y_.1 y_.2.1 y_.2.2.1 y_.2.2.2.1)) (vr ((fun (r:RH) (p1:List Int) (p2:List Int) (p3:List Int)=>()) y_.1 y_.2.1 y_.2.2.1 y_.2.2.2.1))) (.ite ((fun (r:RH) (p1:List Int) (p2:List Int) (p3:List Int)=>decide (r.part=2)) y_.1 y_.2.1 y_.2.2.1 y_.2.2.2.1) (.leaf (some ((fun (r:RH) (p1:List Int) (p2:List Int) (p3:List Int)=>fG r p1 p2 p3) y_.1 y_.2.1 y_.2.2.1 y_.2.2.2.1)) (vt ((fun (r:RH) (p1:List Int) (p2:List Int) (p3:List Int)=>()) y_.1 y_.2.1 y_.2.2.1 y_.2.2.2.1)) (vu ((fun (r:RH) (p1:List Int) (p2:List Int) (p3:List Int)=>()) y_.1 y_.2.1 y_.2.2.1 y_.2.2.2.1))) (.leaf (some ((fun (r:RH) (p1:List Int) (p2:List Int) (p3:List Int)=>fG r p1 p2 p3) y_.1 y_.2.1 y_.2.2.1 y_.2.2.2.1)) (vA ((fun (r:RH) (p1:List Int) (p2:List Int) (p3:List Int)=>()) y_.1 y_.2.1 y_.2.2.1 y_.2.2.2.1)) (vB ((fun (r:RH) (p1:List Int) (p2:List Int) (p3:List Int)=>()) y_.1 y_.2.1 y_.2.2.1 y_.2.2.2.1))))) mixed aD Tryz.func152 (by kernel_rfl) Tryz.call152 (fun x_ y_=>PJ y_.1 y_.2.1 y_.2.2.1 y_.2.2.2.1) (fun x_ y_=>KT y_.1 y_.2.1 y_.2.2.1 y_.2.2.2.1) (fun x_ y_ Q_ h_=>?_)
 cases hc_:(fun (r:RH) (p1:List Int) (p2:List Int) (p3:List Int)=>decide (r.part=1)) y_.1 y_.2.1 y_.2.2.1 y_.2.2.2.1 with
 |true=>exact ⟨_,(xP y_.1 y_.2.1 y_.2.2.1 y_.2.2.2.1 (h_.1 hc_).1).1 hc_,(h_.1 hc_).2⟩
 |false=>
  have h2_:=h_.2 hc_
  cases hd_:(fun (r:RH) (p1:List Int) (p2:List Int) (p3:List Int)=>decide (r.part=2)) y_.1 y_.2.1 y_.2.2.1 y_.2.2.2.1 with
  |true=>exact ⟨_,(xP y_.1 y_.2.1 y_.2.2.1 y_.2.2.2.1 (h2_.1 hd_).1).2.1 hc_ hd_,(h2_.1 hd_).2⟩
  |false=>exact ⟨_,(xP y_.1 y_.2.1 y_.2.2.1 y_.2.2.2.1 (h2_.2 hd_).1).2.2 hc_ hd_,(h2_.2 hd_).2⟩
abbrev He:Type:=Int
noncomputable abbrev Hf (x:He):LV:=LV.one (VV.sc (SV.int IntKind.i64 (SI.sym x)))
noncomputable abbrev Hg (x:He):List (Nat×Ev.Item):= []
noncomputable def Aa (r:RH) (p1:List Int) (p2:List Int) (p3:List Int):Tr (He):=(.ite (r.part==0) (.ret (1)) (.ite (r.part==1)
 (.ite (r.part==1) (.ret (8)) (.ite (r.part==3) (.ret (6)) (.ret (6)))) (.ite (r.part==2) (.ret (8)) (.ite (r.part==3) (.ret (6)) (.ret (6))))))
theorem KU (r:RH) (p1:List Int) (p2:List Int) (p3:List Int):aY Tryz.prog [] [] Tryz.f116 ((dE).wr (())) ((PI).wr (r,p1,p2,p3,())) [.fr [.sym],.syms,.auto,.ax]=(Aa r p1 p2 p3).end Hf Hg ((PI).wr (r,p1,p2,p3,())):=by kernel_rfl
theorem PK (r:RH) (p1:List Int) (p2:List Int) (p3:List Int):aP Tryz.prog ((PI).wr (r,p1,p2,p3,())) [] (aH Tryz.f116):=(aP.nil _)
abbrev rn (r:RH) (p1:List Int) (p2:List Int) (p3:List Int):Prop:=True
noncomputable def T2:au:=au.bV [] (dE) (PI) fun x_ y_=> .leaf (some ((fun (r:RH) (p1:List Int) (p2:List Int) (p3:List Int)=>rn r p1 p2 p3) y_.1 y_.2.1 y_.2.2.1 y_.2.2.2.1)) (Hf ((fun (r:RH) (p1:List Int) (p2:List Int) (p3:List Int)=>oB r.part) y_.1 y_.2.1 y_.2.2.1 y_.2.2.2.1)) (Hg ((fun (r:RH) (p1:List Int) (p2:List Int) (p3:List Int)=>oB r.part) y_.1 y_.2.1 y_.2.2.1 y_.2.2.2.1))
theorem WX (r:RH) (p1:List Int) (p2:List Int) (p3:List Int) (h_:rn r p1 p2 p3):(Aa r p1 p2 p3).Is (oB r.part):=by
 simp only[Aa,oB,da,aj]
 grind
theorem WY:T2.Ok Tryz.prog 116:=
 bM (tys:= []) (A:=dE) (H:=PI) (LT:=fun x_ y_=>(fun (r:RH) (p1:List Int) (p2:List Int) (p3:List Int)=> []) y_.1 y_.2.1 y_.2.2.1 y_.2.2.2.1) (ks:= [.fr [.sym],.syms,.auto,.ax]) (V:=Hf) (D:=Hg) (T:=fun x_ y_=>Aa y_.1 y_.2.1 y_.2.2.1 y_.2.2.2.1) (pre:=fun x_ y_=>(fun (r:RH) (p1:List Int) (p2:List Int) (p3:List Int)=>rn r p1 p2 p3) y_.1 y_.2.1 y_.2.2.1 y_.2.2.2.1) (sp:=fun x_ y_=>(fun (r:RH) (p1:List Int) (p2:List Int) (p3:List Int)=>oB r.part) y_.1 y_.2.1 y_.2.2.1 y_.2.2.2.1) mixed aD Tryz.func116 (by kernel_rfl) Tryz.call116 (fun x_ y_=>PK y_.1 y_.2.1 y_.2.2.1 y_.2.2.2.1) (fun x_ y_=>KU y_.1 y_.2.1 y_.2.2.1 y_.2.2.2.1) (fun x_ y_ h=>WX y_.1 y_.2.1 y_.2.2.1 y_.2.2.2.1 h)
abbrev BF:Type:=Bool×RH
noncomputable abbrev BG (x:BF):LV:=LV.one (VV.sc (SV.bool (SB.sym x.1)))
noncomputable abbrev BH (x:BF):List (Nat×Ev.Item):= [(0,jRd.wr x.2)]
noncomputable def vC (v:Int) (r:RH) (p1:List Int) (p2:List Int) (p3:List Int):Tr (BF):=(.ite (r.part==0) (.ite (v==1)
 (.ret (false,{cs:=r.cs,bh:=v,part:=2,node:=r.node,t:=(0,0,0)})) (.ret (false,{cs:=r.cs,bh:=v,part:=1,node:=r.node,t:=(0,0,0)})))
 (.ite (r.part==1) (.ret (true,{cs:=r.cs,bh:=r.bh,part:=0,node:=r.node,t:=(r.t.fst,r.t.snd.fst,IntKind.u8.wrap v)})) (.ite (r.part
 ==2) (.ret (false,{cs:=r.cs,bh:=r.bh,part:=3,node:=r.node,t:=(IntKind.i64.wrap (v+2),r.t.snd)})) (.ite (r.part==3) (.ret (false,
 {cs:=r.cs,bh:=r.bh,part:=4,node:=r.node,t:=(r.t.fst,shl IntKind.i64 v 6,r.t.snd.snd)})) (.ite (r.part==4) (.ret (true,{cs:=r.cs,bh:=r.bh,part:=0,node:=r.node,t:=(r.t.fst,IntKind.i64.wrap (r.t.snd.fst+IntKind.i64.wrap (v+1)),r.t.snd.snd)}))
 (.ret (true,{cs:=r.cs,bh:=r.bh,part:=0,node:=r.node,t:=r.t})))))))
theorem Hh (v:Int) (r:RH) (p1:List Int) (p2:List Int) (p3:List Int):aY Tryz.prog [] [] Tryz.f117 ((lQ).wr (v,())) ((PI).wr (r,p1,p2,p3,())) [.fr [.sym],.syms,.auto,.ax]=(vC v r p1 p2 p3).end BG BH ((PI).wr (r,p1,p2,p3,())):=by kernel_rfl
theorem KV (v:Int) (r:RH) (p1:List Int) (p2:List Int) (p3:List Int):aP Tryz.prog ((PI).wr (r,p1,p2,p3,())) [] (aH Tryz.f117):=(aP.nil _)
abbrev nK (v:Int) (r:RH) (p1:List Int) (p2:List Int) (p3:List Int):Prop:=0≤v∧v<256∧0≤r.part∧r.part≤4∧0≤r.t.2.1∧r.t.2.1<1000000
noncomputable def KW:au:=au.bV [] (lQ) (PI) fun x_ y_=> .leaf (some ((fun (v:Int) (r:RH) (p1:List Int) (p2:List Int) (p3:List Int)=>nK v r p1 p2 p3) x_.1 y_.1 y_.2.1 y_.2.2.1 y_.2.2.2.1)) (BG ((fun (v:Int) (r:RH) (p1:List Int) (p2:List Int) (p3:List Int)=>fY r v) x_.1 y_.1 y_.2.1 y_.2.2.1 y_.2.2.2.1)) (BH ((fun (v:Int) (r:RH) (p1:List Int) (p2:List Int) (p3:List Int)=>fY r v) x_.1 y_.1 y_.2.1 y_.2.2.1 y_.2.2.2.1))
theorem PL (v:Int) (r:RH) (p1:List Int) (p2:List Int) (p3:List Int) (h_:nK v r p1 p2 p3):(vC v r p1 p2 p3).Is (fY r v):=by
 obtain ⟨h1,h2,h3,h4,h5,h6⟩:=h_
 have e1:IntKind.u8.wrap v=v:=by rw[wrap_u8];omega
 have e2:IntKind.i64.wrap (v+2)=v+2:=aq (by omega) (by omega)
 have e3:IntKind.i64.wrap (v+1)=v+1:=aq (by omega) (by omega)
 have e4:IntKind.i64.wrap (r.t.2.1+(v+1))=r.t.2.1+(v+1):=aq (by omega) (by omega)
 have e5:shl .i64 v 6=v*64:=by
  have:=ia .i64 v 6 (by decide)
  rw[show ((6:Nat):Int)=6 from rfl] at this
  rw[this];exact aq (by omega) (by omega)
 simp only[vC,fY,da,aj,e1,e2,e3,e4,e5]
 grind
theorem PM:KW.Ok Tryz.prog 117:=
 bM (tys:= []) (A:=lQ) (H:=PI) (LT:=fun x_ y_=>(fun (v:Int) (r:RH) (p1:List Int) (p2:List Int) (p3:List Int)=> []) x_.1 y_.1 y_.2.1 y_.2.2.1 y_.2.2.2.1) (ks:= [.fr [.sym],.syms,.auto,.ax]) (V:=BG) (D:=BH) (T:=fun x_ y_=>vC x_.1 y_.1 y_.2.1 y_.2.2.1 y_.2.2.2.1) (pre:=fun x_ y_=>(fun (v:Int) (r:RH) (p1:List Int) (p2:List Int) (p3:List Int)=>nK v r p1 p2 p3) x_.1 y_.1 y_.2.1 y_.2.2.1 y_.2.2.2.1) (sp:=fun x_ y_=>(fun (v:Int) (r:RH) (p1:List Int) (p2:List Int) (p3:List Int)=>fY r v) x_.1 y_.1 y_.2.1 y_.2.2.1 y_.2.2.2.1) mixed aD Tryz.func117 (by kernel_rfl) Tryz.call117 (fun x_ y_=>KV x_.1 y_.1 y_.2.1 y_.2.2.1 y_.2.2.2.1) (fun x_ y_=>Hh x_.1 y_.1 y_.2.1 y_.2.2.1 y_.2.2.2.1) (fun x_ y_ h=>PL x_.1 y_.1 y_.2.1 y_.2.2.1 y_.2.2.2.1 h)
noncomputable def vD (r:RH) (d:Int×Int×Int):Int×Int×Int×Int×Int:=aQ ((List.take 2 (List.drop 0 r.cs)).getD r.bh.toNat 0) d
abbrev PN:Type:=Int×RH×(List Int)×(List Int)×(List Int)×(Int×Int×Int)
noncomputable abbrev PO (x:PN):LV:=LV.one (VV.sc (SV.int IntKind.i64 (SI.sym x.1)))
noncomputable abbrev PQ (x:PN):List (Nat×Ev.Item):= [(0,jRd.wr x.2.1),(1,Item.a8 [SV.sl 2 1] 213),(2,Item.own 1 (Ty.int
 IntKind.u16) x.2.2.1),(3,Item.a8 [SV.sl 4 1] 213),(4,Item.own 1 (Ty.int IntKind.u16) x.2.2.2.1),(5,Item.a8 [SV.sl 6 1] 213),(6,Item.own 1
 (Ty.int IntKind.u16) x.2.2.2.2.1),(7,O5.wr x.2.2.2.2.2)]
noncomputable def Hi (r:RH) (p1:List Int) (p2:List Int) (p3:List Int) (d:Int×Int×Int):Tr (PN):=(.ite (r.part==0) (.need (0
 ≤r.bh∧r.bh<2) (.need (nG ((List.take 2 (List.drop 0 r.cs)).getD r.bh.toNat 0) d) (.need (0≤r.bh∧r.bh<2) (.ret ((vD r d).fst,{cs:=r.cs.set (0+r.bh.toNat) (vD r d).snd.fst,bh:=r.bh,part:=r.part,node:=r.node,t:=r.t},
 p1,p2,p3,(vD r d).snd.snd))))) (.ite (r.part==4) (.need (vl d) (.ret ((bP d).fst,r,p1,p2,p3,(bP d).snd))) (.ite (decide
 (r.part=1)) (.need (fG r p1 p2 p3) (.need (gD p1) (.need (nG (dz p1 r.node) d) (.need (gD p1) (.ret ((aQ (dz p1 r.node) d).fst,
 r,bZ p1 r.node (aQ (dz p1 r.node) d).fst,p2,p3,(aQ (dz p1 r.node) d).snd.snd)))))) (.ite (decide (r.part=2)) (.need (fG r p1 p2
 p3) (.need (gD p2) (.need (nG (dz p2 r.node) d) (.need (gD p2) (.ret ((aQ (dz p2 r.node) d).fst,r,p1,bZ p2 r.node (aQ (dz p2
 r.node) d).fst,p3,(aQ (dz p2 r.node) d).snd.snd)))))) (.need (fG r p1 p2 p3) (.need (gD p3) (.need (nG (dz p3 r.node) d) (.need
 (gD p3) (.ret ((aQ (dz p3 r.node) d).fst,r,p1,p2,bZ p3 r.node (aQ (dz p3 r.node) d).fst,(aQ (dz p3 r.node) d).snd.snd))))))))))
theorem PR (r:RH) (p1:List Int) (p2:List Int) (p3:List Int) (d:Dc):aY Tryz.prog [(152,T1),(150,alZ),(151,ace),(153,VX),(154,F4)] [] Tryz.f115 (((ak (ah (aJ 0 0)) (ak (ah (aJ 7 0)) ag))).wr (())) ((DP).wr (r,p1,p2,p3,d,())) [.one 2,.one 4,.one 6,.fr [.sym],.syms,.auto,.ax]=(Hi r p1 p2 p3 d).end PO PQ ((DP).wr (r,p1,p2,p3,d,())):=by kernel_rfl
theorem WZ (r:RH) (p1:List Int) (p2:List Int) (p3:List Int) (d:Dc):aP Tryz.prog ((DP).wr (r,p1,p2,p3,d,())) [] (aH Tryz.f115):=(aP.nil _)
def fZ (r:RH) (p1 p2 p3:List Int) (d:Dc):Int×RH×List Int×List Int×List Int×Dc:=
 if r.part=0 then
  let x:=aQ (r.cs.getD r.bh.toNat 0) d
  (x.1,⟨r.cs.set r.bh.toNat x.2.1,r.bh,r.part,r.node,r.t⟩,p1,p2,p3,x.2.2)
 else if r.part=4 then ((bP d).1,r,p1,p2,p3,(bP d).2)
 else if r.part=1 then
  let x:=aQ (dz p1 r.node) d
  (x.1,r,bZ p1 r.node x.1,p2,p3,x.2.2)
 else if r.part=2 then
  let x:=aQ (dz p2 r.node) d
  (x.1,r,p1,bZ p2 r.node x.1,p3,x.2.2)
 else
  let x:=aQ (dz p3 r.node) d
  (x.1,r,p1,p2,bZ p3 r.node x.1,x.2.2)
abbrev vE (r:RH) (p1:List Int) (p2:List Int) (p3:List Int) (d:Dc):Prop:=r.cs.length=2∧(r.bh=0∨r.bh=1)∧gD p1∧gD p2∧gD p3∧kx d
noncomputable def acC:au:=au.bV [] ((ak (ah (aJ 0 0)) (ak (ah (aJ 7 0)) ag))) (DP) fun x_ y_=> .leaf (some ((fun (r:RH) (p1:List Int) (p2:List Int) (p3:List Int) (d:Dc)=>vE r p1 p2 p3 d) y_.1 y_.2.1 y_.2.2.1 y_.2.2.2.1 y_.2.2.2.2.1)) (PO ((fun (r:RH) (p1:List Int) (p2:List Int) (p3:List Int) (d:Dc)=>fZ r p1 p2 p3 d) y_.1 y_.2.1 y_.2.2.1 y_.2.2.2.1 y_.2.2.2.2.1)) (PQ ((fun (r:RH) (p1:List Int) (p2:List Int) (p3:List Int) (d:Dc)=>fZ r p1 p2 p3 d) y_.1 y_.2.1 y_.2.2.1 y_.2.2.2.1 y_.2.2.2.2.1))
theorem acD (r:RH) (p1:List Int) (p2:List Int) (p3:List Int) (d:Dc) (h_:vE r p1 p2 p3 d):(Hi r p1 p2 p3 d).Is (fZ r p1 p2 p3 d):=by
 obtain ⟨h1,h2,h3,h4,h5,h6⟩:=h_
 have e1:(List.take 2 (List.drop 0 r.cs)).getD r.bh.toNat 0=r.cs.getD r.bh.toNat 0:=by rw[List.drop_zero,List.take_of_length_le (by omega)]
 have ea:vD r d=aQ (r.cs.getD r.bh.toNat 0) d:=by unfold vD;rw[e1]
 have hb:0≤r.bh∧r.bh<2:=by omega
 simp only[Hi,fZ,da,aN,ai,aj,e1,ea,Nat.zero_add]
 refine ⟨fun e=>⟨hb,h6,hb,by rw[if_pos e]⟩,fun e=>?_⟩
 rw[if_neg e]
 refine ⟨fun e2=>⟨h6,by rw[if_pos e2]⟩,fun e2=>?_⟩
 rw[if_neg e2]
 refine ⟨fun e3=>⟨trivial,h3,h6,h3,by rw[if_pos e3]⟩,fun e3=>?_⟩
 rw[if_neg e3]
 refine ⟨fun e4=>⟨trivial,h4,h6,h4,by rw[if_pos e4]⟩,fun e4=>?_⟩
 rw[if_neg e4]
 exact ⟨trivial,h5,h6,h5,rfl⟩
theorem acE:acC.Ok Tryz.prog 115:=
 bM (tys:= []) (A:=(ak (ah (aJ 0 0)) (ak (ah (aJ 7 0)) ag))) (H:=DP) (LT:=fun x_ y_=>(fun (r:RH) (p1:List Int) (p2:List Int) (p3:List Int) (d:Dc)=> []) y_.1 y_.2.1 y_.2.2.1 y_.2.2.2.1 y_.2.2.2.2.1) (ks:= [.one 2,.one 4,.one 6,.fr [.sym],.syms,.auto,.ax]) (V:=PO) (D:=PQ) (T:=fun x_ y_=>Hi y_.1 y_.2.1 y_.2.2.1 y_.2.2.2.1 y_.2.2.2.2.1) (pre:=fun x_ y_=>(fun (r:RH) (p1:List Int) (p2:List Int) (p3:List Int) (d:Dc)=>vE r p1 p2 p3 d) y_.1 y_.2.1 y_.2.2.1 y_.2.2.2.1 y_.2.2.2.2.1) (sp:=fun x_ y_=>(fun (r:RH) (p1:List Int) (p2:List Int) (p3:List Int) (d:Dc)=>fZ r p1 p2 p3 d) y_.1 y_.2.1 y_.2.2.1 y_.2.2.2.1 y_.2.2.2.2.1) mixed ((ao WW (ao aiD (ao acg (ao Be (ao Bf aD)))))) Tryz.func115 (by kernel_rfl) Tryz.call115 (fun x_ y_=>WZ y_.1 y_.2.1 y_.2.2.1 y_.2.2.2.1 y_.2.2.2.2.1) (fun x_ y_=>PR y_.1 y_.2.1 y_.2.2.1 y_.2.2.2.1 y_.2.2.2.2.1) (fun x_ y_ h=>acD y_.1 y_.2.1 y_.2.2.1 y_.2.2.2.1 y_.2.2.2.2.1 h)
def bK:List Int→Dc→Bool×List Int×Dc
 | [],d=>(decide (d.2.2≤0),[],d)
 |x::r,d=>if 0<d.2.2 then bK r (fy d x) else (true,x::r,d)
theorem BI {d:Dc} (h:kx d) {b:Int} (hb:By b):kx (fy d b):=by
 obtain ⟨h1,h2,h3,h4⟩:=h
 obtain ⟨h5,h6⟩:=hb
 unfold fy
 split
 ·exact ⟨h1,h2,h3,h4⟩
 ·exact ⟨by simp only;omega,h2,h3,by simp only;omega⟩
theorem vF: ∀ (b:List Int) (d:Dc),kx d→aC b→kx (bK b d).2.2∧aC (bK b d).2.1∧(bK b d).2.1.length≤b.length∧((bK b d).1=true→(bK b d).2.2.2.2=0)
 | [],d,h,hb=>by
  refine ⟨h,hb,Nat.le_refl _,fun e=>?_⟩
  have:=h.2.2.2
  simp only[bK,decide_eq_true_eq] at e ⊢
  omega
 |x::r,d,h,hb=>by
  have hr:aC r:=fun z hz=>hb z (by simp[hz])
  unfold bK
  split
  ·have:=vF r (fy d x) (BI h (hb x (by simp))) hr
   exact ⟨this.1,this.2.1,by rw[List.length_cons];omega,this.2.2.2⟩
  ·have:=h.2.2.2
   exact ⟨h,hb,Nat.le_refl _,fun _=>by simp only;omega⟩
def cI (b:List Int) (d:Dc):Bool×List Int×Dc:=if (bK b d).1=true then (!fX (bK b d).2.2,(bK b d).2.1,(bK b d).2.2) else (false,[],(bK b d).2.2)
abbrev BK:Type:=(List Int)×(Int×Int×Int)
noncomputable abbrev xQ:a9 St BK:=(bH (ak (ah (aJ (0) (0))) (ae (ah (dB false false (Ty.int IntKind.u8))) (jk 20 ag)))
 (ae (bG O5) ag)).jQ (fun y=>(y.1.1,y.2.1)) (fun x=>((x.1,()),(x.2,()))) (fun _=>rfl)
abbrev Hj:List Wk:= [.fr (cK 22 [(0,.an),(1,.an)]),.syms,.auto,.ax]
abbrev acF:Exit→List Wk:=qI Hj 0 [.fr (cK 22 [(0,.an),(1,.an)]),.syms,.auto,.ax] [.fr (cK 22 [(4,.an),(5,.an)]),
 .syms,.auto,.ax]
abbrev T3:Type:=Bool×(Int×Int×Int)
noncomputable abbrev Ab (x:T3):Exit×St:=(Exit.ret,⟨(eE 4 (LV.one (VV.sc (SV.gz (Value.slice none 0 0)))::(LV.one (VV.sc (SV.bool
 (SB.sym x.1)))::(eE 16 [])))),[some (O5.wr x.2)]⟩)
abbrev T4:Type:=(List Int)×(Int×Int×Int)
noncomputable abbrev Ac (x:T4):Exit×St:=(Exit.exit 0,⟨(LV.one (VV.sc (SV.ptr 0 0))::(LV.one (VV.sc (SV.rd false false (Ty.int
 IntKind.u8) x.1))::(eE 20 []))),[some (O5.wr x.2)]⟩)
noncomputable def xR (b':List Int) (d':Int×Int×Int):Tr (BK⊕(T3⊕T4)):=(.need (pI d') (.ite (decide (0<
 d'.snd.snd)) (.ite ((↑b'.length:Int)==0) (.ret (.inr (.inl (false,d')))) (.need ((0:Int)≤0∧0<(↑b'.length:Int)) (.need (vf (b'.getD
 0 0) d') (.need ((0:Int)≤1∧1≤(↑b'.length:Int)∧(↑b'.length:Int)≤(↑b'.length:Int)) (.ret (.inl (List.take ((↑b'.length:Int)-
 1).toNat (List.drop 1 b'),fy d' (b'.getD 0 0)))))))) (.ret (.inr (.inr (b',d'))))))
theorem PS (b:List Int) (d:Dc) (b':List Int) (d':Int×Int×Int):c8 Tryz.prog [(112,G3),(113,Pf),(114,Pl)] [] Tryz.f79 0 ((jK).wr (d,())) acF (xQ.wr (b',d'))=(xR b' d').res xQ.wr (Sum.elim Ab Ac):=by kernel_rfl
abbrev vG (b':List Int) (d':Int×Int×Int):Prop:=kx d'∧aC b'∧b'.length<1099511627776
noncomputable abbrev Hk (x_:BK):a6:= .need ((fun (b':List Int) (d':Int×Int×Int)=>vG b' d') x_.1 x_.2) (.ite ((fun (b':List Int) (d':Int×Int×Int)=> !(bK b' d').1) x_.1 x_.2) (.leaf (Ab ((fun (b':List Int) (d':Int×Int×Int)=>(false,(bK b' d').2.2)) x_.1 x_.2)).1 (Ab ((fun (b':List Int) (d':Int×Int×Int)=>(false,(bK b' d').2.2)) x_.1 x_.2)).2) (.leaf (Ac ((fun (b':List Int) (d':Int×Int×Int)=>((bK b' d').2.1,(bK b' d').2.2)) x_.1 x_.2)).1 (Ac ((fun (b':List Int) (d':Int×Int×Int)=>((bK b' d').2.1,(bK b' d').2.2)) x_.1 x_.2)).2))
theorem acG (b':List Int) (d':Int×Int×Int) (h_:vG b' d'):cJ (fun x_:BK=>xR x_.1 x_.2) (b',d') (bif !(bK b' d').1 then .inl ((false,(bK b' d').2.2)) else .inr (((bK b' d').2.1,(bK b' d').2.2))):=by
 obtain ⟨h1,h2,h3⟩:=h_
 induction b' generalizing d' with
 |nil=>
  refine .stop ?_
  simp only[xR,aN,ai,aj,da,bK,List.length_nil]
  refine ⟨trivial,fun h=>⟨fun _=>?_,fun h=>absurd rfl h⟩,fun h=>?_⟩
  ·rw[decide_eq_false (by omega)];rfl
  ·rw[decide_eq_true (by omega)];rfl
 |cons x r ih=>
  have hr:aC r:=fun z hz=>h2 z (by simp[hz])
  have hx:By x:=h2 x (by simp)
  rw[List.length_cons] at h3
  by_cases hn:0<d'.2.2
  ·have j9:=ih (fy d' x) (BI h1 hx) hr (by omega)
   rw[bK,if_pos hn]
   refine .go ?_ j9
   simp only[xR,aN,ai,aj,da,List.length_cons]
   refine ⟨trivial,fun h=>⟨fun h=>by omega,fun _=>⟨⟨by omega,by omega⟩,⟨h1,hx⟩,⟨by omega,by omega,by omega⟩,?_⟩⟩,fun h=>absurd hn h⟩
   have e:(((r.length+1:Nat):Int)-1).toNat=r.length:=by omega
   rw[e]
   simp
  ·rw[bK,if_neg hn]
   refine .stop ?_
   simp only[xR,aN,ai,aj,da]
   exact ⟨trivial,fun h=>absurd h hn,fun _=>rfl⟩
theorem W0 (b:List Int) (d:Dc): ∀ x:BK,Ex Tryz.prog ((jK).wr (d,())) (.loop (aU Tryz.f79 0)) (xQ.wr x) (Hk x):=
 bT mixed ((ao Bx (ao KO (ao KP aD)))) (ws:=acF) (aP.nil _) (E:=Sum.elim Ab Ac) (L:=fun x_=>xR x_.1 x_.2) (pre:=fun x_=>(fun (b':List Int) (d':Int×Int×Int)=>vG b' d') x_.1 x_.2) (sp:=fun x_=>bif (fun (b':List Int) (d':Int×Int×Int)=> !(bK b' d').1) x_.1 x_.2 then .inl ((fun (b':List Int) (d':Int×Int×Int)=>(false,(bK b' d').2.2)) x_.1 x_.2) else .inr ((fun (b':List Int) (d':Int×Int×Int)=>((bK b' d').2.1,(bK b' d').2.2)) x_.1 x_.2)) (fun x_=>PS b d x_.1 x_.2) (fun z=>by cases z<;>(intro e;cases e)) sy (fun x_ h=>acG x_.1 x_.2 h)
noncomputable def acH (b:List Int) (d:Int×Int×Int):Int×Int×Int:=(bK b d).snd.snd
abbrev acI:Type:=(List Int)×Bool×(Int×Int×Int)
noncomputable abbrev acJ (x:acI):LV:=LV.cV [VV.sc (SV.rd false false (Ty.int IntKind.u8) x.1),VV.sc (SV.bool (SB.sym x.2.1))]
noncomputable abbrev acK (x:acI):List (Nat×Ev.Item):= [(0,O5.wr x.2.2)]
noncomputable def T5 (b:List Int) (d:Int×Int×Int):Tr (acI):=(.need (vG b d) (.ite (!(bK b d).fst) (.ret ([],false,(bK b
 d).snd.snd)) (.need (vg (acH b d)) (.ret ((bK b d).snd.fst,!fX (acH b d),(bK b d).snd.snd)))))
theorem W1 (b:List Int) (d:Dc):aY Tryz.prog [(112,G3),(113,Pf),(114,Pl)] [(0,aX xQ ((jK).wr (d,())) Hj (Hk))] Tryz.f79 (((ak (ah (aJ 0 0)) (ae (ah (dB false false u8)) ag))).wr (b,())) ((jK).wr (d,())) [.fr [.rd false u8],.fr [.sym],.syms,.auto,.ax]=(T5 b d).end acJ acK ((jK).wr (d,())):=by kernel_rfl
theorem acL (b:List Int) (d:Dc):aP Tryz.prog ((jK).wr (d,())) [(0,aX xQ ((jK).wr (d,())) Hj (Hk))] (aH Tryz.f79):=(aP.cy (jr (by kernel_rfl) (bz (hp:=(jK).wr (d,())) (W0 b d)) jH))
abbrev Ad (b:List Int) (d:Dc):Prop:=kx d∧aC b∧b.length<1099511627776
noncomputable def al0:au:=au.bV [] ((ak (ah (aJ 0 0)) (ae (ah (dB false false u8)) ag))) (jK) fun x_ y_=> .leaf (some ((fun (b:List Int) (d:Dc)=>Ad b d) x_.1 y_.1)) (acJ ((fun (b:List Int) (d:Dc)=>((cI b d).2.1,(cI b d).1,(cI b d).2.2)) x_.1 y_.1)) (acK ((fun (b:List Int) (d:Dc)=>((cI b d).2.1,(cI b d).1,(cI b d).2.2)) x_.1 y_.1))
theorem aiI (b:List Int) (d:Dc) (h_:Ad b d):(T5 b d).Is (((cI b d).2.1,(cI b d).1,(cI b d).2.2)):=by
 simp only[T5,cI,ai,kr,aj]
 refine ⟨h_,fun h=>?_,fun h=>?_⟩
 ·rw[if_pos h];exact ⟨trivial,rfl⟩
 ·rw[if_neg (by simp[h])]
theorem aiJ:al0.Ok Tryz.prog 79:=
 bM (tys:= []) (A:=(ak (ah (aJ 0 0)) (ae (ah (dB false false u8)) ag))) (H:=jK) (LT:=fun x_ y_=>(fun (b:List Int) (d:Dc)=> [(0,aX xQ ((jK).wr (d,())) Hj (Hk))]) x_.1 y_.1) (ks:= [.fr [.rd false u8],.fr [.sym],.syms,.auto,.ax]) (V:=acJ) (D:=acK) (T:=fun x_ y_=>T5 x_.1 y_.1) (pre:=fun x_ y_=>(fun (b:List Int) (d:Dc)=>Ad b d) x_.1 y_.1) (sp:=fun x_ y_=>(fun (b:List Int) (d:Dc)=>((cI b d).2.1,(cI b d).1,(cI b d).2.2)) x_.1 y_.1) mixed ((ao Bx (ao KO (ao KP aD)))) Tryz.func79 (by kernel_rfl) Tryz.call79 (fun x_ y_=>acL x_.1 y_.1) (fun x_ y_=>W1 x_.1 y_.1) (fun x_ y_ h=>aiI x_.1 y_.1 h)
def kA (part:Int):Int:=if part=0 then 2 else if part=1∨part=2 then 256 else 64
theorem KX (part:Int):shl .i64 1 (oB part)=kA part:=by
 unfold oB kA
 split
 ·exact lp 1 (by omega)
 ·split
  ·exact lp 8 (by omega)
  ·exact lp 6 (by omega)
theorem size_pos (part:Int):0≤oB part:=by unfold oB;split<;>(try split)<;>omega
structure ROk (r:RH):Prop where
 len:r.cs.length=2
 bh:r.bh=0∨r.bh=1
 part:0≤r.part∧r.part≤4
 node:1≤r.node∧r.node<kA r.part
 azs:0≤r.t.2.1∧r.t.2.1≤4096
 tb:0≤r.t.2.2∧r.t.2.2<256
 p4:r.part=4→r.t.2.1≤4032
theorem gK (p:Int) (d:Dc):0≤(aQ p d).1∧(aQ p d).1≤1:=by
 unfold aQ e9
 split
 ·simp only;split<;>simp
 ·simp
theorem vH (d:Dc):0≤(bP d).1∧(bP d).1≤1:=by
 unfold bP e9
 split
 ·split<;>simp
 ·simp
theorem xS (r:RH) (p1 p2 p3:List Int) (d:Dc):(fZ r p1 p2 p3 d).2.1.bh=r.bh∧(fZ r p1 p2 p3 d).2.1.part=r.part∧(fZ r p1 p2 p3 d).2.1.node=r.node∧(fZ r p1 p2 p3 d).2.1.t=r.t∧(fZ r p1 p2 p3 d).2.1.cs.length=r.cs.length∧0≤(fZ r p1 p2 p3 d).1∧(fZ r p1 p2 p3 d).1≤1:=by
 have h:=vH d
 unfold fZ
 split
 ·have:=gK (r.cs.getD r.bh.toNat 0) d
  exact ⟨rfl,rfl,rfl,rfl,by simp,this⟩
 ·split
  ·exact ⟨rfl,rfl,rfl,rfl,rfl,h⟩
  ·split
   ·exact ⟨rfl,rfl,rfl,rfl,rfl,gK _ d⟩
   ·split
    ·exact ⟨rfl,rfl,rfl,rfl,rfl,gK _ d⟩
    ·exact ⟨rfl,rfl,rfl,rfl,rfl,gK _ d⟩
def c7 (r:RH) (p1 p2 p3:List Int) (d:Dc):(bQ×Bool)×RH×List Int×List Int×List Int×Dc:=
 let x:=fZ r p1 p2 p3 d
 let n:=2*r.node+x.1
 if n<kA r.part then (((0,0,0),false),⟨x.2.1.cs,r.bh,r.part,n,r.t⟩,x.2.2)
 else
  let y:=fY ⟨x.2.1.cs,r.bh,r.part,1,r.t⟩ (n-kA r.part)
  if y.1=true then ((y.2.t,true),y.2,x.2.2) else (((0,0,0),false),y.2,x.2.2)
theorem Ew (part:Int):2≤kA part∧kA part≤256:=by unfold kA;split<;>(try split)<;>omega
theorem W2 {r:RH} (h:ROk r) {v:Int} (h0:0≤v) (h1:v<kA r.part) (hn:r.node=1):ROk (fY r v).2:=by
 obtain ⟨k1,k2,k3,k4,k5,k6,k7⟩:=h
 unfold fY
 split
 ·rename_i e
  rw[e] at h1
  have h1:v<2:=h1
  refine ⟨k1,by simp only;omega,by simp only;split<;>omega,?_,by simp,by simp,by simp⟩
  simp only
  split<;>(rw[hn];decide)
 ·split
  ·rename_i e
   rw[e] at h1
   have h1:v<256:=h1
   exact ⟨k1,k2,by simp,by simp only[hn];decide,k5,⟨h0,h1⟩,by simp⟩
  ·split
   ·rename_i e
    exact ⟨k1,k2,by simp,by simp only[hn];decide,k5,k6,by simp⟩
   ·split
    ·rename_i e
     rw[e] at h1
     have h1:v<64:=h1
     exact ⟨k1,k2,by simp,by simp only[hn];decide,by simp only;omega,k6,by simp only;omega⟩
    ·rename_i e1 e2 e3 e4
     have e5:r.part=4:=by omega
     rw[e5] at h1
     have h1:v<64:=h1
     have:=k7 e5
     exact ⟨k1,k2,by simp,by simp only[hn];decide,by simp only;omega,k6,by simp⟩
theorem KY {r:RH} (h:ROk r) (p1 p2 p3:List Int) (d:Dc):ROk (c7 r p1 p2 p3 d).2.1:=by
 obtain ⟨h1,h2,h3,h4,h5,h6,h7⟩:=xS r p1 p2 p3 d
 have hc:=Ew r.part
 have hr:=h
 obtain ⟨k1,k2,k3,k4,k5,k6,k7⟩:=h
 unfold c7
 simp only
 split
 ·rename_i e
  exact ⟨by simp only;omega,k2,k3,by simp only;omega,k5,k6,k7⟩
 ·have:=W2 (r:=⟨(fZ r p1 p2 p3 d).2.1.cs,r.bh,r.part,1,r.t⟩) ⟨by simp only;omega,k2,k3,by simp only;omega,k5,k6,k7⟩ (v:=2*r.node+(fZ r p1 p2 p3 d).1-kA r.part) (by omega) (by simp only;omega) rfl
  split<;>exact this
noncomputable def bf (r:RH) (p1:List Int) (p2:List Int) (p3:List Int) (d:Int×Int×Int):Int×RH×List Int×List Int×List Int×
 Int×Int×Int:=fZ r p1 p2 p3 d
noncomputable def im (r:RH) (p1:List Int) (p2:List Int) (p3:List Int) (d:Int×Int×Int):Int:=IntKind.i64.wrap (IntKind.i64.wrap
 (IntKind.i64.wrap (2*r.node)+(bf r p1 p2 p3 d).fst)-shl IntKind.i64 1 (oB (bf r p1 p2 p3 d).snd.fst.part))
noncomputable def vI (r:RH) (p1:List Int) (p2:List Int) (p3:List Int) (d:Int×Int×Int):Int×Int×Int:=(bf r p1 p2 p3
 d).snd.fst.t
noncomputable def iq (r:RH) (p1:List Int) (p2:List Int) (p3:List Int) (d:Int×Int×Int):RH:= {cs:=(bf r p1 p2 p3 d).snd.fst.cs,bh:=(bf r p1 p2 p3 d).snd.fst.bh,part:=(bf r p1 p2 p3 d).snd.fst.part,node:=1,t:=vI r p1 p2 p3 d}
abbrev Hl:Type:=Int×Int×Int×Bool×RH×(List Int)×(List Int)×(List Int)×(Int×Int×Int)
noncomputable abbrev Hm (x:Hl):LV:=LV.cV [VV.agg [SV.int IntKind.i64 (SI.sym x.1),SV.int IntKind.i64 (SI.sym x.2.1),SV.int
 IntKind.u8 (SI.sym x.2.2.1)],VV.sc (SV.bool (SB.sym x.2.2.2.1))]
noncomputable abbrev Hn (x:Hl):List (Nat×Ev.Item):= [(0,jRd.wr x.2.2.2.2.1),(1,Item.a8 [SV.sl 2 1] 213),(2,Item.own 1 (Ty.int
 IntKind.u16) x.2.2.2.2.2.1),(3,Item.a8 [SV.sl 4 1] 213),(4,Item.own 1 (Ty.int IntKind.u16) x.2.2.2.2.2.2.1),(5,Item.a8 [SV.sl 6 1] 213),(6,
 Item.own 1 (Ty.int IntKind.u16) x.2.2.2.2.2.2.2.1),(7,O5.wr x.2.2.2.2.2.2.2.2)]
noncomputable def Ae (r:RH) (p1:List Int) (p2:List Int) (p3:List Int) (d:Int×Int×Int):Tr (Hl):=(.need (vE r p1 p2 p3
 d) (.need ((Out.leaf none (LV.one (VV.sc (SV.int IntKind.i64 (SI.sym (bf r p1 p2 p3 d).snd.fst.node)))) [],[0])=(Out.leaf none (LV.one (VV.sc
 (SV.int IntKind.i64 (SI.sym r.node)))) [],[0])) (.need (rn {cs:=(bf r p1 p2 p3 d).snd.fst.cs,bh:=(bf r p1 p2 p3 d).snd.fst.bh,part:=(bf r p1 p2 p3 d).snd.fst.part,node:=IntKind.i64.wrap (IntKind.i64.wrap (2*r.node)+(bf r p1 p2 p3 d).fst),t:=vI r p1 p2 p3 d}
 (bf r p1 p2 p3 d).snd.snd.fst (bf r p1 p2 p3 d).snd.snd.snd.fst (bf r p1 p2 p3 d).snd.snd.snd.snd.fst) (.need (0≤oB (bf r
 p1 p2 p3 d).snd.fst.part) (.ite (decide (IntKind.i64.wrap (IntKind.i64.wrap (2*r.node)+(bf r p1 p2 p3 d).fst)<shl IntKind.i64 1 (oB
 (bf r p1 p2 p3 d).snd.fst.part))) (.ret (0,0,0,false,{cs:=(bf r p1 p2 p3 d).snd.fst.cs,bh:=(bf r p1 p2 p3 d).snd.fst.bh,part:=(bf r p1 p2 p3 d).snd.fst.part,node:=IntKind.i64.wrap (IntKind.i64.wrap (2*r.node)+(bf r p1 p2 p3 d).fst),t:=(bf r p1 p2 p3 d).snd.fst.t},
 (bf r p1 p2 p3 d).snd.snd.fst,(bf r p1 p2 p3 d).snd.snd.snd.fst,(bf r p1 p2 p3 d).snd.snd.snd.snd.fst,(bf r p1 p2 p3
 d).snd.snd.snd.snd.snd)) (.need (nK (im r p1 p2 p3 d) (iq r p1 p2 p3 d) (bf r p1 p2 p3 d).snd.snd.fst (bf r p1 p2 p3
 d).snd.snd.snd.fst (bf r p1 p2 p3 d).snd.snd.snd.snd.fst) (.ite (!(fY (iq r p1 p2 p3 d) (im r p1 p2 p3 d)).fst) (.ret (0,0,0,
 false,(fY (iq r p1 p2 p3 d) (im r p1 p2 p3 d)).snd,(bf r p1 p2 p3 d).snd.snd.fst,(bf r p1 p2 p3 d).snd.snd.snd.fst,
 (bf r p1 p2 p3 d).snd.snd.snd.snd.fst,(bf r p1 p2 p3 d).snd.snd.snd.snd.snd)) (.ret ((fY (iq r p1 p2 p3 d) (im r p1 p2 p3
 d)).snd.t.fst,(fY (iq r p1 p2 p3 d) (im r p1 p2 p3 d)).snd.t.snd.fst,(fY (iq r p1 p2 p3 d) (im r p1 p2 p3
 d)).snd.t.snd.snd,true,(fY (iq r p1 p2 p3 d) (im r p1 p2 p3 d)).snd,(bf r p1 p2 p3 d).snd.snd.fst,(bf r p1 p2 p3
 d).snd.snd.snd.fst,(bf r p1 p2 p3 d).snd.snd.snd.snd.fst,(bf r p1 p2 p3 d).snd.snd.snd.snd.snd)))))))))
theorem KZ (r:RH) (p1:List Int) (p2:List Int) (p3:List Int) (d:Dc):aY Tryz.prog [(115,acC),(116,T2),(117,KW)] [] Tryz.f80 (((ak (ah (aJ 0 0)) (ak (ah (aJ 7 0)) ag))).wr (())) ((DP).wr (r,p1,p2,p3,d,())) [.one 2,.one 4,.one 6,.fr [.sym],.syms,.auto,.ax]=(Ae r p1 p2 p3 d).end Hm Hn ((DP).wr (r,p1,p2,p3,d,())):=by kernel_rfl
theorem PT (r:RH) (p1:List Int) (p2:List Int) (p3:List Int) (d:Dc):aP Tryz.prog ((DP).wr (r,p1,p2,p3,d,())) [] (aH Tryz.f80):=(aP.nil _)
abbrev rp (r:RH) (p1:List Int) (p2:List Int) (p3:List Int) (d:Dc):Prop:=ROk r∧gD p1∧gD p2∧gD p3∧kx d
noncomputable def T6:au:=au.bV [] ((ak (ah (aJ 0 0)) (ak (ah (aJ 7 0)) ag))) (DP) fun x_ y_=> .leaf (some ((fun (r:RH) (p1:List Int) (p2:List Int) (p3:List Int) (d:Dc)=>rp r p1 p2 p3 d) y_.1 y_.2.1 y_.2.2.1 y_.2.2.2.1 y_.2.2.2.2.1)) (Hm ((fun (r:RH) (p1:List Int) (p2:List Int) (p3:List Int) (d:Dc)=>((c7 r p1 p2 p3 d).1.1.1,(c7 r p1 p2 p3 d).1.1.2.1,(c7 r p1 p2 p3 d).1.1.2.2,(c7 r p1 p2 p3 d).1.2,(c7 r p1 p2 p3 d).2)) y_.1 y_.2.1 y_.2.2.1 y_.2.2.2.1 y_.2.2.2.2.1)) (Hn ((fun (r:RH) (p1:List Int) (p2:List Int) (p3:List Int) (d:Dc)=>((c7 r p1 p2 p3 d).1.1.1,(c7 r p1 p2 p3 d).1.1.2.1,(c7 r p1 p2 p3 d).1.1.2.2,(c7 r p1 p2 p3 d).1.2,(c7 r p1 p2 p3 d).2)) y_.1 y_.2.1 y_.2.2.1 y_.2.2.2.1 y_.2.2.2.2.1))
theorem W3 (r:RH) (p1:List Int) (p2:List Int) (p3:List Int) (d:Dc) (h_:rp r p1 p2 p3 d):(Ae r p1 p2 p3 d).Is (((c7 r p1 p2 p3 d).1.1.1,(c7 r p1 p2 p3 d).1.1.2.1,(c7 r p1 p2 p3 d).1.1.2.2,(c7 r p1 p2 p3 d).1.2,(c7 r p1 p2 p3 d).2)):=by
 obtain ⟨hr,h3,h4,h5,h6⟩:=h_
 obtain ⟨b1,b2,b3,b4,b5,b6,b7⟩:=xS r p1 p2 p3 d
 obtain ⟨k1,k2,k3,k4,k5,k6,k7⟩:=hr
 have hc:=Ew r.part
 have ea:bf r p1 p2 p3 d=fZ r p1 p2 p3 d:=rfl
 have w1:IntKind.i64.wrap (2*r.node)=2*r.node:=aq (by omega) (by omega)
 have w2:IntKind.i64.wrap (2*r.node+(fZ r p1 p2 p3 d).1)=2*r.node+(fZ r p1 p2 p3 d).1:=aq (by omega) (by omega)
 have w3:IntKind.i64.wrap (2*r.node+(fZ r p1 p2 p3 d).1-kA r.part)=2*r.node+(fZ r p1 p2 p3 d).1-kA r.part:=aq (by omega) (by omega)
 have nF:im r p1 p2 p3 d=2*r.node+(fZ r p1 p2 p3 d).1-kA r.part:=by
  unfold im;rw[ea,b2,KX,w1,w2,w3]
 have Zh:vI r p1 p2 p3 d=r.t:=by unfold vI;rw[ea,b4]
 have Zi:iq r p1 p2 p3 d=⟨(fZ r p1 p2 p3 d).2.1.cs,r.bh,r.part,1,r.t⟩:=by
  unfold iq;rw[ea,b1,b2,Zh]
 simp only[Ae,c7,ai,aN,kr,aj,ea,nF,Zh,Zi,b1,b2,b3,b4,w1,w2,KX]
 refine ⟨⟨k1,k2,h3,h4,h5,h6⟩,trivial,trivial,size_pos _,fun h=>by rw[if_pos h],fun h=>?_⟩
 rw[if_neg h]
 refine ⟨⟨by omega,by omega,k3.1,k3.2,by simp only;omega,by simp only;omega⟩,fun h1=>by rw[if_pos h1],fun h1=>by rw[if_neg (by simp[h1])]⟩
theorem W4:T6.Ok Tryz.prog 80:=
 bM (tys:= []) (A:=(ak (ah (aJ 0 0)) (ak (ah (aJ 7 0)) ag))) (H:=DP) (LT:=fun x_ y_=>(fun (r:RH) (p1:List Int) (p2:List Int) (p3:List Int) (d:Dc)=> []) y_.1 y_.2.1 y_.2.2.1 y_.2.2.2.1 y_.2.2.2.2.1) (ks:= [.one 2,.one 4,.one 6,.fr [.sym],.syms,.auto,.ax]) (V:=Hm) (D:=Hn) (T:=fun x_ y_=>Ae y_.1 y_.2.1 y_.2.2.1 y_.2.2.2.1 y_.2.2.2.2.1) (pre:=fun x_ y_=>(fun (r:RH) (p1:List Int) (p2:List Int) (p3:List Int) (d:Dc)=>rp r p1 p2 p3 d) y_.1 y_.2.1 y_.2.2.1 y_.2.2.2.1 y_.2.2.2.2.1) (sp:=fun x_ y_=>(fun (r:RH) (p1:List Int) (p2:List Int) (p3:List Int) (d:Dc)=>((c7 r p1 p2 p3 d).1.1.1,(c7 r p1 p2 p3 d).1.1.2.1,(c7 r p1 p2 p3 d).1.1.2.2,(c7 r p1 p2 p3 d).1.2,(c7 r p1 p2 p3 d).2)) y_.1 y_.2.1 y_.2.2.1 y_.2.2.2.1 y_.2.2.2.2.1) mixed ((ao acE (ao WY (ao PM aD)))) Tryz.func80 (by kernel_rfl) Tryz.call80 (fun x_ y_=>PT y_.1 y_.2.1 y_.2.2.1 y_.2.2.2.1 y_.2.2.2.2.1) (fun x_ y_=>KZ y_.1 y_.2.1 y_.2.2.1 y_.2.2.2.1 y_.2.2.2.2.1) (fun x_ y_ h=>W3 y_.1 y_.2.1 y_.2.2.1 y_.2.2.2.1 y_.2.2.2.2.1 h)
end Go.Proofs.YtjalaohajcpllaaGreat
end
section
set_option linter.unusedVariables false
set_option linter.unusedSimpArgs false
namespace Go.Proofs.YtjalaohajcpllaaGreat
open Go Go.Ev Go.Lib Go.RowKit
set_option maxHeartbeats 4000000
theorem W5 (w:World):Calls Tryz.prog 59 #[.slice none 0 0,.int .i64 0] w fun e w'=>e= .returned (.slice none 0 0)∧w'=w:=by
 go_enter Tryz.func59,Tryz.ntmps59
 go_wp2
 go_ret
 exact ⟨rfl,rfl⟩
theorem W6 (n:Nat) (w:World) (h0:0<n) (h1:n≤140737488355328):Calls Tryz.prog 59 #[.slice none 0 0,.int .i64 n] w fun e w'=>
  e= .returned (.slice (some ⟨w.heap.size,0,none⟩) 0 (grownCap w n 0 5))∧
   w'=w.drew.alloc (.cells (#[]++Builtin.zeroCells (Value.int .u8 0).cells n++Builtin.zeroCells (Value.int .u8 0).cells (grownCap w n 0 5-n)) 5):=by
 have h2: ¬ ((n:Int)<0):=by omega
 have h3:wrap64 ((0:Int)-(0:Int))=0:=by unfold wrap64;omega
 have h4:wrap64 ((n:Int)-0)=(n:Int):=by unfold wrap64;omega
 have h5:(n:Int)>0:=by omega
 have azt:grownCap w n 0 5≤9223372036854775807:=by
  have:=grownCap_le_maxLen w n 0 5 (by unfold maxLen;omega)
  unfold maxLen at this
  omega
 have hrz: ∀ ty,(Builtin.append_ #[27,3] ty #[.slice none 0 0,.int .i64 n]).run Tryz.prog w=
   .ok (.slice (some ⟨w.heap.size,0,none⟩) n (grownCap w n 0 5)) (w.drew.alloc (.cells (#[]++Builtin.zeroCells (Value.int .u8 0).cells n++Builtin.zeroCells (Value.int .u8 0).cells (grownCap w n 0 5-n)) 5)):=fun ty=>by
  have hi0:(Tryz.prog.info? 5).map (fun i=>(i.zero,i.size,i.bytes))=some (some (.int .u8 0),1,1):=by kernel_rfl
  obtain ⟨i,hi,he⟩:=map_some hi0
  have e1:i.zero=some (.int .u8 0):=congrArg Prod.fst he
  have e2:i.size=1:=congrArg (fun x=>x.2.1) he
  have e3:i.bytes=1:=congrArg (fun x=>x.2.2) he
  have hb:n*i.bytes≤140737488355328:=by rw[e3];omega
  have h:=Lib.run_append_grow_zeros (P:=Tryz.prog) w 27 3 ty 5 i (.int .u8 0) .i64 .i64 (by kernel_rfl) (by kernel_rfl) hi e1 none 0 0 [] (run_firstCells_none w.drew i.size 0 0 0) n h0 (by omega) (by omega) (by omega) (by omega)
   (growslice_fits (need:=0+n) (old:=0) (by omega) (by rw[Nat.zero_add];exact hb))
  rw[Nat.zero_add] at h
  exact h
 have hGn:n≤grownCap w n 0 5:=grownCap_ge w _ _ _
 generalize grownCap w n 0 5=G at*
 go_enter Tryz.func59,Tryz.ntmps59
 go_wp2_with (at_builtin;refine Lib.wpList_append_run _ rfl _ _ _ _ rfl _ _ rfl rfl _ _ (hrz _) ?_)
 all_goals (go_ret;exact ⟨rfl,rfl⟩)
def acM:au:=⟨[],fun args hp=>match args,hp with
 | [.one (.sc (.gz (.slice none 0 0))),.one (.sc (.int .i64 n))],[]=> .leaf (some (0≤n.val∧n.val≤140737488355328)) (.one (.sc (.sl 0 0))) [(0,.own 0 (.int .u8) [])]
 |_,_=> .fail⟩
theorem aiL:acM.Ok Tryz.prog 59:=by
 refine ⟨fun args hp Q h=>hX.done Tryz.call59 ?_⟩
 simp only[acM] at h
 split at h
 ·rename_i args hp n
  obtain ⟨⟨h0,h1⟩,hq⟩:=h
  intro β w vals hh dG
  cases dG with
  |cons a1 t1=>
   cases t1 with
   |cons a2 t2=>
    cases t2
    rename_i v1 v2
    obtain rfl:v1= .slice none 0 0:=a1.2
    have e:v2= .int .i64 n.val:=a2
    subst e
    rcases Int.lt_or_le 0 n.val with hn|hn
    ·obtain ⟨k,hk⟩: ∃ k:Nat,n.val=k:=⟨n.val.toNat,by omega⟩
     rw[hk] at h0 h1 hn ⊢
     refine (W6 k w (by omega) (by omega)).mono ?_
     rintro e w' ⟨rfl,rfl⟩
     have hGn:k≤grownCap w k 0 5:=grownCap_ge w _ _ _
     generalize grownCap w k 0 5=G at*
     generalize hcs:(#[]++Builtin.zeroCells (Value.int .u8 0).cells k++Builtin.zeroCells (Value.int .u8 0).cells (G-k))=cs
     have hlen:cs.toList.length=G:=by
      rw[← hcs];simp[Builtin.zeroCells,Value.cells];omega
     have hdr:bd w [] β β [] w.drew:=hh.drew _ _
     obtain ⟨β',k1,k2,k3⟩:=hdr.sj (id:=0) rfl (v:= .slice (some ⟨w.heap.size,0,none⟩) 0 G) (ver:=0) (t:= .int .u8) (l:= []) (w':=w.drew.alloc (.cells cs 5)) (by simp) rfl rfl (fun b hb=>heap_alloc_old w.drew _ hb)
      ⟨_,_,_,rfl,rfl,Nat.zero_le _,fun e=>(by cases e),fun _=>⟨_,[],[],cs.toList,5,(0,0),rfl,rfl,by simpa using heap_alloc_new w.drew (.cells cs 5),rfl,.nil,by simp[Ty.w,hlen],.inl rfl⟩⟩
      (fun a n c e _=>by cases e;exact Nat.le_refl _)
     exact ⟨_,β',_,_,rfl,⟨_,hq,rfl⟩,⟨rfl,0,by rw[show aK _ []=setAt [] 0 _ from rfl,dn,if_pos rfl];rfl,Nat.le_refl _,fun _=>k3.symm⟩,k1⟩
    ·have DF:n.val=0:=by omega
     rw[DF]
     refine (W5 w).mono ?_
     rintro e w' ⟨rfl,rfl⟩
     obtain ⟨β',k1,k2,k3⟩:=hh.NA (.int .u8)
     exact ⟨_,β',_,_,rfl,⟨_,hq,rfl⟩,k3,k1⟩
 ·exact h.elim
end Go.Proofs.YtjalaohajcpllaaGreat
end
section
set_option linter.unusedVariables false
set_option linter.unusedSimpArgs false
namespace Go.Proofs.YtjalaohajcpllaaGreat
open Go Go.Ev
set_option maxRecDepth 100000
section
noncomputable abbrev K0:Func:=Tryz.f30
abbrev K1:a9 (List LV) (List (List Int)×Int×List (List Int)×Int×Int×Unit):=ae (ah (dB false false (.sl u8))) (jk 2 (ae (ah (ay .i64)) (jk 5 (ae (ah (dB false false (.sl u8))) (ae (ah (ay .i64)) (ae (ah (ay .i64)) (jk 24 ag)))))))
abbrev al1:List Wk:= [.fr (cK 36 [(0,.an),(3,.sym),(9,.an),(10,.sym),(11,.sym)])]
abbrev acN:a9 (List LV) (List (List Int)×Int×Unit):=ae (ah (dB false false (.sl u8))) (jk 2 (ae (ah (ay .i64)) (jk 32 ag)))
abbrev arA:List Wk:= [.fr (cK 36 [(0,.an),(3,.sym)])]
theorem acO (l0 ls:List (List Int)) (s n i:Int):c8 Tryz.prog [] [] K0 0 [] (wsE al1 0 arA) ((bH K1 ag).wr ((l0,s,ls,n,i,()),()))=
  .ite (decide (i<n)) (.need (0≤i∧i<ls.length) (.ite (decide (IntKind.i64.wrap (s+(ls.getD i.toNat []).length)<0)) .fail
   (.leaf .normal ((bH K1 ag).wr ((l0,IntKind.i64.wrap (s+(ls.getD i.toNat []).length),ls,n,IntKind.i64.wrap (i+1),()),())))))
   (.leaf (.exit 0) ((bH acN ag).wr ((l0,s,()),()))):=by kernel_rfl
theorem Ey (ls:List (List Int)) (i:Nat) (h:i<ls.length):(ls.take (i+1)).flatten=(ls.take i).flatten++ls.getD i []:=by
 rw[List.take_add_one,List.flatten_append,List.getD_eq_getElem?_getD,List.getElem?_eq_getElem h]
 simp
theorem Ho (ls:List (List Int)) (i:Nat):(ls.take i).flatten.length≤ls.flatten.length:=by
 have:ls.flatten=(ls.take i).flatten++(ls.drop i).flatten:=by rw[← List.flatten_append,List.take_append_drop]
 rw[this,List.length_append];omega
noncomputable def al2 (x:(List (List Int)×Int×List (List Int)×Int×Int×Unit)×Unit):a6:=
 .need (x.1.2.1=0∧x.1.2.2.2.1=x.1.2.2.1.length∧x.1.2.2.2.2.1=0∧x.1.2.2.1.flatten.length≤140737488355328∧x.1.2.2.1.length≤140737488355328) (.leaf (.exit 0) ((bH acN ag).wr ((x.1.1,(x.1.2.2.1.flatten.length:Int),()),())))
theorem W7 (x):Ex Tryz.prog [] (.loop (aU K0 0)) ((bH K1 ag).wr x) (al2 x):=by
 obtain ⟨⟨l0,s,ls,n,i,_⟩,_⟩:=x
 refine Ex.need fun ⟨h1,h2,h3,h4,h5⟩=>?_
 simp only at h1 h2 h3 h4 h5
 subst h1 h2 h3
 refine Ei mixed aD (aP.nil _) (fun k=>ls.length-k) (fun k:Nat=>(bH K1 ag).wr ((l0,((ls.take k).flatten.length:Int),ls,(ls.length:Int),(k:Int),()),())) (fun k=>k≤ls.length)
  (fun k=> .leaf (.exit 0) ((bH acN ag).wr ((l0,(ls.flatten.length:Int),()),()))) (fun k _=>acO l0 ls _ _ _) (fun k R hk hs=>?_) 0 (Nat.zero_le _)
 ·have hle:=Ho ls k
  refine ⟨fun hb=>?_,fun hb=>?_⟩
  ·have fq:k<ls.length:=by simpa using hb
   have hft:=Ey ls k fq
   have avL:=Ho ls (k+1)
   have hlen:((ls.take (k+1)).flatten.length:Int)=(ls.take k).flatten.length+(ls.getD k []).length:=by rw[hft,List.length_append];omega
   refine ⟨⟨by omega,by omega⟩,fun xb=>?_,fun _=> .inl ⟨rfl,k+1,?_,fq,by omega,hs⟩⟩
   ·rw[aq (by omega) (by simp only[Int.toNat_natCast];omega)] at xb
    simp at xb;omega
   ·rw[aq (by omega) (by simp only[Int.toNat_natCast];omega),aq (by omega) (by omega)]
    simp only[Int.toNat_natCast]
    rw[← hlen]
    rfl
  ·have hge:k=ls.length:=by simp at hb;omega
   subst hge
   rw[List.take_length]
   exact .inr ⟨by simp,hs⟩
abbrev K2:a9 (List LV) (List (List Int)×Int×Int×Unit):=jk 6 (ak (ah (jY 0 0)) (jk 18 (ae (ah (dB false false (.sl u8))) (ae (ah (ay .i64)) (ae (ah (ay .i64)) (jk 8 ag))))))
abbrev al3:List Wk:= [.fr (cK 36 [(6,.an),(25,.an),(26,.sym),(27,.sym)]),.auto,.ax]
abbrev acP:a9 (List LV) Unit:=jk 6 (ak (ah (jY 0 0)) (jk 29 ag))
abbrev arB:List Wk:= [.fr (cK 36 [(6,.an)]),.auto,.ax]
abbrev rN:a9 Hp (List Int×Unit):=ae (cg 0 u8) ag
theorem acQ (ls:List (List Int)) (acc:List Int) (n i:Int):c8 Tryz.prog [] [] K0 2 [] (wsE al3 2 arB) ((bH K2 rN).wr ((ls,n,i,()),(acc,())))=
  .ite (decide (i<n)) (.need (0≤i∧i<ls.length) (.need ((acc.length+(ls.getD i.toNat []).length)*1≤70368744177664∧acc.length+(ls.getD i.toNat []).length≤70368744177664)
   (.leaf .normal ((bH K2 rN).wr ((ls,n,IntKind.i64.wrap (i+1),()),(acc++ls.getD i.toNat [],()))))))
   (.leaf (.exit 2) ((bH acP rN).wr ((),(acc,())))):=by kernel_rfl
noncomputable def al4 (x:(List (List Int)×Int×Int×Unit)×List Int×Unit):a6:=
 .need (x.1.2.1=x.1.1.length∧x.1.2.2.1=0∧x.2.1= []∧x.1.1.flatten.length≤70368744177664∧x.1.1.length≤140737488355328) (.leaf (.exit 2) ((bH acP rN).wr ((),(x.1.1.flatten,()))))
theorem W8 (x):Ex Tryz.prog [] (.loop (aU K0 2)) ((bH K2 rN).wr x) (al4 x):=by
 obtain ⟨⟨ls,n,i,_⟩,acc,_⟩:=x
 refine Ex.need fun ⟨h2,h3,h1,h4,h5⟩=>?_
 simp only at h1 h2 h3 h4 h5
 subst h1 h2 h3
 refine Ei mixed aD (aP.nil _) (fun k=>ls.length-k) (fun k:Nat=>(bH K2 rN).wr ((ls,(ls.length:Int),(k:Int),()),((ls.take k).flatten,()))) (fun k=>k≤ls.length)
  (fun k=> .leaf (.exit 2) ((bH acP rN).wr ((),(ls.flatten,())))) (fun k _=>acQ ls _ _ _) (fun k R hk hs=>?_) 0 (Nat.zero_le _)
 refine ⟨fun hb=>?_,fun hb=>?_⟩
 ·have fq:k<ls.length:=by simpa using hb
  have hft:=Ey ls k fq
  have avL:=Ho ls (k+1)
  have hlen:(ls.take (k+1)).flatten.length=(ls.take k).flatten.length+(ls.getD k []).length:=by rw[hft,List.length_append]
  refine ⟨⟨by omega,by omega⟩,⟨by simp only[Int.toNat_natCast];omega,by simp only[Int.toNat_natCast];omega⟩,.inl ⟨rfl,k+1,?_,fq,by omega,hs⟩⟩
  rw[aq (by omega) (by omega)]
  simp only[Int.toNat_natCast]
  rw[← hft]
  rfl
 ·have hge:k=ls.length:=by simp at hb;omega
  subst hge
  rw[List.take_length]
  exact .inr ⟨by simp,hs⟩
abbrev anP:a9 (List LV) (List (List Int)×Unit):=ae (ah (dB false false (.sl u8))) ag
noncomputable def Hq:au:=au.bV [some (.sl u8)] anP ag fun x _=> .leaf (some (x.1.flatten.length≤70368744177664∧x.1.length≤140737488355328)) (.one (.sc (.sl 0 0))) [(0,.own 0 u8 x.1.flatten)]
noncomputable abbrev al5:eW:= [(0,fw (bH K1 ag) 0 al1 al2),(2,fw (bH K2 rN) 0 al3 al4)]
theorem acR (ls:List (List Int)):aY Tryz.prog [(59,acM)] al5 K0 (anP.wr (ls,())) [] [.auto,.ax]=
  .need ((0:Int)=0∧(ls.length:Int)=ls.length∧(0:Int)=0∧ls.flatten.length≤140737488355328∧ls.length≤140737488355328) (.need (0≤(ls.flatten.length:Int)∧(ls.flatten.length:Int)≤140737488355328)
   (.need ((ls.length:Int)=ls.length∧(0:Int)=0∧([]:List Int)= []∧ls.flatten.length≤70368744177664∧ls.length≤140737488355328) (.leaf (.one (.sc (.sl 0 0))) [some (.own 0 u8 ls.flatten)]))):=by kernel_rfl
theorem pJ:Hq.Ok Tryz.prog 30:=by
 refine (au.bE Tryz.call30 fun x y Q h=>?_).sym
 obtain ⟨ls,_⟩:=x
 obtain ⟨⟨h1,h2⟩,hq⟩:=h
 refine (aG mixed (ao aiL aD) Tryz.func30 rfl (LT:=al5) (ks:= [.auto,.ax]) (aP.cy (jr rfl (c5 (hp:= []) W7) (jr rfl (c5 (hp:= []) W8) jH)))).use (D:= [(0,.own 0 u8 ls.flatten)]) ?_ hq
 show (aY _ _ _ _ (anP.wr (ls,())) [] _).sat _
 rw[acR]
 simp only at h1 h2
 exact ⟨⟨rfl,rfl,rfl,by omega,by omega⟩,⟨by omega,by omega⟩,⟨rfl,rfl,rfl,h1,h2⟩,rfl,rfl⟩
end
end Go.Proofs.YtjalaohajcpllaaGreat
end
section
set_option linter.unusedVariables false
set_option linter.unusedSimpArgs false
namespace Go.Proofs.YtjalaohajcpllaaGreat
open Go Go.Ev
set_option maxRecDepth 100000
def fA:Nat→Int→List Int
 |0,_=> []
 |k+1,x=>x%256::fA k (x/256)
theorem eK: ∀ (k:Nat) (x:Int),(fA k x).length=k
 |0,_=>rfl
 |k+1,x=>by simp[fA,eK k]
theorem div_pow (x:Int) (i:Nat):x/256/256 ^ i=x/256 ^ (i+1):=by
 rw[Int.pow_succ,Int.mul_comm,Int.ediv_ediv_of_nonneg (by omega)]
theorem xT: ∀ (i:Nat) (x:Int),fA (i+1) x=fA i x++ [x/256 ^ i%256]
 |0,x=>by simp[fA]
 |i+1,x=>by
  rw[fA,xT i,fA,List.cons_append,div_pow]
theorem K3: ∀ (k:Nat) (x:Int),fA k x=(List.range k).map fun i=>x/256 ^ i%256
 |0,_=>rfl
 |k+1,x=>by rw[xT,K3 k,List.range_succ,List.map_append];rfl
theorem acS (i k:Nat) (x:Int) (h:i<k):(fA i x++List.replicate (k-i) 0).set i (x/256 ^ i%256)=fA (i+1) x++List.replicate (k-(i+1)) 0:=by
 rw[List.set_append_right _ _ (by rw[eK];exact Nat.le_refl _),eK,Nat.sub_self,show k-i=(k-(i+1))+1 from by omega,List.replicate_succ,List.set_cons_zero,xT,List.append_assoc]
 rfl
theorem BL (i:Nat):(0:Int)<256 ^ i:=Int.pow_pos (by omega)
theorem Ez {x:Int} (i:Nat) (h0:0≤x) (h1:x<18446744073709551616):0≤x/256 ^ i∧x/256 ^ i<18446744073709551616:=
 ⟨Int.ediv_nonneg h0 (Int.le_of_lt (BL i)),Int.lt_of_le_of_lt (Int.ediv_le_self _ h0) h1⟩
abbrev acT:a9 (List LV) (Int×Int×Int×Unit):=ae (ah (ay .u64)) (ae (ah (ay .i64)) (jk 3 (ak (ah (jY 0 0)) (ae (ah (ay .i64)) (jk 16 ag)))))
abbrev arC:List Wk:= [.fr (cK 23 [(0,.sym),(1,.sym),(5,.an),(6,.sym)]),.auto,.ax]
abbrev avM:List Wk:= [.fr (cK 23 [(5,.an)]),.auto,.ax]
abbrev acU:a9 (List LV) Unit:=jk 5 (ak (ah (jY 0 0)) (jk 17 ag))
noncomputable abbrev acV:Func:=Tryz.f36
theorem aiM (x k i:Int) (l:List Int):c8 Tryz.prog [] [] acV 0 [] (wsE arC 0 avM) ((bH acT rN).wr ((x,k,i,()),(l,())))=
  .ite (decide (i<k)) (.need (0≤i∧i<l.length) (.leaf .normal ((bH acT rN).wr ((IntKind.u64.wrap (x.tdiv 256),k,IntKind.i64.wrap (i+1),()),(l.set i.toNat (IntKind.u8.wrap (x.tmod 256)),())))))
   (.leaf (.exit 0) ((bH acU rN).wr ((),(l,())))):=by kernel_rfl
noncomputable def arD (y:(Int×Int×Int×Unit)×List Int×Unit):a6:=
 .need (0≤y.1.1∧y.1.1<18446744073709551616∧0≤y.1.2.1∧y.1.2.1≤70368744177664∧y.1.2.2.1=0∧y.2.1=List.replicate y.1.2.1.toNat 0) (.leaf (.exit 0) ((bH acU rN).wr ((),(fA y.1.2.1.toNat y.1.1,()))))
theorem acW (y):Ex Tryz.prog [] (.loop (aU acV 0)) ((bH acT rN).wr y) (arD y):=by
 obtain ⟨⟨x,k,i,_⟩,l,_⟩:=y
 refine Ex.need fun ⟨h1,h2,h3,h4,h5,h6⟩=>?_
 simp only at h1 h2 h3 h4 h5 h6
 subst h5 h6
 obtain ⟨k,rfl⟩:=Int.eq_ofNat_of_zero_le h3
 refine Ei mixed aD (aP.nil _) (fun i=>k-i) (fun i:Nat=>(bH acT rN).wr ((x/256 ^ i,(k:Int),(i:Int),()),(fA i x++List.replicate (k-i) 0,()))) (fun i=>i≤k)
  (fun i=> .leaf (.exit 0) ((bH acU rN).wr ((),(fA k x,())))) (fun i _=>aiM _ _ _ _) (fun i R hi hs=>?_) 0 (Nat.zero_le _) |> (fun h=>by simpa [fA] using h)
 obtain ⟨g1,g2⟩:=Ez i h1 h2
 refine ⟨fun hb=>?_,fun hb=>?_⟩
 ·have fq:i<k:=by simpa using hb
  refine ⟨⟨by omega,by simp[eK];omega⟩,.inl ⟨rfl,i+1,?_,fq,by omega,hs⟩⟩
  have e1:IntKind.u64.wrap ((x/256 ^ i).tdiv 256)=x/256 ^ (i+1):=by
   have e:x/256 ^ i/256=x/256 ^ (i+1):=by rw[Int.ediv_ediv_of_nonneg (Int.le_of_lt (BL i)),Int.pow_succ]
   obtain ⟨g3,g4⟩:=Ez (i+1) h1 h2
   rw[Int.tdiv_eq_ediv_of_nonneg g1,e,wrap_u64 g3 g4]
  have e2:IntKind.u8.wrap ((x/256 ^ i).tmod 256)=x/256 ^ i%256:=by
   rw[Int.tmod_eq_emod_of_nonneg g1,wrap_u8];omega
  rw[e1,e2,aq (by omega) (by omega),Int.toNat_natCast,acS i k x fq]
  rfl
 ·have hge:i=k:=by simp at hb;omega
  subst hge
  simp only[Nat.sub_self,List.replicate_zero,List.append_nil]
  exact .inr ⟨by simp,hs⟩
abbrev ukA:a9 (List LV) (Int×Int×Unit):=ae (ah (ay .u64)) (ae (ah (ay .i64)) ag)
noncomputable def acX:au:=au.bV [] ukA ag fun x _=> .leaf (some (0≤x.1∧x.1<18446744073709551616∧0≤x.2.1∧x.2.1≤70368744177664)) (.one (.sc (.sl 0 0))) [(0,.own 0 u8 (fA x.2.1.toNat x.1))]
noncomputable abbrev al6:eW:= [(0,fw (bH acT rN) 0 arC arD)]
theorem acY (x k:Int):aY Tryz.prog [] al6 acV (ukA.wr (x,k,())) [] [.auto,.ax]=
 End.need (k=k∧(0:Int)≤k∧(1:Int)*k≤(70368744177664:Int)∧k≤(70368744177664:Int)) (End.need ((0:Int)≤x∧x<
 (18446744073709551616:Int)∧(0:Int)≤k∧k≤(70368744177664:Int)∧(0:Int)=(0:Int)∧List.replicate k.toNat (0:Int)=List.replicate
 k.toNat (0:Int)) (End.leaf (LV.one (VV.sc (SV.sl (0:Nat) (0:Nat)))) [some (Item.own (0:Nat) (Ty.int IntKind.u8) (fA k.toNat x))])):=by kernel_rfl
theorem anQ:acX.Ok Tryz.prog 36:=by
 refine (au.bE Tryz.call36 fun x y Q h=>?_).sym
 obtain ⟨x,k,_⟩:=x
 obtain ⟨⟨h1,h2,h3,h4⟩,hq⟩:=h
 simp only at h1 h2 h3 h4
 refine (aG mixed aD Tryz.func36 rfl (LT:=al6) (ks:= [.auto,.ax]) (aP.cy (jr rfl (c5 (hp:= []) acW) jH))).use (D:= [(0,.own 0 u8 (fA k.toNat x))]) ?_ hq
 show (aY _ _ _ _ (ukA.wr (x,k,())) [] _).sat _
 rw[acY]
 exact ⟨⟨rfl,h3,by omega,h4⟩,⟨h1,h2,h3,h4,rfl,rfl⟩,rfl,rfl⟩
theorem K4 (x:Int):aY Tryz.prog [] [] Tryz.f97 (a9.wr (ae (ah (ay .u64)) ag) (x,())) [] [.auto,.ax]=
 End.need ((1:Nat)≤(70368744177664:Nat)∧(1:Nat)≤(70368744177664:Nat)) (End.need ((2:Nat)≤(70368744177664:Nat)∧(2:Nat)≤
 (70368744177664:Nat)) (End.need ((3:Nat)≤(70368744177664:Nat)∧(3:Nat)≤(70368744177664:Nat)) (End.need ((4:Nat)≤(70368744177664:
 Nat)∧(4:Nat)≤(70368744177664:Nat)) (End.need ((5:Nat)≤(70368744177664:Nat)∧(5:Nat)≤(70368744177664:Nat)) (End.need ((6:Nat)≤
 (70368744177664:Nat)∧(6:Nat)≤(70368744177664:Nat)) (End.need ((7:Nat)≤(70368744177664:Nat)∧(7:Nat)≤(70368744177664:Nat))
 (End.need ((8:Nat)≤(70368744177664:Nat)∧(8:Nat)≤(70368744177664:Nat)) (End.leaf (LV.one (VV.sc (SV.sl (0:Nat) (0:Nat)))) [some
 (Item.own (0:Nat) (Ty.int IntKind.u8) ([IntKind.u8.wrap (shr IntKind.u64 x (0:Int))]++ [IntKind.u8.wrap (shr IntKind.u64 x (8:Int))]++
 [IntKind.u8.wrap (shr IntKind.u64 x (16:Int))]++ [IntKind.u8.wrap (shr IntKind.u64 x (24:Int))]++ [IntKind.u8.wrap (shr IntKind.u64 x (32:
 Int))]++ [IntKind.u8.wrap (shr IntKind.u64 x (40:Int))]++ [IntKind.u8.wrap (shr IntKind.u64 x (48:Int))]++ [IntKind.u8.wrap (shr IntKind.u64 x
 (56:Int))]))])))))))):=by kernel_rfl
noncomputable def acZ:au:=au.bV [] (ae (ah (ay .u64)) ag) ag fun x _=> .leaf (some (0≤x.1∧x.1<18446744073709551616)) (.one (.sc (.sl 0 0))) [(0,.own 0 u8 (fA 8 x.1))]
theorem anR:acZ.Ok Tryz.prog 97:=by
 refine (au.bE Tryz.call97 fun x y Q h=>?_).sym
 obtain ⟨x,_⟩:=x
 obtain ⟨⟨h1,h2⟩,hq⟩:=h
 simp only at h1 h2
 refine (aG mixed aD Tryz.func97 rfl (LT:= []) (ks:= [.auto,.ax]) (aP.nil _)).use (D:= [(0,.own 0 u8 (fA 8 x))]) ?_ hq
 show (aY _ _ _ _ (a9.wr (ae (ah (ay .u64)) ag) (x,())) [] _).sat _
 rw[K4]
 have e: ∀ i:Nat,i<8→IntKind.u8.wrap (shr .u64 x (8*i:Nat))=x/256 ^ i%256:=by
  intro i hi
  have e1:((2 ^ (8*i):Nat):Int)=256 ^ i:=by rw[Nat.pow_mul,Int.natCast_pow];rfl
  rw[eX .u64 x (8*i) (by simp[IntKind.bits];omega),wrap_u8,e1]
 refine ⟨by omega,by omega,by omega,by omega,by omega,by omega,by omega,by omega,rfl,?_⟩
 show _= [some (Item.own 0 u8 (fA 8 x))]
 rw[K3,← List.map_congr_left (fun i hi=>e i (by simpa using hi))]
 rfl
end Go.Proofs.YtjalaohajcpllaaGreat
end
