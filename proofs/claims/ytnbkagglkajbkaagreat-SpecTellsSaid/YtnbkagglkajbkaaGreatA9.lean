/- What the laws lean on, part 9: a reader of code, plain facts, and what each function gives; no conditions. -/
import Derived.WalkKit
import Derived.Lib.Walk
import Derived.Lib.SliceRun
import Derived.Lib.AppendZerosOnto
import Derived.Test.YtnbkagglkajbkaaGreatA8
set_option linter.unusedVariables false
set_option linter.unusedSimpArgs false
noncomputable section
namespace Go.Proofs.YtnbkagglkajbkaaGreat
open Go Go.Ev Go.Proofs.Tryz
open Go.IntKind (i64 signed u16 u64 wrap)
set_option maxRecDepth 1000000
abbrev jTi(i:Nat):aM Ev.Item Int:=(mN 347 (ae (aA .i64) (ai (ke i 0) ag))).kE (fun x=>x.1) (fun w=>(w,())) (fun _=>rfl)
abbrev Ic:=jTi 3
abbrev Ie:=jTi 5
abbrev Ig:=jTi 7
abbrev vf:Type:=(List (Int×Int×Int))×Int×Int×Int×Int×(List Int)×Int×(List Int)×Int×(List Int)×Int×(List Int)×(List
 Int)×Int×Int×Int
abbrev zR:aM St vf:=(aS (ae (ah (fh false false ((Ty.int i64).pair ((Ty.int i64).pair (Ty.int
 IntKind.u8))))) (jk 2 (ai (ah (aC (0) (0))) (ai (ah (aC (2) (0))) (ai (ah (aC (4) (0))) (ai (ah (aC (6) (0))) (ai (ah
 (aC (8) (0))) (ae (ah (aA i64)) (ae (ah (aA i64)) (ai (ah (aC (9) (0))) (jk 1 (ae (ah (aA i64))
 (jk 68 ag))))))))))))) (ae (bp LG) (ae (bS (0) (Ty.int IntKind.u8)) (ae (bp Ic) (ae (bS (0) (Ty.int i64)) (ae
 (bp Ie) (ae (bS (0) (Ty.int i64)) (ae (bp Ig) (ae (bS (0) (Ty.int i64)) (ae (dH (193) ((ae (so (Ty.int
 i64) (2)) ag))) (ae (dH (199) ((ae (aA i64) (ae (aA i64) (ae (aA IntKind.u8) ag)))))
 ag))))))))))).kE (fun y=>(y.1.1,y.1.2.1,y.1.2.2.1,y.1.2.2.2.1,y.2.1,y.2.2.1,y.2.2.2.1,y.2.2.2.2.1,y.2.2.2.2.2.1,y.2.2.2.2.2.2.1,
 y.2.2.2.2.2.2.2.1,y.2.2.2.2.2.2.2.2.1,y.2.2.2.2.2.2.2.2.2.1.1,y.2.2.2.2.2.2.2.2.2.2.1.1,y.2.2.2.2.2.2.2.2.2.2.1.2.1,
 y.2.2.2.2.2.2.2.2.2.2.1.2.2.1)) (fun x=>((x.1,(x.2.1,(x.2.2.1,(x.2.2.2.1,())))),(x.2.2.2.2.1,(x.2.2.2.2.2.1,(x.2.2.2.2.2.2.1,
 (x.2.2.2.2.2.2.2.1,(x.2.2.2.2.2.2.2.2.1,(x.2.2.2.2.2.2.2.2.2.1,(x.2.2.2.2.2.2.2.2.2.2.1,(x.2.2.2.2.2.2.2.2.2.2.2.1,((x.2.2.2.2.2.2.2.2.2.2.2.2.1,
 ()),((x.2.2.2.2.2.2.2.2.2.2.2.2.2.1,(x.2.2.2.2.2.2.2.2.2.2.2.2.2.2.1,(x.2.2.2.2.2.2.2.2.2.2.2.2.2.2.2,()))),())))))))))))) (fun _=>rfl)
abbrev WJ:List Wk:= [.fr (cu 81 [(0,.al),(3,.al),(4,.al),(5,.al),(6,.al),(7,.al),(8,.al),(9,.al),(10,.al),
 (12,.al)]),.syms,.auto,.aE,.eG 8 0 2 .i64]
abbrev WK:Exit→List Wk:=xz WJ 2 [.fr (cu 81 [(0,.al),(3,.al),(4,.al),(5,.al),(6,.al),(7,.al),(8,.al),(9,
 .al)]),.syms,.auto,.aE,.eG 8 0 2 .i64] [.fr (cu 81 [(2,.al)]),.syms,.auto,.aE,.eG 8 0 2 .i64]
abbrev Ih:Type:=(List (Int×Int×Int))×Int×Int×Int×(List Int)×Int×(List Int)×Int×(List Int)×Int×(List Int)×(List Int)
abbrev WL(x:Ih):Exit×St:=(Exit.exit 2,⟨(LV.one (VV.sc (SV.rd false false ((Ty.int i64).pair ((Ty.int
 i64).pair (Ty.int IntKind.u8))) x.1))::(iE 2 (LV.one (VV.sc (SV.ptr 0 0))::(LV.one (VV.sc (SV.ptr 2 0))::(LV.one (VV.sc (SV.ptr 4 0))::
 (LV.one (VV.sc (SV.ptr 6 0))::(LV.one (VV.sc (SV.ptr 8 0))::(LV.one (VV.sc (SV.int i64 (SI.sym x.2.1)))::(LV.one (VV.sc (SV.int
 i64 (SI.sym x.2.2.1)))::(iE 71 [])))))))))),[some (LG.wr x.2.2.2.1),some (Item.own 0 (Ty.int IntKind.u8) x.2.2.2.2.1),some (Ic.wr
 x.2.2.2.2.2.1),some (Item.own 0 (Ty.int i64) x.2.2.2.2.2.2.1),some (Ie.wr x.2.2.2.2.2.2.2.1),some (Item.own 0 (Ty.int i64)
 x.2.2.2.2.2.2.2.2.1),some (Ig.wr x.2.2.2.2.2.2.2.2.2.1),some (Item.own 0 (Ty.int i64) x.2.2.2.2.2.2.2.2.2.2.1),some (Item.aW [SV.arr
 (Ty.int i64) 2 x.2.2.2.2.2.2.2.2.2.2.2] 193)]⟩)
def zS(l':List (Int×Int×Int))(bW:Int)(i:Int)(k:Int)(w:Int)(o:List Int)(b1:Int)(p1:List Int)(b2:Int)
 (p2:List Int) (b3:Int) (p3:List Int) (cs:List Int) (t1:Int) (t2:Int) (t3:Int):Tr (vf⊕(Ih)):=(.ite (decide (0≤k)) (.need
 (0≤u64.wrap k) (.need (BL (aI i64 (shr i64 (i64.wrap (t2-1)) (u64.wrap k)) 1) w o) (.ret (.inl
 (l',bW,i,i64.wrap (k-1),(fD (aI i64 (shr i64 (i64.wrap (t2-1)) (u64.wrap k)) 1) w o).fst,
 (fD (aI i64 (shr i64 (i64.wrap (t2-1)) (u64.wrap k)) 1) w o).snd,b1,p1,b2,p2,b3,p3,cs,t1,t2,t3)))))
 (.ret (.inr (l',bW,i,w,o,b1,p1,b2,p2,b3,p3,cs))))
theorem Me(l:List cY)(l':List (Int×Int×Int))(bW:Int)(i:Int)(k:Int)(w:Int)(o:List Int)(b1:Int)(p1:List Int)(b2:Int)(p2:List Int)(b3:Int)(p3:List Int)(cs:List Int)(t1:Int)(t2:Int)(t3:Int):cO Tryz.prog [(202,k9),(203,Hu),(204,xF),(205,Fh),(207,Hs),(206,HF)] [] f140 2 ((ag).wr (())) WK (zR.wr (l',bW,i,k,w,o,b1,p1,b2,p2,b3,p3,cs,t1,t2,t3))=(zS l' bW i k w o b1 p1 b2 p2 b3 p3 cs t1 t2 t3).res zR.wr WL:=by kernel_rfl
abbrev xP(l':List (Int×Int×Int))(bW:Int)(i:Int)(k:Int)(w:Int)(o:List Int)(b1:Int)(p1:List Int)(b2:Int)(p2:List Int)(b3:Int)(p3:List Int)(cs:List Int)(t1:Int)(t2:Int)(t3:Int):Prop:=w9 w o∧1≤t2∧t2≤4096∧ -1≤k∧k≤5∧o.length<1099511000000
abbrev Ii(l':List (Int×Int×Int))(bW:Int)(i:Int)(k:Int)(w:Int)(o:List Int)(b1:Int)(p1:List Int)(b2:Int)(p2:List Int)(b3:Int)(p3:List Int)(cs:List Int)(t1:Int)(t2:Int)(t3:Int):Ih:=(l',bW,i,(eI (k+1).toNat (t2-1) w o).1,(eI (k+1).toNat (t2-1) w o).2,b1,p1,b2,p2,b3,p3,cs)
abbrev WM:vf→aK:=eB (fun x_=>xP x_.1 x_.2.1 x_.2.2.1 x_.2.2.2.1 x_.2.2.2.2.1 x_.2.2.2.2.2.1 x_.2.2.2.2.2.2.1 x_.2.2.2.2.2.2.2.1 x_.2.2.2.2.2.2.2.2.1 x_.2.2.2.2.2.2.2.2.2.1 x_.2.2.2.2.2.2.2.2.2.2.1 x_.2.2.2.2.2.2.2.2.2.2.2.1 x_.2.2.2.2.2.2.2.2.2.2.2.2.1 x_.2.2.2.2.2.2.2.2.2.2.2.2.2.1 x_.2.2.2.2.2.2.2.2.2.2.2.2.2.2.1 x_.2.2.2.2.2.2.2.2.2.2.2.2.2.2.2) (fun x_=>Ii x_.1 x_.2.1 x_.2.2.1 x_.2.2.2.1 x_.2.2.2.2.1 x_.2.2.2.2.2.1 x_.2.2.2.2.2.2.1 x_.2.2.2.2.2.2.2.1 x_.2.2.2.2.2.2.2.2.1 x_.2.2.2.2.2.2.2.2.2.1 x_.2.2.2.2.2.2.2.2.2.2.1 x_.2.2.2.2.2.2.2.2.2.2.2.1 x_.2.2.2.2.2.2.2.2.2.2.2.2.1 x_.2.2.2.2.2.2.2.2.2.2.2.2.2.1 x_.2.2.2.2.2.2.2.2.2.2.2.2.2.2.1 x_.2.2.2.2.2.2.2.2.2.2.2.2.2.2.2) WL
theorem aag(l':List (Int×Int×Int))(bW:Int)(i:Int)(k:Int)(w:Int)(o:List Int)(b1:Int)(p1:List Int)(b2:Int)(p2:List Int)(b3:Int)(p3:List Int)(cs:List Int)(t1:Int)(t2:Int)(t3:Int)(h_:xP l' bW i k w o b1 p1 b2 p2 b3 p3 cs t1 t2 t3):cX (fun x_:vf=>zS x_.1 x_.2.1 x_.2.2.1 x_.2.2.2.1 x_.2.2.2.2.1 x_.2.2.2.2.2.1 x_.2.2.2.2.2.2.1 x_.2.2.2.2.2.2.2.1 x_.2.2.2.2.2.2.2.2.1 x_.2.2.2.2.2.2.2.2.2.1 x_.2.2.2.2.2.2.2.2.2.2.1 x_.2.2.2.2.2.2.2.2.2.2.2.1 x_.2.2.2.2.2.2.2.2.2.2.2.2.1 x_.2.2.2.2.2.2.2.2.2.2.2.2.2.1 x_.2.2.2.2.2.2.2.2.2.2.2.2.2.2.1 x_.2.2.2.2.2.2.2.2.2.2.2.2.2.2.2) (l',bW,i,k,w,o,b1,p1,b2,p2,b3,p3,cs,t1,t2,t3) (Ii l' bW i k w o b1 p1 b2 p2 b3 p3 cs t1 t2 t3):=by
 delta Ii;obtain⟨h1,h2,VT,h3,h4,h5⟩:=h_;obtain⟨n,hk⟩:∃n:Nat,k=(n:Int)-1:=⟨(k+1).toNat,by omega⟩;subst hk;clear h3;rw[show((n:Int)-1+1).toNat=n from by omega];have h6:o.length+n<1099511000010:=by omega
 clear h5
 induction n generalizing w o with
 |zero=>
  refine .stop ?_;simp only[zS,aP,aq,au,eI];exact⟨fun h=>by omega,fun _=>trivial⟩
 |succ n ih=>
  have hb:aI .i64 (shr .i64 (t2-1) n) 1=(t2-1)/2 ^ n%2:=Hm (by omega) n (by omega);have e1:i64.wrap (t2-1)=t2-1:=ao (by omega) (by omega);have e2:(((n+1:Nat):Int)-1)=(n:Int):=by omega
  have e3:u64.wrap (n:Int)=n:=wrap_u64 (by omega) (by omega);have hl:=xB ((t2-1)/2 ^ n%2) w o;have lA:=ih (fD ((t2-1)/2 ^ n%2) w o).1 (fD ((t2-1)/2 ^ n%2) w o).2 (xA h1 (by omega)) (by omega) (by omega);rw[e2];refine .go ?_ lA;simp only[zS,aP,aq,au,e1,e3,hb];refine⟨fun _=>⟨by omega,h1,?_⟩,fun h=>by omega⟩;rw[ao (by omega) (by omega)]
theorem RD(l:List cY):∀x:vf,Ex Tryz.prog ((ag).wr (())) (.loop (aO f140 2)) (zR.wr x) (WM x):=
 cy mixed ((aj iH (aj BO (aj qh (aj uQ (aj BM (aj BP ax))))))) (ws:=WK) (aH.nil _) (fun x_=>Me l x_.1 x_.2.1 x_.2.2.1 x_.2.2.2.1 x_.2.2.2.2.1 x_.2.2.2.2.2.1 x_.2.2.2.2.2.2.1 x_.2.2.2.2.2.2.2.1 x_.2.2.2.2.2.2.2.2.1 x_.2.2.2.2.2.2.2.2.2.1 x_.2.2.2.2.2.2.2.2.2.2.1 x_.2.2.2.2.2.2.2.2.2.2.2.1 x_.2.2.2.2.2.2.2.2.2.2.2.2.1 x_.2.2.2.2.2.2.2.2.2.2.2.2.2.1 x_.2.2.2.2.2.2.2.2.2.2.2.2.2.2.1 x_.2.2.2.2.2.2.2.2.2.2.2.2.2.2.2) (fun z e=>by cases e) eV (fun x_ h=>aag x_.1 x_.2.1 x_.2.2.1 x_.2.2.2.1 x_.2.2.2.2.1 x_.2.2.2.2.2.1 x_.2.2.2.2.2.2.1 x_.2.2.2.2.2.2.2.1 x_.2.2.2.2.2.2.2.2.1 x_.2.2.2.2.2.2.2.2.2.1 x_.2.2.2.2.2.2.2.2.2.2.1 x_.2.2.2.2.2.2.2.2.2.2.2.1 x_.2.2.2.2.2.2.2.2.2.2.2.2.1 x_.2.2.2.2.2.2.2.2.2.2.2.2.2.1 x_.2.2.2.2.2.2.2.2.2.2.2.2.2.2.1 x_.2.2.2.2.2.2.2.2.2.2.2.2.2.2.2 h)
abbrev vg:Type:=(List (Int×Int×Int))×Int×Int×Int×(List Int)×Int×(List Int)×Int×(List Int)×Int×(List Int)×(List Int)
abbrev vh:aM St vg:=(aS (ae (ah (fh false false ((Ty.int i64).pair ((Ty.int i64).pair (Ty.int
 IntKind.u8))))) (jk 2 (ai (ah (aC (0) (0))) (ai (ah (aC (2) (0))) (ai (ah (aC (4) (0))) (ai (ah (aC (6) (0))) (ai (ah
 (aC (8) (0))) (ae (ah (aA i64)) (ae (ah (aA i64)) (jk 71 ag)))))))))) (ae (bp LG) (ae (bS (0) (Ty.int
 IntKind.u8)) (ae (bp Ic) (ae (bS (0) (Ty.int i64)) (ae (bp Ie) (ae (bS (0) (Ty.int i64)) (ae (bp Ig)
 (ae (bS (0) (Ty.int i64)) (ae (dH (193) ((ae (so (Ty.int i64) (2)) ag))) ag)))))))))).kE (fun y=>(y.1.1,y.1.2.1,
 y.1.2.2.1,y.2.1,y.2.2.1,y.2.2.2.1,y.2.2.2.2.1,y.2.2.2.2.2.1,y.2.2.2.2.2.2.1,y.2.2.2.2.2.2.2.1,y.2.2.2.2.2.2.2.2.1,y.2.2.2.2.2.2.2.2.2.1.1))
 (fun x=>((x.1,(x.2.1,(x.2.2.1,()))),(x.2.2.2.1,(x.2.2.2.2.1,(x.2.2.2.2.2.1,(x.2.2.2.2.2.2.1,(x.2.2.2.2.2.2.2.1,(x.2.2.2.2.2.2.2.2.1,
 (x.2.2.2.2.2.2.2.2.2.1,(x.2.2.2.2.2.2.2.2.2.2.1,((x.2.2.2.2.2.2.2.2.2.2.2,()),()))))))))))) (fun _=>rfl)
abbrev Ij:List Wk:= [.fr (cu 81 [(0,.al),(3,.al),(4,.al),(5,.al),(6,.al),(7,.al),(8,.al),(9,.al)]),.syms,
 .auto,.aE,.eG 8 0 2 .i64]
abbrev WN:Exit→List Wk:=xz Ij 0 [.fr (cu 81 [(3,.al)]),.syms,.auto,.aE,.eG 8 0 2 .i64] [.fr (cu 81 [(2,.al)]),.syms,
 .auto,.aE,.eG 8 0 2 .i64]
def vk(bW:Int)(cs:List Int):List Int:=cs.set (0+bW.toNat) (cP ((List.take 2 (List.drop 0 cs)).getD bW.toNat 0)
 1)
def vl(l':List (Int×Int×Int))(i:Int):Int:=i64.wrap (l'.getD i.toNat (0,0,0)).snd.snd
def vm(l':List (Int×Int×Int))(i:Int):Int:=i64.wrap ((l'.getD i.toNat (0,0,0)).fst-2)
def iU(l':List (Int×Int×Int))(i:Int):Int:=i64.wrap ((i64.wrap ((l'.getD i.toNat (0,0,0)).snd.fst-
 1)).tdiv 64)
def qB(l':List (Int×Int×Int))(bW:Int)(i:Int)(w:Int)(o:List Int)(p1:List Int)(cs:List Int):Int×List
 Int×List Int:=bc (lg p1) (vl l' i) 1 (bQ ((List.take 2 (List.drop 0 cs)).getD bW.toNat 0) 0 w o).fst (bQ ((List.take 2 (List.drop
 0 cs)).getD bW.toNat 0) 0 w o).snd p1
def cE(l':List (Int×Int×Int))(bW:Int)(i:Int)(w:Int)(o:List Int)(p2:List Int)(cs:List Int):Int×List
 Int×List Int:=bc (lg p2) (vm l' i) 1 (bQ ((List.take 2 (List.drop 0 cs)).getD bW.toNat 0) 1 w o).fst (bQ ((List.take 2 (List.drop
 0 cs)).getD bW.toNat 0) 1 w o).snd p2
def vn(l':List (Int×Int×Int))(bW:Int)(i:Int)(w:Int)(o:List Int)(p2:List Int)(p3:List Int)(cs:List Int)
 :Int×List Int:=eI 6 ((l'.getD i.toNat (0,0,0)).snd.fst-1) (bc (lg p3) (iU l' i) 1 (cE l' bW i w o p2 cs).fst (cE
 l' bW i w o p2 cs).snd.fst p3).fst (bc (lg p3) (iU l' i) 1 (cE l' bW i w o p2 cs).fst (cE l' bW i w o p2 cs).snd.fst
 p3).snd.fst
abbrev Ik:Type:=Int×(List Int)
abbrev WO(x:Ik):Exit×St:=(Exit.exit 0,⟨(iE 3 (LV.one (VV.sc (SV.ptr 0 0))::(iE 77 []))),[some (LG.wr x.1),
 some (Item.own 0 (Ty.int IntKind.u8) x.2)]⟩)
def vo(l':List (Int×Int×Int))(bW:Int)(i:Int)(w:Int)(o:List Int)(b1:Int)(p1:List Int)(b2:Int)(p2:List
 Int) (b3:Int) (p3:List Int) (cs:List Int):Tr (vg⊕(Ik)):=(.ite (decide (i<(↑l'.length:Int))) (.need (0≤i∧i<(↑l'.length:
 Int)) (.ite (decide (0<(l'.getD i.toNat (0,0,0)).fst)) (.need (0≤bW∧bW<2) (.need (uP ((List.take 2 (List.drop 0 cs)).getD bW.toNat 0)
 1 w o) (.need (0≤bW∧bW<2) (.need (qk (vm l' i) (bQ ((List.take 2 (List.drop 0 cs)).getD bW.toNat 0) 1 w o).fst (bQ
 ((List.take 2 (List.drop 0 cs)).getD bW.toNat 0) 1 w o).snd b2 p2) (.need (qk (iU l' i) (cE l' bW i w o p2 cs).fst (cE l' bW
 i w o p2 cs).snd.fst b3 p3) (.need (xP l' 1 i 5 (bc (lg p3) (iU l' i) 1 (cE l' bW i w o p2 cs).fst (cE l' bW i w o p2
 cs).snd.fst p3).fst (bc (lg p3) (iU l' i) 1 (cE l' bW i w o p2 cs).fst (cE l' bW i w o p2 cs).snd.fst p3).snd.fst b1 p1 b2
 (cE l' bW i w o p2 cs).snd.snd b3 (bc (lg p3) (iU l' i) 1 (cE l' bW i w o p2 cs).fst (cE l' bW i w o p2 cs).snd.fst
 p3).snd.snd (vk bW cs) (l'.getD i.toNat (0,0,0)).fst (l'.getD i.toNat (0,0,0)).snd.fst (l'.getD i.toNat (0,0,0)).snd.snd) (.ret (.inl (l',
 1,i64.wrap (i+1),(vn l' bW i w o p2 p3 cs).fst,(vn l' bW i w o p2 p3 cs).snd,b1,p1,b2,(cE l' bW i w o p2
 cs).snd.snd,b3,(bc (lg p3) (iU l' i) 1 (cE l' bW i w o p2 cs).fst (cE l' bW i w o p2 cs).snd.fst p3).snd.snd,vk bW
 cs))))))))) (.need (0≤bW∧bW<2) (.need (uP ((List.take 2 (List.drop 0 cs)).getD bW.toNat 0) 0 w o) (.need (0≤bW∧bW<2) (.need
 (qk (vl l' i) (bQ ((List.take 2 (List.drop 0 cs)).getD bW.toNat 0) 0 w o).fst (bQ ((List.take 2 (List.drop 0 cs)).getD bW.toNat 0)
 0 w o).snd b1 p1) (.ret (.inl (l',0,i64.wrap (i+1),(qB l' bW i w o p1 cs).fst,(qB l' bW i w o p1 cs).snd.fst,b1,(qB
 l' bW i w o p1 cs).snd.snd,b2,p2,b3,p3,cs.set (0+bW.toNat) (cP ((List.take 2 (List.drop 0 cs)).getD bW.toNat 0) 0)))))))))) (.ret (.inr
 (w,o))))
theorem Mf(l:List cY)(l':List (Int×Int×Int))(bW:Int)(i:Int)(w:Int)(o:List Int)(b1:Int)(p1:List Int)(b2:Int)(p2:List Int)(b3:Int)(p3:List Int)(cs:List Int):cO Tryz.prog [(202,k9),(203,Hu),(204,xF),(205,Fh),(207,Hs),(206,HF)] [(2,bZ zR ((ag).wr (())) WJ (WM))] f140 0 ((ag).wr (())) WN (vh.wr (l',bW,i,w,o,b1,p1,b2,p2,b3,p3,cs))=(vo l' bW i w o b1 p1 b2 p2 b3 p3 cs).res vh.wr WO:=by kernel_rfl
abbrev xQ(l':List (Int×Int×Int))(bW:Int)(i:Int)(w:Int)(o:List Int)(b1:Int)(p1:List Int)(b2:Int)(p2:List Int)(b3:Int)(p3:List Int)(cs:List Int):Prop:=0≤i∧i≤l'.length∧(∃made,bq made (l'.drop i.toNat)=true)∧sH l'∧SOk (cs,bW) p1 p2 p3∧w9 w o∧o.length+21*((l'.length:Int)-i)<1099500000000∧(l'.length:Int)<1099500000000∧b1=8∧b2=8∧b3=6
abbrev Il(l':List (Int×Int×Int))(bW:Int)(i:Int)(w:Int)(o:List Int)(b1:Int)(p1:List Int)(b2:Int)(p2:List Int)(b3:Int)(p3:List Int)(cs:List Int):Ik:=iI (l'.drop i.toNat) (cs,bW) p1 p2 p3 w o
abbrev Im:vg→aK:=eB (fun x_=>xQ x_.1 x_.2.1 x_.2.2.1 x_.2.2.2.1 x_.2.2.2.2.1 x_.2.2.2.2.2.1 x_.2.2.2.2.2.2.1 x_.2.2.2.2.2.2.2.1 x_.2.2.2.2.2.2.2.2.1 x_.2.2.2.2.2.2.2.2.2.1 x_.2.2.2.2.2.2.2.2.2.2.1 x_.2.2.2.2.2.2.2.2.2.2.2) (fun x_=>Il x_.1 x_.2.1 x_.2.2.1 x_.2.2.2.1 x_.2.2.2.2.1 x_.2.2.2.2.2.1 x_.2.2.2.2.2.2.1 x_.2.2.2.2.2.2.2.1 x_.2.2.2.2.2.2.2.2.1 x_.2.2.2.2.2.2.2.2.2.1 x_.2.2.2.2.2.2.2.2.2.2.1 x_.2.2.2.2.2.2.2.2.2.2.2) WO
theorem aah(l':List (Int×Int×Int))(bW:Int)(i:Int)(w:Int)(o:List Int)(b1:Int)(p1:List Int)(b2:Int)(p2:List Int)(b3:Int)(p3:List Int)(cs:List Int)(h_:xQ l' bW i w o b1 p1 b2 p2 b3 p3 cs):cX (fun x_:vg=>vo x_.1 x_.2.1 x_.2.2.1 x_.2.2.2.1 x_.2.2.2.2.1 x_.2.2.2.2.2.1 x_.2.2.2.2.2.2.1 x_.2.2.2.2.2.2.2.1 x_.2.2.2.2.2.2.2.2.1 x_.2.2.2.2.2.2.2.2.2.1 x_.2.2.2.2.2.2.2.2.2.2.1 x_.2.2.2.2.2.2.2.2.2.2.2) (l',bW,i,w,o,b1,p1,b2,p2,b3,p3,cs) (Il l' bW i w o b1 p1 b2 p2 b3 p3 cs):=by
 delta Il;obtain⟨h1,h2,⟨made,h3⟩,h4,h5,h6,h7,h8,rfl,rfl,rfl⟩:=h_;obtain⟨k,rfl⟩:∃k:Nat,i=k:=⟨i.toNat,by omega⟩;rw[Int.toNat_natCast]at h3 ⊢;obtain⟨m,hm⟩:∃m,l'.length=k+m:=⟨l'.length-k,by omega⟩;clear h2
 induction m generalizing k made w o cs bW p1 p2 p3 with
 |zero=>
  refine .stop ?_;rw[List.drop_of_length_le (by omega)];simp only[vo,aP,aq,au,iI];exact⟨fun h=>by omega,fun _=>trivial⟩
 |succ m ih=>
  have hk:k<l'.length:=by omega
  rw[jZ (0,0,0) hk,bq,Bool.and_eq_true,Bool.and_eq_true]at h3;obtain⟨⟨k1,k2⟩,k3⟩:=h3;rw[jZ (0,0,0) hk,iI]
  have Ey:l'.getD k (0,0,0)∈l':=by
   rw[List.getD_eq_getElem?_getD,List.getElem?_eq_getElem hk];exact List.getElem_mem hk
  have hxe:l'.getD ((k:Int)).toNat (0,0,0)=l'.getD k (0,0,0):=rfl;generalize l'.getD k (0,0,0)=x at*;have ht:=H5 k1 (h4 _ Ey);obtain⟨q1,q2,q3⟩:=Rv (t:=x) h5 h6 (by omega);have lA:=ih _ _ _ _ _ _ _ _ q1 q2 (k+1) (by omega) k3 (by omega) (by omega);refine .go ?_ lA;have hi:i64.wrap ((k:Int)+1)=k+1:=ao (by omega) (by omega);have hlen:cs.length=2:=h5.len;have e1:(List.take 2 (List.drop 0 cs)).getD bW.toNat 0=cs.getD bW.toNat 0:=by rw[List.drop_zero,List.take_of_length_le (by omega)]
  have hb:0≤bW∧bW<2:=by have:=h5.bh;simp only at this;omega
  have p8:(2:Int) ^ 8=256:=by decide
  have p6:(2:Int) ^ 6=64:=by decide
  have l1:=h5.l1;have l2:=h5.l2;have l3:=h5.l3;have hn:(0:Int)≤k∧(k:Int)<l'.length:=⟨by omega,by omega⟩;have h9:=nz (p:=cs.getD bW.toNat 0) (b:=if x.1=0 then 0 else 1) h6 (by omega);have h10:=nA (cs.getD bW.toNat 0) (if x.1=0 then 0 else 1) w o;rcases ht with⟨e,hb1,uc⟩|⟨hb1,uc,hb3,hb4⟩
  ·have e2:i64.wrap x.2.2=x.2.2:=ao (by omega) (by omega);have zk:vl l' k=x.2.2:=by unfold vl;rw[hxe,e2]
   have ea4:qB l' bW k w o p1 cs=bc (lg p1) x.2.2 1 (bQ (cs.getD bW.toNat 0) 0 w o).1 (bQ (cs.getD bW.toNat 0) 0 w o).2 p1:=by
    unfold qB;rw[zk,e1]
   rw[if_pos e]at h9 h10;simp only[vo,aP,aq,au,hxe,hi,e1];refine⟨fun _=>⟨hn,fun h=>by omega,fun _=>⟨hb,h6,hb,?_,?_⟩⟩,fun h=>by omega⟩
   ·rw[zk];exact⟨h5.t1,h9,hb1,by rw[l1,p8];omega,by omega,by omega,by omega⟩
   ·rw[ea4];simp only[pE,if_pos e,Nat.zero_add];rfl
  ·have e0:¬x.1=0:=(by omega);have e2:i64.wrap (x.1-2)=x.1-2:=ao (by omega) (by omega);have e3:i64.wrap (x.2.1-1)=x.2.1-1:=ao (by omega) (by omega);have e4:i64.wrap ((x.2.1-1).tdiv 64)=(x.2.1-1)/64:=(by rw[Int.tdiv_eq_ediv_of_nonneg (by omega),ao (by omega) (by omega)]);have yZ:vk bW cs=cs.set bW.toNat (cP (cs.getD bW.toNat 0) 1):=(by unfold vk;rw[e1,Nat.zero_add]);have WD:vm l' k=x.1-2:=(by unfold vm;rw[hxe,e2]);have ea3:iU l' k=(x.2.1-1)/64:=by unfold iU;rw[hxe,e3,e4]
   have ea5:cE l' bW k w o p2 cs=bc (lg p2) (x.1-2) 1 (bQ (cs.getD bW.toNat 0) 1 w o).1 (bQ (cs.getD bW.toNat 0) 1 w o).2 p2:=by
    unfold cE;rw[WD,e1]
   have ea6:vn l' bW k w o p2 p3 cs=eI 6 (x.2.1-1) (bc (lg p3) ((x.2.1-1)/64) 1 (cE l' bW k w o p2 cs).1 (cE l' bW k w o p2 cs).2.1 p3).1 (bc (lg p3) ((x.2.1-1)/64) 1 (cE l' bW k w o p2 cs).1 (cE l' bW k w o p2 cs).2.1 p3).2.1:=by
    unfold vn;rw[ea3,hxe]
   rw[if_neg e0]at h9 h10;have h3:=ki (lg p2) (x.1-2) 1 _ _ p2 h9 (by rw[l2];omega);rw[← ea5]at h3;have h4':=ki (lg p3) ((x.2.1-1)/64) 1 _ _ p3 h3.1 (by rw[l2]at h3;rw[l3];omega);have k3:=h3.2;have k4:=h4'.2;rw[l2]at k3;rw[l3]at k4;simp only[vo,aP,aq,au,hxe,hi,e1,yZ,WD,ea3];refine⟨fun _=>⟨hn,fun _=>⟨hb,h6,hb,⟨h5.t2,h9,by omega,by rw[l2,p8];omega,by omega,by omega,by omega⟩,⟨h5.t3,h3.1,by omega,by rw[l3,p6];omega,by omega,by omega,by omega⟩,⟨h4'.1,by omega,by omega,by omega,by omega,by rw[l3];omega⟩,?_⟩,fun h=>by omega⟩,fun h=>by omega⟩;simp only[pE,if_neg e0,ea6,ea5];rfl
theorem RE(l:List cY):∀x:vg,Ex Tryz.prog ((ag).wr (())) (.loop (aO f140 0)) (vh.wr x) (Im x):=
 cy mixed ((aj iH (aj BO (aj qh (aj uQ (aj BM (aj BP ax))))))) (ws:=WN) (aH.inner (by kernel_rfl) (js (by kernel_rfl) (bP (hp:=(ag).wr (())) (RD l)) jt)) (fun x_=>Mf l x_.1 x_.2.1 x_.2.2.1 x_.2.2.2.1 x_.2.2.2.2.1 x_.2.2.2.2.2.1 x_.2.2.2.2.2.2.1 x_.2.2.2.2.2.2.2.1 x_.2.2.2.2.2.2.2.2.1 x_.2.2.2.2.2.2.2.2.2.1 x_.2.2.2.2.2.2.2.2.2.2.1 x_.2.2.2.2.2.2.2.2.2.2.2) (fun z e=>by cases e) eV (fun x_ h=>aah x_.1 x_.2.1 x_.2.2.1 x_.2.2.2.1 x_.2.2.2.2.1 x_.2.2.2.2.2.1 x_.2.2.2.2.2.2.1 x_.2.2.2.2.2.2.2.1 x_.2.2.2.2.2.2.2.2.1 x_.2.2.2.2.2.2.2.2.2.1 x_.2.2.2.2.2.2.2.2.2.2.1 x_.2.2.2.2.2.2.2.2.2.2.2 h)
abbrev Io:Type:=List Int
abbrev agw(x:Io):LV:=LV.one (VV.sc (SV.sl 0 0))
abbrev agx(x:Io):List (Nat×Ev.Item):= [(0,Item.own 0 (Ty.int IntKind.u8) x)]
def RF(l:List (Int×Int×Int)):Tr (Io):=(.need (lB l) (.ite (!bq 0 l) (.ret ([])) (.need (BN) (.need
 (g7 8) (.need (g7 8) (.need (g7 6) (.need (xQ l 0 0 4294967295 [0,0,0,0] 8 (bI 8) 8 (bI 8) 6 (bI 6) [1024,1024])
 (.ret ((iI (List.drop 0 l) ([1024,1024],0) (bI 8) (bI 8) (bI 6) 4294967295 [0,0,0,0]).snd)))))))))
theorem RG(l:List cY):aG Tryz.prog [(202,k9),(203,Hu),(204,xF),(205,Fh),(207,Hs),(206,HF)] [(0,bZ vh ((ag).wr (())) Ij (Im))] f140 ((zj).wr (l,())) ((ag).wr (())) [.dh 0 u8,.fr [.sym],.syms,.auto,.aE]=(RF l).end agw agx ((ag).wr (())):=by kernel_rfl
theorem aai(l:List cY):aH Tryz.prog ((ag).wr (())) [(0,bZ vh ((ag).wr (())) Ij (Im))] (aF f140):=(aH.bK (js (by kernel_rfl) (bP (hp:=(ag).wr (())) (RE l)) jt))
theorem xR(p:List Int)(x:Int):(p.set 0 x).length=p.length:=by simp
theorem agy(p:List Int)(x:Int):lg (p.set 0 x)=lg p:=by unfold lg;simp
theorem aAq(p:List Int)(x:Int){n:Int}(h:1≤n):ef (p.set 0 x) n=ef p n:=by
 unfold ef oA;rw[xR,jK]
 split
 ·rw[if_neg (by omega)]
 ·rfl
theorem agz(p:List Int)(x:Int){n:Int}(b:Int)(h:1≤n):b8 (p.set 0 x) n b=(b8 p n b).set 0 x:=by
 unfold b8 oA;rw[xR,jK]
 split
 ·rw[if_neg (by omega),List.set_comm _ _ (by omega)]
 ·rfl
theorem zT:∀ (k:Nat) (v node w:Int) (l p:List Int) (x:Int),1≤node→0≤v→
  bc k v node w l (p.set 0 x)=((bc k v node w l p).1,(bc k v node w l p).2.1,(bc k v node w l p).2.2.set 0 x)
 |0,_,_,_,_,_,_,_,_=>rfl
 |k+1,v,node,w,l,p,x,h,hv=>by
  have hb:0≤v/2 ^ k%2:=by omega
  rw[bc,bc];simp only[aAq p x h,agz p x _ h];exact zT k v _ _ _ _ x (by omega) hv
theorem aAr{t:cY}(ht:agi t)(s:List Int×Int)(p1 p2 p3:List Int)(w:Int)(l:List Int)(x:Int):
  let r:=pE t s p1 p2 p3 w l
  pE t s (p1.set 0 x) (p2.set 0 x) (p3.set 0 x) w l=(r.1,r.2.1.set 0 x,r.2.2.1.set 0 x,r.2.2.2.1.set 0 x,r.2.2.2.2.1,r.2.2.2.2.2):=by
 unfold pE;simp only[agy]
 split
 ·rename_i e;rw[zT _ _ _ _ _ _ _ (by omega) (by rcases ht with h|h<;>omega)]
 ·rename_i e;have h:2≤t.1∧1≤t.2.1:=by rcases ht with h|h<;>omega
  rw[zT _ _ _ _ _ _ _ (by omega) (by omega),zT _ _ _ _ _ _ _ (by omega) (by omega)]
theorem agA:∀ (l:List cY) (made:Int) (s:List Int×Int) (p1 p2 p3:List Int) (w:Int) (o:List Int) (x:Int),bq made l=true→sH l→iI l s (p1.set 0 x) (p2.set 0 x) (p3.set 0 x) w o=iI l s p1 p2 p3 w o
 | [],_,_,_,_,_,_,_,_,_,_=>rfl
 |t::r,made,s,p1,p2,p3,w,o,x,h,hb=>by
  rw[bq,Bool.and_eq_true,Bool.and_eq_true]at h;have ht:=H5 h.1.1 (hb t (by simp));rw[iI,iI];simp only[aAr ht s p1 p2 p3 w o x];exact agA r _ _ _ _ _ _ _ x h.2 fun y hy=>hb y (by simp[hy])
theorem vp(k:Nat):bI k=(cI k).set 0 0:=by
 unfold bI cI;have:0<(2:Nat) ^ k:=Nat.two_pow_pos k;obtain⟨m,hm⟩:∃m,(2:Nat) ^ k=m+1:=⟨2 ^ k-1,by omega⟩;rw[hm,List.replicate_succ,List.set_cons_zero];rfl
theorem nG(k:Nat)(h:k≤8):PE (bI k)∧lg (bI k)=k:=by
 obtain⟨⟨h1,h2,h3,h4⟩,h5⟩:=kj k h;rw[vp];refine⟨⟨by rw[agy];exact h1,by rw[agy,xR];exact h2,fun i=>?_,fun i k1 k2=>?_⟩,by rw[agy];exact h5⟩
 ·rw[jK];split
  ·omega
  ·exact h3 i
 ·rw[agy]at k2;rw[jK,if_neg (by omega)];exact h4 i k1 k2
theorem aE8:SOk ([1024,1024],0) (bI 8) (bI 8) (bI 6):=
 ⟨rfl,.inl rfl,(nG 8 (by omega)).1,(nG 8 (by omega)).2,(nG 8 (by omega)).1,(nG 8 (by omega)).2,(nG 6 (by omega)).1,(nG 6 (by omega)).2⟩
abbrev vq(l:List cY):Prop:=l.length<1000000000∧sH l
abbrev RI(l:List cY):Io:=pj l
def RJ:an:=cv [some kF] (zj) (ag) (fun x_ y_=>vq x_.1) (fun x_ y_=>RI x_.1) agw agx
theorem agB(l:List cY)(h_:vq l):(RF l).Is (RI l):=by
 delta RI;obtain⟨h1,h2⟩:=h_;simp only[RF,aq,au,bE,pj,List.drop_zero];refine⟨by show _<_;omega,fun h=>?_,fun h=>⟨trivial,by decide,by decide,by decide,⟨by omega,by omega,⟨0,by simpa using h⟩,h2,aE8,avQ,by simp;omega,by omega,rfl,rfl,rfl⟩,?_⟩⟩
 ·rw[if_neg (by simpa using h)]
 ·have h:bq 0 l=true:=by simpa using h
  rw[if_pos h,vp,vp,agA l 0 _ _ _ _ _ _ _ h h2]
theorem Mg:RJ.Ok Tryz.prog 140:=
 br mixed ((aj iH (aj BO (aj qh (aj uQ (aj BM (aj BP ax))))))) func140 (by kernel_rfl) call140 (fun x_ y_=>aai x_.1) (fun x_ y_=>RG x_.1) (fun x_ y_ h=>agB x_.1 h)
abbrev Dc:Type:=Int×Int×Int
abbrev cDc:aM (List SV) Dc:=(ae (aA .u64) (ae (aA .u64) (ae (aA .i64) ag))).kE (fun x=>(x.1,x.2.1,x.2.2.1)) (fun y=>(y.1,y.2.1,y.2.2,())) (fun _=>rfl)
abbrev RK:aM Ev.Item Dc:=mN 383 cDc
abbrev kH:aM Ev.Item Dc:=mN 356 cDc
abbrev nH:aM Hp (Dc×Unit):=ae (bp RK) ag
abbrev nJ:aM Hp (Dc×Unit):=ae (bp kH) ag
abbrev aoD:aM (List LV) (Int×Unit):=ai (ah (aC 0 0)) (ae (ah (aA .u8)) ag)
abbrev asW:aM (List LV) (Int×Int×Unit):=ai (ah (aC 0 0)) (ae (ah (aA .u64)) (ae (ah (aA .u64)) ag))
def lJ(d:Dc):Prop:=0≤d.1∧16777216≤d.2.1∧d.2.1<4294967296∧
 ((d.2.2=0∧d.1<4294967296)∨(d.2.2=1∧d.1<16777216)∨(d.2.2=2∧d.1<65536)∨(d.2.2=3∧d.1<256)∨(d.2.2=4∧d.1=0))
def pk(d:Dc)(b:Int):Dc:=if d.2.2=0 then d else(d.1*256+b,d.2.1,d.2.2-1)
def mi(d:Dc):Bool:=decide (d.2.2=0∧d.2.1≤d.1)
def ED(d:Dc):Bool:=decide (d.2.2=0∧d.1<d.2.1)
def vr(c w:Int):Dc:=if w<16777216 then(c,w*256,1)else(c,w,0)
def iV(d:Dc)(bound kl:Int):Int×Dc:=if d.1<bound then(0,vr d.1 bound)else(1,vr (d.1-bound) kl)
def a7(p:Int)(d:Dc):Int×Int×Dc:=
 if ED d=true then
  let r:=iV d (d.2.1/2048*aQ p) (d.2.1-d.2.1/2048*aQ p)
  (r.1,cP p r.1,r.2)
 else(0,aQ p,d)
def cz(d:Dc):Int×Dc:=if ED d=true then iV d (d.2.1/2) (d.2.1/2)else(0,d)
abbrev WQ:Type:=Int×Int×Int
abbrev asX(x:WQ):LV:=LV.one (VV.sc (SV.ptr 0 0))
abbrev asY(x:WQ):List (Nat×Ev.Item):= [(0,RK.wr x)]
def asZ:Tr (WQ):=(.ret ((0,4294967295,4)))
theorem aaj:aG Tryz.prog [] [] f315 ((ag).wr (())) ((ag).wr (())) [.fr [.sym],.syms,.auto,.aE]=(asZ).end asX asY ((ag).wr (())):=by kernel_rfl
theorem agC:aH Tryz.prog ((ag).wr (())) [] (aF f315):=(aH.nil _)
abbrev Ip:Prop:=True
abbrev agD:WQ:=(0,4294967295,4)
def agE:an:=cv [] (ag) (ag) (fun _ _=>Ip) (fun _ _=>agD) asX asY
theorem aoE(h_:Ip):(asZ).Is (agD):=by
 delta agD;exact rfl
theorem WR:agE.Ok Tryz.prog 315:=
 br mixed ax func315 (by kernel_rfl) call315 (fun x_ y_=>agC) (fun x_ y_=>aaj) (fun x_ y_ h=>aoE h)
abbrev Iq:Type:=Bool
abbrev agF(x:Iq):LV:=LV.one (VV.sc (SV.bool (SB.sym x)))
abbrev agG(x:Iq):List (Nat×Ev.Item):= []
def agH(d:Int×Int×Int):Tr (Iq):=(.ret (decide (0<d.snd.snd)))
theorem RL(d:Dc):aG Tryz.prog [] [] f332 ((gM).wr (())) ((nH).wr (d,())) [.fr [.sym],.syms,.auto,.aE]=(agH d).end agF agG ((nH).wr (d,())):=by kernel_rfl
theorem aak(d:Dc):aH Tryz.prog ((nH).wr (d,())) [] (aF f332):=(aH.nil _)
abbrev vt(d:Dc):Prop:=True
abbrev RM(d:Dc):Iq:=decide (0<d.2.2)
def Ir:an:=cv [] (gM) (nH) (fun x_ y_=>vt y_.1) (fun x_ y_=>RM y_.1) agF agG
theorem agI(d:Dc)(h_:vt d):(agH d).Is (RM d):=by
 delta RM;exact rfl
theorem Co:Ir.Ok Tryz.prog 332:=
 br mixed ax func332 (by kernel_rfl) call332 (fun x_ y_=>aak y_.1) (fun x_ y_=>RL y_.1) (fun x_ y_ h=>agI y_.1 h)
abbrev It:Type:=Bool×(Int×Int×Int)
abbrev agJ(x:It):LV:=LV.one (VV.sc (SV.bool (SB.sym x.1)))
abbrev agK(x:It):List (Nat×Ev.Item):= [(0,RK.wr x.2)]
def RN(b:Int)(d:Int×Int×Int):Tr (It):=(.need (vt d) (.ite (!decide (0<d.snd.snd)) (.ret (false,d)) (.ret
 (true,(bn u64 (shl u64 d.fst 8) (u64.wrap b),d.snd.fst,i64.wrap (d.snd.snd-1))))))
theorem RO(b:Int)(d:Dc):aG Tryz.prog [(332,Ir)] [] f333 ((aoD).wr (b,())) ((nH).wr (d,())) [.fr [.sym],.syms,.auto,.aE]=(RN b d).end agJ agK ((nH).wr (d,())):=by kernel_rfl
theorem aal(b:Int)(d:Dc):aH Tryz.prog ((nH).wr (d,())) [] (aF f333):=(aH.nil _)
abbrev Cp(b:Int)(d:Dc):Prop:=lJ d∧By b
abbrev RP(b:Int)(d:Dc):It:=(decide (0<d.2.2),pk d b)
def RQ:an:=cv [] (aoD) (nH) (fun x_ y_=>Cp x_.1 y_.1) (fun x_ y_=>RP x_.1 y_.1) agJ agK
theorem agL(b:Int)(d:Dc)(h_:Cp b d):(RN b d).Is (RP b d):=by
 delta RP;obtain⟨⟨h1,h2,h3,h4⟩,h5,h6⟩:=h_;have e0:u64.wrap b=b:=wrap_u64 h5 (by omega)
 have e1:shl .u64 d.1 8=d.1*256:=by
  have:=gd .u64 d.1 8 (by decide);rw[show((8:Nat):Int)=8 from rfl]at this;rw[this,wrap_u64]<;>omega
 have e2:bn .u64 (d.1*256) b=d.1*256+b:=ow (m:=8) (by omega) (by omega) h5 (by omega) (by omega);have e3:i64.wrap (d.2.2-1)=d.2.2-1:=ao (by omega) (by omega);simp only[RN,pk,aq,fC,au,e0,e1,e2,e3,decide_eq_true_eq,decide_eq_false_iff_not];refine⟨trivial,fun h=>?_,fun h=>?_⟩
 ·rw[if_neg (by omega),decide_eq_true h]
 ·rw[if_pos (by omega),decide_eq_false h]
theorem Mh:RQ.Ok Tryz.prog 333:=
 br mixed ((aj Co ax)) func333 (by kernel_rfl) call333 (fun x_ y_=>aal x_.1 y_.1) (fun x_ y_=>RO x_.1 y_.1) (fun x_ y_ h=>agL x_.1 y_.1 h)
abbrev Iu:Type:=Bool
abbrev agM(x:Iu):LV:=LV.one (VV.sc (SV.bool (SB.sym x)))
abbrev agN(x:Iu):List (Nat×Ev.Item):= []
def RR(d:Int×Int×Int):Tr (Iu):=(.ite ((d.snd.snd==0)==true) (.ret (decide (d.snd.fst≤d.fst))) (.ret (false)))
theorem RS(d:Dc):aG Tryz.prog [] [] f334 ((gM).wr (())) ((nH).wr (d,())) [.fr [.sym],.syms,.auto,.aE]=(RR d).end agM agN ((nH).wr (d,())):=by kernel_rfl
theorem aam(d:Dc):aH Tryz.prog ((nH).wr (d,())) [] (aF f334):=(aH.nil _)
abbrev Cq(d:Dc):Prop:=True
abbrev RT(d:Dc):Iu:=mi d
def RU:an:=cv [] (gM) (nH) (fun x_ y_=>Cq y_.1) (fun x_ y_=>RT y_.1) agM agN
theorem agO(d:Dc)(h_:Cq d):(RR d).Is (RT d):=by
 delta RT;simp only[RR,mi,bE,au,iS,beq_iff_eq,beq_eq_false_iff_ne];exact⟨fun h=>decide_eq_decide.2 (by omega),fun h=>(decide_eq_false (by omega)).symm⟩
theorem Mi:RU.Ok Tryz.prog 334:=
 br mixed ax func334 (by kernel_rfl) call334 (fun x_ y_=>aam y_.1) (fun x_ y_=>RS y_.1) (fun x_ y_ h=>agO y_.1 h)
abbrev WS:Type:=Bool
abbrev as0(x:WS):LV:=LV.one (VV.sc (SV.bool (SB.sym x)))
abbrev as1(x:WS):List (Nat×Ev.Item):= []
def agP(d:Int×Int×Int):Tr (WS):=(.ite ((d.snd.snd==0)==true) (.ret (decide (d.fst<d.snd.fst))) (.ret (false)))
theorem aan(d:Dc):aG Tryz.prog [] [] f351 ((gM).wr (())) ((nH).wr (d,())) [.fr [.sym],.syms,.auto,.aE]=(agP d).end as0 as1 ((nH).wr (d,())):=by kernel_rfl
theorem agQ(d:Dc):aH Tryz.prog ((nH).wr (d,())) [] (aF f351):=(aH.nil _)
abbrev zU(d:Dc):Prop:=True
abbrev agR(d:Dc):WS:=ED d
def agS:an:=cv [] (gM) (nH) (fun x_ y_=>zU y_.1) (fun x_ y_=>agR y_.1) as0 as1
theorem aoF(d:Dc)(h_:zU d):(agP d).Is (agR d):=by
 delta agR;simp only[agP,ED,bE,au,iS,beq_iff_eq,beq_eq_false_iff_ne];exact⟨fun h=>decide_eq_decide.2 (by omega),fun h=>(decide_eq_false (by omega)).symm⟩
theorem WT:agS.Ok Tryz.prog 351:=
 br mixed ax func351 (by kernel_rfl) call351 (fun x_ y_=>agQ y_.1) (fun x_ y_=>aan y_.1) (fun x_ y_ h=>aoF y_.1 h)
abbrev WU:Type:=Int×Int×Int
abbrev as2(x:WU):LV:=LV.cj []
abbrev as3(x:WU):List (Nat×Ev.Item):= [(0,RK.wr x)]
def agT(d:Int×Int×Int):Tr (WU):=(.ite (decide (d.snd.fst<16777216)) (.ret ((d.fst,shl u64 d.snd.fst 8,1)))
 (.ret (d)))
theorem aao(d:Dc):aG Tryz.prog [] [] f354 ((gM).wr (())) ((nH).wr (d,())) [.fr [.sym],.syms,.auto,.aE]=(agT d).end as2 as3 ((nH).wr (d,())):=by kernel_rfl
theorem agU(d:Dc):aH Tryz.prog ((nH).wr (d,())) [] (aF f354):=(aH.nil _)
abbrev zV(d:Dc):Prop:=0≤d.2.1∧d.2.1<4294967296∧d.2.2=0
abbrev agV(d:Dc):WU:=vr d.1 d.2.1
def as4:an:=cv [] (gM) (nH) (fun x_ y_=>zV y_.1) (fun x_ y_=>agV y_.1) as2 as3
theorem aoG(d:Dc)(h_:zV d):(agT d).Is (agV d):=by
 delta agV;obtain⟨h1,h2,h3⟩:=h_;obtain⟨c,w,n⟩:=d;simp only at h1 h2 h3;subst h3;simp only[agT,vr,aP,au];refine⟨fun h=>?_,fun h=>by rw[if_neg h]⟩;have:=gd .u64 w 8 (by decide);rw[show((8:Nat):Int)=8 from rfl]at this;rw[this,wrap_u64 (by omega) (by omega),if_pos h];rfl
theorem aoH:as4.Ok Tryz.prog 354:=
 br mixed ax func354 (by kernel_rfl) call354 (fun x_ y_=>agU y_.1) (fun x_ y_=>aao y_.1) (fun x_ y_ h=>aoG y_.1 h)
abbrev zW:Type:=Int×(Int×Int×Int)
abbrev WV(x:zW):LV:=LV.one (VV.sc (SV.int i64 (SI.sym x.1)))
abbrev WW(x:zW):List (Nat×Ev.Item):= [(0,RK.wr x.2)]
def Iv(bound:Int)(kl:Int)(d:Int×Int×Int):Tr (zW):=(.ite (decide (d.fst<bound)) (.need (zV (d.fst,
 bound,d.snd.snd)) (.ret (0,vr d.fst bound))) (.need (zV (u64.wrap (d.fst-bound),kl,d.snd.snd)) (.ret (1,vr (u64.wrap
 (d.fst-bound)) kl))))
theorem Mj(bound kl:Int)(d:Dc):aG Tryz.prog [(354,as4)] [] f352 ((asW).wr (bound,kl,())) ((nH).wr (d,())) [.fr [.sym],.syms,.auto,.aE]=(Iv bound kl d).end WV WW ((nH).wr (d,())):=by kernel_rfl
theorem RV(bound kl:Int)(d:Dc):aH Tryz.prog ((nH).wr (d,())) [] (aF f352):=(aH.nil _)
abbrev rI(bound kl:Int)(d:Dc):Prop:=lJ d∧d.2.2=0∧65536≤bound∧bound<4294967296∧65536≤kl∧kl<4294967296
abbrev Iw(bound kl:Int)(d:Dc):zW:=iV d bound kl
def Ix:an:=cv [] (asW) (nH) (fun x_ y_=>rI x_.1 x_.2.1 y_.1) (fun x_ y_=>Iw x_.1 x_.2.1 y_.1) WV WW
theorem aap(bound kl:Int)(d:Dc)(h_:rI bound kl d):(Iv bound kl d).Is (Iw bound kl d):=by
 delta Iw;obtain⟨⟨h1,h2,h3,h4⟩,h5,h6,h7,h8,h9⟩:=h_;simp only[Iv,iV,aP,aq,au];refine⟨fun h=>⟨⟨by simp only;omega,h7,h5⟩,by rw[if_pos h]⟩,fun h=>?_⟩;have e:u64.wrap (d.1-bound)=d.1-bound:=wrap_u64 (by omega) (by omega);rw[e];exact⟨⟨by simp only;omega,h9,h5⟩,by rw[if_neg h]⟩
theorem Fq:Ix.Ok Tryz.prog 352:=
 br mixed ((aj aoH ax)) func352 (by kernel_rfl) call352 (fun x_ y_=>RV x_.1 x_.2.1 y_.1) (fun x_ y_=>Mj x_.1 x_.2.1 y_.1) (fun x_ y_ h=>aap x_.1 x_.2.1 y_.1 h)
theorem aaq(p:Int):aQ (aQ p)=aQ p:=by
 have:=gu p;rw[aQ,if_neg (by omega),if_neg (by omega)]
theorem RW(p b:Int):cP (aQ p) b=cP p b:=by unfold cP;rw[aaq]
theorem j0(d:Dc):ED d=true↔d.2.2=0∧d.1<d.2.1:=by unfold ED;simp
theorem Cr(d:Dc):mi d=true↔d.2.2=0∧d.2.1≤d.1:=by unfold mi;simp
theorem Fs(d:Dc):mi d=false↔¬ (d.2.2=0∧d.2.1≤d.1):=by rw[← Cr];simp
def Cs(p:Int)(d:Int×Int×Int):Int×Int×Int×Int:=iV d (u64.wrap (shr u64 d.snd.fst 11*
 u64.wrap (aQ p))) (u64.wrap (d.snd.fst-u64.wrap (shr u64 d.snd.fst 11*u64.wrap (aQ p))))
abbrev WX:Type:=Int×Int×(Int×Int×Int)
abbrev as5(x:WX):LV:=LV.cj [VV.sc (SV.int i64 (SI.sym x.1)),VV.sc (SV.int i64 (SI.sym x.2.1))]
abbrev as6(x:WX):List (Nat×Ev.Item):= [(0,RK.wr x.2.2)]
def agW(p:Int)(d:Int×Int×Int):Tr (WX):=(.need (zU d) (.ite (!ED d) (.ret (0,aQ p,d)) (.need (rI
 (u64.wrap (shr u64 d.snd.fst 11*u64.wrap (aQ p))) (u64.wrap (d.snd.fst-u64.wrap (shr u64
 d.snd.fst 11*u64.wrap (aQ p)))) d) (.ret ((Cs p d).fst,cP (aQ p) (Cs p d).fst,(Cs p d).snd)))))
theorem aar(p:Int)(d:Dc):aG Tryz.prog [(351,agS),(352,Ix),(257,G5),(260,uE)] [] f346 ((lY).wr (p,())) ((nH).wr (d,())) [.fr [.sym],.syms,.auto,.aE]=(agW p d).end as5 as6 ((nH).wr (d,())):=by kernel_rfl
theorem agX(p:Int)(d:Dc):aH Tryz.prog ((nH).wr (d,())) [] (aF f346):=(aH.nil _)
abbrev rJ(p:Int)(d:Dc):Prop:=lJ d
abbrev agY(p:Int)(d:Dc):WX:=a7 p d
def as7:an:=cv [] (lY) (nH) (fun x_ y_=>rJ x_.1 y_.1) (fun x_ y_=>agY x_.1 y_.1) as5 as6
theorem aoI(p:Int)(d:Dc)(h_:rJ p d):(agW p d).Is (agY p d):=by
 delta agY;obtain⟨h1,h2,h3,h4⟩:=h_;have hb:=iF p h2 h3;have hh:=gu p;have e0:u64.wrap (aQ p)=aQ p:=wrap_u64 (by omega) (by omega);have e1:shr .u64 d.2.1 11=d.2.1/2048:=c9 .u64 d.2.1 11 (by decide);have e2:u64.wrap (d.2.1/2048*aQ p)=d.2.1/2048*aQ p:=wrap_u64 (by omega) (by omega);have e3:u64.wrap (d.2.1-d.2.1/2048*aQ p)=d.2.1-d.2.1/2048*aQ p:=wrap_u64 (by omega) (by omega);have ea:Cs p d=iV d (d.2.1/2048*aQ p) (d.2.1-d.2.1/2048*aQ p):=by unfold Cs;rw[e0,e1,e2,e3]
 simp only[agW,a7,aq,fC,au,e0,e1,e2,e3,ea,RW];refine⟨trivial,fun h=>⟨⟨⟨h1,h2,h3,h4⟩,((j0 d).1 h).1,by omega,by omega,by omega,by omega⟩,by rw[if_pos h]⟩,fun h=>by rw[if_neg (by simp[h])]⟩
theorem aoJ:as7.Ok Tryz.prog 346:=
 br mixed ((aj WT (aj Fq (aj uD (aj rz ax))))) func346 (by kernel_rfl) call346 (fun x_ y_=>agX x_.1 y_.1) (fun x_ y_=>aar x_.1 y_.1) (fun x_ y_ h=>aoI x_.1 y_.1 h)
def zX(d:Int×Int×Int):Int×Int×Int×Int:=iV d (u64.wrap (d.snd.fst.tdiv 2)) (u64.wrap
 (d.snd.fst.tdiv 2))
abbrev Iy:Type:=Int×(Int×Int×Int)
abbrev agZ(x:Iy):LV:=LV.one (VV.sc (SV.int i64 (SI.sym x.1)))
abbrev ag0(x:Iy):List (Nat×Ev.Item):= [(0,RK.wr x.2)]
def RX(d:Int×Int×Int):Tr (Iy):=(.need (zU d) (.ite (!ED d) (.ret (0,d)) (.need (rI (u64.wrap
 (d.snd.fst.tdiv 2)) (u64.wrap (d.snd.fst.tdiv 2)) d) (.ret ((zX d).fst,(zX d).snd)))))
theorem RY(d:Dc):aG Tryz.prog [(351,agS),(352,Ix)] [] f347 ((gM).wr (())) ((nH).wr (d,())) [.fr [.sym],.syms,.auto,.aE]=(RX d).end agZ ag0 ((nH).wr (d,())):=by kernel_rfl
theorem aas(d:Dc):aH Tryz.prog ((nH).wr (d,())) [] (aF f347):=(aH.nil _)
abbrev Ct(d:Dc):Prop:=lJ d
abbrev RZ(d:Dc):Iy:=cz d
def ag1:an:=cv [] (gM) (nH) (fun x_ y_=>Ct y_.1) (fun x_ y_=>RZ y_.1) agZ ag0
theorem ag2(d:Dc)(h_:Ct d):(RX d).Is (RZ d):=by
 delta RZ;obtain⟨h1,h2,h3,h4⟩:=h_;have e1:d.2.1.tdiv 2=d.2.1/2:=Int.tdiv_eq_ediv_of_nonneg (by omega);have e2:u64.wrap (d.2.1/2)=d.2.1/2:=wrap_u64 (by omega) (by omega);have ea:zX d=iV d (d.2.1/2) (d.2.1/2):=by unfold zX;rw[e1,e2]
 simp only[RX,cz,aq,fC,au,e1,e2,ea];refine⟨trivial,fun h=>⟨⟨⟨h1,h2,h3,h4⟩,((j0 d).1 h).1,by omega,by omega,by omega,by omega⟩,by rw[if_pos h]⟩,fun h=>by rw[if_neg (by simp[h])]⟩
theorem ag3:ag1.Ok Tryz.prog 347:=
 br mixed ((aj WT (aj Fq ax))) func347 (by kernel_rfl) call347 (fun x_ y_=>aas y_.1) (fun x_ y_=>RY y_.1) (fun x_ y_ h=>ag2 y_.1 h)
abbrev WY:Type:=Int×Int×Int
abbrev as8(x:WY):LV:=LV.one (VV.sc (SV.ptr 0 0))
abbrev as9(x:WY):List (Nat×Ev.Item):= [(0,kH.wr x)]
def ata:Tr (WY):=(.ret ((0,4294967295,4)))
theorem aat:aG Tryz.prog [] [] f230 ((ag).wr (())) ((ag).wr (())) [.fr [.sym],.syms,.auto,.aE]=(ata).end as8 as9 ((ag).wr (())):=by kernel_rfl
theorem ag4:aH Tryz.prog ((ag).wr (())) [] (aF f230):=(aH.nil _)
abbrev Iz:Prop:=True
abbrev ag5:WY:=(0,4294967295,4)
def ag6:an:=cv [] (ag) (ag) (fun _ _=>Iz) (fun _ _=>ag5) as8 as9
theorem aoK(h_:Iz):(ata).Is (ag5):=by
 delta ag5;exact rfl
theorem WZ:ag6.Ok Tryz.prog 230:=
 br mixed ax func230 (by kernel_rfl) call230 (fun x_ y_=>ag4) (fun x_ y_=>aat) (fun x_ y_ h=>aoK h)
abbrev IA:Type:=Bool×(Int×Int×Int)
abbrev ag7(x:IA):LV:=LV.one (VV.sc (SV.bool (SB.sym x.1)))
abbrev ag8(x:IA):List (Nat×Ev.Item):= [(0,kH.wr x.2)]
def R5(b:Int)(d:Int×Int×Int):Tr (IA):=(.ite (d.snd.snd==0) (.ret (false,d)) (.ret (true,(u64.wrap
 (u64.wrap (d.fst*256)+u64.wrap b),d.snd.fst,i64.wrap (d.snd.snd-1)))))
theorem R6(b:Int)(d:Dc):aG Tryz.prog [] [] f288 ((aoD).wr (b,())) ((nJ).wr (d,())) [.fr [.sym],.syms,.auto,.aE]=(R5 b d).end ag7 ag8 ((nJ).wr (d,())):=by kernel_rfl
theorem aau(b:Int)(d:Dc):aH Tryz.prog ((nJ).wr (d,())) [] (aF f288):=(aH.nil _)
abbrev Cu(b:Int)(d:Dc):Prop:=lJ d∧By b
abbrev R7(b:Int)(d:Dc):IA:=(decide (0<d.2.2),pk d b)
def R8:an:=cv [] (aoD) (nJ) (fun x_ y_=>Cu x_.1 y_.1) (fun x_ y_=>R7 x_.1 y_.1) ag7 ag8
theorem ag9(b:Int)(d:Dc)(h_:Cu b d):(R5 b d).Is (R7 b d):=by
 delta R7;obtain⟨⟨h1,h2,h3,h4⟩,h5,h6⟩:=h_;have e0:u64.wrap b=b:=wrap_u64 h5 (by omega);have e1:u64.wrap (d.1*256)=d.1*256:=wrap_u64 (by omega) (by omega);have e2:u64.wrap (d.1*256+b)=d.1*256+b:=wrap_u64 (by omega) (by omega);have e3:i64.wrap (d.2.2-1)=d.2.2-1:=ao (by omega) (by omega);simp only[R5,pk,eA,au,e0,e1,e2,e3];refine⟨fun h=>?_,fun h=>?_⟩
 ·rw[if_pos (by omega),decide_eq_false (by omega)]
 ·rw[if_neg (by omega),decide_eq_true (by omega)]
theorem Mk:R8.Ok Tryz.prog 288:=
 br mixed ax func288 (by kernel_rfl) call288 (fun x_ y_=>aau x_.1 y_.1) (fun x_ y_=>R6 x_.1 y_.1) (fun x_ y_ h=>ag9 x_.1 y_.1 h)
abbrev IB:Type:=Bool
abbrev aha(x:IB):LV:=LV.one (VV.sc (SV.bool (SB.sym x)))
abbrev ahb(x:IB):List (Nat×Ev.Item):= []
def R9(d:Int×Int×Int):Tr (IB):=(.ite ((d.snd.snd==0)==true) (.ret (decide (d.snd.fst≤d.fst))) (.ret (false)))
theorem Sa(d:Dc):aG Tryz.prog [] [] f289 ((gM).wr (())) ((nJ).wr (d,())) [.fr [.sym],.syms,.auto,.aE]=(R9 d).end aha ahb ((nJ).wr (d,())):=by kernel_rfl
theorem aav(d:Dc):aH Tryz.prog ((nJ).wr (d,())) [] (aF f289):=(aH.nil _)
abbrev qC(d:Dc):Prop:=True
abbrev Sb(d:Dc):IB:=mi d
def Cv:an:=cv [] (gM) (nJ) (fun x_ y_=>qC y_.1) (fun x_ y_=>Sb y_.1) aha ahb
theorem ahc(d:Dc)(h_:qC d):(R9 d).Is (Sb d):=by
 delta Sb;simp only[R9,mi,bE,au,iS,beq_iff_eq,beq_eq_false_iff_ne];exact⟨fun h=>decide_eq_decide.2 (by omega),fun h=>(decide_eq_false (by omega)).symm⟩
theorem vu:Cv.Ok Tryz.prog 289:=
 br mixed ax func289 (by kernel_rfl) call289 (fun x_ y_=>aav y_.1) (fun x_ y_=>Sa y_.1) (fun x_ y_ h=>ahc y_.1 h)
abbrev W0:Type:=Int×Int×Int
abbrev atb(x:W0):LV:=LV.cj []
abbrev atc(x:W0):List (Nat×Ev.Item):= [(0,kH.wr x)]
def ahd(d:Int×Int×Int):Tr (W0):=(.ite (decide (d.snd.fst<16777216)) (.ret ((d.fst,u64.wrap (d.snd.fst*256),
 1))) (.ret (d)))
theorem aaw(d:Dc):aG Tryz.prog [] [] f319 ((gM).wr (())) ((nJ).wr (d,())) [.fr [.sym],.syms,.auto,.aE]=(ahd d).end atb atc ((nJ).wr (d,())):=by kernel_rfl
theorem ahe(d:Dc):aH Tryz.prog ((nJ).wr (d,())) [] (aF f319):=(aH.nil _)
abbrev rK(d:Dc):Prop:=0≤d.2.1∧d.2.1<4294967296∧d.2.2=0
abbrev ahf(d:Dc):W0:=vr d.1 d.2.1
def ahg:an:=cv [] (gM) (nJ) (fun x_ y_=>rK y_.1) (fun x_ y_=>ahf y_.1) atb atc
theorem aoL(d:Dc)(h_:rK d):(ahd d).Is (ahf d):=by
 delta ahf;obtain⟨h1,h2,h3⟩:=h_;obtain⟨c,w,n⟩:=d;simp only at h1 h2 h3;subst h3;simp only[ahd,vr,aP,au];refine⟨fun h=>?_,fun h=>by rw[if_neg h]⟩;rw[wrap_u64 (by omega) (by omega),if_pos h]
theorem W1:ahg.Ok Tryz.prog 319:=
 br mixed ax func319 (by kernel_rfl) call319 (fun x_ y_=>ahe y_.1) (fun x_ y_=>aaw y_.1) (fun x_ y_ h=>aoL y_.1 h)
def ahh(p:Int)(d:Int×Int×Int):Int×Int×Int:=vr (u64.wrap (d.fst-u64.wrap (u64.wrap
 (d.snd.fst.tdiv 2048)*u64.wrap (aQ p)))) (u64.wrap (d.snd.fst-u64.wrap (u64.wrap (d.snd.fst.tdiv 2048)*
 u64.wrap (aQ p))))
abbrev W2:Type:=Int×Int×(Int×Int×Int)
abbrev atd(x:W2):LV:=LV.cj [VV.sc (SV.int i64 (SI.sym x.1)),VV.sc (SV.int i64 (SI.sym x.2.1))]
abbrev ate(x:W2):List (Nat×Ev.Item):= [(0,kH.wr x.2.2)]
def ahi(p:Int)(d:Int×Int×Int):Tr (W2):=(.ite (decide (0<d.snd.snd)==false) (.need (qC d) (.ite (mi d)
 (.ret (0,aQ p,d)) (.ite (decide (d.fst<u64.wrap (u64.wrap (d.snd.fst.tdiv 2048)*u64.wrap (aQ p)))) (.need (rK
 (d.fst,u64.wrap (u64.wrap (d.snd.fst.tdiv 2048)*u64.wrap (aQ p)),d.snd.snd)) (.ret (0,cP p 0,vr d.fst
 (u64.wrap (u64.wrap (d.snd.fst.tdiv 2048)*u64.wrap (aQ p)))))) (.need (rK (u64.wrap (d.fst-u64.wrap
 (u64.wrap (d.snd.fst.tdiv 2048)*u64.wrap (aQ p))),u64.wrap (d.snd.fst-u64.wrap (u64.wrap
 (d.snd.fst.tdiv 2048)*u64.wrap (aQ p))),d.snd.snd)) (.ret (1,cP p 1,ahh p d)))))) (.ret (0,aQ p,d)))
theorem aax(p:Int)(d:Dc):aG Tryz.prog [(289,Cv),(319,ahg),(275,G7),(278,uG)] [] f290 ((lY).wr (p,())) ((nJ).wr (d,())) [.fr [.sym],.syms,.auto,.aE]=(ahi p d).end atd ate ((nJ).wr (d,())):=by kernel_rfl
theorem ahj(p:Int)(d:Dc):aH Tryz.prog ((nJ).wr (d,())) [] (aF f290):=(aH.nil _)
abbrev rL(p:Int)(d:Dc):Prop:=lJ d
abbrev ahk(p:Int)(d:Dc):W2:=a7 p d
def vA:an:=cv [] (lY) (nJ) (fun x_ y_=>rL x_.1 y_.1) (fun x_ y_=>ahk x_.1 y_.1) atd ate
theorem aoM(p:Int)(d:Dc)(h_:rL p d):(ahi p d).Is (ahk p d):=by
 delta ahk;obtain⟨h1,h2,h3,h4⟩:=h_;have hb:=iF p h2 h3;have hh:=gu p;have e0:u64.wrap (aQ p)=aQ p:=wrap_u64 (by omega) (by omega);have e1:u64.wrap (d.2.1.tdiv 2048)=d.2.1/2048:=by rw[Int.tdiv_eq_ediv_of_nonneg (by omega),wrap_u64 (by omega) (by omega)]
 have e2:u64.wrap (d.2.1/2048*aQ p)=d.2.1/2048*aQ p:=wrap_u64 (by omega) (by omega);have e3:u64.wrap (d.2.1-d.2.1/2048*aQ p)=d.2.1-d.2.1/2048*aQ p:=wrap_u64 (by omega) (by omega);simp only[ahi,ahh,a7,iV,bE,aq,au,e0,e1,e2,e3,Cr,Fs,beq_iff_eq,beq_eq_false_iff_ne,decide_eq_true_eq,decide_eq_false_iff_not];refine⟨fun h=>⟨trivial,fun h5=>?_,fun h5=>?_⟩,fun h=>?_⟩
 ·rw[if_neg (by rw[j0];omega)]
 ·have hm:ED d=true:=by rw[j0];omega
  rw[if_pos hm];refine⟨fun h6=>⟨⟨by simp only;omega,by simp only;omega,by simp only;omega⟩,by rw[if_pos h6]⟩,fun h6=>?_⟩;have e4:u64.wrap (d.1-d.2.1/2048*aQ p)=d.1-d.2.1/2048*aQ p:=wrap_u64 (by omega) (by omega);rw[e4];exact⟨⟨by simp only;omega,by simp only;omega,by simp only;omega⟩,by rw[if_neg h6]⟩
 ·rw[if_neg (by rw[j0];simp at h;omega)]
theorem mj:vA.Ok Tryz.prog 290:=
 br mixed ((aj vu (aj W1 (aj uF (aj rA ax))))) func290 (by kernel_rfl) call290 (fun x_ y_=>ahj x_.1 y_.1) (fun x_ y_=>aax x_.1 y_.1) (fun x_ y_ h=>aoM x_.1 y_.1 h)
abbrev IC:Type:=Int×(Int×Int×Int)
abbrev ahl(x:IC):LV:=LV.one (VV.sc (SV.int i64 (SI.sym x.1)))
abbrev ahm(x:IC):List (Nat×Ev.Item):= [(0,kH.wr x.2)]
def Sc(d:Int×Int×Int):Tr (IC):=(.ite (decide (0<d.snd.snd)==false) (.need (qC d) (.ite (mi d) (.ret (0,
 d)) (.ite (decide (u64.wrap (d.snd.fst.tdiv 2)≤d.fst)) (.need (rK (u64.wrap (d.fst-u64.wrap (d.snd.fst.tdiv 2)),
 u64.wrap (d.snd.fst.tdiv 2),d.snd.snd)) (.ret (1,vr (u64.wrap (d.fst-u64.wrap (d.snd.fst.tdiv 2))) (u64.wrap
 (d.snd.fst.tdiv 2))))) (.need (rK (d.fst,u64.wrap (d.snd.fst.tdiv 2),d.snd.snd)) (.ret (0,vr d.fst (u64.wrap (d.snd.fst.tdiv
 2)))))))) (.ret (0,d)))
theorem Sd(d:Dc):aG Tryz.prog [(289,Cv),(319,ahg)] [] f292 ((gM).wr (())) ((nJ).wr (d,())) [.fr [.sym],.syms,.auto,.aE]=(Sc d).end ahl ahm ((nJ).wr (d,())):=by kernel_rfl
theorem aay(d:Dc):aH Tryz.prog ((nJ).wr (d,())) [] (aF f292):=(aH.nil _)
abbrev Cw(d:Dc):Prop:=lJ d
abbrev Se(d:Dc):IC:=cz d
def Sf:an:=cv [] (gM) (nJ) (fun x_ y_=>Cw y_.1) (fun x_ y_=>Se y_.1) ahl ahm
theorem ahn(d:Dc)(h_:Cw d):(Sc d).Is (Se d):=by
 delta Se;obtain⟨h1,h2,h3,h4⟩:=h_;have e1:d.2.1.tdiv 2=d.2.1/2:=Int.tdiv_eq_ediv_of_nonneg (by omega);have e2:u64.wrap (d.2.1/2)=d.2.1/2:=wrap_u64 (by omega) (by omega);simp only[Sc,cz,iV,bE,aq,au,e1,e2,Cr,Fs,beq_iff_eq,beq_eq_false_iff_ne,decide_eq_true_eq,decide_eq_false_iff_not];refine⟨fun h=>⟨trivial,fun h5=>?_,fun h5=>?_⟩,fun h=>?_⟩
 ·rw[if_neg (by rw[j0];omega)]
 ·have hm:ED d=true:=by rw[j0];omega
  rw[if_pos hm];refine⟨fun h6=>?_,fun h6=>⟨⟨by simp only;omega,by simp only;omega,by simp only;omega⟩,by rw[if_pos (by omega)]⟩⟩;have e4:u64.wrap (d.1-d.2.1/2)=d.1-d.2.1/2:=wrap_u64 (by omega) (by omega);rw[e4];exact⟨⟨by simp only;omega,by simp only;omega,by simp only;omega⟩,by rw[if_neg (by omega)]⟩
 ·rw[if_neg (by rw[j0];simp at h;omega)]
theorem Ml:Sf.Ok Tryz.prog 292:=
 br mixed ((aj vu (aj W1 ax))) func292 (by kernel_rfl) call292 (fun x_ y_=>aay y_.1) (fun x_ y_=>Sd y_.1) (fun x_ y_ h=>ahn y_.1 h)
structure RH where
 cs:List Int
 bh:Int
 part:Int
 node:Int
 t:cY
abbrev cRH(a b c:Nat):aM (List SV) RH:=(ae (so (.int .i64) 2) (ae (aA .i64) (ai (aC a 0) (ai (aC b 0) (ai (aC c 0) (ae (aA .i64) (ae (aA .i64) (ae (aA .i64) (ae (aA .i64) (ae (aA .u8) ag)))))))))).kE
 (fun x=>⟨x.1,x.2.1,x.2.2.1,x.2.2.2.1,(x.2.2.2.2.1,x.2.2.2.2.2.1,x.2.2.2.2.2.2.1)⟩) (fun y=>(y.cs,y.bh,y.part,y.node,y.t.1,y.t.2.1,y.t.2.2,())) (fun _=>rfl)
abbrev jRd:aM Ev.Item RH:=mN 385 (cRH 1 3 5)
abbrev hRd:aM Hp (RH×List Int×List Int×List Int×Unit):=
 ae (bp jRd) (ai (bp jT2) (ae (bS 0 (.int .u16)) (ai (bp jT4) (ae (bS 0 (.int .u16)) (ai (bp jT6) (ae (bS 0 (.int .u16)) ag))))))
abbrev Mm:aM Hp (RH×List Int×List Int×List Int×Dc×Unit):=
 ae (bp jRd) (ai (bp jT2) (ae (bS 0 (.int .u16)) (ai (bp jT4) (ae (bS 0 (.int .u16)) (ai (bp jT6) (ae (bS 0 (.int .u16)) (ae (bp RK) ag)))))))
def vB(part:Int):Int:=if part=0 then 1 else if part=1∨part=2 then 8 else 6
def iX(r:RH)(v:Int):Bool×RH:=
 if r.part=0 then(false,⟨r.cs,v,if v=1 then 2 else 1,r.node,(0,0,0)⟩)
 else if r.part=1 then(true,⟨r.cs,r.bh,0,r.node,(r.t.1,r.t.2.1,v)⟩)
 else if r.part=2 then(false,⟨r.cs,r.bh,3,r.node,(v+2,r.t.2)⟩)
 else if r.part=3 then(false,⟨r.cs,r.bh,4,r.node,(r.t.1,v*64,r.t.2.2)⟩)
 else(true,⟨r.cs,r.bh,0,r.node,(r.t.1,r.t.2.1+(v+1),r.t.2.2)⟩)
abbrev Cx:Type:=Unit
abbrev vC(x:Cx):LV:=LV.one (VV.sc (SV.ptr 1 0))
abbrev vD(x:Cx):List (Nat×Ev.Item):= []
abbrev Cy:Type:=Unit
abbrev vE(x:Cy):LV:=LV.one (VV.sc (SV.ptr 3 0))
abbrev vF(x:Cy):List (Nat×Ev.Item):= []
abbrev Cz:Type:=Unit
abbrev vG(x:Cz):LV:=LV.one (VV.sc (SV.ptr 5 0))
abbrev vH(x:Cz):List (Nat×Ev.Item):= []
def rM(r:RH)(p1:List Int)(p2:List Int)(p3:List Int):Tr (Cx⊕Cy⊕Cz):=(.ite (r.part==1) (.ret
 (.inl ())) (.ite (r.part==2) (.ret (.inr (.inl ()))) (.ret (.inr (.inr ())))))
theorem Mn(r:RH)(p1:List Int)(p2:List Int)(p3:List Int):aG Tryz.prog [] [] f348 ((gM).wr (())) ((hRd).wr (r,p1,p2,p3,())) [.fr [.sym],.syms,.auto,.aE]=(rM r p1 p2 p3).end (Sum.elim vC (Sum.elim vE vG)) (Sum.elim vD (Sum.elim vF vH)) ((hRd).wr (r,p1,p2,p3,())):=by kernel_rfl
theorem Sg(r:RH)(p1:List Int)(p2:List Int)(p3:List Int):aH Tryz.prog ((hRd).wr (r,p1,p2,p3,())) [] (aF f348):=(aH.nil _)
abbrev fY(r:RH)(p1:List Int)(p2:List Int)(p3:List Int):Prop:=True
def W3:an:=an.cl [] (gM) (hRd) fun x_ y_=>.ite ((fun(r:RH) (p1:List Int) (p2:List Int) (p3:List Int)=>decide (r.part=1)) y_.1 y_.2.1 y_.2.2.1 y_.2.2.2.1) (.leaf (some ((fun(r:RH) (p1:List Int) (p2:List Int) (p3:List Int)=>fY r p1 p2 p3) y_.1 y_.2.1 y_.2.2.1 y_.2.2.2.1)) (vC ((fun(r:RH) (p1:List Int) (p2:List Int) (p3:List Int)=>()) y_.1 y_.2.1 y_.2.2.1 y_.2.2.2.1)) (vD ((fun(r:RH) (p1:List Int) (p2:List Int) (p3:List Int)=>()) y_.1 y_.2.1 y_.2.2.1 y_.2.2.2.1))) (.ite ((fun(r:RH) (p1:List Int) (p2:List Int) (p3:List Int)=>decide (r.part=2)) y_.1 y_.2.1 y_.2.2.1 y_.2.2.2.1) (.leaf (some ((fun(r:RH) (p1:List Int) (p2:List Int) (p3:List Int)=>fY r p1 p2 p3) y_.1 y_.2.1 y_.2.2.1 y_.2.2.2.1)) (vE ((fun(r:RH) (p1:List Int) (p2:List Int) (p3:List Int)=>()) y_.1 y_.2.1 y_.2.2.1 y_.2.2.2.1)) (vF ((fun(r:RH) (p1:List Int) (p2:List Int) (p3:List Int)=>()) y_.1 y_.2.1 y_.2.2.1 y_.2.2.2.1))) (.leaf (some ((fun(r:RH) (p1:List Int) (p2:List Int) (p3:List Int)=>fY r p1 p2 p3) y_.1 y_.2.1 y_.2.2.1 y_.2.2.2.1)) (vG ((fun(r:RH) (p1:List Int) (p2:List Int) (p3:List Int)=>()) y_.1 y_.2.1 y_.2.2.1 y_.2.2.2.1)) (vH ((fun(r:RH) (p1:List Int) (p2:List Int) (p3:List Int)=>()) y_.1 y_.2.1 y_.2.2.1 y_.2.2.2.1))))
theorem xS(r:RH)(p1:List Int)(p2:List Int)(p3:List Int)(h_:fY r p1 p2 p3):((decide (r.part=1))=true→(rM r p1 p2 p3).Is (.inl (())))∧((decide (r.part=1))=false→(decide (r.part=2))=true→(rM r p1 p2 p3).Is (.inr (.inl (()))))∧((decide (r.part=1))=false→(decide (r.part=2))=false→(rM r p1 p2 p3).Is (.inr (.inr (())))):=by
 simp only[rM,eA,au,decide_eq_true_eq,decide_eq_false_iff_not];grind
theorem aaA:W3.Ok Tryz.prog 348:=by
 refine avN (tys:= []) (A:=gM) (H:=hRd) (LT:=fun x_ y_=>(fun(r:RH) (p1:List Int) (p2:List Int) (p3:List Int)=> []) y_.1 y_.2.1 y_.2.2.1 y_.2.2.2.1) (ks:= [.fr [.sym],.syms,.auto,.aE]) (V:=Sum.elim vC (Sum.elim vE vG)) (D:=Sum.elim vD (Sum.elim vF vH)) (T:=fun x_ y_=>rM y_.1 y_.2.1 y_.2.2.1 y_.2.2.2.1) (out:=fun x_ y_=>.ite ((fun(r:RH) (p1:List Int) (p2:List Int) (p3:List Int)=>decide (r.part=1)) y_.1 y_.2.1 y_.2.2.1 y_.2.2.2.1) (.leaf (some ((fun(r:RH) (p1:List Int) (p2:List Int) (p3:List Int)=>fY r p1 p2 p3) y_.1 y_.2.1 y_.2.2.1 y_.2.2.2.1)) (vC ((fun(r:RH) (p1:List Int) (p2:List Int) (p3:List Int)=>()) y_.1 y_.2.1 y_.2.2.1 y_.2.2.2.1)) (vD ((fun(r:RH) (p1:List Int) (p2:List Int) (p3:List Int)=>()) y_.1 y_.2.1 y_.2.2.1 y_.2.2.2.1))) (.ite ((fun(r:RH) (p1:List Int) (p2:List Int) (p3:List Int)=>decide (r.part=2)) y_.1 y_.2.1 y_.2.2.1 y_.2.2.2.1) (.leaf (some ((fun(r:RH) (p1:List Int) (p2:List Int) (p3:List Int)=>fY r p1 p2 p3) y_.1 y_.2.1 y_.2.2.1 y_.2.2.2.1)) (vE ((fun(r:RH) (p1:List Int) (p2:List Int) (p3:List Int)=>()) y_.1 y_.2.1 y_.2.2.1 y_.2.2.2.1)) (vF ((fun(r:RH) (p1:List Int) (p2:List Int) (p3:List Int)=>()) y_.1 y_.2.1 y_.2.2.1 y_.2.2.2.1))) (.leaf (some ((fun(r:RH) (p1:List Int) (p2:List Int) (p3:List Int)=>fY r p1 p2 p3) y_.1 y_.2.1 y_.2.2.1 y_.2.2.2.1)) (vG ((fun(r:RH) (p1:List Int) (p2:List Int) (p3:List Int)=>()) y_.1 y_.2.1 y_.2.2.1 y_.2.2.2.1)) (vH ((fun(r:RH) (p1:List Int) (p2:List Int) (p3:List Int)=>()) y_.1 y_.2.1 y_.2.2.1 y_.2.2.2.1))))) mixed ax func348 (by kernel_rfl) call348 (fun x_ y_=>Sg y_.1 y_.2.1 y_.2.2.1 y_.2.2.2.1) (fun x_ y_=>Mn y_.1 y_.2.1 y_.2.2.1 y_.2.2.2.1) (fun x_ y_ Q_ h_=>?_)
 cases hc_:(fun(r:RH) (p1:List Int) (p2:List Int) (p3:List Int)=>decide (r.part=1)) y_.1 y_.2.1 y_.2.2.1 y_.2.2.2.1 with
 |true=>exact⟨_,(xS y_.1 y_.2.1 y_.2.2.1 y_.2.2.2.1 (h_.1 hc_).1).1 hc_,(h_.1 hc_).2⟩
 |false=>
  have h2_:=h_.2 hc_
  cases hd_:(fun(r:RH) (p1:List Int) (p2:List Int) (p3:List Int)=>decide (r.part=2)) y_.1 y_.2.1 y_.2.2.1 y_.2.2.2.1 with
  |true=>exact⟨_,(xS y_.1 y_.2.1 y_.2.2.1 y_.2.2.2.1 (h2_.1 hd_).1).2.1 hc_ hd_,(h2_.1 hd_).2⟩
  |false=>exact⟨_,(xS y_.1 y_.2.1 y_.2.2.1 y_.2.2.2.1 (h2_.2 hd_).1).2.2 hc_ hd_,(h2_.2 hd_).2⟩
abbrev zY:Type:=Int
abbrev W4(x:zY):LV:=LV.one (VV.sc (SV.int i64 (SI.sym x)))
abbrev W5(x:zY):List (Nat×Ev.Item):= []
def ID(r:RH)(p1:List Int)(p2:List Int)(p3:List Int):Tr (zY):=(.ite (r.part==0) (.ret (1)) (.ite (r.part==1)
 (.ite (r.part==1) (.ret (8)) (.ite (r.part==3) (.ret (6)) (.ret (6)))) (.ite (r.part==2) (.ret (8)) (.ite (r.part==3) (.ret (6)) (.ret (6))))))
theorem Mo(r:RH)(p1:List Int)(p2:List Int)(p3:List Int):aG Tryz.prog [] [] f336 ((gM).wr (())) ((hRd).wr (r,p1,p2,p3,())) [.fr [.sym],.syms,.auto,.aE]=(ID r p1 p2 p3).end W4 W5 ((hRd).wr (r,p1,p2,p3,())):=by kernel_rfl
theorem Sh(r:RH)(p1:List Int)(p2:List Int)(p3:List Int):aH Tryz.prog ((hRd).wr (r,p1,p2,p3,())) [] (aF f336):=(aH.nil _)
abbrev xT(r:RH)(p1:List Int)(p2:List Int)(p3:List Int):Prop:=True
abbrev IE(r:RH)(p1:List Int)(p2:List Int)(p3:List Int):zY:=vB r.part
def W6:an:=cv [] (gM) (hRd) (fun x_ y_=>xT y_.1 y_.2.1 y_.2.2.1 y_.2.2.2.1) (fun x_ y_=>IE y_.1 y_.2.1 y_.2.2.1 y_.2.2.2.1) W4 W5
theorem aaB(r:RH)(p1:List Int)(p2:List Int)(p3:List Int)(h_:xT r p1 p2 p3):(ID r p1 p2 p3).Is (IE r p1 p2 p3):=by
 delta IE;simp only[ID,vB,eA,au];grind
theorem aaC:W6.Ok Tryz.prog 336:=
 br mixed ax func336 (by kernel_rfl) call336 (fun x_ y_=>Sh y_.1 y_.2.1 y_.2.2.1 y_.2.2.2.1) (fun x_ y_=>Mo y_.1 y_.2.1 y_.2.2.1 y_.2.2.2.1) (fun x_ y_ h=>aaB y_.1 y_.2.1 y_.2.2.1 y_.2.2.2.1 h)
abbrev vI:Type:=Bool×RH
abbrev Mp(x:vI):LV:=LV.one (VV.sc (SV.bool (SB.sym x.1)))
abbrev Mq(x:vI):List (Nat×Ev.Item):= [(0,jRd.wr x.2)]
def CA(v:Int)(r:RH)(p1:List Int)(p2:List Int)(p3:List Int):Tr (vI):=(.ite (r.part==0) (.ite (v==1)
 (.ret (false,{cs:=r.cs,bh:=v,part:=2,node:=r.node,t:=(0,0,0)})) (.ret (false,{cs:=r.cs,bh:=v,part:=1,node:=r.node,t:=(0,0,0)})))
 (.ite (r.part==1) (.ret (true,{cs:=r.cs,bh:=r.bh,part:=0,node:=r.node,t:=(r.t.fst,r.t.snd.fst,IntKind.u8.wrap v)})) (.ite (r.part
 ==2) (.ret (false,{cs:=r.cs,bh:=r.bh,part:=3,node:=r.node,t:=(i64.wrap (v+2),r.t.snd)})) (.ite (r.part==3) (.ret (false,
 {cs:=r.cs,bh:=r.bh,part:=4,node:=r.node,t:=(r.t.fst,shl i64 v 6,r.t.snd.snd)})) (.ite (r.part==4) (.ret (true,{cs:=r.cs,bh:=r.bh,part:=0,node:=r.node,t:=(r.t.fst,i64.wrap (r.t.snd.fst+i64.wrap (v+1)),r.t.snd.snd)}))
 (.ret (true,{cs:=r.cs,bh:=r.bh,part:=0,node:=r.node,t:=r.t})))))))
theorem IF(v:Int)(r:RH)(p1:List Int)(p2:List Int)(p3:List Int):aG Tryz.prog [] [] f337 ((lY).wr (v,())) ((hRd).wr (r,p1,p2,p3,())) [.fr [.sym],.syms,.auto,.aE]=(CA v r p1 p2 p3).end Mp Mq ((hRd).wr (r,p1,p2,p3,())):=by kernel_rfl
theorem Mr(v:Int)(r:RH)(p1:List Int)(p2:List Int)(p3:List Int):aH Tryz.prog ((hRd).wr (r,p1,p2,p3,())) [] (aF f337):=(aH.nil _)
abbrev td(v:Int)(r:RH)(p1:List Int)(p2:List Int)(p3:List Int):Prop:=0≤v∧v<256∧0≤r.part∧r.part≤4∧0≤r.t.2.1∧r.t.2.1<1000000
abbrev CB(v:Int)(r:RH)(p1:List Int)(p2:List Int)(p3:List Int):vI:=iX r v
def Ms:an:=cv [] (lY) (hRd) (fun x_ y_=>td x_.1 y_.1 y_.2.1 y_.2.2.1 y_.2.2.2.1) (fun x_ y_=>CB x_.1 y_.1 y_.2.1 y_.2.2.1 y_.2.2.2.1) Mp Mq
theorem Si(v:Int)(r:RH)(p1:List Int)(p2:List Int)(p3:List Int)(h_:td v r p1 p2 p3):(CA v r p1 p2 p3).Is (CB v r p1 p2 p3):=by
 delta CB;obtain⟨h1,h2,h3,h4,h5,h6⟩:=h_;have e1:IntKind.u8.wrap v=v:=by rw[wrap_u8];omega
 have e2:i64.wrap (v+2)=v+2:=ao (by omega) (by omega);have e3:i64.wrap (v+1)=v+1:=ao (by omega) (by omega);have e4:i64.wrap (r.t.2.1+(v+1))=r.t.2.1+(v+1):=ao (by omega) (by omega)
 have e5:shl .i64 v 6=v*64:=by
  have:=gd .i64 v 6 (by decide);rw[show((6:Nat):Int)=6 from rfl]at this;rw[this];exact ao (by omega) (by omega)
 simp only[CA,iX,eA,au,e1,e2,e3,e4,e5];grind
theorem Sj:Ms.Ok Tryz.prog 337:=
 br mixed ax func337 (by kernel_rfl) call337 (fun x_ y_=>Mr x_.1 y_.1 y_.2.1 y_.2.2.1 y_.2.2.2.1) (fun x_ y_=>IF x_.1 y_.1 y_.2.1 y_.2.2.1 y_.2.2.2.1) (fun x_ y_ h=>Si x_.1 y_.1 y_.2.1 y_.2.2.1 y_.2.2.2.1 h)
def vJ(r:RH)(d:Int×Int×Int):Int×Int×Int×Int×Int:=a7 ((List.take 2 (List.drop 0 r.cs)).getD r.bh.toNat 0) d
abbrev IG:Type:=Int×RH×(List Int)×(List Int)×(List Int)×(Int×Int×Int)
abbrev aho(x:IG):LV:=LV.one (VV.sc (SV.int i64 (SI.sym x.1)))
abbrev ahp(x:IG):List (Nat×Ev.Item):= [(0,jRd.wr x.2.1),(1,Item.aW [SV.sl 2 1] 332),(2,Item.own 1 (Ty.int
 u16) x.2.2.1),(3,Item.aW [SV.sl 4 1] 332),(4,Item.own 1 (Ty.int u16) x.2.2.2.1),(5,Item.aW [SV.sl 6 1] 332),(6,Item.own 1
 (Ty.int u16) x.2.2.2.2.1),(7,RK.wr x.2.2.2.2.2)]
def Sk(r:RH)(p1:List Int)(p2:List Int)(p3:List Int)(d:Int×Int×Int):Tr (IG):=(.ite (r.part==0) (.need (0
 ≤r.bh∧r.bh<2) (.need (rJ ((List.take 2 (List.drop 0 r.cs)).getD r.bh.toNat 0) d) (.need (0≤r.bh∧r.bh<2) (.ret ((vJ r d).fst,{cs:=r.cs.set (0+r.bh.toNat) (vJ r d).snd.fst,bh:=r.bh,part:=r.part,node:=r.node,t:=r.t},
 p1,p2,p3,(vJ r d).snd.snd))))) (.ite (r.part==4) (.need (Ct d) (.ret ((cz d).fst,r,p1,p2,p3,(cz d).snd))) (.ite (decide
 (r.part=1)) (.need (fY r p1 p2 p3) (.need (gZ p1) (.need (rJ (ef p1 r.node) d) (.need (gZ p1) (.ret ((a7 (ef p1 r.node) d).fst,
 r,b8 p1 r.node (a7 (ef p1 r.node) d).fst,p2,p3,(a7 (ef p1 r.node) d).snd.snd)))))) (.ite (decide (r.part=2)) (.need (fY r p1 p2
 p3) (.need (gZ p2) (.need (rJ (ef p2 r.node) d) (.need (gZ p2) (.ret ((a7 (ef p2 r.node) d).fst,r,p1,b8 p2 r.node (a7 (ef p2
 r.node) d).fst,p3,(a7 (ef p2 r.node) d).snd.snd)))))) (.need (fY r p1 p2 p3) (.need (gZ p3) (.need (rJ (ef p3 r.node) d) (.need
 (gZ p3) (.ret ((a7 (ef p3 r.node) d).fst,r,p1,p2,b8 p3 r.node (a7 (ef p3 r.node) d).fst,(a7 (ef p3 r.node) d).snd.snd))))))))))
theorem Sl(r:RH)(p1:List Int)(p2:List Int)(p3:List Int)(d:Dc):aG Tryz.prog [(348,W3),(346,as7),(347,ag1),(262,ZB),(263,G8)] [] f335 (((ai (ah (aC 0 0)) (ai (ah (aC 7 0)) ag))).wr (())) ((Mm).wr (r,p1,p2,p3,d,())) [.one 2,.one 4,.one 6,.fr [.sym],.syms,.auto,.aE]=(Sk r p1 p2 p3 d).end aho ahp ((Mm).wr (r,p1,p2,p3,d,())):=by kernel_rfl
theorem aaD(r:RH)(p1:List Int)(p2:List Int)(p3:List Int)(d:Dc):aH Tryz.prog ((Mm).wr (r,p1,p2,p3,d,())) [] (aF f335):=(aH.nil _)
def g8(r:RH)(p1 p2 p3:List Int)(d:Dc):Int×RH×List Int×List Int×List Int×Dc:=
 if r.part=0 then
  let x:=a7 (r.cs.getD r.bh.toNat 0) d
  (x.1,⟨r.cs.set r.bh.toNat x.2.1,r.bh,r.part,r.node,r.t⟩,p1,p2,p3,x.2.2)
 else if r.part=4 then((cz d).1,r,p1,p2,p3,(cz d).2)
 else if r.part=1 then
  let x:=a7 (ef p1 r.node) d
  (x.1,r,b8 p1 r.node x.1,p2,p3,x.2.2)
 else if r.part=2 then
  let x:=a7 (ef p2 r.node) d
  (x.1,r,p1,b8 p2 r.node x.1,p3,x.2.2)
 else
  let x:=a7 (ef p3 r.node) d
  (x.1,r,p1,p2,b8 p3 r.node x.1,x.2.2)
abbrev CC(r:RH)(p1:List Int)(p2:List Int)(p3:List Int)(d:Dc):Prop:=r.cs.length=2∧(r.bh=0∨r.bh=1)∧gZ p1∧gZ p2∧gZ p3∧lJ d
abbrev Sm(r:RH)(p1:List Int)(p2:List Int)(p3:List Int)(d:Dc):IG:=g8 r p1 p2 p3 d
def ahq:an:=cv [] ((ai (ah (aC 0 0)) (ai (ah (aC 7 0)) ag))) (Mm) (fun x_ y_=>CC y_.1 y_.2.1 y_.2.2.1 y_.2.2.2.1 y_.2.2.2.2.1) (fun x_ y_=>Sm y_.1 y_.2.1 y_.2.2.1 y_.2.2.2.1 y_.2.2.2.2.1) aho ahp
theorem ahr(r:RH)(p1:List Int)(p2:List Int)(p3:List Int)(d:Dc)(h_:CC r p1 p2 p3 d):(Sk r p1 p2 p3 d).Is (Sm r p1 p2 p3 d):=by
 delta Sm;obtain⟨h1,h2,h3,h4,h5,h6⟩:=h_;have e1:(List.take 2 (List.drop 0 r.cs)).getD r.bh.toNat 0=r.cs.getD r.bh.toNat 0:=by rw[List.drop_zero,List.take_of_length_le (by omega)]
 have ea:vJ r d=a7 (r.cs.getD r.bh.toNat 0) d:=by unfold vJ;rw[e1]
 have hb:0≤r.bh∧r.bh<2:=by omega
 simp only[Sk,g8,eA,aP,aq,au,e1,ea,Nat.zero_add];refine⟨fun e=>⟨hb,h6,hb,by rw[if_pos e]⟩,fun e=>?_⟩;rw[if_neg e];refine⟨fun e2=>⟨h6,by rw[if_pos e2]⟩,fun e2=>?_⟩;rw[if_neg e2];refine⟨fun e3=>⟨trivial,h3,h6,h3,by rw[if_pos e3]⟩,fun e3=>?_⟩;rw[if_neg e3];refine⟨fun e4=>⟨trivial,h4,h6,h4,by rw[if_pos e4]⟩,fun e4=>?_⟩;rw[if_neg e4];exact⟨trivial,h5,h6,h5,rfl⟩
theorem ahs:ahq.Ok Tryz.prog 335:=
 br mixed ((aj aaA (aj aoJ (aj ag3 (aj Bu (aj Bv ax)))))) func335 (by kernel_rfl) call335 (fun x_ y_=>aaD y_.1 y_.2.1 y_.2.2.1 y_.2.2.2.1 y_.2.2.2.2.1) (fun x_ y_=>Sl y_.1 y_.2.1 y_.2.2.1 y_.2.2.2.1 y_.2.2.2.2.1) (fun x_ y_ h=>ahr y_.1 y_.2.1 y_.2.2.1 y_.2.2.2.1 y_.2.2.2.2.1 h)
def cL:List Int→Dc→Bool×List Int×Dc
 | [],d=>(decide (d.2.2≤0),[],d)
 |x::r,d=>if 0<d.2.2 then cL r (pk d x)else(true,x::r,d)
theorem CD{d:Dc}(h:lJ d){b:Int}(hb:By b):lJ (pk d b):=by
 obtain⟨h1,h2,h3,h4⟩:=h;obtain⟨h5,h6⟩:=hb;unfold pk
 split
 ·exact⟨h1,h2,h3,h4⟩
 ·exact⟨by simp only;omega,h2,h3,by simp only;omega⟩
theorem vK:∀ (b:List Int) (d:Dc),lJ d→ay b→lJ (cL b d).2.2∧ay (cL b d).2.1∧(cL b d).2.1.length≤b.length∧((cL b d).1=true→(cL b d).2.2.2.2=0)
 | [],d,h,hb=>by
  refine⟨h,hb,Nat.le_refl _,fun e=>?_⟩;have:=h.2.2.2;simp only[cL,decide_eq_true_eq]at e ⊢;omega
 |x::r,d,h,hb=>by
  have hr:ay r:=fun z hz=>hb z (by simp[hz]);unfold cL
  split
  ·have:=vK r (pk d x) (CD h (hb x (by simp))) hr;exact⟨this.1,this.2.1,by rw[List.length_cons];omega,this.2.2.2⟩
  ·have:=h.2.2.2;exact⟨h,hb,Nat.le_refl _,fun _=>by simp only;omega⟩
def cT(b:List Int)(d:Dc):Bool×List Int×Dc:=if(cL b d).1=true then(!mi (cL b d).2.2,(cL b d).2.1,(cL b d).2.2)else(false,[],(cL b d).2.2)
abbrev CE:Type:=(List Int)×(Int×Int×Int)
abbrev CF:aM St CE:=(aS (ai (ah (aC (0) (0))) (ae (ah (fh false false (Ty.int IntKind.u8))) (jk 20 ag)))
 (ae (bp RK) ag)).kE (fun y=>(y.1.1,y.2.1)) (fun x=>((x.1,()),(x.2,()))) (fun _=>rfl)
abbrev Sn:List Wk:= [.fr (cu 22 [(0,.al),(1,.al)]),.syms,.auto,.aE]
abbrev aht:Exit→List Wk:=xz Sn 0 [.fr (cu 22 [(0,.al),(1,.al)]),.syms,.auto,.aE] [.fr (cu 22 [(4,.al),(5,.al)]),
 .syms,.auto,.aE]
abbrev IH:Type:=Bool×(Int×Int×Int)
abbrev W7(x:IH):Exit×St:=(Exit.ret,⟨(iE 4 (LV.one (VV.sc (SV.iM (Value.slice none 0 0)))::(LV.one (VV.sc (SV.bool
 (SB.sym x.1)))::(iE 16 [])))),[some (RK.wr x.2)]⟩)
abbrev II:Type:=(List Int)×(Int×Int×Int)
abbrev W8(x:II):Exit×St:=(Exit.exit 0,⟨(LV.one (VV.sc (SV.ptr 0 0))::(LV.one (VV.sc (SV.rd false false (Ty.int
 IntKind.u8) x.1))::(iE 20 []))),[some (RK.wr x.2)]⟩)
def CG(b':List Int)(d':Int×Int×Int):Tr (CE⊕(IH⊕II)):=(.need (vt d') (.ite (decide (0<
 d'.snd.snd)) (.ite ((↑b'.length:Int)==0) (.ret (.inr (.inl (false,d')))) (.need ((0:Int)≤0∧0<(↑b'.length:Int)) (.need (Cp (b'.getD
 0 0) d') (.need ((0:Int)≤1∧1≤(↑b'.length:Int)∧(↑b'.length:Int)≤(↑b'.length:Int)) (.ret (.inl (List.take ((↑b'.length:Int)-
 1).toNat (List.drop 1 b'),pk d' (b'.getD 0 0)))))))) (.ret (.inr (.inr (b',d'))))))
theorem So(b:List Int)(d:Dc)(b':List Int)(d':Int×Int×Int):cO Tryz.prog [(332,Ir),(333,RQ),(334,RU)] [] f317 0 ((nH).wr (d,())) aht (CF.wr (b',d'))=(CG b' d').res CF.wr (Sum.elim W7 W8):=by kernel_rfl
abbrev CH(b':List Int)(d':Int×Int×Int):Prop:=lJ d'∧ay b'∧b'.length<1099511627776
abbrev Sp(b':List Int)(d':Int×Int×Int):Bool:= !(cL b' d').1
abbrev Sq(b':List Int)(d':Int×Int×Int):IH:=(false,(cL b' d').2.2)
abbrev Sr(b':List Int)(d':Int×Int×Int):II:=((cL b' d').2.1,(cL b' d').2.2)
abbrev Ss:CE→aK:=sZ (fun x_=>CH x_.1 x_.2) (fun x_=>Sp x_.1 x_.2) (fun x_=>Sq x_.1 x_.2) (fun x_=>Sr x_.1 x_.2) W7 W8
theorem ahu(b':List Int)(d':Int×Int×Int)(h_:CH b' d'):cX (fun x_:CE=>CG x_.1 x_.2) (b',d') (bif Sp b' d' then .inl (Sq b' d')else .inr (Sr b' d')):=by
 delta Sp Sq Sr;obtain⟨h1,h2,h3⟩:=h_
 induction b' generalizing d' with
 |nil=>
  refine .stop ?_;simp only[CG,aP,aq,au,eA,cL,List.length_nil];refine⟨trivial,fun h=>⟨fun _=>?_,fun h=>absurd rfl h⟩,fun h=>?_⟩
  ·rw[decide_eq_false (by omega)];rfl
  ·rw[decide_eq_true (by omega)];rfl
 |cons x r ih=>
  have hr:ay r:=fun z hz=>h2 z (by simp[hz]);have hx:By x:=h2 x (by simp);rw[List.length_cons]at h3
  by_cases hn:0<d'.2.2
  ·have lA:=ih (pk d' x) (CD h1 hx) hr (by omega);rw[cL,if_pos hn];refine .go ?_ lA;simp only[CG,aP,aq,au,eA,List.length_cons];refine⟨trivial,fun h=>⟨fun h=>by omega,fun _=>⟨⟨by omega,by omega⟩,⟨h1,hx⟩,⟨by omega,by omega,by omega⟩,?_⟩⟩,fun h=>absurd hn h⟩;have e:(((r.length+1:Nat):Int)-1).toNat=r.length:=(by omega);rw[e];simp
  ·rw[cL,if_neg hn];refine .stop ?_;simp only[CG,aP,aq,au,eA];exact⟨trivial,fun h=>absurd h hn,fun _=>rfl⟩
theorem aaE(b:List Int)(d:Dc):∀x:CE,Ex Tryz.prog ((nH).wr (d,())) (.loop (aO f317 0)) (CF.wr x) (Ss x):=
 cy mixed ((aj Co (aj Mh (aj Mi ax)))) (ws:=aht) (aH.nil _) (fun x_=>So b d x_.1 x_.2) (fun z=>by cases z<;>(intro e;cases e)) xy (fun x_ h=>ahu x_.1 x_.2 h)
def ahv(b:List Int)(d:Int×Int×Int):Int×Int×Int:=(cL b d).snd.snd
abbrev W9:Type:=(List Int)×Bool×(Int×Int×Int)
abbrev atf(x:W9):LV:=LV.cj [VV.sc (SV.rd false false (Ty.int IntKind.u8) x.1),VV.sc (SV.bool (SB.sym x.2.1))]
abbrev atg(x:W9):List (Nat×Ev.Item):= [(0,RK.wr x.2.2)]
def ahw(b:List Int)(d:Int×Int×Int):Tr (W9):=(.need (CH b d) (.ite (!(cL b d).fst) (.ret ([],false,(cL b
 d).snd.snd)) (.need (Cq (ahv b d)) (.ret ((cL b d).snd.fst,!mi (ahv b d),(cL b d).snd.snd)))))
theorem aaF(b:List Int)(d:Dc):aG Tryz.prog [(332,Ir),(333,RQ),(334,RU)] [(0,bZ CF ((nH).wr (d,())) Sn (Ss))] f317 (((ai (ah (aC 0 0)) (ae (ah (fh false false u8)) ag))).wr (b,())) ((nH).wr (d,())) [.fr [.rd false u8],.fr [.sym],.syms,.auto,.aE]=(ahw b d).end atf atg ((nH).wr (d,())):=by kernel_rfl
theorem ahx(b:List Int)(d:Dc):aH Tryz.prog ((nH).wr (d,())) [(0,bZ CF ((nH).wr (d,())) Sn (Ss))] (aF f317):=(aH.bK (js (by kernel_rfl) (bP (hp:=(nH).wr (d,())) (aaE b d)) jt))
abbrev IJ(b:List Int)(d:Dc):Prop:=lJ d∧ay b∧b.length<1099511627776
abbrev ahy(b:List Int)(d:Dc):W9:=((cT b d).2.1,(cT b d).1,(cT b d).2.2)
def ath:an:=cv [] ((ai (ah (aC 0 0)) (ae (ah (fh false false u8)) ag))) (nH) (fun x_ y_=>IJ x_.1 y_.1) (fun x_ y_=>ahy x_.1 y_.1) atf atg
theorem aoO(b:List Int)(d:Dc)(h_:IJ b d):(ahw b d).Is (ahy b d):=by
 delta ahy;simp only[ahw,cT,aq,fC,au];refine⟨h_,fun h=>?_,fun h=>?_⟩
 ·rw[if_pos h];exact⟨trivial,rfl⟩
 ·rw[if_neg (by simp[h])]
theorem aoP:ath.Ok Tryz.prog 317:=
 br mixed ((aj Co (aj Mh (aj Mi ax)))) func317 (by kernel_rfl) call317 (fun x_ y_=>ahx x_.1 y_.1) (fun x_ y_=>aaF x_.1 y_.1) (fun x_ y_ h=>aoO x_.1 y_.1 h)
def lK(part:Int):Int:=if part=0 then 2 else if part=1∨part=2 then 256 else 64
theorem Mt(part:Int):shl .i64 1 (vB part)=lK part:=by
 unfold vB lK
 split
 ·exact mg 1 (by omega)
 ·split
  ·exact mg 8 (by omega)
  ·exact mg 6 (by omega)
theorem size_pos(part:Int):0≤vB part:=by unfold vB;split<;>(try split)<;>omega
structure ROk (r:RH):Prop where
 len:r.cs.length=2
 bh:r.bh=0∨r.bh=1
 part:0≤r.part∧r.part≤4
 node:1≤r.node∧r.node<lK r.part
 aJF:0≤r.t.2.1∧r.t.2.1≤4096
 tb:0≤r.t.2.2∧r.t.2.2<256
 p4:r.part=4→r.t.2.1≤4032
theorem ik(p:Int)(d:Dc):0≤(a7 p d).1∧(a7 p d).1≤1:=by
 unfold a7 iV
 split
 ·simp only;split<;>simp
 ·simp
theorem vL(d:Dc):0≤(cz d).1∧(cz d).1≤1:=by
 unfold cz iV
 split
 ·split<;>simp
 ·simp
theorem xU(r:RH)(p1 p2 p3:List Int)(d:Dc):(g8 r p1 p2 p3 d).2.1.bh=r.bh∧(g8 r p1 p2 p3 d).2.1.part=r.part∧(g8 r p1 p2 p3 d).2.1.node=r.node∧(g8 r p1 p2 p3 d).2.1.t=r.t∧(g8 r p1 p2 p3 d).2.1.cs.length=r.cs.length∧0≤(g8 r p1 p2 p3 d).1∧(g8 r p1 p2 p3 d).1≤1:=by
 have h:=vL d;unfold g8
 split
 ·have:=ik (r.cs.getD r.bh.toNat 0) d;exact⟨rfl,rfl,rfl,rfl,by simp,this⟩
 ·split
  ·exact⟨rfl,rfl,rfl,rfl,rfl,h⟩
  ·split
   ·exact⟨rfl,rfl,rfl,rfl,rfl,ik _ d⟩
   ·split
    ·exact⟨rfl,rfl,rfl,rfl,rfl,ik _ d⟩
    ·exact⟨rfl,rfl,rfl,rfl,rfl,ik _ d⟩
def fQ(r:RH)(p1 p2 p3:List Int)(d:Dc):(cY×Bool)×RH×List Int×List Int×List Int×Dc:=
 let x:=g8 r p1 p2 p3 d
 let n:=2*r.node+x.1
 if n<lK r.part then(((0,0,0),false),⟨x.2.1.cs,r.bh,r.part,n,r.t⟩,x.2.2)
 else
  let y:=iX ⟨x.2.1.cs,r.bh,r.part,1,r.t⟩ (n-lK r.part)
  if y.1=true then((y.2.t,true),y.2,x.2.2)else(((0,0,0),false),y.2,x.2.2)
theorem Ft(part:Int):2≤lK part∧lK part≤256:=by unfold lK;split<;>(try split)<;>omega
theorem aaG{r:RH}(h:ROk r){v:Int}(h0:0≤v)(h1:v<lK r.part)(hn:r.node=1):ROk (iX r v).2:=by
 obtain⟨k1,k2,k3,k4,k5,k6,k7⟩:=h;unfold iX
 split
 ·rename_i e;rw[e]at h1;have h1:v<2:=h1;refine⟨k1,by simp only;omega,by simp only;split<;>omega,?_,by simp,by simp,by simp⟩;simp only
  split<;>(rw[hn];decide)
 ·split
  ·rename_i e;rw[e]at h1;have h1:v<256:=h1;exact⟨k1,k2,by simp,by simp only[hn];decide,k5,⟨h0,h1⟩,by simp⟩
  ·split
   ·rename_i e;exact⟨k1,k2,by simp,by simp only[hn];decide,k5,k6,by simp⟩
   ·split
    ·rename_i e;rw[e]at h1;have h1:v<64:=h1;exact⟨k1,k2,by simp,by simp only[hn];decide,by simp only;omega,k6,by simp only;omega⟩
    ·rename_i e1 e2 e3 e4;have e5:r.part=4:=(by omega);rw[e5]at h1;have h1:v<64:=h1;have:=k7 e5;exact⟨k1,k2,by simp,by simp only[hn];decide,by simp only;omega,k6,by simp⟩
theorem Mu{r:RH}(h:ROk r)(p1 p2 p3:List Int)(d:Dc):ROk (fQ r p1 p2 p3 d).2.1:=by
 obtain⟨h1,h2,h3,h4,h5,h6,h7⟩:=xU r p1 p2 p3 d;have hc:=Ft r.part;have hr:=h;obtain⟨k1,k2,k3,k4,k5,k6,k7⟩:=h;unfold fQ;simp only
 split
 ·rename_i e;exact⟨by simp only;omega,k2,k3,by simp only;omega,k5,k6,k7⟩
 ·have:=aaG (r:=⟨(g8 r p1 p2 p3 d).2.1.cs,r.bh,r.part,1,r.t⟩) ⟨by simp only;omega,k2,k3,by simp only;omega,k5,k6,k7⟩ (v:=2*r.node+(g8 r p1 p2 p3 d).1-lK r.part) (by omega) (by simp only;omega) rfl
  split<;>exact this
def a9(r:RH)(p1:List Int)(p2:List Int)(p3:List Int)(d:Int×Int×Int):Int×RH×List Int×List Int×List Int×
 Int×Int×Int:=g8 r p1 p2 p3 d
def iY(r:RH)(p1:List Int)(p2:List Int)(p3:List Int)(d:Int×Int×Int):Int:=i64.wrap (i64.wrap
 (i64.wrap (2*r.node)+(a9 r p1 p2 p3 d).fst)-shl i64 1 (vB (a9 r p1 p2 p3 d).snd.fst.part))
def vM(r:RH)(p1:List Int)(p2:List Int)(p3:List Int)(d:Int×Int×Int):Int×Int×Int:=(a9 r p1 p2 p3
 d).snd.fst.t
def iZ(r:RH)(p1:List Int)(p2:List Int)(p3:List Int)(d:Int×Int×Int):RH:= {cs:=(a9 r p1 p2 p3 d).snd.fst.cs,bh:=(a9 r p1 p2 p3 d).snd.fst.bh,part:=(a9 r p1 p2 p3 d).snd.fst.part,node:=1,t:=vM r p1 p2 p3 d}
abbrev zZ:Type:=Int×Int×Int×Bool×RH×(List Int)×(List Int)×(List Int)×(Int×Int×Int)
abbrev Xa(x:zZ):LV:=LV.cj [VV.agg [SV.int i64 (SI.sym x.1),SV.int i64 (SI.sym x.2.1),SV.int
 IntKind.u8 (SI.sym x.2.2.1)],VV.sc (SV.bool (SB.sym x.2.2.2.1))]
abbrev Xb(x:zZ):List (Nat×Ev.Item):= [(0,jRd.wr x.2.2.2.2.1),(1,Item.aW [SV.sl 2 1] 332),(2,Item.own 1 (Ty.int
 u16) x.2.2.2.2.2.1),(3,Item.aW [SV.sl 4 1] 332),(4,Item.own 1 (Ty.int u16) x.2.2.2.2.2.2.1),(5,Item.aW [SV.sl 6 1] 332),(6,
 Item.own 1 (Ty.int u16) x.2.2.2.2.2.2.2.1),(7,RK.wr x.2.2.2.2.2.2.2.2)]
def IK(r:RH)(p1:List Int)(p2:List Int)(p3:List Int)(d:Int×Int×Int):Tr (zZ):=(.need (CC r p1 p2 p3
 d) (.need ((Out.leaf none (LV.one (VV.sc (SV.int i64 (SI.sym (a9 r p1 p2 p3 d).snd.fst.node)))) [],[0])=(Out.leaf none (LV.one (VV.sc
 (SV.int i64 (SI.sym r.node)))) [],[0])) (.need (xT {cs:=(a9 r p1 p2 p3 d).snd.fst.cs,bh:=(a9 r p1 p2 p3 d).snd.fst.bh,part:=(a9 r p1 p2 p3 d).snd.fst.part,node:=i64.wrap (i64.wrap (2*r.node)+(a9 r p1 p2 p3 d).fst),t:=vM r p1 p2 p3 d}
 (a9 r p1 p2 p3 d).snd.snd.fst (a9 r p1 p2 p3 d).snd.snd.snd.fst (a9 r p1 p2 p3 d).snd.snd.snd.snd.fst) (.need (0≤vB (a9 r
 p1 p2 p3 d).snd.fst.part) (.ite (decide (i64.wrap (i64.wrap (2*r.node)+(a9 r p1 p2 p3 d).fst)<shl i64 1 (vB
 (a9 r p1 p2 p3 d).snd.fst.part))) (.ret (0,0,0,false,{cs:=(a9 r p1 p2 p3 d).snd.fst.cs,bh:=(a9 r p1 p2 p3 d).snd.fst.bh,part:=(a9 r p1 p2 p3 d).snd.fst.part,node:=i64.wrap (i64.wrap (2*r.node)+(a9 r p1 p2 p3 d).fst),t:=(a9 r p1 p2 p3 d).snd.fst.t},
 (a9 r p1 p2 p3 d).snd.snd.fst,(a9 r p1 p2 p3 d).snd.snd.snd.fst,(a9 r p1 p2 p3 d).snd.snd.snd.snd.fst,(a9 r p1 p2 p3
 d).snd.snd.snd.snd.snd)) (.need (td (iY r p1 p2 p3 d) (iZ r p1 p2 p3 d) (a9 r p1 p2 p3 d).snd.snd.fst (a9 r p1 p2 p3
 d).snd.snd.snd.fst (a9 r p1 p2 p3 d).snd.snd.snd.snd.fst) (.ite (!(iX (iZ r p1 p2 p3 d) (iY r p1 p2 p3 d)).fst) (.ret (0,0,0,
 false,(iX (iZ r p1 p2 p3 d) (iY r p1 p2 p3 d)).snd,(a9 r p1 p2 p3 d).snd.snd.fst,(a9 r p1 p2 p3 d).snd.snd.snd.fst,
 (a9 r p1 p2 p3 d).snd.snd.snd.snd.fst,(a9 r p1 p2 p3 d).snd.snd.snd.snd.snd)) (.ret ((iX (iZ r p1 p2 p3 d) (iY r p1 p2 p3
 d)).snd.t.fst,(iX (iZ r p1 p2 p3 d) (iY r p1 p2 p3 d)).snd.t.snd.fst,(iX (iZ r p1 p2 p3 d) (iY r p1 p2 p3
 d)).snd.t.snd.snd,true,(iX (iZ r p1 p2 p3 d) (iY r p1 p2 p3 d)).snd,(a9 r p1 p2 p3 d).snd.snd.fst,(a9 r p1 p2 p3
 d).snd.snd.snd.fst,(a9 r p1 p2 p3 d).snd.snd.snd.snd.fst,(a9 r p1 p2 p3 d).snd.snd.snd.snd.snd)))))))))
theorem Mv(r:RH)(p1:List Int)(p2:List Int)(p3:List Int)(d:Dc):aG Tryz.prog [(335,ahq),(336,W6),(337,Ms)] [] f318 (((ai (ah (aC 0 0)) (ai (ah (aC 7 0)) ag))).wr (())) ((Mm).wr (r,p1,p2,p3,d,())) [.one 2,.one 4,.one 6,.fr [.sym],.syms,.auto,.aE]=(IK r p1 p2 p3 d).end Xa Xb ((Mm).wr (r,p1,p2,p3,d,())):=by kernel_rfl
theorem Su(r:RH)(p1:List Int)(p2:List Int)(p3:List Int)(d:Dc):aH Tryz.prog ((Mm).wr (r,p1,p2,p3,d,())) [] (aF f318):=(aH.nil _)
abbrev xV(r:RH)(p1:List Int)(p2:List Int)(p3:List Int)(d:Dc):Prop:=ROk r∧gZ p1∧gZ p2∧gZ p3∧lJ d
abbrev IL(r:RH)(p1:List Int)(p2:List Int)(p3:List Int)(d:Dc):zZ:=((fQ r p1 p2 p3 d).1.1.1,(fQ r p1 p2 p3 d).1.1.2.1,(fQ r p1 p2 p3 d).1.1.2.2,(fQ r p1 p2 p3 d).1.2,(fQ r p1 p2 p3 d).2)
def Xc:an:=cv [] ((ai (ah (aC 0 0)) (ai (ah (aC 7 0)) ag))) (Mm) (fun x_ y_=>xV y_.1 y_.2.1 y_.2.2.1 y_.2.2.2.1 y_.2.2.2.2.1) (fun x_ y_=>IL y_.1 y_.2.1 y_.2.2.1 y_.2.2.2.1 y_.2.2.2.2.1) Xa Xb
theorem aaH(r:RH)(p1:List Int)(p2:List Int)(p3:List Int)(d:Dc)(h_:xV r p1 p2 p3 d):(IK r p1 p2 p3 d).Is (IL r p1 p2 p3 d):=by
 delta IL;obtain⟨hr,h3,h4,h5,h6⟩:=h_;obtain⟨b1,b2,b3,b4,b5,b6,b7⟩:=xU r p1 p2 p3 d;obtain⟨k1,k2,k3,k4,k5,k6,k7⟩:=hr;have hc:=Ft r.part;have ea:a9 r p1 p2 p3 d=g8 r p1 p2 p3 d:=rfl;have w1:i64.wrap (2*r.node)=2*r.node:=ao (by omega) (by omega);have w2:i64.wrap (2*r.node+(g8 r p1 p2 p3 d).1)=2*r.node+(g8 r p1 p2 p3 d).1:=ao (by omega) (by omega);have w3:i64.wrap (2*r.node+(g8 r p1 p2 p3 d).1-lK r.part)=2*r.node+(g8 r p1 p2 p3 d).1-lK r.part:=ao (by omega) (by omega)
 have zk:iY r p1 p2 p3 d=2*r.node+(g8 r p1 p2 p3 d).1-lK r.part:=by
  unfold iY;rw[ea,b2,Mt,w1,w2,w3]
 have WD:vM r p1 p2 p3 d=r.t:=by unfold vM;rw[ea,b4]
 have ea3:iZ r p1 p2 p3 d=⟨(g8 r p1 p2 p3 d).2.1.cs,r.bh,r.part,1,r.t⟩:=by
  unfold iZ;rw[ea,b1,b2,WD]
 simp only[IK,fQ,aq,aP,fC,au,ea,zk,WD,ea3,b1,b2,b3,b4,w1,w2,Mt];refine⟨⟨k1,k2,h3,h4,h5,h6⟩,trivial,trivial,size_pos _,fun h=>by rw[if_pos h],fun h=>?_⟩;rw[if_neg h];refine⟨⟨by omega,by omega,k3.1,k3.2,by simp only;omega,by simp only;omega⟩,fun h1=>by rw[if_pos h1],fun h1=>by rw[if_neg (by simp[h1])]⟩
theorem aaI:Xc.Ok Tryz.prog 318:=
 br mixed ((aj ahs (aj aaC (aj Sj ax)))) func318 (by kernel_rfl) call318 (fun x_ y_=>Su y_.1 y_.2.1 y_.2.2.1 y_.2.2.2.1 y_.2.2.2.2.1) (fun x_ y_=>Mv y_.1 y_.2.1 y_.2.2.1 y_.2.2.2.1 y_.2.2.2.2.1) (fun x_ y_ h=>aaH y_.1 y_.2.1 y_.2.2.1 y_.2.2.2.1 y_.2.2.2.2.1 h)
end Go.Proofs.YtnbkagglkajbkaaGreat
end
noncomputable section
namespace Go.Proofs.YtnbkagglkajbkaaGreat
open Go Go.Ev Go.Lib Go.RowKit Go.Proofs.Tryz
open Go.IntKind (i64 signed u16 u64 wrap)
set_option maxHeartbeats 4000000
theorem aaJ(w:World):Calls Tryz.prog 85 #[.slice none 0 0,.int .i64 0] w fun e w'=>e= .returned (.slice none 0 0)∧w'=w:=by
 go_enter func85,ntmps85
 go_wp2
 go_ret
 exact⟨rfl,rfl⟩
theorem aaK(n:Nat)(w:World)(h0:0<n)(h1:n≤140737488355328):Calls Tryz.prog 85 #[.slice none 0 0,.int .i64 n] w fun e w'=>
  e= .returned (.slice (some ⟨w.heap.size,0,none⟩) 0 (grownCap w n 0 5))∧
   w'=w.drew.alloc (.cells (#[]++Builtin.zeroCells (Value.int .u8 0).cells n++Builtin.zeroCells (Value.int .u8 0).cells (grownCap w n 0 5-n)) 5):=by
 have h2:¬ ((n:Int)<0):=by omega
 have h3:wrap64 ((0:Int)-(0:Int))=0:=by unfold wrap64;omega
 have h4:wrap64 ((n:Int)-0)=(n:Int):=by unfold wrap64;omega
 have h5:(n:Int)>0:=by omega
 have aJG:grownCap w n 0 5≤9223372036854775807:=by
  have:=grownCap_le_maxLen w n 0 5 (by unfold maxLen;omega);unfold maxLen at this;omega
 have hrz:∀ty,(Builtin.append_ #[27,3] ty #[.slice none 0 0,.int .i64 n]).run Tryz.prog w=
   .ok (.slice (some ⟨w.heap.size,0,none⟩) n (grownCap w n 0 5)) (w.drew.alloc (.cells (#[]++Builtin.zeroCells (Value.int .u8 0).cells n++Builtin.zeroCells (Value.int .u8 0).cells (grownCap w n 0 5-n)) 5)):=fun ty=>by
  have hi0:(Tryz.prog.info? 5).map (fun i=>(i.zero,i.size,i.bytes))=some (some (.int .u8 0),1,1):=by kernel_rfl
  obtain⟨i,hi,he⟩:=map_some hi0;have e1:i.zero=some (.int .u8 0):=congrArg Prod.fst he;have e2:i.size=1:=congrArg (fun x=>x.2.1) he;have e3:i.bytes=1:=congrArg (fun x=>x.2.2) he;have hb:n*i.bytes≤140737488355328:=by rw[e3];omega
  have h:=Lib.run_append_grow_zeros (P:=Tryz.prog) w 27 3 ty 5 i (.int .u8 0) .i64 .i64 (by kernel_rfl) (by kernel_rfl) hi e1 none 0 0 [] (run_firstCells_none w.drew i.size 0 0 0) n h0 (by omega) (by omega) (by omega) (by omega)
   (growslice_fits (need:=0+n) (old:=0) (by omega) (by rw[Nat.zero_add];exact hb))
  rw[Nat.zero_add]at h;exact h
 have hGn:n≤grownCap w n 0 5:=grownCap_ge w _ _ _;generalize grownCap w n 0 5=G at*
 go_enter func85,ntmps85
 go_wp2_with (at_builtin;refine Lib.wpList_append_run _ rfl _ _ _ _ rfl _ _ rfl rfl _ _ (hrz _) ?_)
 all_goals (go_ret;exact⟨rfl,rfl⟩)
def ahz:an:=⟨[],fun args hp=>match args,hp with
 | [.one (.sc (.iM (.slice none 0 0))),.one (.sc (.int .i64 n))],[]=>.leaf (some (0≤n.val∧n.val≤140737488355328)) (.one (.sc (.sl 0 0))) [(0,.own 0 (.int .u8) [])]
 |_,_=>.fail⟩
theorem aoR:ahz.Ok Tryz.prog 85:=by
 refine⟨fun args hp Q h=>iQ.done call85 ?_⟩;simp only[ahz]at h
 split at h
 ·rename_i args hp n;obtain⟨⟨h0,h1⟩,hq⟩:=h;intro β w vals hh eh
  cases eh with
  |cons a1 t1=>
   cases t1 with
   |cons a2 t2=>
    cases t2
    rename_i v1 v2;obtain rfl:v1= .slice none 0 0:=a1.2;have e:v2= .int .i64 n.val:=a2;subst e;rcases Int.lt_or_le 0 n.val with hn|hn
    ·obtain⟨k,hk⟩:∃k:Nat,n.val=k:=⟨n.val.toNat,by omega⟩;rw[hk]at h0 h1 hn ⊢;refine(aaK k w (by omega) (by omega)).mono ?_
     rintro e w' ⟨rfl,rfl⟩
     have hGn:k≤grownCap w k 0 5:=grownCap_ge w _ _ _;generalize grownCap w k 0 5=G at*;generalize hcs:(#[]++Builtin.zeroCells (Value.int .u8 0).cells k++Builtin.zeroCells (Value.int .u8 0).cells (G-k))=cs
     have hlen:cs.toList.length=G:=by
      rw[← hcs];simp[Builtin.zeroCells,Value.cells];omega
     have hdr:bb w [] β β [] w.drew:=hh.drew _ _
     obtain⟨β',k1,k2,k3⟩:=hdr.sS (id:=0) rfl (v:=.slice (some ⟨w.heap.size,0,none⟩) 0 G) (ver:=0) (t:=.int .u8) (l:= []) (w':=w.drew.alloc (.cells cs 5)) (by simp) rfl rfl (fun b hb=>heap_alloc_old w.drew _ hb)
      ⟨_,_,_,rfl,rfl,Nat.zero_le _,fun e=>(by cases e),fun _=>⟨_,[],[],cs.toList,5,(0,0),rfl,rfl,by simpa using heap_alloc_new w.drew (.cells cs 5),rfl,.nil,by simp[Ty.w,hlen],.inl rfl⟩⟩
      (fun a n c e _=>by cases e;exact Nat.le_refl _)
     exact⟨_,β',_,_,rfl,⟨_,hq,rfl⟩,⟨rfl,0,by rw[show aJ _ []=setAt [] 0 _ from rfl,dq,if_pos rfl];rfl,Nat.le_refl _,fun _=>k3.symm⟩,k1⟩
    ·have Ep:n.val=0:=(by omega);rw[Ep];refine(aaJ w).mono ?_
     rintro e w' ⟨rfl,rfl⟩
     obtain⟨β',k1,k2,k3⟩:=hh.Qh (.int .u8);exact⟨_,β',_,_,rfl,⟨_,hq,rfl⟩,k3,k1⟩
 ·exact h.elim
end Go.Proofs.YtnbkagglkajbkaaGreat
end
