/- What the laws lean on, part 10: a reader of code, plain facts, and what each function gives; no conditions. -/
import Derived.Test.YtnbkagglkajbkaaGreatC9
set_option linter.unusedVariables false
set_option linter.unusedSimpArgs false
noncomputable section
namespace Go.Proofs.YtnbkagglkajbkaaGreat
open Go Go.Ev Go.Proofs.Tryz
open Go.IntKind (i64 signed u16 u64 wrap)
set_option maxRecDepth 1000000
abbrev Gd:Type:=RH×(List Int)×(List Int)×(List Int)
abbrev adO(x:Gd):LV:=LV.one (VV.sc (SV.ptr 0 0))
abbrev adP(x:Gd):List (Nat×Ev.Item):= [(0,jRd.wr x.1),(1,jT2.wr ()),(2,Item.own 0 (Ty.int u16) x.2.1),(3,
 jT4.wr ()),(4,Item.own 0 (Ty.int u16) x.2.2.1),(5,jT6.wr ()),(6,Item.own 0 (Ty.int u16) x.2.2.2)]
def adQ:Tr (Gd):=(.need (pX) (.ret ({cs:= [1024,1024],bh:=0,part:=0,node:=1,t:=(0,0,0)},dx 8,dx
 8,dx 6)))
theorem Ph:aH Tryz.prog [(126,xG)] [] f316 ((ag).wr (())) ((ag).wr (())) [.fr [.sym],.syms,.auto,.aF,.dz 0 0 2 .i64]=(adQ).end adO adP ((ag).wr (())):=by kernel_rfl
theorem W7:aK Tryz.prog ((ag).wr (())) [] (aJ f316):=(aK.nil _)
abbrev Af:Prop:=True
abbrev Pj:Gd:=(⟨[1024,1024],0,0,1,(0,0,0)⟩,dx 8,dx 8,dx 6)
def Pk:an:=cQ [] (ag) (ag) (fun _ _=>Af) (fun _ _=>Pj) adO adP
theorem adR(h_:Af):(adQ).Is (Pj):=by
 delta Pj;exact⟨trivial,rfl⟩
theorem JT:Pk.Ok Tryz.prog 316:=
 bJ mixed ((al vI aw)) func316 (by kernel_rfl) call316 (fun x_ y_=>W7) (fun x_ y_=>Ph) (fun x_ y_ h=>adR h)
abbrev aBH:aQ Ev.Item RH:=xd 385 (cRH 2 4 6)
abbrev jT3:=jT 3
abbrev jT5:=jT 5
abbrev jT7:=jT 7
def gp:Nat→Int→Int→List Int→Dc→RH→List Int→List Int→List Int→List eP→List eP×Bool
 |0,_,_,_,_,_,_,_,_,_=>([],false)
 |n+1,plain,made,b,d,r,p1,p2,p3,out=>
  let f:=fO b d
  if f.1=true then
   if made=plain then(out,true)
   else
    let x:=fX r p1 p2 p3 f.2.2
    if x.1.2=true then
     if mY x.1.1 made=true∧cL x.1.1≤plain-made then gp n plain (made+cL x.1.1) f.2.1 x.2.2.2.2.2 x.2.1 x.2.2.1 x.2.2.2.1 x.2.2.2.2.1 (out++ [x.1.1])
     else([],false)
    else gp n plain made f.2.1 x.2.2.2.2.2 x.2.1 x.2.2.1 x.2.2.2.1 x.2.2.2.2.1 out
  else([],false)
theorem vT{p:List Int}(h:gD p)(n b:Int):gD (c9 p n b):=by
 intro i;have ha:=oz (p.getD n.toNat 0) b;unfold c9
 split
 ·rw[iS];split
  ·omega
  ·exact h i
 ·exact h i
theorem adS{c w:Int}(h1:0≤c)(h2:c≤w)(h3:65536≤w)(h4:w<4294967296):wU (Jv c w):=by
 unfold Jv
 split
 ·exact⟨h1,by simp only;omega,by simp only;omega,.inr (.inl ⟨rfl,by simp only;omega⟩)⟩
 ·exact⟨h1,by simp only;omega,h4,.inl ⟨rfl,by simp only;omega⟩⟩
theorem JU{d:Dc}(h:wU d){x y:Int}(hx:65536≤x∧x<4294967296)(hy:65536≤y∧y<4294967296)(dQ:d.1≤x+y):wU (jK d x y).2:=by
 have h1:=h.1;unfold jK
 split
 ·exact adS h1 (by omega) hx.1 hx.2
 ·exact adS (by omega) (by omega) hy.1 hy.2
theorem tF{d:Dc}(h:wU d)(p:Int):wU (gq p d).2.2:=by
 unfold gq
 split
 ·rename_i hm;have hb:=js p h.2.1 h.2.2.1;have hm':=(xP d).1 hm;have:=h.2.2.1;exact JU h ⟨by omega,by omega⟩ ⟨by omega,by omega⟩ (by omega)
 ·exact h
theorem W8{d:Dc}(h:wU d):wU (kt d).2:=by
 unfold kt
 split
 ·rename_i hm;have hm':=(xP d).1 hm;have h1:=h.2.1;have h2:=h.2.2.1;exact JU h ⟨by omega,by omega⟩ ⟨by omega,by omega⟩ (by omega)
 ·exact h
theorem arp{r:RH}{p1 p2 p3:List Int}{d:Dc}(h1:gD p1)(h2:gD p2)(h3:gD p3)(h:wU d):
  let x:=(jM r p1 p2 p3 d).2.2
  gD x.1∧gD x.2.1∧gD x.2.2.1∧wU x.2.2.2:=by
 unfold jM
 split
 ·exact⟨h1,h2,h3,tF h _⟩
 ·split
  ·exact⟨h1,h2,h3,W8 h⟩
  ·split
   ·exact⟨vT h1 _ _,h2,h3,tF h _⟩
   ·split
    ·exact⟨h1,vT h2 _ _,h3,tF h _⟩
    ·exact⟨h1,h2,vT h3 _ _,tF h _⟩
theorem Pl(r:RH)(p1 p2 p3:List Int)(d:Dc):(fX r p1 p2 p3 d).2.2=(jM r p1 p2 p3 d).2.2:=by
 unfold fX;simp only
 split
 ·rfl
 ·split<;>rfl
def muR(r:RH):Nat:=(if r.part=0 then 21 else if r.part=1 then 8 else if r.part=2 then 20 else if r.part=3 then 12 else 6)-r.node.toNat.log2
theorem adT(n b:Int)(h:1≤n)(h0:0≤b)(h1:b≤1):(2*n+b).toNat.log2=n.toNat.log2+1:=by
 have e:(2*n+b).toNat/2=n.toNat:=by omega
 rw[Nat.log2_def,if_pos (by omega),e]
theorem akG{n:Int}{k:Nat}(h:1≤n)(h1:n<2 ^ k):n.toNat.log2<k:=by
 rw[Nat.log2_lt (by omega)];have:((2 ^ k:Nat):Int)=2 ^ k:=by exact_mod_cast rfl
 omega
theorem akH{r:RH}(h:ROk r)(p1 p2 p3:List Int)(d:Dc)(hw:(fX r p1 p2 p3 d).1.2=false):muR (fX r p1 p2 p3 d).2.1<muR r:=by
 obtain⟨b1,b2,b3,b4,b5,b6,b7⟩:=vP r p1 p2 p3 d;obtain⟨k1,k2,k3,k4,k5,k6,k7⟩:=h;have hl:=adT r.node (jM r p1 p2 p3 d).1 k4.1 b6 b7
 have BQ:r.node.toNat.log2<(if r.part=0 then 1 else if r.part=1∨r.part=2 then 8 else 6):=by
  refine akG k4.1 ?_;have:=k4.2;unfold tC at this
  split at this
  ·rename_i e;rw[if_pos e];simpa using this
  ·rename_i e
   split at this
   ·rename_i e1;rw[if_neg e,if_pos e1];simpa using this
   ·rename_i e1;rw[if_neg e,if_neg e1];simpa using this
 unfold fX at hw ⊢;simp only at hw ⊢;have l1:(1:Int).toNat.log2=0:=by decide
 split
 ·rename_i e;unfold muR;simp only[hl]
  split at BQ
  ·rename_i e1;simp only[e1,if_true];omega
  ·rename_i e1;simp only[e1,if_false]
   split at BQ
   ·rename_i e2;rcases e2 with e2|e2
    ·simp only[e2,if_true];omega
    ·simp only[e2];simp;omega
   ·rename_i e2;rw[if_neg (fun h=>e2 (.inl h)),if_neg (fun h=>e2 (.inr h))]
    split<;>omega
 ·rename_i e;rw[if_neg e]at hw
  split
  ·rename_i hy;rw[if_pos hy]at hw;cases hw
  ·rename_i hy;unfold jL at hy ⊢;simp only at hy ⊢;unfold muR
   by_cases c0:r.part=0
   ·rw[if_pos c0]at BQ;simp only[c0,if_true,l1]at hy ⊢
    split<;>simp<;>omega
   ·by_cases c1:r.part=1
    ·simp[c1]at hy
    ·by_cases c2:r.part=2
     ·rw[if_neg c0,if_pos (.inr c2)]at BQ;simp[c2,l1];omega
     ·by_cases c3:r.part=3
      ·rw[if_neg c0,if_neg (by omega)]at BQ;simp[c3,l1];omega
      ·simp[c0,c1,c2,c3]at hy
abbrev Ag:Type:=(List Int)×Int×Int×(Int×Int×Int)×RH×(List Int)×(List Int)×(List Int)×(List (Int×Int×Int))
abbrev Ah:aQ St Ag:=(aT (ae (ah (gg false false (Ty.int IntKind.u8))) (ae (ah (aA i64)) (jk 4 (ai
 (ah (aD (0) (0))) (ai (ah (aD (1) (0))) (ai (ah (j0 (8) (0))) (ae (ah (aA i64)) (jk 45 ag)))))))) (ae (cx OK)
 (ae (cx aBH) (ai (cx jT3) (ae (cE (0) (Ty.int u16)) (ai (cx jT5) (ae (cE (0) (Ty.int u16)) (ai (cx
 jT7) (ae (cE (0) (Ty.int u16)) (ae (cE (0) ((Ty.int i64).pair ((Ty.int i64).pair (Ty.int IntKind.u8))))
 ag)))))))))).lV (fun y=>(y.1.1,y.1.2.1,y.1.2.2.1,y.2.1,y.2.2.1,y.2.2.2.1,y.2.2.2.2.1,y.2.2.2.2.2.1,y.2.2.2.2.2.2.1)) (fun x=>((x.1,
 (x.2.1,(x.2.2.1,()))),(x.2.2.2.1,(x.2.2.2.2.1,(x.2.2.2.2.2.1,(x.2.2.2.2.2.2.1,(x.2.2.2.2.2.2.2.1,(x.2.2.2.2.2.2.2.2,())))))))) (fun _=>rfl)
abbrev Pm:List Wk:= [.cP 8 kr,.cP 4 kr,.fr (cb 55 [(0,.ak),(1,.ak),(6,.ak),(7,.ak),(8,.ak),(9,.ak)]),.syms,
 .auto,.aF]
abbrev adU:Exit→List Wk:=wT Pm 0 [.cP 8 kr,.cP 4 kr,.fr (cb 55 [(4,.ak),(5,.ak)]),.syms,.auto,.aF] [.cP 8 kr,
 .cP 4 kr,.fr (cb 55 [(4,.ak),(5,.ak)]),.syms,.auto,.aF]
def Ge(b':List Int)(d:Int×Int×Int):Int×Int×Int:=(fO b' d).snd.snd
def fP(b':List Int)(d:Int×Int×Int)(r:RH)(p1:List Int)(p2:List Int)(p3:List Int):((Int×Int×Int)×Bool)×
 RH×List Int×List Int×List Int×Int×Int×Int:=fX r p1 p2 p3 (Ge b' d)
def mZ(b':List Int)(d:Int×Int×Int)(r:RH)(p1:List Int)(p2:List Int)(p3:List Int):Int×Int×Int:=(fP
 b' d r p1 p2 p3).fst.fst
abbrev Po:Type:=Bool×(List (Int×Int×Int))
abbrev adV(x:Po):Exit×St:=(Exit.ret,⟨(gA 4 (LV.one (VV.sc (SV.sl 0 0))::(LV.one (VV.sc (SV.bool (SB.sym x.1)))::
 (gA 49 [])))),[some (Item.own 0 ((Ty.int i64).pair ((Ty.int i64).pair (Ty.int IntKind.u8))) x.2)]⟩)
def ru(b':List Int)(pl:Int)(made:Int)(d:Int×Int×Int)(r:RH)(p1:List Int)(p2:List Int)(p3:List Int)(out:
 List (Int×Int×Int)):Tr (Ag⊕(Po)):=(.need (F4 b' d) (.ite (!(fO b' d).fst) (.ret (.inr (false,[]))) (.ite (made==pl) (.ret
 (.inr (true,out))) (.need (vQ r p1 p2 p3 (Ge b' d)) (.ite (!(fP b' d r p1 p2 p3).fst.snd) (.ret (.inl ((fO b' d).snd.fst,pl,
 made,(fP b' d r p1 p2 p3).snd.snd.snd.snd.snd,(fP b' d r p1 p2 p3).snd.fst,(fP b' d r p1 p2 p3).snd.snd.fst,(fP b' d r p1 p2
 p3).snd.snd.snd.fst,(fP b' d r p1 p2 p3).snd.snd.snd.snd.fst,out))) (.need (xB (mZ b' d r p1 p2 p3) made) (.ite ((!mY (mZ b' d
 r p1 p2 p3) made)==false) (.need (jv (mZ b' d r p1 p2 p3)) (.ite (decide (i64.wrap (pl-made)<cL (mZ b' d r p1 p2 p3)))
 (.ret (.inr (false,[]))) (.need (jv (mZ b' d r p1 p2 p3)) (.need ((out.length+1)*24≤70368744177664∧out.length+1≤70368744177664)
 (.ret (.inl ((fO b' d).snd.fst,pl,i64.wrap (made+cL (mZ b' d r p1 p2 p3)),(fP b' d r p1 p2 p3).snd.snd.snd.snd.snd,
 (fP b' d r p1 p2 p3).snd.fst,(fP b' d r p1 p2 p3).snd.snd.fst,(fP b' d r p1 p2 p3).snd.snd.snd.fst,(fP b' d r p1 p2
 p3).snd.snd.snd.snd.fst,out++ [(fP b' d r p1 p2 p3).fst.fst]))))))) (.ret (.inr (false,[]))))))))))
theorem Pp(b:List Int)(plain:Int)(b':List Int)(pl:Int)(made:Int)(d:Int×Int×Int)(r:RH)(p1:List Int)(p2:List Int)(p3:List Int)(out:List (Int×Int×Int)):ct Tryz.prog [(316,Pk),(315,acP),(317,apf),(318,TQ),(180,Td),(130,vu)] [] f287 0 ((ag).wr (())) adU (Ah.wr (b',pl,made,d,r,p1,p2,p3,out))=(ru b' pl made d r p1 p2 p3 out).res Ah.wr adV:=by kernel_rfl
theorem adW{b:List Int}{d:Dc}(h:wU d)(hb:aN b):wU (fO b d).2.2∧aN (fO b d).2.1∧(fO b d).2.1.length≤b.length:=by
 obtain⟨h1,h2,h3,_⟩:=JI b d h hb;unfold fO
 split
 ·exact⟨h1,h2,h3⟩
 ·exact⟨h1,aN.nil,by simp⟩
theorem adX(r:RH):muR r≤21:=by unfold muR;split<;>(try split)<;>(try split)<;>(try split)<;>omega
abbrev Ai(b':List Int)(pl:Int)(made:Int)(d:Int×Int×Int)(r:RH)(p1:List Int)(p2:List Int)(p3:List Int)(out:List (Int×Int×Int)):Prop:=wU d∧aN b'∧b'.length<1099511627776∧ROk r∧gD p1∧gD p2∧gD p3∧0≤made∧made≤pl∧pl≤8192∧out.length≤made
abbrev Pq(b':List Int)(pl:Int)(made:Int)(d:Int×Int×Int)(r:RH)(p1:List Int)(p2:List Int)(p3:List Int)(out:List (Int×Int×Int)):Po:=((gp 200000 pl made b' d r p1 p2 p3 out).2,(gp 200000 pl made b' d r p1 p2 p3 out).1)
abbrev Pr:Ag→aG:=e9 (fun x_=>Ai x_.1 x_.2.1 x_.2.2.1 x_.2.2.2.1 x_.2.2.2.2.1 x_.2.2.2.2.2.1 x_.2.2.2.2.2.2.1 x_.2.2.2.2.2.2.2.1 x_.2.2.2.2.2.2.2.2) (fun x_=>Pq x_.1 x_.2.1 x_.2.2.1 x_.2.2.2.1 x_.2.2.2.2.1 x_.2.2.2.2.2.1 x_.2.2.2.2.2.2.1 x_.2.2.2.2.2.2.2.1 x_.2.2.2.2.2.2.2.2) adV
theorem adY(b':List Int)(pl:Int)(made:Int)(d:Int×Int×Int)(r:RH)(p1:List Int)(p2:List Int)(p3:List Int)(out:List (Int×Int×Int))(h_:Ai b' pl made d r p1 p2 p3 out):cK (fun x_:Ag=>ru x_.1 x_.2.1 x_.2.2.1 x_.2.2.2.1 x_.2.2.2.2.1 x_.2.2.2.2.2.1 x_.2.2.2.2.2.2.1 x_.2.2.2.2.2.2.2.1 x_.2.2.2.2.2.2.2.2) (b',pl,made,d,r,p1,p2,p3,out) (Pq b' pl made d r p1 p2 p3 out):=by
 delta Pq;obtain⟨h1,h2,h3,h4,h5,h6,h7,h8,h9,Z0,h11⟩:=h_;obtain⟨m,hm⟩:∃m:Nat,(pl-made).toNat*22+muR r<m:=⟨_,Nat.lt_succ_self _⟩
 have hf:m≤200000∨((pl-made).toNat*22+muR r<200000):=by
  have:=adX r;right;omega
 obtain⟨n,hn1,hn2⟩:∃n:Nat,n=200000∧(pl-made).toNat*22+muR r<n:=⟨200000,rfl,by have:=adX r;omega⟩;rw[← hn1];clear hf hm hn1;clear m
 induction n generalizing made b' d r p1 p2 p3 out with
 |zero=>omega
 |succ n ih=>
  obtain⟨f1,f2,f3⟩:=adW h1 h2;have ZV:Ge b' d=(fO b' d).2.2:=rfl;rw[gp];simp only
  by_cases nW:(fO b' d).1=true
  ·rw[if_pos nW]
   by_cases he:made=pl
   ·rw[if_pos he];refine .stop ?_;simp only[ru,aq,km,dV,ao];exact⟨⟨h1,h2,h3⟩,fun _=>⟨fun _=>trivial,fun h=>absurd he h⟩,fun h=>by rw[nW]at h;cases h⟩
   ·rw[if_neg he];have B0:fP b' d r p1 p2 p3=fX r p1 p2 p3 (fO b' d).2.2:=rfl;have ZU:mZ b' d r p1 p2 p3=(fX r p1 p2 p3 (fO b' d).2.2).1.1:=rfl;have n1:=JK h4 p1 p2 p3 (fO b' d).2.2;have n2:=Pl r p1 p2 p3 (fO b' d).2.2;have n3:=arp (r:=r) h5 h6 h7 f1;rw[← n2]at n3;have n4:=akH h4 p1 p2 p3 (fO b' d).2.2;generalize hx:fX r p1 p2 p3 (fO b' d).2.2=x at*;obtain⟨o1,o2,o3,o4⟩:=n3
    cases hw:x.1.2 with
    |false=>
     have n4:=n4 hw;rw[if_neg (by simp)];have sP:=ih _ _ _ _ _ _ _ _ o4 f2 (by omega) n1 o1 o2 o3 h8 h9 h11 (by omega);refine .go ?_ sP;simp only[ru,aq,km,dV,ao,ZV,B0,hw,nW];exact⟨⟨h1,h2,h3⟩,fun _=>⟨fun h=>absurd h he,fun _=>⟨⟨h4,h5,h6,h7,f1⟩,fun h=>by simp at h,fun _=>trivial⟩⟩,fun h=>by simp at h⟩
    |true=>
     rw[if_pos rfl];have w1:i64.wrap (pl-made)=pl-made:=au (by omega) (by omega)
     by_cases hc:mY x.1.1 made=true∧cL x.1.1≤pl-made
     ·rw[if_pos hc];have Sp:=s7 hc.1;have hmu:=adX x.2.1;have w2:i64.wrap (made+cL x.1.1)=made+cL x.1.1:=au (by omega) (by omega);have sP:=ih _ (made+cL x.1.1) _ _ _ _ _ (out++ [x.1.1]) o4 f2 (by omega) n1 o1 o2 o3 (by omega) (by omega) (by simp;omega) (by omega);refine .go ?_ sP;simp only[ru,aq,km,dV,a5,ao,ZV,B0,ZU,hw,nW,hc.1,w1,w2];have e1:(made==pl)=false:=(by simp[he]);have e2:decide (pl-made<cL x.1.1)=false:=(by simp;omega);simp only[e1,e2,bw,a6,aq,ao,km,Bool.not_true,cu];exact⟨⟨h1,h2,h3⟩,fun _=>⟨fun h=>absurd h he,fun _=>⟨⟨h4,h5,h6,h7,f1⟩,fun _=>⟨trivial,fun _=>⟨trivial,fun h=>by simp at h,fun _=>⟨trivial,⟨by omega,by omega⟩,trivial⟩⟩,fun h=>by simp at h⟩,fun h=>by simp at h⟩⟩,fun h=>by simp at h⟩
     ·rw[if_neg hc];refine .stop ?_;simp only[ru,aq,km,dV,a5,ao,ZV,B0,ZU,hw,nW,w1];refine⟨⟨h1,h2,h3⟩,fun _=>⟨fun h=>absurd h he,fun _=>⟨⟨h4,h5,h6,h7,f1⟩,fun _=>⟨trivial,?_⟩,fun h=>by simp at h⟩⟩,fun h=>by simp at h⟩
      cases hmy:mY x.1.1 made with
      |true=>
       simp only[Bool.not_true,beq_self_eq_true,a6,aq,a5,ao];exact⟨trivial,fun _=>trivial,fun h=>absurd ⟨hmy,by omega⟩ hc⟩
      |false=>simp[cu,ao]
  ·rw[if_neg nW];refine .stop ?_;simp only[ru,aq,km,ao];exact⟨⟨h1,h2,h3⟩,fun h=>absurd h nW,fun _=>trivial⟩
theorem W9(b:List Int)(plain:Int):∀x:Ag,Ex Tryz.prog ((ag).wr (())) (.loop (aP f287 0)) (Ah.wr x) (Pr x):=
 cn mixed ((al JT (al TA (al aky (al W0 (al Fa (al oE aw))))))) (ws:=adU) (aK.nil _) (fun x_=>Pp b plain x_.1 x_.2.1 x_.2.2.1 x_.2.2.2.1 x_.2.2.2.2.1 x_.2.2.2.2.2.1 x_.2.2.2.2.2.2.1 x_.2.2.2.2.2.2.2.1 x_.2.2.2.2.2.2.2.2) (fun z e=>by cases e) fH (fun x_ h=>adY x_.1 x_.2.1 x_.2.2.1 x_.2.2.2.1 x_.2.2.2.2.1 x_.2.2.2.2.2.1 x_.2.2.2.2.2.2.1 x_.2.2.2.2.2.2.2.1 x_.2.2.2.2.2.2.2.2 h)
def r0H:RH:=⟨[1024,1024],0,0,1,(0,0,0)⟩
def apm(b:List Int)(plain:Int):List eP×Bool:=gp 200000 plain 0 b (0,4294967295,4) r0H (dx 8) (dx 8) (dx 6) []
def adZ:RH:= {cs:= [1024,1024],bh:=0,part:=0,node:=1,t:=(0,0,0)}
def ad0(b:List Int)(plain:Int):List (Int×Int×Int)×Bool:=gp 200000 plain 0 b (0,4294967295,4) adZ (dx 8)
 (dx 8) (dx 6) []
abbrev TS:Type:=Bool×(List (Int×Int×Int))
abbrev apn(x:TS):LV:=LV.c6 [VV.sc (SV.sl 0 0),VV.sc (SV.bool (SB.sym x.1))]
abbrev apo(x:TS):List (Nat×Ev.Item):= [(0,Item.own 0 ((Ty.int i64).pair ((Ty.int i64).pair (Ty.int
 IntKind.u8))) x.2)]
def ad1(b:List Int)(plain:Int):Tr (TS):=(.need (FK) (.need (Af) (.need (Ai b plain 0 (0,4294967295,4)
 adZ (dx 8) (dx 8) (dx 6) []) (.ret ((ad0 b plain).snd,(ad0 b plain).fst)))))
theorem Xa(b:List Int)(plain:Int):aH Tryz.prog [(316,Pk),(315,acP)] [(0,bU Ah ((ag).wr (())) Pm (Pr))] f287 (((ae (ah (gg false false u8)) (ae (ah (aA .i64)) ag))).wr (b,plain,())) ((ag).wr (())) [.cP 4 kr,.cP 8 kr,.fr [.sym],.syms,.auto,.aF]=(ad1 b plain).end apn apo ((ag).wr (())):=by kernel_rfl
theorem ad2(b:List Int)(plain:Int):aK Tryz.prog ((ag).wr (())) [(0,bU Ah ((ag).wr (())) Pm (Pr))] (aJ f287):=(aK.bI (iu (by kernel_rfl) (bM (hp:=(ag).wr (())) (W9 b plain)) iE))
theorem Aj(k:Nat)(h:k≤8):gD (dx k):=(jx k h).1.2.2.1
theorem aBI:wU (0,4294967295,4):=by
 exact⟨by decide,by decide,by decide,.inr (.inr (by decide))⟩
theorem aBJ:ROk r0H:=⟨rfl,.inl rfl,by decide,by decide,by decide,by decide,by decide⟩
abbrev TT(b:List Int)(plain:Int):Prop:=aN b∧b.length<1099511627776∧0≤plain∧plain≤8192
abbrev ad3(b:List Int)(plain:Int):TS:=((apm b plain).2,(apm b plain).1)
def awf:an:=cQ [] ((ae (ah (gg false false u8)) (ae (ah (aA .i64)) ag))) (ag) (fun x_ y_=>TT x_.1 x_.2.1) (fun x_ y_=>ad3 x_.1 x_.2.1) apn apo
theorem akI(b:List Int)(plain:Int)(h_:TT b plain):(ad1 b plain).Is (ad3 b plain):=by
 delta ad3;obtain⟨h1,h2,h3,h4⟩:=h_;simp only[ad1,aq,ao];exact⟨trivial,trivial,⟨aBI,h1,h2,aBJ,Aj 8 (by omega),Aj 8 (by omega),Aj 6 (by omega),by omega,h3,h4,by simp⟩,rfl⟩
theorem gK:awf.Ok Tryz.prog 287:=
 bJ mixed ((al JT (al TA aw))) func287 (by kernel_rfl) call287 (fun x_ y_=>ad2 x_.1 x_.2.1) (fun x_ y_=>Xa x_.1 x_.2.1) (fun x_ y_ h=>akI x_.1 x_.2.1 h)
theorem ad4(r:RH)(p1 p2 p3:List Int)(d:Dc)(h:(fX r p1 p2 p3 d).1.2=true):(fX r p1 p2 p3 d).1.1=(fX r p1 p2 p3 d).2.1.t:=by
 unfold fX at h ⊢;simp only at h ⊢
 split at h
 ·cases h
 ·rename_i e;rw[if_neg e]at*
  split at h
  ·rename_i e1;rw[if_pos e1]
  ·cases h
theorem jg:∀ (n:Nat) (pl made:Int) (b:List Int) (d:Dc) (r:RH) (p1 p2 p3:List Int) (out:List eP),ROk r→qQ out→made≤pl→(out.length:Int)≤made→
  qQ (gp n pl made b d r p1 p2 p3 out).1∧((gp n pl made b d r p1 p2 p3 out).1.length:Int)≤max pl 0
 |0,_,_,_,_,_,_,_,_,_,_,_,_,_=>⟨fun x h=>by simp[gp]at h,by simp[gp];omega⟩
 |n+1,pl,made,b,d,r,p1,p2,p3,out,h1,h2,h3,h4=>by
  have nil:qQ (([],false):List eP×Bool).1∧((([],false):List eP×Bool).1.length:Int)≤max pl 0:=⟨fun x h=>by simp at h,by simp;omega⟩;rw[gp];simp only
  split
  ·split
   ·exact⟨h2,by simp only;omega⟩
   ·have n1:=JK h1 p1 p2 p3 (fO b d).2.2;have n2:=ad4 r p1 p2 p3 (fO b d).2.2;generalize fX r p1 p2 p3 (fO b d).2.2=x at*
    split
    ·rename_i hw
     split
     ·rename_i hc;have:=s7 hc.1;refine jg n _ _ _ _ _ _ _ _ _ n1 ?_ (by omega) (by simp;omega);intro t ht;rw[List.mem_append]at ht;rcases ht with ht|ht
      ·exact h2 t ht
      ·have:t=x.1.1:=(by simpa using ht);rw[this,n2 hw];exact n1.tb
     ·exact nil
    ·exact jg n _ _ _ _ _ _ _ _ _ n1 h2 h3 h4
  ·exact nil
structure RB where
 b:List Int
 cs:List Int
 dH:Int
 bad:Bool
structure KOk (r:RB) (d:Dc) (p1 p2 p3:List Int):Prop where
 d:wU d
 b:aN r.b
 n:r.b.length<1099511627776
 cs:r.cs.length=2
 dH:r.dH=0∨r.dH=1
 l1:p1.length=256
 l2:p2.length=256
 l3:p3.length=64
def gF:List eP→Int
 | []=>0
 |t::l=>cL t+gF l
theorem m8:∀ (l m:List eP),gF (l++m)=gF l+gF m
 | [],m=>by simp[gF]
 |t::l,m=>by rw[List.cons_append,gF,gF,m8 l m];omega
theorem m9:∀ (l m:List eP) (made:Int),b8 made (l++m)=(b8 made l&&b8 (made+gF l) m)
 | [],m,made=>by simp[gF,b8]
 |t::l,m,made=>by
  rw[List.cons_append,b8,b8,gF,m9 l m,Int.add_assoc];simp only[Bool.and_assoc]
abbrev bsA:aQ (List LV) (List Int×Int×Unit):=ae (ah (gg false false u8)) (ae (ah (aA .i64)) ag)
def ia:Nat→List Int→Int→Int→Int→Int
 |0,_,_,_,n=>n
 |k+1,b,a,d,n=>if b.getD (a+n).toNat 0=b.getD (a+n-d).toNat 0 then ia k b a d (n+1)else n
theorem mB:∀ (k:Nat) (b:List Int) (a d n:Int),n≤ia k b a d n∧ia k b a d n≤n+k
 |0,_,_,_,n=>⟨Int.le_refl _,by simp[ia]⟩
 |k+1,b,a,d,n=>by
  rw[ia]
  split
  ·have:=mB k b a d (n+1);omega
  ·omega
theorem CQ:∀ (j k:Nat) (b:List Int) (a d n:Int),ia (j+k) b a d n=if ia j b a d n<n+j then ia j b a d n else ia k b a d (n+j)
 |0,k,b,a,d,n=>by simp[ia]
 |j+1,k,b,a,d,n=>by
  rw[show j+1+k=(j+k)+1 from by omega,ia,ia]
  split
  ·rw[CQ j k b a d (n+1),show n+1+(j:Int)=n+((j+1:Nat):Int)from by omega]
  ·rw[if_pos (by omega)]
abbrev ad5:Type:=(List Int)×Int×Int×Int×Int×Int×Int×Int
abbrev akJ:aQ St ad5:=(aT (ae (ah (gg false false (Ty.int IntKind.u8))) (ae (ah (aA i64)) (jk 2 (ae (ah
 (aA i64)) (ae (ah (aA i64)) (ae (ah (aA i64)) (ae (ah (aA i64)) (jk 26 (ae (ah (aA
 i64)) (ae (ah (aA i64)) (jk 47 ag))))))))))) ag).lV (fun y=>(y.1.1,y.1.2.1,y.1.2.2.1,y.1.2.2.2.1,y.1.2.2.2.2.1,
 y.1.2.2.2.2.2.1,y.1.2.2.2.2.2.2.1,y.1.2.2.2.2.2.2.2.1)) (fun x=>((x.1,(x.2.1,(x.2.2.1,(x.2.2.2.1,(x.2.2.2.2.1,(x.2.2.2.2.2.1,
 (x.2.2.2.2.2.2.1,(x.2.2.2.2.2.2.2,())))))))),())) (fun _=>rfl)
abbrev awg:List Wk:= [.fr (cb 83 [(0,.ak),(1,.ak),(4,.ak),(5,.ak),(6,.ak),(7,.ak),(34,.ak),(35,.ak)]),.syms,
 .auto,.aF]
abbrev awh:Exit→List Wk:=wT awg 2 [.fr (cb 83 [(0,.ak),(1,.ak),(4,.ak),(6,.ak),(7,.ak)]),.syms,.auto,.aF] [.fr (cb
 83 [(4,.ak),(5,.ak)]),.syms,.auto,.aF]
abbrev ad6:Type:=(List Int)×Int×Int×Int×Int×Int×Int×Int
abbrev apq(x:ad6):Exit×St:=(Exit.exit 1,⟨(LV.one (VV.sc (SV.rd false false (Ty.int IntKind.u8) x.1))::(LV.one (VV.sc
 (SV.int i64 (SI.sym x.2.1)))::(gA 2 (LV.one (VV.sc (SV.int i64 (SI.sym x.2.2.1)))::(LV.one (VV.sc (SV.int i64 (SI.sym
 x.2.2.2.1)))::(LV.one (VV.sc (SV.int i64 (SI.sym x.2.2.2.2.1)))::(LV.one (VV.sc (SV.int i64 (SI.sym x.2.2.2.2.2.1)))::(gA 26
 (LV.one (VV.sc (SV.int i64 (SI.sym x.2.2.2.2.2.2.1)))::(LV.one (VV.sc (SV.int i64 (SI.sym x.2.2.2.2.2.2.2)))::(gA 47
 []))))))))))),[]⟩)
abbrev ad7:Type:=(List Int)×Int×Int×Int×Int
abbrev apr(x:ad7):Exit×St:=(Exit.exit 2,⟨(LV.one (VV.sc (SV.rd false false (Ty.int IntKind.u8) x.1))::(LV.one (VV.sc
 (SV.int i64 (SI.sym x.2.1)))::(gA 2 (LV.one (VV.sc (SV.int i64 (SI.sym x.2.2.1)))::(gA 1 (LV.one (VV.sc (SV.int i64
 (SI.sym x.2.2.2.1)))::(LV.one (VV.sc (SV.int i64 (SI.sym x.2.2.2.2)))::(gA 75 [])))))))),[]⟩)
def ad8(b':List Int)(a:Int)(n:Int)(di:Int)(mo:Int)(d:Int)(li:Int)(i:Int):Tr (ad5⊕(ad6⊕ad7)):=(.ite
 (decide (i<li)) (.need (0≤i64.wrap (a+i)∧i64.wrap (a+i)<(↑b'.length:Int)) (.need (0≤i64.wrap (i64.wrap
 (a+i)-d)∧i64.wrap (i64.wrap (a+i)-d)<(↑b'.length:Int)) (.ite (b'.getD (i64.wrap (a+i)).toNat 0!=b'.getD
 (i64.wrap (i64.wrap (a+i)-d)).toNat 0) (.ret (.inr (.inl (b',a,n,di,mo,d,li,i)))) (.ret (.inl (b',a,n,di,mo,d,li,
 i64.wrap (i+1))))))) (.ret (.inr (.inr (b',a,n,mo,d)))))
theorem ad9(b:List Int)(at_:Int)(b':List Int)(a:Int)(n:Int)(di:Int)(mo:Int)(d:Int)(li:Int)(i:Int):ct Tryz.prog [] [] f129 2 ((ag).wr (())) awh (akJ.wr (b',a,n,di,mo,d,li,i))=(ad8 b' a n di mo d li i).res akJ.wr (Sum.elim apq apr):=by kernel_rfl
abbrev Gf(b':List Int)(a:Int)(n:Int)(di:Int)(mo:Int)(d:Int)(li:Int)(i:Int):Prop:=0≤i∧i≤li∧a+li≤b'.length∧1≤d∧d≤a∧b'.length<1099511627776
abbrev arq(b':List Int)(a:Int)(n:Int)(di:Int)(mo:Int)(d:Int)(li:Int)(i:Int):Bool:=decide (ia (li-i).toNat b' a d i<li)
abbrev ars(b':List Int)(a:Int)(n:Int)(di:Int)(mo:Int)(d:Int)(li:Int)(i:Int):ad6:=(b',a,n,di,mo,d,li,ia (li-i).toNat b' a d i)
abbrev art(b':List Int)(a:Int)(n:Int)(di:Int)(mo:Int)(d:Int)(li:Int)(i:Int):ad7:=(b',a,n,mo,d)
abbrev awi:ad5→aG:=mW (fun x_=>Gf x_.1 x_.2.1 x_.2.2.1 x_.2.2.2.1 x_.2.2.2.2.1 x_.2.2.2.2.2.1 x_.2.2.2.2.2.2.1 x_.2.2.2.2.2.2.2) (fun x_=>arq x_.1 x_.2.1 x_.2.2.1 x_.2.2.2.1 x_.2.2.2.2.1 x_.2.2.2.2.2.1 x_.2.2.2.2.2.2.1 x_.2.2.2.2.2.2.2) (fun x_=>ars x_.1 x_.2.1 x_.2.2.1 x_.2.2.2.1 x_.2.2.2.2.1 x_.2.2.2.2.2.1 x_.2.2.2.2.2.2.1 x_.2.2.2.2.2.2.2) (fun x_=>art x_.1 x_.2.1 x_.2.2.1 x_.2.2.2.1 x_.2.2.2.2.1 x_.2.2.2.2.2.1 x_.2.2.2.2.2.2.1 x_.2.2.2.2.2.2.2) apq apr
theorem aru(b':List Int)(a:Int)(n:Int)(di:Int)(mo:Int)(d:Int)(li:Int)(i:Int)(h_:Gf b' a n di mo d li i):cK (fun x_:ad5=>ad8 x_.1 x_.2.1 x_.2.2.1 x_.2.2.2.1 x_.2.2.2.2.1 x_.2.2.2.2.2.1 x_.2.2.2.2.2.2.1 x_.2.2.2.2.2.2.2) (b',a,n,di,mo,d,li,i) (bif arq b' a n di mo d li i then .inl (ars b' a n di mo d li i)else .inr (art b' a n di mo d li i)):=by
 delta arq ars art;obtain⟨h1,h2,h3,h4,h5,h6⟩:=h_;obtain⟨k,hk⟩:∃k:Nat,(li-i).toNat=k:=⟨_,rfl⟩;rw[hk]
 induction k generalizing i with
 |zero=>
  refine .stop ?_;have e:decide (ia 0 b' a d i<li)=false:=decide_eq_false (by show ¬i<li;omega);rw[e];simp only[ad8,a5,aq,ao];exact⟨fun h=>by omega,fun _=>rfl⟩
 |succ k ih=>
  have w1:i64.wrap (a+i)=a+i:=au (by omega) (by omega);have w2:i64.wrap (a+i-d)=a+i-d:=au (by omega) (by omega);have w3:i64.wrap (i+1)=i+1:=au (by omega) (by omega);rw[ia]
  by_cases he:b'.getD (a+i).toNat 0=b'.getD (a+i-d).toNat 0
  ·rw[if_pos he];refine .go ?_ (ih (i+1) (by omega) (by omega) (by omega));simp only[ad8,a5,aq,ao,vo,w1,w2,w3];exact⟨fun _=>⟨⟨by omega,by omega⟩,⟨by omega,by omega⟩,fun _=>trivial,fun h=>absurd he h⟩,fun h=>by omega⟩
  ·rw[if_neg he];refine .stop ?_;have e:decide (i<li)=true:=(by simp;omega);rw[e];simp only[ad8,a5,aq,ao,vo,w1,w2,w3];exact⟨fun _=>⟨⟨by omega,by omega⟩,⟨by omega,by omega⟩,fun h=>absurd h he,fun _=>rfl⟩,fun h=>by omega⟩
theorem akK(b:List Int)(at_:Int):∀x:ad5,Ex Tryz.prog ((ag).wr (())) (.loop (aP f129 2)) (akJ.wr x) (awi x):=
 cn mixed aw (ws:=awh) (aK.nil _) (fun x_=>ad9 b at_ x_.1 x_.2.1 x_.2.2.1 x_.2.2.2.1 x_.2.2.2.2.1 x_.2.2.2.2.2.1 x_.2.2.2.2.2.2.1 x_.2.2.2.2.2.2.2) (fun z=>by cases z<;>(intro e;cases e)) oA (fun x_ h=>aru x_.1 x_.2.1 x_.2.2.1 x_.2.2.2.1 x_.2.2.2.2.1 x_.2.2.2.2.2.1 x_.2.2.2.2.2.2.1 x_.2.2.2.2.2.2.2 h)
abbrev aea:Type:=(List Int)×Int×Int×Int×Int
abbrev akL:aQ St aea:=(aT (ae (ah (gg false false (Ty.int IntKind.u8))) (ae (ah (aA i64)) (jk 2 (ae (ah
 (aA i64)) (jk 1 (ae (ah (aA i64)) (ae (ah (aA i64)) (jk 75 ag)))))))) ag).lV (fun y=>(y.1.1,y.1.2.1,
 y.1.2.2.1,y.1.2.2.2.1,y.1.2.2.2.2.1)) (fun x=>((x.1,(x.2.1,(x.2.2.1,(x.2.2.2.1,(x.2.2.2.2,()))))),())) (fun _=>rfl)
abbrev awj:List Wk:= [.fr (cb 83 [(0,.ak),(1,.ak),(4,.ak),(6,.ak),(7,.ak)]),.syms,.auto,.aF]
abbrev awk:Exit→List Wk:=wT awj 4 [.fr (cb 83 [(0,.ak),(1,.ak),(4,.ak),(6,.ak),(7,.ak)]),.syms,.auto,.aF] [.fr (cb
 83 [(4,.ak),(5,.ak)]),.syms,.auto,.aF]
abbrev arv:Type:=(List Int)×Int×Int×Int×Int
abbrev awl(x:arv):Exit×St:=(Exit.exit 4,⟨(LV.one (VV.sc (SV.rd false false (Ty.int IntKind.u8) x.1))::(LV.one (VV.sc
 (SV.int i64 (SI.sym x.2.1)))::(gA 2 (LV.one (VV.sc (SV.int i64 (SI.sym x.2.2.1)))::(gA 1 (LV.one (VV.sc (SV.int i64
 (SI.sym x.2.2.2.1)))::(LV.one (VV.sc (SV.int i64 (SI.sym x.2.2.2.2)))::(gA 75 [])))))))),[]⟩)
def aeb(b':List Int)(a:Int)(n:Int)(mo:Int)(d:Int):Tr (aea⊕(arv)):=(.ite (decide (n<mo)==true) (.need (0≤
 i64.wrap (a+n)∧i64.wrap (a+n)<(↑b'.length:Int)) (.need (0≤i64.wrap (i64.wrap (a+n)-d)∧
 i64.wrap (i64.wrap (a+n)-d)<(↑b'.length:Int)) (.ite (b'.getD (i64.wrap (a+n)).toNat 0==b'.getD (i64.wrap
 (i64.wrap (a+n)-d)).toNat 0) (.ret (.inl (b',a,i64.wrap (n+1),mo,d))) (.ret (.inr (b',a,n,mo,d)))))) (.ret (.inr (b',a,
 n,mo,d))))
theorem aec(b:List Int)(at_:Int)(b':List Int)(a:Int)(n:Int)(mo:Int)(d:Int):ct Tryz.prog [] [] f129 4 ((ag).wr (())) awk (akL.wr (b',a,n,mo,d))=(aeb b' a n mo d).res akL.wr awl:=by kernel_rfl
abbrev Gg(b':List Int)(a:Int)(n:Int)(mo:Int)(d:Int):Prop:=0≤n∧n≤mo∧a+mo≤b'.length∧1≤d∧d≤a∧b'.length<1099511627776
abbrev arw(b':List Int)(a:Int)(n:Int)(mo:Int)(d:Int):arv:=(b',a,ia (mo-n).toNat b' a d n,mo,d)
abbrev awm:aea→aG:=e9 (fun x_=>Gg x_.1 x_.2.1 x_.2.2.1 x_.2.2.2.1 x_.2.2.2.2) (fun x_=>arw x_.1 x_.2.1 x_.2.2.1 x_.2.2.2.1 x_.2.2.2.2) awl
theorem arx(b':List Int)(a:Int)(n:Int)(mo:Int)(d:Int)(h_:Gg b' a n mo d):cK (fun x_:aea=>aeb x_.1 x_.2.1 x_.2.2.1 x_.2.2.2.1 x_.2.2.2.2) (b',a,n,mo,d) (arw b' a n mo d):=by
 delta arw;obtain⟨h1,h2,h3,h4,h5,h6⟩:=h_;obtain⟨k,hk⟩:∃k:Nat,(mo-n).toNat=k:=⟨_,rfl⟩;rw[hk]
 induction k generalizing n with
 |zero=>
  refine .stop ?_;have e:(decide (n<mo)==true)=false:=by simp;omega
  simp only[aeb,e,bw,ao];rfl
 |succ k ih=>
  have w1:i64.wrap (a+n)=a+n:=au (by omega) (by omega);have w2:i64.wrap (a+n-d)=a+n-d:=au (by omega) (by omega);have w3:i64.wrap (n+1)=n+1:=au (by omega) (by omega);have e:(decide (n<mo)==true)=true:=by simp;omega
  rw[ia]
  by_cases he:b'.getD (a+n).toNat 0=b'.getD (a+n-d).toNat 0
  ·rw[if_pos he];refine .go ?_ (ih (n+1) (by omega) (by omega) (by omega));simp only[aeb,e,a6,aq,ao,dV,w1,w2,w3];exact⟨⟨by omega,by omega⟩,⟨by omega,by omega⟩,fun _=>trivial,fun h=>absurd he h⟩
  ·rw[if_neg he];refine .stop ?_;simp only[aeb,e,a6,aq,ao,dV,w1,w2,w3];exact⟨⟨by omega,by omega⟩,⟨by omega,by omega⟩,fun h=>absurd h he,fun _=>trivial⟩
theorem akM(b:List Int)(at_:Int):∀x:aea,Ex Tryz.prog ((ag).wr (())) (.loop (aP f129 4)) (akL.wr x) (awm x):=
 cn mixed aw (ws:=awk) (aK.nil _) (fun x_=>aec b at_ x_.1 x_.2.1 x_.2.2.1 x_.2.2.2.1 x_.2.2.2.2) (fun z e=>by cases e) fH (fun x_ h=>arx x_.1 x_.2.1 x_.2.2.1 x_.2.2.2.1 x_.2.2.2.2 h)
def gG:Nat→List Int→Int→Nat→Int→Int→Int→Int×Int
 |0,_,_,_,_,n,di=>(n,di)
 |k+1,b,a,mo,d,n,di=>if n<ia mo b a d 0 then gG k b a mo (d+1) (ia mo b a d 0) d else gG k b a mo (d+1) n di
theorem CR:∀ (k:Nat) (b:List Int) (a:Int) (mo:Nat) (d n di:Int),(mo:Int)≤n→gG k b a mo d n di=(n,di)
 |0,_,_,_,_,_,_,_=>rfl
 |k+1,b,a,mo,d,n,di,h=>by
  have:=mB mo b a d 0;rw[gG,if_neg (by omega)];exact CR k b a mo (d+1) n di h
abbrev aed:Type:=(List Int)×Int×Int×Int×Int×Int
abbrev aee:aQ St aed:=(aT (ae (ah (gg false false (Ty.int IntKind.u8))) (ae (ah (aA i64)) (jk 2 (ae (ah
 (aA i64)) (ae (ah (aA i64)) (ae (ah (aA i64)) (ae (ah (aA i64)) (jk 75 ag)))))))) ag).lV
 (fun y=>(y.1.1,y.1.2.1,y.1.2.2.1,y.1.2.2.2.1,y.1.2.2.2.2.1,y.1.2.2.2.2.2.1)) (fun x=>((x.1,(x.2.1,(x.2.2.1,(x.2.2.2.1,(x.2.2.2.2.1,
 (x.2.2.2.2.2,())))))),())) (fun _=>rfl)
abbrev ary:List Wk:= [.fr (cb 83 [(0,.ak),(1,.ak),(4,.ak),(5,.ak),(6,.ak),(7,.ak)]),.syms,.auto,.aF]
abbrev awn:Exit→List Wk:=wT ary 0 [.fr (cb 83 [(4,.ak),(5,.ak)]),.syms,.auto,.aF] [.fr (cb 83 [(4,.ak),(5,.ak)]),.syms,
 .auto,.aF]
abbrev arz:Type:=Int×Int
abbrev awo(x:arz):Exit×St:=(Exit.exit 0,⟨(gA 4 (LV.one (VV.sc (SV.int i64 (SI.sym x.1)))::(LV.one (VV.sc (SV.int
 i64 (SI.sym x.2)))::(gA 77 [])))),[]⟩)
def Xb(b':List Int)(a:Int)(n:Int)(di:Int)(mo:Int)(d:Int):Tr (aed⊕(arz)):=(.ite (decide (d≤if 4096<a then
 4096 else a)==true) (.ite (decide (n<mo)) (.need (Gf b' a n di mo d (i64.wrap (n+1)) 0) (.ite (decide (ia (Int.toNat
 (i64.wrap (n+1)-0)) b' a d 0<i64.wrap (n+1))) (.ret (.inl (b',a,n,di,mo,i64.wrap (d+1)))) (.need (Gg b' a
 (i64.wrap (n+1)) mo d) (.ret (.inl (b',a,ia (Int.toNat (mo-i64.wrap (n+1))) b' a d (i64.wrap (n+1)),d,mo,
 i64.wrap (d+1))))))) (.ret (.inr (n,di)))) (.ret (.inr (n,di))))
theorem aef(b:List Int)(at_:Int)(b':List Int)(a:Int)(n:Int)(di:Int)(mo:Int)(d:Int):ct Tryz.prog [] [(2,bU akJ ((ag).wr (())) awg (awi)),(4,bU akL ((ag).wr (())) awj (awm))] f129 0 ((ag).wr (())) awn (aee.wr (b',a,n,di,mo,d))=(Xb b' a n di mo d).res aee.wr awo:=by kernel_rfl
abbrev Gh(b':List Int)(a:Int)(n:Int)(di:Int)(mo:Int)(d:Int):Prop:=0≤n∧0≤mo∧a+mo≤b'.length∧1≤d∧0≤a∧b'.length<1099511627776∧d≤a+1
abbrev arA(b':List Int)(a:Int)(n:Int)(di:Int)(mo:Int)(d:Int):arz:=gG ((if 4096<a then 4096 else a)+1-d).toNat b' a mo.toNat d n di
abbrev arB:aed→aG:=e9 (fun x_=>Gh x_.1 x_.2.1 x_.2.2.1 x_.2.2.2.1 x_.2.2.2.2.1 x_.2.2.2.2.2) (fun x_=>arA x_.1 x_.2.1 x_.2.2.1 x_.2.2.2.1 x_.2.2.2.2.1 x_.2.2.2.2.2) awo
theorem arC(b':List Int)(a:Int)(n:Int)(di:Int)(mo:Int)(d:Int)(h_:Gh b' a n di mo d):cK (fun x_:aed=>Xb x_.1 x_.2.1 x_.2.2.1 x_.2.2.2.1 x_.2.2.2.2.1 x_.2.2.2.2.2) (b',a,n,di,mo,d) (arA b' a n di mo d):=by
 delta arA;obtain⟨h1,h2,h3,h4,h5,h6,h7⟩:=h_;obtain⟨k,hk⟩:∃k:Nat,((if 4096<a then 4096 else a)+1-d).toNat=k:=⟨_,rfl⟩;rw[hk]
 induction k generalizing n di d with
 |zero=>
  refine .stop ?_;have e:(decide (d≤if 4096<a then 4096 else a)==true)=false:=by simp;omega
  simp only[Xb,e,bw,ao];rfl
 |succ k ih=>
  have hd:d≤if 4096<a then 4096 else a:=by omega
  have e:(decide (d≤if 4096<a then 4096 else a)==true)=true:=by simpa using hd
  have hda:d≤a:=by split at hd<;>omega
  by_cases hn:n<mo
  ·have e2:decide (n<mo)=true:=(by simpa using hn);have w1:i64.wrap (n+1)=n+1:=au (by omega) (by omega);have w2:i64.wrap (d+1)=d+1:=au (by omega) (by omega);obtain⟨r1,r2⟩:=mB (n+1).toNat b' a d 0;have hs:=CQ (n+1).toNat (mo-(n+1)).toNat b' a d 0;rw[show(n+1).toNat+(mo-(n+1)).toNat=mo.toNat from by omega,show(0:Int)+((n+1).toNat:Int)=n+1 from by omega]at hs;have hu:Int.toNat (n+1-0)=(n+1).toNat:=(by rw[Int.sub_zero]);have p2:Gf b' a n di mo d (n+1) 0:=⟨by omega,by omega,by omega,h4,hda,h6⟩;have p4:Gg b' a (n+1) mo d:=⟨by omega,by omega,h3,h4,hda,h6⟩;rw[gG]
   by_cases hc:ia (n+1).toNat b' a d 0<n+1
   ·rw[if_pos hc]at hs;rw[hs,if_neg (by omega)];refine .go ?_ (ih n di (d+1) h1 (by omega) (by omega) (by omega));simp only[Xb,e,e2,a6,aq,a5,ao,w1,w2,hu];exact⟨p2,fun _=>trivial,fun h=>absurd hc h⟩
   ·rw[if_neg hc]at hs;obtain⟨r3,r4⟩:=mB (mo-(n+1)).toNat b' a d (n+1);rw[hs,if_pos (by omega)];refine .go ?_ (ih _ d (d+1) (by omega) (by omega) (by omega) (by omega));simp only[Xb,e,e2,a6,aq,a5,ao,w1,w2,hu];exact⟨p2,fun h=>absurd h hc,fun _=>⟨p4,trivial⟩⟩
  ·have e2:decide (n<mo)=false:=(by simpa using hn);rw[CR _ _ _ _ _ _ _ (by omega)];refine .stop ?_;simp only[Xb,e,e2,a6,bw,ao]
theorem akN(b:List Int)(at_:Int):∀x:aed,Ex Tryz.prog ((ag).wr (())) (.loop (aP f129 0)) (aee.wr x) (arB x):=
 cn mixed aw (ws:=awn) (aK.inner (by kernel_rfl) (iu (by kernel_rfl) (bM (hp:=(ag).wr (())) (akK b at_)) (iu (by kernel_rfl) (bM (hp:=(ag).wr (())) (akM b at_)) iE))) (fun x_=>aef b at_ x_.1 x_.2.1 x_.2.2.1 x_.2.2.2.1 x_.2.2.2.2.1 x_.2.2.2.2.2) (fun z e=>by cases e) fH (fun x_ h=>arC x_.1 x_.2.1 x_.2.2.1 x_.2.2.2.1 x_.2.2.2.2.1 x_.2.2.2.2.2 h)
def bO(b:List Int)(a:Int):Int×Int:=
 if a≤0∨b.length≤a then(0,0)
 else
  let s:=gG (if 4096<a then 4096 else a).toNat b a (if(b.length:Int)-a<257 then(b.length:Int)-a else 257).toNat 1 0 0
  if s.1<3 then(0,0)else s
def qa(b:List Int)(at_:Int):Int:=(↑b.length:Int)
def lf(b:List Int)(at_:Int):Int:=if i64.wrap (qa b at_-at_)<257 then i64.wrap (qa b at_-
 at_)else 257
def lh(b:List Int)(at_:Int):Int×Int:=gG (Int.toNat ((if 4096<at_ then 4096 else at_)+(1:Int)-1)) b at_
 (lf b at_).toNat 1 0 0
abbrev Gi:Type:=Int×Int
abbrev aeg(x:Gi):LV:=LV.c6 [VV.sc (SV.int i64 (SI.sym x.1)),VV.sc (SV.int i64 (SI.sym x.2))]
abbrev aeh(x:Gi):List (Nat×Ev.Item):= []
def Ak(b:List Int)(at_:Int):Tr (Gi):=(.ite (decide (at_<0)==false) (.ite (decide (qa b at_≤at_)) (.ret (0,
 0)) (.need (Gh b at_ 0 0 (lf b at_) 1) (.ite (decide ((lh b at_).fst<3)) (.ret (0,0)) (.ret ((lh b at_).fst,(lh b
 at_).snd))))) (.ret (0,0)))
theorem Ps(b:List Int)(at_:Int):aH Tryz.prog [] [(0,bU aee ((ag).wr (())) ary (arB))] f129 ((bsA).wr (b,at_,())) ((ag).wr (())) [.fr [.sym],.syms,.auto,.aF]=(Ak b at_).end aeg aeh ((ag).wr (())):=by kernel_rfl
theorem Xc(b:List Int)(at_:Int):aK Tryz.prog ((ag).wr (())) [(0,bU aee ((ag).wr (())) ary (arB))] (aJ f129):=(aK.bI (iu (by kernel_rfl) (bM (hp:=(ag).wr (())) (akN b at_)) iE))
abbrev tG(b:List Int)(at_:Int):Prop:=b.length<1099511627776∧at_<1099511627776
abbrev Pu(b:List Int)(at_:Int):Gi:=bO b at_
def Pv:an:=cQ [] (bsA) (ag) (fun x_ y_=>tG x_.1 x_.2.1) (fun x_ y_=>Pu x_.1 x_.2.1) aeg aeh
theorem aei(b:List Int)(at_:Int)(h_:tG b at_):(Ak b at_).Is (Pu b at_):=by
 delta Pu;obtain⟨h1,h2⟩:=h_
 by_cases c1:at_<0
 ·have e:bO b at_=(0,0):=by unfold bO;rw[if_pos (by omega)]
  have e1:(decide (at_<0)==false)=false:=by simpa using c1
  rw[e];simp only[Ak,e1,bw,ao]
 ·have e1:(decide (at_<0)==false)=true:=by simpa using c1
  have ZV:qa b at_=(b.length:Int):=rfl
  by_cases c2:(b.length:Int)≤at_
  ·have e:bO b at_=(0,0):=(by unfold bO;rw[if_pos (by omega)]);have e2:decide (qa b at_≤at_)=true:=(by rw[ZV];simpa using c2);rw[e];simp only[Ak,e1,e2,a6,ao]
  ·have e2:decide (qa b at_≤at_)=false:=(by rw[ZV];simpa using c2);have w1:i64.wrap ((b.length:Int)-at_)=(b.length:Int)-at_:=au (by omega) (by omega);have B0:lf b at_=if(b.length:Int)-at_<257 then(b.length:Int)-at_ else 257:=by unfold lf;rw[ZV,w1]
   have hm:0≤lf b at_∧at_+lf b at_≤b.length:=(by rw[B0];split<;>omega);have hp:Gh b at_ 0 0 (lf b at_) 1:=⟨by omega,hm.1,hm.2,by omega,by omega,h1,by omega⟩
   have ea3:lh b at_=gG (if 4096<at_ then 4096 else at_).toNat b at_ (lf b at_).toNat 1 0 0:=by
    unfold lh;rw[Int.add_sub_cancel]
   have e:bO b at_=if(lh b at_).1<3 then(0,0)else lh b at_:=by
    unfold bO
    by_cases c3:at_=0
    ·rw[if_pos (by omega)];have:lh b at_=(0,0):=(by rw[ea3,c3];rfl);rw[this];rfl
    ·rw[if_neg (by omega),ea3,B0]
   rw[e];simp only[Ak,e1,e2,a6,bw,aq,a5,ao];refine⟨hp,fun h=>?_,fun h=>?_⟩
   ·rw[if_pos h]
   ·rw[if_neg h]
theorem JV:Pv.Ok Tryz.prog 129:=
 bJ mixed aw func129 (by kernel_rfl) call129 (fun x_ y_=>Xc x_.1 x_.2.1) (fun x_ y_=>Ps x_.1 x_.2.1) (fun x_ y_ h=>aei x_.1 x_.2.1 h)
abbrev aej:Type:=(List Int)×Int×Int×Int×Int×Int
abbrev akO:aQ St aej:=(aT (ae (ah (gg false false (Ty.int IntKind.u8))) (ae (ah (aA i64)) (jk 4 (ae (ah
 (aA i64)) (ae (ah (aA i64)) (ae (ah (aA i64)) (ae (ah (aA i64)) (jk 57 ag)))))))) ag).lV
 (fun y=>(y.1.1,y.1.2.1,y.1.2.2.1,y.1.2.2.2.1,y.1.2.2.2.2.1,y.1.2.2.2.2.2.1)) (fun x=>((x.1,(x.2.1,(x.2.2.1,(x.2.2.2.1,(x.2.2.2.2.1,
 (x.2.2.2.2.2,())))))),())) (fun _=>rfl)
abbrev awp:List Wk:= [.fr (cb 67 [(0,.ak),(1,.ak),(6,.ak),(7,.ak),(8,.ak),(9,.ak)]),.syms,.auto,.aF]
abbrev awq:Exit→List Wk:=wT awp 2 [.fr (cb 67 [(0,.ak),(1,.ak),(6,.ak),(7,.ak),(8,.ak),(9,.ak)]),.syms,.auto,.aF]
 [.fr (cb 67 [(4,.ak),(5,.ak)]),.syms,.auto,.aF]
abbrev arD:Type:=(List Int)×Int×Int×Int×Int×Int
abbrev awr(x:arD):Exit×St:=(Exit.exit 2,⟨(LV.one (VV.sc (SV.rd false false (Ty.int IntKind.u8) x.1))::(LV.one (VV.sc
 (SV.int i64 (SI.sym x.2.1)))::(gA 4 (LV.one (VV.sc (SV.int i64 (SI.sym x.2.2.1)))::(LV.one (VV.sc (SV.int i64 (SI.sym
 x.2.2.2.1)))::(LV.one (VV.sc (SV.int i64 (SI.sym x.2.2.2.2.1)))::(LV.one (VV.sc (SV.int i64 (SI.sym x.2.2.2.2.2)))::(gA 57
 [])))))))),[]⟩)
def Xd(b':List Int)(a:Int)(be:Int)(di:Int)(d:Int)(n:Int):Tr (aej⊕(arD)):=(.ite (decide (n<257)==true)
 (.ite (decide (i64.wrap (a+n)<(↑b'.length:Int))==true) (.need (0≤i64.wrap (a+n)∧i64.wrap (a+n)<(↑b'.length:
 Int)) (.need (0≤i64.wrap (i64.wrap (a+n)-d)∧i64.wrap (i64.wrap (a+n)-d)<(↑b'.length:Int)) (.ite
 (b'.getD (i64.wrap (a+n)).toNat 0==b'.getD (i64.wrap (i64.wrap (a+n)-d)).toNat 0) (.ret (.inl (b',a,be,di,d,
 i64.wrap (n+1)))) (.ret (.inr (b',a,be,di,d,n)))))) (.ret (.inr (b',a,be,di,d,n)))) (.ret (.inr (b',a,be,di,d,n))))
theorem aek(b:List Int)(at_:Int)(b':List Int)(a:Int)(be:Int)(di:Int)(d:Int)(n:Int):ct Tryz.prog [] [] f208 2 ((ag).wr (())) awq (akO.wr (b',a,be,di,d,n))=(Xd b' a be di d n).res akO.wr awr:=by kernel_rfl
abbrev Gj(b':List Int)(a:Int)(be:Int)(di:Int)(d:Int)(n:Int):Prop:=0≤n∧n≤(if(b'.length:Int)-a<257 then(b'.length:Int)-a else 257)∧1≤d∧d≤a∧b'.length<1099511627776
abbrev arE(b':List Int)(a:Int)(be:Int)(di:Int)(d:Int)(n:Int):arD:=(b',a,be,di,d,ia ((if(b'.length:Int)-a<257 then(b'.length:Int)-a else 257)-n).toNat b' a d n)
abbrev aws:aej→aG:=e9 (fun x_=>Gj x_.1 x_.2.1 x_.2.2.1 x_.2.2.2.1 x_.2.2.2.2.1 x_.2.2.2.2.2) (fun x_=>arE x_.1 x_.2.1 x_.2.2.1 x_.2.2.2.1 x_.2.2.2.2.1 x_.2.2.2.2.2) awr
theorem arF(b':List Int)(a:Int)(be:Int)(di:Int)(d:Int)(n:Int)(h_:Gj b' a be di d n):cK (fun x_:aej=>Xd x_.1 x_.2.1 x_.2.2.1 x_.2.2.2.1 x_.2.2.2.2.1 x_.2.2.2.2.2) (b',a,be,di,d,n) (arE b' a be di d n):=by
 delta arE;obtain⟨h1,h2,h4,h5,h6⟩:=h_;obtain⟨k,hk⟩:∃k:Nat,((if(b'.length:Int)-a<257 then(b'.length:Int)-a else 257)-n).toNat=k:=⟨_,rfl⟩;rw[hk]
 induction k generalizing n with
 |zero=>
  refine .stop ?_
  by_cases c:n<257
  ·have e:(decide (n<257)==true)=true:=by simpa using c
   have e2:(decide (i64.wrap (a+n)<(b'.length:Int))==true)=false:=by
    rw[au (by omega) (by split at h2<;>omega)];simp;split at hk<;>omega
   simp only[Xd,e,e2,a6,bw,ao];rfl
  ·have e:(decide (n<257)==true)=false:=(by simpa using c);simp only[Xd,e,bw,ao];rfl
 |succ k ih=>
  have hn:n<257∧a+n<b'.length:=by split at hk<;>omega
  have w1:i64.wrap (a+n)=a+n:=au (by omega) (by omega);have w2:i64.wrap (a+n-d)=a+n-d:=au (by omega) (by omega);have w3:i64.wrap (n+1)=n+1:=au (by omega) (by omega);have e:(decide (n<257)==true)=true:=by simpa using hn.1
  have e2:(decide (a+n<(b'.length:Int))==true)=true:=by simpa using hn.2
  rw[ia]
  by_cases he:b'.getD (a+n).toNat 0=b'.getD (a+n-d).toNat 0
  ·rw[if_pos he];refine .go ?_ (ih (n+1) (by omega) (by split<;>omega) (by omega));simp only[Xd,e,e2,a6,aq,ao,dV,w1,w2,w3];exact⟨⟨by omega,by omega⟩,⟨by omega,by omega⟩,fun _=>trivial,fun h=>absurd he h⟩
  ·rw[if_neg he];refine .stop ?_;simp only[Xd,e,e2,a6,aq,ao,dV,w1,w2,w3];exact⟨⟨by omega,by omega⟩,⟨by omega,by omega⟩,fun h=>absurd h he,fun _=>trivial⟩
theorem akP(b:List Int)(at_:Int):∀x:aej,Ex Tryz.prog ((ag).wr (())) (.loop (aP f208 2)) (akO.wr x) (aws x):=
 cn mixed aw (ws:=awq) (aK.nil _) (fun x_=>aek b at_ x_.1 x_.2.1 x_.2.2.1 x_.2.2.2.1 x_.2.2.2.2.1 x_.2.2.2.2.2) (fun z e=>by cases e) fH (fun x_ h=>arF x_.1 x_.2.1 x_.2.2.1 x_.2.2.2.1 x_.2.2.2.2.1 x_.2.2.2.2.2 h)
abbrev ael:Type:=(List Int)×Int×Int×Int×Int
abbrev aem:aQ St ael:=(aT (ae (ah (gg false false (Ty.int IntKind.u8))) (ae (ah (aA i64)) (jk 4 (ae (ah
 (aA i64)) (ae (ah (aA i64)) (ae (ah (aA i64)) (jk 58 ag))))))) ag).lV (fun y=>(y.1.1,y.1.2.1,
 y.1.2.2.1,y.1.2.2.2.1,y.1.2.2.2.2.1)) (fun x=>((x.1,(x.2.1,(x.2.2.1,(x.2.2.2.1,(x.2.2.2.2,()))))),())) (fun _=>rfl)
abbrev arG:List Wk:= [.fr (cb 67 [(0,.ak),(1,.ak),(6,.ak),(7,.ak),(8,.ak)]),.syms,.auto,.aF]
abbrev awt:Exit→List Wk:=wT arG 0 [.fr (cb 67 [(6,.ak),(7,.ak)]),.syms,.auto,.aF] [.fr (cb 67 [(4,.ak),(5,.ak)]),.syms,
 .auto,.aF]
def TU(b':List Int)(a:Int)(be:Int)(di:Int)(d:Int):Int:=ia ((if(↑b'.length:Int)-a<257 then(↑b'.length:
 Int)-a else 257)-0).toNat b' a d 0
abbrev arH:Type:=Int×Int
abbrev awu(x:arH):Exit×St:=(Exit.exit 0,⟨(gA 6 (LV.one (VV.sc (SV.int i64 (SI.sym x.1)))::(LV.one (VV.sc (SV.int
 i64 (SI.sym x.2)))::(gA 59 [])))),[]⟩)
def Pw(b':List Int)(a:Int)(be:Int)(di:Int)(d:Int):Tr (ael⊕(arH)):=(.ite (decide (0<a)==true) (.ite (decide
 (a<(↑b'.length:Int))==true) (.ite (decide (d≤a)==true) (.ite (decide (d≤4096)) (.need (Gj b' a be di d 0) (.ite (decide (be<TU b'
 a be di d)) (.ret (.inl (b',a,TU b' a be di d,d,i64.wrap (d+1)))) (.ret (.inl (b',a,be,di,i64.wrap (d+1)))))) (.ret
 (.inr (be,di)))) (.ret (.inr (be,di)))) (.ret (.inr (be,di)))) (.ret (.inr (be,di))))
theorem aen(b:List Int)(at_:Int)(b':List Int)(a:Int)(be:Int)(di:Int)(d:Int):ct Tryz.prog [] [(2,bU akO ((ag).wr (())) awp (aws))] f208 0 ((ag).wr (())) awt (aem.wr (b',a,be,di,d))=(Pw b' a be di d).res aem.wr awu:=by kernel_rfl
abbrev Gk(b':List Int)(a:Int)(be:Int)(di:Int)(d:Int):Prop:=1≤d∧b'.length<1099511627776
abbrev arI(b':List Int)(a:Int)(be:Int)(di:Int)(d:Int):arH:=(if a≤0∨b'.length≤a then(be,di)else gG ((if 4096<a then 4096 else a)+1-d).toNat b' a (if(b'.length:Int)-a<257 then(b'.length:Int)-a else 257).toNat d be di)
abbrev arJ:ael→aG:=e9 (fun x_=>Gk x_.1 x_.2.1 x_.2.2.1 x_.2.2.2.1 x_.2.2.2.2) (fun x_=>arI x_.1 x_.2.1 x_.2.2.1 x_.2.2.2.1 x_.2.2.2.2) awu
theorem arK(b':List Int)(a:Int)(be:Int)(di:Int)(d:Int)(h_:Gk b' a be di d):cK (fun x_:ael=>Pw x_.1 x_.2.1 x_.2.2.1 x_.2.2.2.1 x_.2.2.2.2) (b',a,be,di,d) (arI b' a be di d):=by
 delta arI;obtain⟨h1,h2⟩:=h_
 by_cases c:a≤0∨b'.length≤a
 ·rw[if_pos c];refine .stop ?_;simp only[Pw,cu,aq,ao]
  by_cases c1:0<a
  ·have e:(decide (a<(b'.length:Int))==true)=false:=(by simp;omega);simp[e]
  ·have e:(decide (0<a)==true)=false:=(by simp;omega);simp[e]
 ·rw[if_neg c];obtain⟨k,hk⟩:∃k:Nat,((if 4096<a then 4096 else a)+1-d).toNat=k:=⟨_,rfl⟩;rw[hk];have e1:(decide (0<a)==true)=true:=by simp;omega
  have e2:(decide (a<(b'.length:Int))==true)=true:=by simp;omega
  induction k generalizing be di d with
  |zero=>
   refine .stop ?_
   by_cases c3:d≤a
   ·have e3:(decide (d≤a)==true)=true:=(by simpa using c3);have e4:decide (d≤4096)=false:=(by simp;split at hk<;>omega);simp only[Pw,e1,e2,e3,e4,a6,bw,ao];rfl
   ·have e3:(decide (d≤a)==true)=false:=(by simpa using c3);simp only[Pw,e1,e2,e3,a6,bw,ao];rfl
  |succ k ih=>
   have hd:d≤a∧d≤4096:=(by split at hk<;>omega);have e3:(decide (d≤a)==true)=true:=(by simpa using hd.1);have e4:decide (d≤4096)=true:=(by simpa using hd.2);have w2:i64.wrap (d+1)=d+1:=au (by omega) (by omega);have p2:Gj b' a be di d 0:=⟨by omega,by split<;>omega,h1,hd.1,h2⟩
   have ea:TU b' a be di d=ia (if(b'.length:Int)-a<257 then(b'.length:Int)-a else 257).toNat b' a d 0:=by
    show ia ((if(b'.length:Int)-a<257 then(b'.length:Int)-a else 257)-0).toNat b' a d 0=_;rw[Int.sub_zero]
   rw[gG]
   by_cases hb:be<TU b' a be di d
   ·rw[← ea,if_pos hb];refine .go ?_ (ih _ d (d+1) (by omega) (by omega));simp only[Pw,e1,e2,e3,e4,a6,aq,a5,ao,w2];exact⟨p2,fun _=>trivial,fun h=>absurd hb h⟩
   ·rw[← ea,if_neg hb];refine .go ?_ (ih be di (d+1) (by omega) (by omega));simp only[Pw,e1,e2,e3,e4,a6,aq,a5,ao,w2];exact⟨p2,fun h=>absurd h hb,fun _=>trivial⟩
theorem akQ(b:List Int)(at_:Int):∀x:ael,Ex Tryz.prog ((ag).wr (())) (.loop (aP f208 0)) (aem.wr x) (arJ x):=
 cn mixed aw (ws:=awt) (aK.inner (by kernel_rfl) (iu (by kernel_rfl) (bM (hp:=(ag).wr (())) (akP b at_)) iE)) (fun x_=>aen b at_ x_.1 x_.2.1 x_.2.2.1 x_.2.2.2.1 x_.2.2.2.2) (fun z e=>by cases e) fH (fun x_ h=>arK x_.1 x_.2.1 x_.2.2.1 x_.2.2.2.1 x_.2.2.2.2 h)
def tH(b:List Int)(at_:Int):Int×Int:=if at_≤0∨(↑b.length:Int)≤at_ then(0,0)else gG (Int.toNat ((if 4096
 <at_ then 4096 else at_)+(1:Int)-1)) b at_ (if(↑b.length:Int)-at_<257 then(↑b.length:Int)-at_ else 257).toNat 1 0 0
abbrev Gl:Type:=Int×Int
abbrev aeo(x:Gl):LV:=LV.c6 [VV.sc (SV.int i64 (SI.sym x.1)),VV.sc (SV.int i64 (SI.sym x.2))]
abbrev aep(x:Gl):List (Nat×Ev.Item):= []
def Px(b:List Int)(at_:Int):Tr (Gl):=(.need (Gk b at_ 0 0 1) (.ite (decide ((tH b at_).fst<3)) (.ret (0,0))
 (.ret ((tH b at_).fst,(tH b at_).snd))))
theorem Py(b:List Int)(at_:Int):aH Tryz.prog [] [(0,bU aem ((ag).wr (())) arG (arJ))] f208 ((bsA).wr (b,at_,())) ((ag).wr (())) [.fr [.sym],.syms,.auto,.aF]=(Px b at_).end aeo aep ((ag).wr (())):=by kernel_rfl
theorem Xe(b:List Int)(at_:Int):aK Tryz.prog ((ag).wr (())) [(0,bU aem ((ag).wr (())) arG (arJ))] (aJ f208):=(aK.bI (iu (by kernel_rfl) (bM (hp:=(ag).wr (())) (akQ b at_)) iE))
abbrev tI(b:List Int)(at_:Int):Prop:=b.length<1099511627776
abbrev Pz(b:List Int)(at_:Int):Gl:=bO b at_
def PA:an:=cQ [] (bsA) (ag) (fun x_ y_=>tI x_.1 x_.2.1) (fun x_ y_=>Pz x_.1 x_.2.1) aeo aep
theorem aeq(b:List Int)(at_:Int)(h_:tI b at_):(Px b at_).Is (Pz b at_):=by
 delta Pz;unfold bO;have hp:Gk b at_ 0 0 1:=⟨by omega,h_⟩
 have ea:tH b at_=if at_≤0∨(b.length:Int)≤at_ then(0,0)else gG (if 4096<at_ then 4096 else at_).toNat b at_ (if(b.length:Int)-at_<257 then(b.length:Int)-at_ else 257).toNat 1 0 0:=by
  unfold tH;rw[Int.add_sub_cancel]
 simp only[Px,aq,a5,ao,ea];refine⟨hp,fun h=>?_,fun h=>?_⟩
 ·split
  ·rfl
  ·rename_i c;rw[if_neg c]at h;rw[if_pos h]
 ·split
  ·rfl
  ·rename_i c;rw[if_neg c]at h;rw[if_neg h]
theorem JW:PA.Ok Tryz.prog 208:=
 bJ mixed aw func208 (by kernel_rfl) call208 (fun x_ y_=>Xe x_.1 x_.2.1) (fun x_ y_=>Py x_.1 x_.2.1) (fun x_ y_ h=>aeq x_.1 x_.2.1 h)
theorem rv:∀ (k:Nat) (b:List Int) (a:Int) (mo:Nat) (d n di:Int),0≤n→n≤mo→(n=0∨(1≤di∧di<d))→1≤d→
  0≤(gG k b a mo d n di).1∧(gG k b a mo d n di).1≤mo∧((gG k b a mo d n di).1=0∨(1≤(gG k b a mo d n di).2∧(gG k b a mo d n di).2<d+k))
 |0,_,_,_,_,_,_,h1,h2,h3,h4=>⟨h1,h2,by simpa [gG]using h3⟩
 |k+1,b,a,mo,d,n,di,h1,h2,h3,h4=>by
  obtain⟨r1,r2⟩:=mB mo b a d 0;rw[gG]
  split
  ·obtain⟨s1,s2,s3⟩:=rv k b a mo (d+1) (ia mo b a d 0) d (by omega) (by omega) (by omega) (by omega);exact⟨s1,s2,by omega⟩
  ·obtain⟨s1,s2,s3⟩:=rv k b a mo (d+1) n di h1 h2 (by omega) (by omega);exact⟨s1,s2,by omega⟩
theorem na(b:List Int)(a:Int):bO b a=(0,0)∨(3≤(bO b a).1∧(bO b a).1≤257∧a+(bO b a).1≤b.length∧1≤(bO b a).2∧(bO b a).2≤a∧(bO b a).2≤4096):=by
 unfold bO
 split
 ·exact .inl rfl
 ·rename_i c;obtain⟨s1,s2,s3⟩:=rv (if 4096<a then 4096 else a).toNat b a (if(b.length:Int)-a<257 then(b.length:Int)-a else 257).toNat 1 0 0 (by omega) (by omega) (.inl rfl) (by omega);have IT:(((if(b.length:Int)-a<257 then(b.length:Int)-a else 257).toNat:Nat):Int)≤257∧a+(((if(b.length:Int)-a<257 then(b.length:Int)-a else 257).toNat:Nat):Int)≤b.length:=by split<;>omega
  have hk:((if 4096<a then 4096 else a).toNat:Int)≤a∧((if 4096<a then 4096 else a).toNat:Int)≤4096:=by split<;>omega
  simp only;generalize gG (if 4096<a then 4096 else a).toNat b a (if(b.length:Int)-a<257 then(b.length:Int)-a else 257).toNat 1 0 0=s at*;generalize (if(b.length:Int)-a<257 then(b.length:Int)-a else 257).toNat=mo at*;generalize (if 4096<a then 4096 else a).toNat=kk at*
  by_cases c2:s.1<3
  ·rw[if_pos c2];exact .inl rfl
  ·rw[if_neg c2];exact .inr ⟨by omega,by omega,by omega,by omega,by omega,by omega⟩
def cU:Nat→List Int→Int→List eP→List eP
 |0,_,_,out=>out
 |k+1,b,a,out=>
  if a<b.length then
   if 0<(bO b a).1 then cU k b (a+(bO b a).1) (out++ [((bO b a).1,(bO b a).2,0)])
   else cU k b (a+1) (out++ [(0,0,b.getD a.toNat 0)])
  else out
abbrev Al:Type:=(List Int)×Int×(List (Int×Int×Int))
abbrev Am:aQ St Al:=(aT (ae (ah (gg false false (Ty.int IntKind.u8))) (jk 2 (ai (ah (j0 (0) (0))) (ae (ah
 (aA i64)) (jk 35 ag))))) (ae (cE (0) ((Ty.int i64).pair ((Ty.int i64).pair (Ty.int IntKind.u8)))) ag)).lV (fun y=>
 (y.1.1,y.1.2.1,y.2.1)) (fun x=>((x.1,(x.2.1,())),(x.2.2,()))) (fun _=>rfl)
abbrev PB:List Wk:= [.cP 3 kr,.fr (cb 40 [(0,.ak),(3,.ak),(4,.ak)]),.syms,.auto,.aF]
abbrev aer:Exit→List Wk:=wT PB 0 [.cP 3 kr,.fr (cb 40 [(3,.ak)]),.syms,.auto,.aF] [.cP 3 kr,.fr (cb 40 [(2,.ak)]),
 .syms,.auto,.aF]
abbrev PC:Type:=List (Int×Int×Int)
abbrev aes(x:PC):Exit×St:=(Exit.exit 0,⟨(gA 3 (LV.one (VV.sc (SV.sl 0 0))::(gA 36 []))),[some (Item.own 0 ((Ty.int
 i64).pair ((Ty.int i64).pair (Ty.int IntKind.u8))) x)]⟩)
def An(b':List Int)(a:Int)(out:List (Int×Int×Int)):Tr (Al⊕(PC)):=(.ite (decide (a<(↑b'.length:Int)))
 (.need (0≤a∧a<(↑b'.length:Int)) (.need (tG b' a) (.ite (decide (0<(bO b' a).fst)) (.need ((out.length+1)*24≤70368744177664∧
 out.length+1≤70368744177664) (.need (jv ((bO b' a).fst,(bO b' a).snd,0)) (.ret (.inl (b',i64.wrap (a+cL ((bO b'
 a).fst,(bO b' a).snd,0)),out++ [((bO b' a).fst,(bO b' a).snd,0)]))))) (.need ((out.length+1)*24≤70368744177664∧out.length+1≤
 70368744177664) (.need (jv (0,0,b'.getD a.toNat 0)) (.ret (.inl (b',i64.wrap (a+1),out++ [(0,0,b'.getD a.toNat 0)])))))))) (.ret
 (.inr (out))))
theorem PD(b:List Int)(b':List Int)(a:Int)(out:List (Int×Int×Int)):ct Tryz.prog [(129,Pv),(130,vu)] [] f75 0 ((ag).wr (())) aer (Am.wr (b',a,out))=(An b' a out).res Am.wr aes:=by kernel_rfl
abbrev Ao(b':List Int)(a:Int)(out:List (Int×Int×Int)):Prop:=0≤a∧a≤b'.length∧b'.length≤8192∧out.length≤a
abbrev PE(b':List Int)(a:Int)(out:List (Int×Int×Int)):PC:=cU 9000 b' a out
abbrev PF:Al→aG:=e9 (fun x_=>Ao x_.1 x_.2.1 x_.2.2) (fun x_=>PE x_.1 x_.2.1 x_.2.2) aes
theorem aet(b':List Int)(a:Int)(out:List (Int×Int×Int))(h_:Ao b' a out):cK (fun x_:Al=>An x_.1 x_.2.1 x_.2.2) (b',a,out) (PE b' a out):=by
 delta PE;obtain⟨h1,h2,h3,h4⟩:=h_;obtain⟨f,hf1,hf2⟩:∃f:Nat,f=9000∧((b'.length:Int)-a).toNat<f:=⟨9000,rfl,by omega⟩;rw[← hf1];clear hf1
 induction f generalizing a out with
 |zero=>omega
 |succ f ih=>
  rw[cU]
  by_cases hc:a<b'.length
  ·rw[if_pos hc];have hr:=na b' a;have hp:tG b' a:=⟨by omega,by omega⟩
   by_cases hb:0<(bO b' a).1
   ·have hr2:=hr.resolve_left (fun h=>by rw[h]at hb;simp at hb);have hl:cL ((bO b' a).1,(bO b' a).2,0)=(bO b' a).1:=(by unfold cL;rw[if_neg (by simp only;omega)]);have w1:i64.wrap (a+(bO b' a).1)=a+(bO b' a).1:=au (by omega) (by omega);rw[if_pos hb];refine .go ?_ (ih _ _ (by omega) (by omega) (by simp;omega) (by omega));simp only[An,a5,aq,ao,hl,w1];exact⟨fun _=>⟨⟨h1,hc⟩,hp,fun _=>⟨⟨by omega,by omega⟩,trivial,trivial⟩,fun h=>absurd hb h⟩,fun h=>absurd hc h⟩
   ·have w1:i64.wrap (a+1)=a+1:=au (by omega) (by omega);rw[if_neg hb];refine .go ?_ (ih _ _ (by omega) (by omega) (by simp;omega) (by omega));simp only[An,a5,aq,ao,w1];exact⟨fun _=>⟨⟨h1,hc⟩,hp,fun h=>absurd h hb,fun _=>⟨⟨by omega,by omega⟩,trivial,trivial⟩⟩,fun h=>absurd hc h⟩
  ·rw[if_neg hc];refine .stop ?_;simp only[An,a5,aq,ao];exact⟨fun h=>absurd h hc,fun _=>trivial⟩
theorem Xf(b:List Int):∀x:Al,Ex Tryz.prog ((ag).wr (())) (.loop (aP f75 0)) (Am.wr x) (PF x):=
 cn mixed ((al JV (al oE aw))) (ws:=aer) (aK.nil _) (fun x_=>PD b x_.1 x_.2.1 x_.2.2) (fun z e=>by cases e) fH (fun x_ h=>aet x_.1 x_.2.1 x_.2.2 h)
abbrev tJ:Type:=(List Int)×Int×(List (Int×Int×Int))
abbrev tK:aQ St tJ:=(aT (ae (ah (gg false false (Ty.int IntKind.u8))) (jk 2 (ai (ah (j0 (0) (0))) (ae
 (ah (aA i64)) (jk 39 ag))))) (ae (cE (0) ((Ty.int i64).pair ((Ty.int i64).pair (Ty.int IntKind.u8)))) ag)).lV
 (fun y=>(y.1.1,y.1.2.1,y.2.1)) (fun x=>((x.1,(x.2.1,())),(x.2.2,()))) (fun _=>rfl)
abbrev Gm:List Wk:= [.cP 3 kr,.fr (cb 44 [(0,.ak),(3,.ak),(4,.ak)]),.syms,.auto,.aF]
abbrev TV:Exit→List Wk:=wT Gm 0 [.cP 3 kr,.fr (cb 44 [(3,.ak)]),.syms,.auto,.aF] [.cP 3 kr,.fr (cb 44 [(2,
 .ak)]),.syms,.auto,.aF]
def Ap(b':List Int)(a:Int)(out:List (Int×Int×Int)):Int:=(↑b'.length:Int)
abbrev Gn:Type:=List (Int×Int×Int)
abbrev TW(x:Gn):Exit×St:=(Exit.exit 0,⟨(gA 3 (LV.one (VV.sc (SV.sl 0 0))::(gA 40 []))),[some (Item.own 0
 ((Ty.int i64).pair ((Ty.int i64).pair (Ty.int IntKind.u8))) x)]⟩)
def tL(b':List Int)(a:Int)(out:List (Int×Int×Int)):Tr (tJ⊕(Gn)):=(.ite (decide (a<Ap b' a out)
 ==true) (.ite (decide (Ap b' a out≤8192)) (.need (tI b' a) (.ite ((bO b' a).fst==0) (.need (0≤a∧a<(↑b'.length:Int)) (.need
 ((out.length+1)*24≤70368744177664∧out.length+1≤70368744177664) (.ret (.inl (b',i64.wrap (a+1),out++ [(0,0,b'.getD a.toNat
 0)]))))) (.need ((out.length+1)*24≤70368744177664∧out.length+1≤70368744177664) (.ret (.inl (b',i64.wrap (a+(bO b' a).fst),
 out++ [((bO b' a).fst,(bO b' a).snd,0)])))))) (.ret (.inr (out)))) (.ret (.inr (out))))
theorem JX(b:List Int)(b':List Int)(a:Int)(out:List (Int×Int×Int)):ct Tryz.prog [(208,PA)] [] f141 0 ((ag).wr (())) TV (tK.wr (b',a,out))=(tL b' a out).res tK.wr TW:=by kernel_rfl
abbrev vU(b':List Int)(a:Int)(out:List (Int×Int×Int)):Prop:=0≤a∧a≤b'.length∧b'.length≤8192∧out.length≤a
abbrev Gp(b':List Int)(a:Int)(out:List (Int×Int×Int)):Gn:=cU 9000 b' a out
abbrev Gq:tJ→aG:=e9 (fun x_=>vU x_.1 x_.2.1 x_.2.2) (fun x_=>Gp x_.1 x_.2.1 x_.2.2) TW
theorem Xg(b':List Int)(a:Int)(out:List (Int×Int×Int))(h_:vU b' a out):cK (fun x_:tJ=>tL x_.1 x_.2.1 x_.2.2) (b',a,out) (Gp b' a out):=by
 delta Gp;obtain⟨h1,h2,h3,h4⟩:=h_;obtain⟨f,hf1,hf2⟩:∃f:Nat,f=9000∧((b'.length:Int)-a).toNat<f:=⟨9000,rfl,by omega⟩;rw[← hf1];clear hf1;have e2:decide ((b'.length:Int)≤8192)=true:=by simp;omega
 induction f generalizing a out with
 |zero=>omega
 |succ f ih=>
  have ea:Ap b' a out=(b'.length:Int):=rfl;rw[cU]
  by_cases hc:a<b'.length
  ·rw[if_pos hc];have e1:(decide (a<(b'.length:Int))==true)=true:=(by simpa using hc);have hr:=na b' a;have hp:tI b' a:=by show _<_;omega
   by_cases hb:0<(bO b' a).1
   ·have hr2:=hr.resolve_left (fun h=>by rw[h]at hb;simp at hb);have w1:i64.wrap (a+(bO b' a).1)=a+(bO b' a).1:=au (by omega) (by omega);rw[if_pos hb];refine .go ?_ (ih _ _ (by omega) (by omega) (by simp;omega) (by omega));simp only[tL,ea,e1,e2,a6,dV,aq,ao,w1];exact⟨hp,fun h=>by omega,fun _=>⟨⟨by omega,by omega⟩,trivial⟩⟩
   ·have hz:(bO b' a).1=0:=by rcases hr with h|h
                              · rw[h]
                              · omega
    have w1:i64.wrap (a+1)=a+1:=au (by omega) (by omega);rw[if_neg hb];refine .go ?_ (ih _ _ (by omega) (by omega) (by simp;omega) (by omega));simp only[tL,ea,e1,e2,a6,dV,aq,ao,w1];exact⟨hp,fun _=>⟨⟨h1,hc⟩,⟨by omega,by omega⟩,trivial⟩,fun h=>absurd hz h⟩
  ·rw[if_neg hc];refine .stop ?_;have e1:(decide (a<(b'.length:Int))==true)=false:=(by simpa using hc);simp only[tL,ea,e1,bw,ao]
theorem PG(b:List Int):∀x:tJ,Ex Tryz.prog ((ag).wr (())) (.loop (aP f141 0)) (tK.wr x) (Gq x):=
 cn mixed ((al JW aw)) (ws:=TV) (aK.nil _) (fun x_=>JX b x_.1 x_.2.1 x_.2.2) (fun z e=>by cases e) fH (fun x_ h=>Xg x_.1 x_.2.1 x_.2.2 h)
abbrev xU:Type:=Unit
abbrev TX(x:xU):LV:=LV.one (VV.sc (SV.gY (Value.slice none 0 0)))
abbrev TY(x:xU):List (Nat×Ev.Item):= []
abbrev xV:Type:=List (Int×Int×Int)
abbrev TZ(x:xV):LV:=LV.one (VV.sc (SV.sl 0 0))
abbrev T0(x:xV):List (Nat×Ev.Item):= [(0,Item.own 0 ((Ty.int i64).pair ((Ty.int i64).pair (Ty.int
 IntKind.u8))) x)]
def Gr(b:List Int):Tr (xU⊕xV):=(.ite (decide (8192<(↑b.length:Int))) (.ret (.inl ())) (.need (Ao b 0 [])
 (.ret (.inr (cU 9000 b 0 [])))))
theorem PH(b:List Int):aH Tryz.prog [(129,Pv),(130,vu)] [(0,bU Am ((ag).wr (())) PB (PF))] f75 (((ae (ah (gg false false u8)) ag)).wr (b,())) ((ag).wr (())) [.cP 2 kr,.cP 3 kr,.fr [.sym],.syms,.auto,.aF]=(Gr b).end (Sum.elim TX TZ) (Sum.elim TY T0) ((ag).wr (())):=by kernel_rfl
theorem Xh(b:List Int):aK Tryz.prog ((ag).wr (())) [(0,bU Am ((ag).wr (())) PB (PF))] (aJ f75):=(aK.bI (iu (by kernel_rfl) (bM (hp:=(ag).wr (())) (Xf b)) iE))
abbrev tM(b:List Int):Prop:=True
abbrev Gs(b:List Int):Bool:=decide (8192<(b.length:Int))
abbrev PI(b:List Int):xU:=()
abbrev PJ(b:List Int):xV:=cU 9000 b 0 []
def aeu:an:=I5 [] ((ae (ah (gg false false u8)) ag)) (ag) (fun x_ y_=>tM x_.1) (fun x_ y_=>Gs x_.1) (fun x_ y_=>PI x_.1) (fun x_ y_=>PJ x_.1) TX TY TZ T0
theorem aev(b:List Int)(h_:tM b):(Gs b=true→(Gr b).Is (.inl (PI b)))∧(Gs b=false→(Gr b).Is (.inr (PJ b))):=by
 delta Gs PI PJ;simp only[Gr,aq,a5,ao,decide_eq_true_eq,decide_eq_false_iff_not];refine⟨fun h=>⟨fun _=>trivial,fun h2=>absurd h h2⟩,fun h=>⟨fun h2=>absurd h2 h,fun _=>⟨⟨by omega,by omega,by omega,by simp⟩,trivial⟩⟩⟩
theorem aew:aeu.Ok Tryz.prog 75:=
 Ey mixed ((al JV (al oE aw))) func75 (by kernel_rfl) call75 (fun x_ y_=>Xh x_.1) (fun x_ y_=>PH x_.1) (fun x_ y_ h=>aev x_.1 h)
abbrev Gt:Type:=List (Int×Int×Int)
abbrev aex(x:Gt):LV:=LV.one (VV.sc (SV.sl 0 0))
abbrev aey(x:Gt):List (Nat×Ev.Item):= [(0,Item.own 0 ((Ty.int i64).pair ((Ty.int i64).pair (Ty.int
 IntKind.u8))) x)]
def PK(b:List Int):Tr (Gt):=(.need (vU b 0 []) (.ret (cU 9000 b 0 [])))
theorem PL(b:List Int):aH Tryz.prog [(208,PA)] [(0,bU tK ((ag).wr (())) Gm (Gq))] f141 (((ae (ah (gg false false u8)) ag)).wr (b,())) ((ag).wr (())) [.cP 2 kr,.cP 3 kr,.fr [.sym],.syms,.auto,.aF]=(PK b).end aex aey ((ag).wr (())):=by kernel_rfl
theorem Xi(b:List Int):aK Tryz.prog ((ag).wr (())) [(0,bU tK ((ag).wr (())) Gm (Gq))] (aJ f141):=(aK.bI (iu (by kernel_rfl) (bM (hp:=(ag).wr (())) (PG b)) iE))
abbrev tN(b:List Int):Prop:=b.length≤8192
abbrev PM(b:List Int):Gt:=cU 9000 b 0 []
def aez:an:=cQ [] ((ae (ah (gg false false u8)) ag)) (ag) (fun x_ y_=>tN x_.1) (fun x_ y_=>PM x_.1) aex aey
theorem aeA(b:List Int)(h_:tN b):(PK b).Is (PM b):=by
 delta PM;simp only[PK,aq,ao];exact⟨⟨by omega,by omega,h_,by simp⟩,trivial⟩
theorem aeB:aez.Ok Tryz.prog 141:=
 bJ mixed ((al JW aw)) func141 (by kernel_rfl) call141 (fun x_ y_=>Xi x_.1) (fun x_ y_=>PL x_.1) (fun x_ y_ h=>aeA x_.1 h)
theorem oN{b:List Int}(hb:aN b)(hl:b.length≤8192):∀ (k:Nat) (a:Int) (out:List eP),0≤a→a≤b.length→((b.length:Int)-a).toNat<k→b8 0 out=true→gF out=a→qQ out→(out.length:Int)≤a→
  b8 0 (cU k b a out)=true∧gF (cU k b a out)=b.length∧qQ (cU k b a out)∧(cU k b a out).length≤b.length
 |0,a,out,h1,h2,h3,_,_,_,_=>by omega
 |k+1,a,out,h1,h2,h3,h4,h5,h6,h7=>by
  rw[cU]
  split
  ·rename_i hc
   split
   ·rename_i hn;have hr:=(na b a).resolve_left (fun h=>by rw[h]at hn;simp at hn);have aps:cL ((bO b a).1,(bO b a).2,0)=(bO b a).1:=by unfold cL;rw[if_neg (by simp only;omega)]
    have aBK:mY ((bO b a).1,(bO b a).2,0) a=true:=by
     unfold mY;rw[if_neg (by simp only;omega)];simp;omega
    refine oN hb hl k _ _ (by omega) (by omega) (by omega) ?_ ?_ ?_ (by simp;omega)
    ·rw[m9,h4,h5,Int.zero_add,b8,b8,aBK,aps];simp;omega
    ·rw[m8,h5];simp[gF,aps]
    ·intro t ht;rw[List.mem_append]at ht;rcases ht with ht|ht
     ·exact h6 t ht
     ·have:t=((bO b a).1,(bO b a).2,0):=(by simpa using ht);rw[this];simp
   ·refine oN hb hl k _ _ (by omega) (by omega) (by omega) ?_ ?_ ?_ (by simp;omega)
    ·rw[m9,h4,h5,Int.zero_add,b8,b8];simp[mY,cL];omega
    ·rw[m8,h5];simp[gF,cL]
    ·intro t ht;rw[List.mem_append]at ht;rcases ht with ht|ht
     ·exact h6 t ht
     ·have:t=(0,0,b.getD a.toNat 0):=(by simpa using ht);rw[this];exact hb.getD _
  ·rename_i hc;exact⟨h4,by omega,h6,by omega⟩
def gB(b:List Int):Int×List Int:=
 if 8192<(b.length:Int)then(10,[])else if 4096<((fN (cU 9000 b 0 [])).length:Int)then(10,[])else(0,fN (cU 9000 b 0 []))
abbrev xW:Type:=Int
abbrev T1(x:xW):LV:=LV.c6 [VV.sc (SV.gY (Value.slice none 0 0)),VV.sc (SV.int i64 (SI.sym x))]
abbrev T2(x:xW):List (Nat×Ev.Item):= []
abbrev xX:Type:=(List Int)×Int
abbrev T3(x:xX):LV:=LV.c6 [VV.sc (SV.rd true false (Ty.int IntKind.u8) x.1),VV.sc (SV.int i64 (SI.sym x.2))]
abbrev T4(x:xX):List (Nat×Ev.Item):= []
def vV(b:List Int):Tr (xW⊕xX):=(.ite (decide (8192<(↑b.length:Int))) (.ret (.inl (10))) (.ite (decide (8192<
 (↑b.length:Int))) (.need (tM b) (.need (oJ []) (.ite (decide ((4096:Int)<4)) (.ret (.inl (10))) (.ret (.inr (fN [],0)))))) (.need
 (tM b) (.need (oJ (cU 9000 b 0 [])) (.ite (decide (4096<(↑(fN (cU 9000 b 0 [])).length:Int))) (.ret (.inl (10))) (.ret (.inr
 (fN (cU 9000 b 0 []),0))))))))
theorem PN(b:List Int):aH Tryz.prog [(75,aeu),(74,acD)] [] f35 (((ae (ah (gg false false u8)) ag)).wr (b,())) ((ag).wr (())) [.fr [.sym],.syms,.auto,.aF]=(vV b).end (Sum.elim T1 T3) (Sum.elim T2 T4) ((ag).wr (())):=by kernel_rfl
theorem Xj(b:List Int):aK Tryz.prog ((ag).wr (())) [] (aJ f35):=(aK.nil _)
abbrev jz(b:List Int):Prop:=aN b∧b.length<1099511627776
abbrev Gu(b:List Int):Bool:=decide ((gB b).1≠0)
abbrev PO(b:List Int):xW:=(gB b).1
abbrev PQ(b:List Int):xX:=((gB b).2,0)
def PR:an:=I5 [some u8] ((ae (ah (gg false false u8)) ag)) (ag) (fun x_ y_=>jz x_.1) (fun x_ y_=>Gu x_.1) (fun x_ y_=>PO x_.1) (fun x_ y_=>PQ x_.1) T1 T2 T3 T4
theorem aeC(b:List Int)(h_:jz b):(Gu b=true→(vV b).Is (.inl (PO b)))∧(Gu b=false→(vV b).Is (.inr (PQ b))):=by
 delta Gu PO PQ;obtain⟨h1,h2⟩:=h_
 by_cases c:8192<(b.length:Int)
 ·have e:gB b=(10,[]):=by unfold gB;rw[if_pos c]
  have e1:decide (8192<(b.length:Int))=true:=by simpa using c
  simp only[e,vV,e1,a6,ao];simp
 ·obtain⟨k1,k2,k3,k4⟩:=oN h1 (by omega) 9000 0 [] (by omega) (by omega) (by omega) rfl rfl (fun t h=>by simp at h) (by simp);have e1:decide (8192<(b.length:Int))=false:=by simpa using c
  have p1:oJ (cU 9000 b 0 []):=⟨by omega,k3⟩
  by_cases c2:4096<((fN (cU 9000 b 0 [])).length:Int)
  ·have e:gB b=(10,[]):=(by unfold gB;rw[if_neg c,if_pos c2]);have e2:decide (4096<((fN (cU 9000 b 0 [])).length:Int))=true:=(by simpa using c2);simp only[e,vV,e1,e2,a6,bw,aq,ao];simp;exact p1
  ·have e:gB b=(0,fN (cU 9000 b 0 [])):=(by unfold gB;rw[if_neg c,if_neg c2]);have e2:decide (4096<((fN (cU 9000 b 0 [])).length:Int))=false:=(by simpa using c2);simp only[e,vV,e1,e2,a6,bw,aq,ao];simp;exact p1
theorem JY:PR.Ok Tryz.prog 35:=
 Ey mixed ((al aew (al acF aw))) func35 (by kernel_rfl) call35 (fun x_ y_=>Xj x_.1) (fun x_ y_=>PN x_.1) (fun x_ y_ h=>aeC x_.1 h)
abbrev Gv:Type:=Int
abbrev aeD(x:Gv):LV:=LV.c6 [VV.sc (SV.gY (Value.slice none 0 0)),VV.sc (SV.int i64 (SI.sym x))]
abbrev aeE(x:Gv):List (Nat×Ev.Item):= []
abbrev Gw:Type:=Int×(List Int)
abbrev aeF(x:Gw):LV:=LV.c6 [VV.sc (SV.sl 0 0),VV.sc (SV.int i64 (SI.sym x.1))]
abbrev aeG(x:Gw):List (Nat×Ev.Item):= [(0,Item.own 0 (Ty.int IntKind.u8) x.2)]
def CS(b:List Int):Tr (Gv⊕Gw):=(.ite (decide (8192<(↑b.length:Int))) (.ret (.inl (10))) (.need (tN b)
 (.need (tm (cU 9000 b 0 [])) (.ite (decide (4096<(↑(fN (cU 9000 b 0 [])).length:Int))) (.ret (.inl (10))) (.ret (.inr (0,fN
 (cU 9000 b 0 []))))))))
theorem Xk(b:List Int):aH Tryz.prog [(141,aez),(140,acK)] [] f86 (((ae (ah (gg false false u8)) ag)).wr (b,())) ((ag).wr (())) [.fr [.sym],.syms,.auto,.aF]=(CS b).end (Sum.elim aeD aeF) (Sum.elim aeE aeG) ((ag).wr (())):=by kernel_rfl
theorem aeH(b:List Int):aK Tryz.prog ((ag).wr (())) [] (aJ f86):=(aK.nil _)
abbrev tO(b:List Int):Prop:=aN b∧b.length<1099511627776
abbrev T5(b:List Int):Bool:=decide ((gB b).1≠0)
abbrev aeI(b:List Int):Gv:=(gB b).1
abbrev aeJ(b:List Int):Gw:=(0,(gB b).2)
def apt:an:=I5 [some u8] ((ae (ah (gg false false u8)) ag)) (ag) (fun x_ y_=>tO x_.1) (fun x_ y_=>T5 x_.1) (fun x_ y_=>aeI x_.1) (fun x_ y_=>aeJ x_.1) aeD aeE aeF aeG
theorem akR(b:List Int)(h_:tO b):(T5 b=true→(CS b).Is (.inl (aeI b)))∧(T5 b=false→(CS b).Is (.inr (aeJ b))):=by
 delta T5 aeI aeJ;obtain⟨h1,h2⟩:=h_
 by_cases c:8192<(b.length:Int)
 ·have e:gB b=(10,[]):=by unfold gB;rw[if_pos c]
  have e1:decide (8192<(b.length:Int))=true:=by simpa using c
  simp only[e,CS,e1,a6,ao];simp
 ·obtain⟨k1,k2,k3,k4⟩:=oN h1 (by omega) 9000 0 [] (by omega) (by omega) (by omega) rfl rfl (fun t h=>by simp at h) (by simp);have e1:decide (8192<(b.length:Int))=false:=by simpa using c
  have p1:tm (cU 9000 b 0 []):=⟨by omega,k3⟩;have p0:tN b:=by show _≤_;omega
  by_cases c2:4096<((fN (cU 9000 b 0 [])).length:Int)
  ·have e:gB b=(10,[]):=(by unfold gB;rw[if_neg c,if_pos c2]);have e2:decide (4096<((fN (cU 9000 b 0 [])).length:Int))=true:=(by simpa using c2);simp only[e,CS,e1,e2,a6,bw,aq,ao];simp;exact⟨p0,p1⟩
  ·have e:gB b=(0,fN (cU 9000 b 0 [])):=(by unfold gB;rw[if_neg c,if_neg c2]);have e2:decide (4096<((fN (cU 9000 b 0 [])).length:Int))=false:=(by simpa using c2);simp only[e,CS,e1,e2,a6,bw,aq,ao];simp;exact⟨p0,p1⟩
theorem akS:apt.Ok Tryz.prog 86:=
 Ey mixed ((al aeB (al acM aw))) func86 (by kernel_rfl) call86 (fun x_ y_=>aeH x_.1) (fun x_ y_=>Xk x_.1) (fun x_ y_ h=>akR x_.1 h)
def nb(k:Nat)(w:Int)(o:List Int):Prop:=4294967295*256 ^ o.length≤w*67 ^ k*4294967296
theorem qb{k:Nat}{w w1:Int}{o o1:List Int}(h:nb k w o)(hw:w≤w1*67)(hl:o1.length=o.length):nb (k+1) (dG w1 o1).1 (dG w1 o1).2:=by
 have hp:(0:Int)<67 ^ k:=Int.pow_pos (by decide)
 have h1:4294967295*256 ^ o1.length≤w1*67 ^ (k+1)*4294967296:=by
  unfold nb at h;rw[hl];refine Int.le_trans h (Int.mul_le_mul_of_nonneg_right ?_ (by decide));rw[Int.pow_succ,Int.mul_comm (67 ^ k),← Int.mul_assoc];exact Int.mul_le_mul_of_nonneg_right hw (Int.le_of_lt hp)
 unfold nb dG
 split
 ·simp only[List.length_append,List.length_cons,List.length_nil];rw[show o1.length+(0+1)=o1.length+1 from rfl,Int.pow_succ,← Int.mul_assoc,Int.mul_right_comm w1,Int.mul_right_comm _ 256];exact Int.mul_le_mul_of_nonneg_right h1 (by decide)
 ·exact h1
theorem CT{k m:Nat}{w:Int}{o:List Int}(h:nb k w o)(hw:0≤w)(hk:k≤m):nb m w o:=by
 refine Int.le_trans h (Int.mul_le_mul_of_nonneg_right (Int.mul_le_mul_of_nonneg_left ?_ hw) (by decide));have:=Nat.pow_le_pow_right (n:=67) (by omega) hk
 exact_mod_cast this
theorem CU{k:Nat}{p b w:Int}{o:List Int}(h:pS w o)(hw:nb k w o):nb (k+1) (bD p b w o).1 (bD p b w o).2:=by
 obtain⟨h1,h2,h3,h4⟩:=h;have hh:=fW p
 have hz:w≤(w/2048*aW p)*67∧w≤(w-w/2048*aW p)*67:=by
  generalize aW p=q at*;have e2:8192≤w/2048:=by omega
  have e3:w/2048*2048≤w∧w<w/2048*2048+2048:=by omega
  generalize w/2048=u at*;obtain⟨q1,q2⟩:=hh;have a1:u*31≤u*q:=Int.mul_le_mul_of_nonneg_left q1 (by omega);have a2:u*q≤u*2017:=Int.mul_le_mul_of_nonneg_left q2 (by omega);generalize u*q=z at*;omega
 unfold bD
 split
 ·exact qb hw hz.1 rfl
 ·exact qb hw hz.2 (eJ _ _ _)
theorem PS{k:Nat}{b w:Int}{o:List Int}(h:pS w o)(hw:nb k w o):nb (k+1) (dW b w o).1 (dW b w o).2:=by
 obtain⟨h1,h2,h3,h4⟩:=h;unfold dW
 split
 ·exact qb hw (by omega) rfl
 ·exact qb hw (by omega) (eJ _ _ _)
theorem nc:∀ (k n:Nat) (v node w:Int) (o p:List Int),pS w o→o.length+k<1099511627775→nb n w o→nb (n+k) (aZ k v node w o p).1 (aZ k v node w o p).2.1
 |0,_,_,_,_,_,_,_,_,h=>h
 |k+1,n,v,node,w,o,p,h,hl,hw=>by
  have c1:=jt (p:=kj p node) (b:=v/2 ^ k%2) h (by omega);have cl:=ju (kj p node) (v/2 ^ k%2) w o;have cw:=CU (p:=kj p node) (b:=v/2 ^ k%2) h hw;have:=nc k (n+1) v (2*node+v/2 ^ k%2) _ _ (c9 p node (v/2 ^ k%2)) c1 (by omega) cw;rw[aZ,show n+(k+1)=n+1+k from by omega];exact this
theorem wW:∀ (k n:Nat) (v w:Int) (o:List Int),pS w o→o.length+k<1099511627775→nb n w o→nb (n+k) (dp k v w o).1 (dp k v w o).2
 |0,_,_,_,_,_,_,h=>h
 |k+1,n,v,w,o,h,hl,hw=>by
  have c1:=pT (b:=v/2 ^ k%2) h (by omega);have cl:=pU (v/2 ^ k%2) w o;have:=wW k (n+1) v _ _ c1 (by omega) (PS (b:=v/2 ^ k%2) h hw);rw[dp,show n+(k+1)=n+1+k from by omega];exact this
theorem aeK(t:eP){n:Nat}{s:List Int×Int}{p1 p2 p3:List Int}{w:Int}{o:List Int}(hs:SOk s p1 p2 p3)(h:pS w o)(hl:o.length+30<1099511627775)(hw:nb n w o):
  nb (n+(if t.1=0 then 9 else 21)) (lM t s p1 p2 p3 w o).2.2.2.2.1 (lM t s p1 p2 p3 w o).2.2.2.2.2:=by
 have c1:=jt (p:=s.1.getD s.2.toNat 0) (b:=if t.1=0 then 0 else 1) h (by omega);have cl:=ju (s.1.getD s.2.toNat 0) (if t.1=0 then 0 else 1) w o;have cw:=CU (p:=s.1.getD s.2.toNat 0) (b:=if t.1=0 then 0 else 1) h hw;unfold lM;simp only;generalize bD (s.1.getD s.2.toNat 0) (if t.1=0 then 0 else 1) w o=c at*
 split
 ·rw[hs.l1];exact nc 8 (n+1) t.2.2 1 c.1 c.2 p1 c1 (by omega) cw
 ·rw[hs.l2,hs.l3];have t1:=nc 8 (n+1) (t.1-2) 1 c.1 c.2 p2 c1 (by omega) cw;have tl:=gE 8 (t.1-2) 1 c.1 c.2 p2 c1 (by omega);generalize aZ 8 (t.1-2) 1 c.1 c.2 p2=x at*;have u1:=nc 6 (n+1+8) ((t.2.1-1)/64) 1 x.1 x.2.1 p3 tl.1 (by omega) t1;have ul:=gE 6 ((t.2.1-1)/64) 1 x.1 x.2.1 p3 tl.1 (by omega);generalize aZ 6 ((t.2.1-1)/64) 1 x.1 x.2.1 p3=y at*;exact wW 6 (n+1+8+6) (t.2.1-1) y.1 y.2.1 ul.1 (by omega) u1
theorem CV:∀ (l:List eP) {n:Nat} {made:Int} {s:List Int×Int} {p1 p2 p3:List Int} {w:Int} {o:List Int},SOk s p1 p2 p3→pS w o→o.length+21*l.length<1099500000000→nb n w o→(∀t∈l,t.1=0∨3≤t.1)→
  nb (n+9*(gF l).toNat) (fM l s p1 p2 p3 w o).1 (fM l s p1 p2 p3 w o).2
 | [],n,made,s,p1,p2,p3,w,o,hs,h,hl,hw,ht=>hw
 |t::l,n,made,s,p1,p2,p3,w,o,hs,h,hl,hw,ht=>by
  rw[List.length_cons]at hl;obtain⟨g1,g2,g3⟩:=Ft (t:=t) hs h (by omega);have f1:=aeK t hs h (by omega) hw
  have arL:∀l:List eP,(∀t∈l,t.1=0∨3≤t.1)→0≤gF l:=fun l=>by
   induction l with
   |nil=>intro _;simp[gF]
   |cons t l ih=>
    intro h;have:=ih fun t ht=>h t (List.mem_cons_of_mem _ ht);rw[gF]
    have:0≤cL t:=by
     unfold cL;rcases h t List.mem_cons_self with h'|h'
     ·rw[if_pos h'];omega
     ·rw[if_neg (by omega)];omega
    omega
  have hpl:=arL l fun t h=>ht t (List.mem_cons_of_mem _ h)
  have hk:(if t.1=0 then 9 else 21:Nat)≤9*(cL t).toNat∧0≤cL t:=by
   unfold cL;rcases ht t List.mem_cons_self with h'|h'
   ·rw[if_pos h',if_pos h'];omega
   ·rw[if_neg (by omega),if_neg (by omega)];omega
  have f2:=CT (m:=n+9*(cL t).toNat) f1 (by have:=g2.1;omega) (by omega);have:=CV l (made:=made) g1 g2 (by omega) f2 fun t h=>ht t (List.mem_cons_of_mem _ h);rw[fM,gF,show n+9*(cL t+gF l).toNat=n+9*(cL t).toNat+9*(gF l).toNat from by omega];exact this
theorem ry{b:List Int}:∀ (k:Nat) (a:Int) (out:List eP),(∀t∈out,t.1=0∨3≤t.1)→∀t∈cU k b a out,t.1=0∨3≤t.1
 |0,a,out,h=>h
 |k+1,a,out,h=>by
  rw[cU]
  split
  ·split
   ·rename_i hn;have hr:=(na b a).resolve_left (fun h=>by rw[h]at hn;simp at hn);refine ry k _ _ fun t ht=>?_;rw[List.mem_append]at ht;rcases ht with ht|ht
    ·exact h t ht
    ·have:t=((bO b a).1,(bO b a).2,0):=(by simpa using ht);rw[this];exact .inr hr.1
   ·refine ry k _ _ fun t ht=>?_;rw[List.mem_append]at ht;rcases ht with ht|ht
    ·exact h t ht
    ·have:t=(0,0,b.getD a.toNat 0):=(by simpa using ht);rw[this];exact .inl rfl
  ·exact h
def Xl:Nat:=4500
def Xm:Nat:=4097
theorem arM:(67:Int) ^ Xl*4294967296<256 ^ Xm:=by
 have h:(67:Nat) ^ Xl*4294967296<256 ^ Xm:=by decide+kernel
 have:=Int.ofNat_lt.2 h;rw[Int.natCast_mul,Int.natCast_pow,Int.natCast_pow]at this;exact this
theorem JZ{b:List Int}(hb:aN b)(h:b.length≤500):(gB b).1=0:=by
 unfold gB;rw[if_neg (by omega)];obtain⟨k1,k2,k3,k4⟩:=oN hb (by omega) 9000 0 [] (by omega) (by omega) (by omega) rfl rfl (fun t h=>by simp at h) (by simp);have kl:=ry (b:=b) 9000 0 [] (fun t h=>by simp at h);generalize cU 9000 b 0 []=l at*;have ok:=FB l akp acC (by simp;omega);have ep:fN l=(fM l ([1024,1024],0) (dx 8) (dx 8) (dx 6) 4294967295 [0,0,0,0]).2:=by unfold fN;rw[if_pos k1]
 have hw:=CV l (n:=0) (made:=0) akp acC (by simp;omega) (by unfold nb;decide) kl;rw[← ep]at ok hw;have hw2:=ok.1.2.1;have hw1:=ok.1.1;have hm:=CT (m:=Xl) hw (by omega) (by show _≤4500;omega);rw[if_neg];intro hc
 have h1:(4294967295:Int)*256 ^ (fN l).length≤4294967295*67 ^ Xl*4294967296:=
  Int.le_trans hm (Int.mul_le_mul_of_nonneg_right (Int.mul_le_mul_of_nonneg_right (by omega) (Int.le_of_lt (Int.pow_pos (by decide)))) (by decide))
 have h2:(256:Int) ^ Xm≤256 ^ (fN l).length:=by
  have h:=Int.ofNat_le.2 (Nat.pow_le_pow_right (n:=256) (by omega) (show Xm≤(fN l).length by show 4097≤_;omega));rw[Int.natCast_pow,Int.natCast_pow]at h;exact h
 have h3:(4294967295:Int)*256 ^ Xm≤4294967295*67 ^ Xl*4294967296:=Int.le_trans (Int.mul_le_mul_of_nonneg_left h2 (by decide)) h1;have h4:=arM;generalize (256:Int) ^ Xm=A at*;generalize (67:Int) ^ Xl=B at*;omega
abbrev apu:an:=Pe
theorem akT:apu.Ok Tryz.prog 87:=adF
abbrev T6:Type:=List Int
abbrev apv(x:T6):LV:=LV.one (VV.sc (SV.sl 0 0))
abbrev apw(x:T6):List (Nat×Ev.Item):= [(0,Item.own 0 (Ty.int IntKind.u8) x)]
def aeL(n:Int):Tr (T6):=(.ret ([IntKind.u8.wrap n,IntKind.u8.wrap (shr i64 n 8)]))
theorem Xn(n:Int):aH Tryz.prog [] [] f76 ((VZ).wr (n,())) ((ag).wr (())) [.fr [.sym],.syms,.auto,.aF]=(aeL n).end apv apw ((ag).wr (())):=by kernel_rfl
theorem aeM(n:Int):aK Tryz.prog ((ag).wr (())) [] (aJ f76):=(aK.nil _)
abbrev lj(n:Int):Prop:=0≤n∧n<65536
abbrev aeN(n:Int):T6:= [n%256,n/256]
def apx:an:=cQ [] (VZ) (ag) (fun x_ y_=>lj x_.1) (fun x_ y_=>aeN x_.1) apv apw
theorem akU(n:Int)(h_:lj n):(aeL n).Is (aeN n):=by
 delta aeN;obtain⟨h1,h2⟩:=h_
 have e:shr .i64 n 8=n/256:=by
  have:=cz .i64 n 8 (by decide);simpa using this
 simp only[aeL,ao,wrap_u8,e];rw[Int.emod_eq_of_lt (a:=n/256) (by omega) (by omega)]
theorem akV:apx.Ok Tryz.prog 76:=
 bJ mixed aw func76 (by kernel_rfl) call76 (fun x_ y_=>aeM x_.1) (fun x_ y_=>Xn x_.1) (fun x_ y_ h=>akU x_.1 h)
def aY(b:List Int):Int×List Int:=
 if b.length=0 then(1,[])else if(gB b).1≠0 then((gB b).1,[])
 else(0,[((gB b).2.length:Int)%256,((gB b).2.length:Int)/256,(b.length:Int)%256,(b.length:Int)/256]++(gB b).2)
theorem PT{b:List Int}(h:(gB b).1=0):b.length≤8192∧(gB b).2.length≤4096:=by
 unfold gB at*
 split at h
 ·cases h
 ·rename_i c;rw[if_neg c]
  split at h
  ·cases h
  ·rename_i c2;rw[if_neg c2];exact⟨by omega,by simp only;omega⟩
def fZ(b:List Int):Int:=(↑b.length:Int)
def oO(b:List Int):Int:=(↑(gB b).snd.length:Int)
def tP(b:List Int):List Int:= [[oO b%256,oO b/256],[fZ b%256,fZ b/256],(gB
 b).snd].flatten
abbrev tQ:Type:=Int
abbrev J0(x:tQ):LV:=LV.c6 [VV.sc (SV.gY (Value.slice none 0 0)),VV.sc (SV.int i64 (SI.sym x))]
abbrev J1(x:tQ):List (Nat×Ev.Item):= []
abbrev tR:Type:=Int×(List Int)
abbrev J2(x:tR):LV:=LV.c6 [VV.sc (SV.sl 0 0),VV.sc (SV.int i64 (SI.sym x.1))]
abbrev J3(x:tR):List (Nat×Ev.Item):= [(0,Item.own 0 (Ty.int IntKind.u8) x.2)]
def qc(b:List Int):Tr (tQ⊕tR):=(.ite (fZ b==0) (.ret (.inl (1))) (.ite (decide ¬(gB b).fst=0) (.need
 (jz b) (.ite ((gB b).fst !=0) (.ret (.inl ((gB b).fst))) (.need (lj 0) (.need (lj (fZ b)) (.need (4≤70368744177664∧3≤
 140737488355328) (.ret (.inr (0,[[0,0],[fZ b%256,fZ b/256],[]].flatten)))))))) (.need (jz b) (.ite ((0:Int)!=0) (.ret
 (.inl (0))) (.need (lj (oO b)) (.need (lj (fZ b)) (.need ((tP b).length≤70368744177664∧3≤140737488355328) (.ret (.inr
 (0,tP b))))))))))
theorem J4(b:List Int):aH Tryz.prog [(35,PR),(76,apx),(42,F8)] [] f37 (((ae (ah (gg false false u8)) ag)).wr (b,())) ((ag).wr (())) [.fr [.sym],.syms,.auto,.aF]=(qc b).end (Sum.elim J0 J2) (Sum.elim J1 J3) ((ag).wr (())):=by kernel_rfl
theorem PU(b:List Int):aK Tryz.prog ((ag).wr (())) [] (aJ f37):=(aK.nil _)
abbrev mC(b:List Int):Prop:=aN b∧b.length<1099511627776
abbrev xY(b:List Int):Bool:=decide ((aY b).1≠0)
abbrev Gx(b:List Int):tQ:=(aY b).1
abbrev Gy(b:List Int):tR:=(0,(aY b).2)
def Gz:an:=I5 [some u8] ((ae (ah (gg false false u8)) ag)) (ag) (fun x_ y_=>mC x_.1) (fun x_ y_=>xY x_.1) (fun x_ y_=>Gx x_.1) (fun x_ y_=>Gy x_.1) J0 J1 J2 J3
theorem Xo(b:List Int)(h_:mC b):(xY b=true→(qc b).Is (.inl (Gx b)))∧(xY b=false→(qc b).Is (.inr (Gy b))):=by
 delta xY Gx Gy;obtain⟨h1,h2⟩:=h_;have p0:jz b:=⟨h1,h2⟩;have ea:fZ b=(b.length:Int):=rfl;have B0:oO b=((gB b).2.length:Int):=rfl
 by_cases c:b.length=0
 ·have e:aY b=(1,[]):=by unfold aY;rw[if_pos c]
  have e1:(fZ b==0)=true:=by rw[ea,c];rfl
  simp only[e,qc,e1,a6,ao];simp
 ·have e1:(fZ b==0)=false:=by rw[ea,beq_eq_false_iff_ne];omega
  by_cases c2:(gB b).1=0
  ·obtain⟨k1,k2⟩:=PT c2
   have e:aY b=(0,[((gB b).2.length:Int)%256,((gB b).2.length:Int)/256,(b.length:Int)%256,(b.length:Int)/256]++(gB b).2):=by
    unfold aY;rw[if_neg c,if_neg (by simpa using c2)]
   have e2:decide ¬(gB b).1=0=false:=(by simpa using c2);have e3:((0:Int)!=0)=false:=rfl
   have ZU:tP b= [((gB b).2.length:Int)%256,((gB b).2.length:Int)/256,(b.length:Int)%256,(b.length:Int)/256]++(gB b).2:=by
    unfold tP;rw[ea,B0];simp
   have q1:lj (oO b):=(by rw[B0];exact⟨by omega,by omega⟩);have q2:lj (fZ b):=(by rw[ea];exact⟨by omega,by omega⟩);simp only[e,qc,e1,e2,e3,bw,a6,aq,ao];simp only[ZU];simp;exact⟨p0,q1,q2,by omega⟩
  ·have e:aY b=((gB b).1,[]):=(by unfold aY;rw[if_neg c,if_pos c2]);have e2:decide ¬(gB b).1=0=true:=(by simpa using c2);have e3:((gB b).1!=0)=true:=(by simpa using c2);simp only[e,qc,e1,e2,e3,bw,a6,aq,ao];simp[c2];exact p0
theorem CW:Gz.Ok Tryz.prog 37:=
 Ey mixed ((al JY (al akV (al oL aw)))) func37 (by kernel_rfl) call37 (fun x_ y_=>PU x_.1) (fun x_ y_=>J4 x_.1) (fun x_ y_ h=>Xo x_.1 h)
def T7(n:Nat):List Int:=List.replicate n 0
theorem B4{l:List Int}{j n:Nat}(h:j+n≤l.length):(List.range n).map (fun i=>l.getD (j+i) 0)=(l.drop j).take n:=by
 apply List.ext_getElem?
 intro i;simp only[List.getElem?_map,List.getElem?_take,List.getElem?_drop];rcases Nat.lt_or_ge i n with h1|h1
 ·rw[List.getElem?_range h1];simp[List.getD_eq_getElem?_getD,h1,List.getElem?_eq_getElem (show j+i<l.length by omega)]
 ·rw[List.getElem?_eq_none (by simpa using h1)];simp[show ¬i<n by omega]
theorem akW{b:List Int}(h:aN b)(n m:Nat):aN ((b.drop n).take m):=fun z hz=>h z (List.mem_of_mem_drop (List.mem_of_mem_take hz))
end Go.Proofs.YtnbkagglkajbkaaGreat
end
