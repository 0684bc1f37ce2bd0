/- What the laws lean on, part 8: a reader of code, plain facts, and what each function gives; no conditions. -/
import Derived.Test.YtjalaohajcpllaaGreatA7
section
set_option linter.unusedVariables false
set_option linter.unusedSimpArgs false
namespace Go.Proofs.YtjalaohajcpllaaGreat
open Go Go.Ev
set_option maxRecDepth 1000000
abbrev Kf:a9 Ev.Item Int:=(tY 163 (ak (jY 1 0) (ae (ay .u64) ag))).jQ (fun x=>x.1) (fun w=>(w,())) (fun _=>rfl)
abbrev ju:a9 Hp (Int×List Int×Unit):=ae (bG Kf) (ae (cg 0 u8) ag)
abbrev aaZ:Type:=Int×(List Int)
noncomputable abbrev aa0 (x:aaZ):LV:=LV.cV []
noncomputable abbrev aa1 (x:aaZ):List (Nat×Ev.Item):= [(0,Item.a8 [SV.sl 1 1,SV.int IntKind.u64 (SI.sym x.1)] 163),(1,Item.own 1
 (Ty.int IntKind.u8) x.2)]
noncomputable def Tt (w:Int) (l:List Int):Tr (aaZ):=(.ite (decide (w<16777216)) (.need ((l.length+1)*1≤70368744177664∧l.length+
 1≤70368744177664) (.ret (IntKind.u64.wrap (w*256),l++ [0]))) (.ret (w,l)))
theorem V9 (w:Int) (l:List Int):aY Tryz.prog [] [] Tryz.f141 ((dE).wr (())) ((ju).wr (w,l,())) [.one 1,.fr [.sym],.syms,.auto,.ax]=(Tt w l).end aa0 aa1 ((ju).wr (w,l,())):=by kernel_rfl
theorem aa2 (w:Int) (l:List Int):aP Tryz.prog ((ju).wr (w,l,())) [] (aH Tryz.f141):=(aP.nil _)
abbrev nz (w:Int) (l:List Int):Prop:=0≤w∧w<72057594037927936∧l.length<1099511627776
noncomputable def aa3:au:=au.bV [] (dE) (ju) fun x_ y_=> .leaf (some ((fun (w:Int) (l:List Int)=>nz w l) y_.1 y_.2.1)) (aa0 ((fun (w:Int) (l:List Int)=>ca w l) y_.1 y_.2.1)) (aa1 ((fun (w:Int) (l:List Int)=>ca w l) y_.1 y_.2.1))
theorem aiq (w:Int) (l:List Int) (h_:nz w l):(Tt w l).Is (ca w l):=by
 obtain ⟨h1,h2,h3⟩:=h_
 simp only[Tt,ca,aN,ai,aj]
 refine ⟨fun h=>⟨by omega,?_⟩,fun h=>?_⟩
 ·rw[if_pos h,wrap_u64 (by omega) (by omega)]
 ·rw[if_neg h]
theorem Tu:aa3.Ok Tryz.prog 141:=
 bM (tys:= []) (A:=dE) (H:=ju) (LT:=fun x_ y_=>(fun (w:Int) (l:List Int)=> []) y_.1 y_.2.1) (ks:= [.one 1,.fr [.sym],.syms,.auto,.ax]) (V:=aa0) (D:=aa1) (T:=fun x_ y_=>Tt y_.1 y_.2.1) (pre:=fun x_ y_=>(fun (w:Int) (l:List Int)=>nz w l) y_.1 y_.2.1) (sp:=fun x_ y_=>(fun (w:Int) (l:List Int)=>ca w l) y_.1 y_.2.1) mixed aD Tryz.func141 (by kernel_rfl) Tryz.call141 (fun x_ y_=>aa2 y_.1 y_.2.1) (fun x_ y_=>V9 y_.1 y_.2.1) (fun x_ y_ h=>aiq y_.1 y_.2.1 h)
abbrev Bk:Type:=Int×Int×Int×(List Int)
noncomputable abbrev xD:a9 St Bk:=(bH (ak (ah (aJ (0) (0))) (ae (ah (ay IntKind.u64)) (jk 2 (ae (ah (ay
 IntKind.i64)) (jk 35 ag))))) (ae (bG Kf) (ae (cg (0) (Ty.int IntKind.u8)) ag))).jQ (fun y=>(y.1.1,y.1.2.1,y.2.1,y.2.2.1)) (fun x
 =>((x.1,(x.2.1,())),(x.2.2.1,(x.2.2.2,())))) (fun _=>rfl)
abbrev Gd:List Wk:= [.fr (cK 40 [(0,.an),(1,.an),(4,.an)]),.syms,.auto,.ax]
abbrev aa4:Exit→List Wk:=qI Gd 0 [.fr (cK 40 []),.syms,.auto,.ax] [.fr (cK 40 []),.syms,.auto,.ax]
abbrev aa5:Type:=Int×(List Int)
noncomputable abbrev Ge (x:aa5):Exit×St:=(Exit.exit 0,⟨(eE 40 []),[some (Kf.wr x.1),some (Item.own 0 (Ty.int IntKind.u8) x.2)]⟩)
noncomputable def xE (m:Int) (i:Int) (w':Int) (l':List Int):Tr (Bk⊕(aa5)):=(.ite (decide (0≤i)==true) (.ite (decide (0<
 m)) (.need (0≤i∧i<(↑l'.length:Int)) (.need (0≤i∧i<(↑l'.length:Int)) (.ret (.inl (IntKind.u64.wrap ((IntKind.u64.wrap (m+
 IntKind.u64.wrap (l'.getD i.toNat 0))).tdiv 256),IntKind.i64.wrap (i-1),w',l'.set i.toNat (IntKind.u8.wrap ((IntKind.u64.wrap (m+
 IntKind.u64.wrap (l'.getD i.toNat 0))).tmod 256))))))) (.ret (.inr (w',l')))) (.ret (.inr (w',l'))))
theorem N8 (n:Int) (w:Int) (l:List Int) (m:Int) (i:Int) (w':Int) (l':List Int):c8 Tryz.prog [] [] Tryz.f140 0 ((ju).wr (w,l,())) aa4 (xD.wr (m,i,w',l'))=(xE m i w' l').res xD.wr Ge:=by kernel_rfl
abbrev um (m:Int) (i:Int) (w':Int) (l':List Int):Prop:= -1≤i∧i<l'.length∧l'.length<1099511627776∧0≤m∧m<72057594037927936∧aC l'
noncomputable abbrev Gf (x_:Bk):a6:= .need ((fun (m:Int) (i:Int) (w':Int) (l':List Int)=>um m i w' l') x_.1 x_.2.1 x_.2.2.1 x_.2.2.2) (.leaf (Ge ((fun (m:Int) (i:Int) (w':Int) (l':List Int)=>(w',cm (i+1).toNat m l')) x_.1 x_.2.1 x_.2.2.1 x_.2.2.2)).1 (Ge ((fun (m:Int) (i:Int) (w':Int) (l':List Int)=>(w',cm (i+1).toNat m l')) x_.1 x_.2.1 x_.2.2.1 x_.2.2.2)).2)
theorem aa6 (m:Int) (i:Int) (w':Int) (l':List Int) (h_:um m i w' l'):cJ (fun x_:Bk=>xE x_.1 x_.2.1 x_.2.2.1 x_.2.2.2) (m,i,w',l') ((w',cm (i+1).toNat m l')):=by
 obtain ⟨h1,h2,h6,h3,h4,h5⟩:=h_
 obtain ⟨k,hk⟩: ∃ k:Nat,i=(k:Int)-1:=⟨(i+1).toNat,by omega⟩
 subst hk
 clear h1
 induction k generalizing m l' with
 |zero=>
  refine .stop ?_
  simp only[xE,ib,aN,ai,aj]
  exact ⟨fun h=>by omega,fun h=>rfl⟩
 |succ k ih=>
  by_cases hm:0<m
  ·have hb:By (l'.getD k 0):=h5.getD k
   have hk:((k:Nat)+1:Int)-1=k:=by omega
   have j9:=ih ((m+l'.getD k 0)/256) (l'.set k ((m+l'.getD k 0)%256)) (by rw[List.length_set];omega) (by have:=hb.1;omega) (by have:=hb.2;omega) (h5.set k ⟨by omega,by omega⟩) (by rw[List.length_set];omega)
   have e:cm (((k+1:Nat):Int)-1+1).toNat m l'=cm ((k:Int)-1+1).toNat ((m+l'.getD k 0)/256) (l'.set k ((m+l'.getD k 0)%256)):=by
    rw[show (((k+1:Nat):Int)-1+1).toNat=k+1 from by omega,show ((k:Int)-1+1).toNat=k from by omega,cm,if_pos hm]
   rw[e]
   refine .go ?_ j9
   simp only[xE,ib,aN,ai,aj]
   have h2':(k:Int)<l'.length:=by omega
   have ek:(((k+1:Nat):Int)-1)=(k:Int):=by omega
   rw[ek]
   have e1:IntKind.u64.wrap (l'.getD k 0)=l'.getD k 0:=wrap_u64 hb.1 (by have:=hb.2;omega)
   have e2:IntKind.u64.wrap (m+l'.getD k 0)=m+l'.getD k 0:=wrap_u64 (by have:=hb.1;omega) (by have:=hb.2;omega)
   refine ⟨fun _=>⟨fun _=>⟨⟨by omega,h2'⟩,⟨by omega,h2'⟩,?_⟩,fun h=>absurd hm h⟩,fun h=>by omega⟩
   have hb1:=hb.1;have xb:=hb.2;have e3:IntKind.u64.wrap ((m+l'.getD k 0).tdiv 256)=(m+l'.getD k 0)/256:=by rw[Int.tdiv_eq_ediv_of_nonneg (by omega),wrap_u64 (by omega) (by omega)]
   have e4:IntKind.u8.wrap ((m+l'.getD k 0).tmod 256)=(m+l'.getD k 0)%256:=by rw[Int.tmod_eq_emod_of_nonneg (by omega),wrap_u8];omega
   rw[Int.toNat_natCast,e1,e2,e3,e4,aq (n:=(k:Int)-1) (by omega) (by omega)]
  ·have e:cm (((k+1:Nat):Int)-1+1).toNat m l'=l':=by
    rw[show (((k+1:Nat):Int)-1+1).toNat=k+1 from by omega,cm,if_neg hm]
   rw[e]
   refine .stop ?_
   simp only[xE,ib,aN,ai,aj]
   exact ⟨fun _=>⟨fun h=>absurd h hm,fun _=>trivial⟩,fun h=>by omega⟩
theorem Wa (n:Int) (w:Int) (l:List Int): ∀ x:Bk,Ex Tryz.prog ((ju).wr (w,l,())) (.loop (aU Tryz.f140 0)) (xD.wr x) (Gf x):=
 bT mixed aD (ws:=aa4) (aP.nil _) (E:=Ge) (L:=fun x_=>xE x_.1 x_.2.1 x_.2.2.1 x_.2.2.2) (pre:=fun x_=>(fun (m:Int) (i:Int) (w':Int) (l':List Int)=>um m i w' l') x_.1 x_.2.1 x_.2.2.1 x_.2.2.2) (sp:=fun x_=>(fun (m:Int) (i:Int) (w':Int) (l':List Int)=>(w',cm (i+1).toNat m l')) x_.1 x_.2.1 x_.2.2.1 x_.2.2.2) (fun x_=>N8 n w l x_.1 x_.2.1 x_.2.2.1 x_.2.2.2) (fun z e=>by cases e) dc (fun x_ h=>aa6 x_.1 x_.2.1 x_.2.2.1 x_.2.2.2 h)
abbrev aa7:Type:=List Int
noncomputable abbrev aa8 (x:aa7):LV:=LV.cV []
noncomputable abbrev aa9 (x:aa7):List (Nat×Ev.Item):= [(1,Item.own 0 (Ty.int IntKind.u8) x)]
noncomputable def Tv (n:Int) (w:Int) (l:List Int):Tr (aa7):=(.need (um n (IntKind.i64.wrap ((↑l.length:Int)-1)) w l) (.ret
 (cm (Int.toNat (IntKind.i64.wrap ((↑l.length:Int)-1)+1)) n l)))
theorem Wb (n:Int) (w:Int) (l:List Int):aY Tryz.prog [] [(0,aX xD ((ju).wr (w,l,())) Gd (Gf))] Tryz.f140 ((VY).wr (n,())) ((ju).wr (w,l,())) [.fr [.sym],.syms,.auto,.ax]=(Tv n w l).end aa8 aa9 ((ju).wr (w,l,())):=by kernel_rfl
theorem aba (n:Int) (w:Int) (l:List Int):aP Tryz.prog ((ju).wr (w,l,())) [(0,aX xD ((ju).wr (w,l,())) Gd (Gf))] (aH Tryz.f140):=(aP.cy (jr (by kernel_rfl) (bz (hp:=(ju).wr (w,l,())) (Wa n w l)) jH))
abbrev uo (n:Int) (w:Int) (l:List Int):Prop:=l.length<1099511627776∧0≤n∧n<72057594037927936∧aC l
noncomputable def abb:au:=au.bV [] (VY) (ju) fun x_ y_=> .leaf (some ((fun (n:Int) (w:Int) (l:List Int)=>uo n w l) x_.1 y_.1 y_.2.1)) (aa8 ((fun (n:Int) (w:Int) (l:List Int)=>cm l.length n l) x_.1 y_.1 y_.2.1)) (aa9 ((fun (n:Int) (w:Int) (l:List Int)=>cm l.length n l) x_.1 y_.1 y_.2.1))
theorem air (n:Int) (w:Int) (l:List Int) (h_:uo n w l):(Tv n w l).Is (cm l.length n l):=by
 obtain ⟨h1,h2,h3,h4⟩:=h_
 have e:IntKind.i64.wrap ((l.length:Int)-1)=l.length-1:=aq (by omega) (by omega)
 simp only[Tv,ai,aj,e]
 refine ⟨⟨by omega,by omega,h1,h2,h3,h4⟩,?_⟩
 rw[show ((l.length:Int)-1+1).toNat=l.length from by omega]
theorem Tw:abb.Ok Tryz.prog 140:=
 bM (tys:= []) (A:=VY) (H:=ju) (LT:=fun x_ y_=>(fun (n:Int) (w:Int) (l:List Int)=> [(0,aX xD ((ju).wr (w,l,())) Gd (Gf))]) x_.1 y_.1 y_.2.1) (ks:= [.fr [.sym],.syms,.auto,.ax]) (V:=aa8) (D:=aa9) (T:=fun x_ y_=>Tv x_.1 y_.1 y_.2.1) (pre:=fun x_ y_=>(fun (n:Int) (w:Int) (l:List Int)=>uo n w l) x_.1 y_.1 y_.2.1) (sp:=fun x_ y_=>(fun (n:Int) (w:Int) (l:List Int)=>cm l.length n l) x_.1 y_.1 y_.2.1) mixed aD Tryz.func140 (by kernel_rfl) Tryz.call140 (fun x_ y_=>aba x_.1 y_.1 y_.2.1) (fun x_ y_=>Wb x_.1 y_.1 y_.2.1) (fun x_ y_ h=>air x_.1 y_.1 y_.2.1 h)
abbrev abc:Type:=Int×Int×(List Int)
noncomputable abbrev abd (x:abc):LV:=LV.one (VV.sc (SV.int IntKind.i64 (SI.sym x.1)))
noncomputable abbrev abe (x:abc):List (Nat×Ev.Item):= [(0,Item.a8 [SV.sl 1 1,SV.int IntKind.u64 (SI.sym x.2.1)] 163),(1,Item.own 1
 (Ty.int IntKind.u8) x.2.2)]
noncomputable def Tx (p:Int) (b:Int) (w:Int) (l:List Int):Tr (abc):=(.ite (b==0) (.need (nz (IntKind.u64.wrap (IntKind.u64.wrap
 (w.tdiv 2048)*IntKind.u64.wrap (aM p))) l) (.ret (cq p b,(ca (IntKind.u64.wrap (IntKind.u64.wrap (w.tdiv 2048)*IntKind.u64.wrap (aM
 p))) l).fst,(ca (IntKind.u64.wrap (IntKind.u64.wrap (w.tdiv 2048)*IntKind.u64.wrap (aM p))) l).snd))) (.need (uo (IntKind.u64.wrap
 (IntKind.u64.wrap (w.tdiv 2048)*IntKind.u64.wrap (aM p))) w l) (.need (nz (IntKind.u64.wrap (w-IntKind.u64.wrap (IntKind.u64.wrap (w.tdiv
 2048)*IntKind.u64.wrap (aM p)))) (cm l.length (IntKind.u64.wrap (IntKind.u64.wrap (w.tdiv 2048)*IntKind.u64.wrap (aM p))) l)) (.ret
 (cq p b,(ca (IntKind.u64.wrap (w-IntKind.u64.wrap (IntKind.u64.wrap (w.tdiv 2048)*IntKind.u64.wrap (aM p)))) (cm l.length
 (IntKind.u64.wrap (IntKind.u64.wrap (w.tdiv 2048)*IntKind.u64.wrap (aM p))) l)).fst,(ca (IntKind.u64.wrap (w-IntKind.u64.wrap
 (IntKind.u64.wrap (w.tdiv 2048)*IntKind.u64.wrap (aM p)))) (cm l.length (IntKind.u64.wrap (IntKind.u64.wrap (w.tdiv 2048)*IntKind.u64.wrap
 (aM p))) l)).snd)))))
theorem Wc (p b:Int) (w:Int) (l:List Int):aY Tryz.prog [(141,aa3),(140,abb),(139,F3),(142,tV)] [] Tryz.f100 ((oA).wr (p,b,())) ((ju).wr (w,l,())) [.one 1,.fr [.sym],.syms,.auto,.ax]=(Tx p b w l).end abd abe ((ju).wr (w,l,())):=by kernel_rfl
theorem abf (p b:Int) (w:Int) (l:List Int):aP Tryz.prog ((ju).wr (w,l,())) [] (aH Tryz.f100):=(aP.nil _)
abbrev qP (p b:Int) (w:Int) (l:List Int):Prop:=pe w l
noncomputable def Em:au:=au.bV [] (oA) (ju) fun x_ y_=> .leaf (some ((fun (p b:Int) (w:Int) (l:List Int)=>qP p b w l) x_.1 x_.2.1 y_.1 y_.2.1)) (abd ((fun (p b:Int) (w:Int) (l:List Int)=>(cq p b,ba p b w l)) x_.1 x_.2.1 y_.1 y_.2.1)) (abe ((fun (p b:Int) (w:Int) (l:List Int)=>(cq p b,ba p b w l)) x_.1 x_.2.1 y_.1 y_.2.1))
theorem ais (p b:Int) (w:Int) (l:List Int) (h_:qP p b w l):(Tx p b w l).Is ((cq p b,ba p b w l)):=by
 obtain ⟨h1,h2,h3,h4⟩:=h_
 have hb:=eI p h1 h2
 have hh:=eY p
 have e0:IntKind.u64.wrap (aM p)=aM p:=wrap_u64 (by omega) (by omega)
 have e1:IntKind.u64.wrap (w.tdiv 2048)=w/2048:=by rw[Int.tdiv_eq_ediv_of_nonneg (by omega),wrap_u64 (by omega) (by omega)]
 have e2:IntKind.u64.wrap (w/2048*aM p)=w/2048*aM p:=wrap_u64 (by omega) (by omega)
 have e3:IntKind.u64.wrap (w-w/2048*aM p)=w-w/2048*aM p:=wrap_u64 (by omega) (by omega)
 simp only[Tx,ba,da,ai,aj,e0,e1,e2,e3]
 refine ⟨fun h=>⟨⟨by omega,by omega,h4⟩,by rw[if_pos h]⟩,fun h=>⟨⟨h4,by omega,by omega,h3⟩,⟨by omega,by omega,by rw[bX];exact h4⟩,by rw[if_neg h]⟩⟩
theorem uq:Em.Ok Tryz.prog 100:=
 bM (tys:= []) (A:=oA) (H:=ju) (LT:=fun x_ y_=>(fun (p b:Int) (w:Int) (l:List Int)=> []) x_.1 x_.2.1 y_.1 y_.2.1) (ks:= [.one 1,.fr [.sym],.syms,.auto,.ax]) (V:=abd) (D:=abe) (T:=fun x_ y_=>Tx x_.1 x_.2.1 y_.1 y_.2.1) (pre:=fun x_ y_=>(fun (p b:Int) (w:Int) (l:List Int)=>qP p b w l) x_.1 x_.2.1 y_.1 y_.2.1) (sp:=fun x_ y_=>(fun (p b:Int) (w:Int) (l:List Int)=>(cq p b,ba p b w l)) x_.1 x_.2.1 y_.1 y_.2.1) mixed ((ao Tu (ao Tw (ao tU (ao qH aD))))) Tryz.func100 (by kernel_rfl) Tryz.call100 (fun x_ y_=>abf x_.1 x_.2.1 y_.1 y_.2.1) (fun x_ y_=>Wc x_.1 x_.2.1 y_.1 y_.2.1) (fun x_ y_ h=>ais x_.1 x_.2.1 y_.1 y_.2.1 h)
abbrev N9:Type:=Int×(List Int)
noncomputable abbrev Oa (x:N9):LV:=LV.cV []
noncomputable abbrev Ob (x:N9):List (Nat×Ev.Item):= [(0,Item.a8 [SV.sl 1 1,SV.int IntKind.u64 (SI.sym x.1)] 163),(1,Item.own 1
 (Ty.int IntKind.u8) x.2)]
noncomputable def Gg (b:Int) (w:Int) (l:List Int):Tr (N9):=(.ite (b !=0) (.need (uo (IntKind.u64.wrap (w.tdiv 2))
 (IntKind.u64.wrap (w.tdiv 2)) l) (.need (nz (IntKind.u64.wrap (w.tdiv 2)) (cm l.length (IntKind.u64.wrap (w.tdiv 2)) l)) (.ret ((ca
 (IntKind.u64.wrap (w.tdiv 2)) (cm l.length (IntKind.u64.wrap (w.tdiv 2)) l)).fst,(ca (IntKind.u64.wrap (w.tdiv 2)) (cm l.length
 (IntKind.u64.wrap (w.tdiv 2)) l)).snd)))) (.need (nz (IntKind.u64.wrap (w.tdiv 2)) l) (.ret ((ca (IntKind.u64.wrap (w.tdiv 2)) l).fst,(ca
 (IntKind.u64.wrap (w.tdiv 2)) l).snd))))
theorem Oc (b:Int) (w:Int) (l:List Int):aY Tryz.prog [(141,aa3),(140,abb),(139,F3),(142,tV)] [] Tryz.f102 ((lQ).wr (b,())) ((ju).wr (w,l,())) [.one 1,.fr [.sym],.syms,.auto,.ax]=(Gg b w l).end Oa Ob ((ju).wr (w,l,())):=by kernel_rfl
theorem Wd (b:Int) (w:Int) (l:List Int):aP Tryz.prog ((ju).wr (w,l,())) [] (aH Tryz.f102):=(aP.nil _)
abbrev uu (b:Int) (w:Int) (l:List Int):Prop:=pe w l
noncomputable def Gh:au:=au.bV [] (lQ) (ju) fun x_ y_=> .leaf (some ((fun (b:Int) (w:Int) (l:List Int)=>uu b w l) x_.1 y_.1 y_.2.1)) (Oa ((fun (b:Int) (w:Int) (l:List Int)=>bY b w l) x_.1 y_.1 y_.2.1)) (Ob ((fun (b:Int) (w:Int) (l:List Int)=>bY b w l) x_.1 y_.1 y_.2.1))
theorem abg (b:Int) (w:Int) (l:List Int) (h_:uu b w l):(Gg b w l).Is (bY b w l):=by
 obtain ⟨h1,h2,h3,h4⟩:=h_
 have e1:w.tdiv 2=w/2:=Int.tdiv_eq_ediv_of_nonneg (by omega)
 have e2:IntKind.u64.wrap (w/2)=w/2:=wrap_u64 (by omega) (by omega)
 simp only[Gg,bY,xA,ai,aj,e1,e2]
 refine ⟨fun h=>⟨⟨by omega,by omega,h4⟩,by rw[if_pos h]⟩,fun h=>⟨⟨h4,by omega,by omega,h3⟩,⟨by omega,by omega,by rw[bX];exact h4⟩,by rw[if_neg h]⟩⟩
theorem Bl:Gh.Ok Tryz.prog 102:=
 bM (tys:= []) (A:=lQ) (H:=ju) (LT:=fun x_ y_=>(fun (b:Int) (w:Int) (l:List Int)=> []) x_.1 y_.1 y_.2.1) (ks:= [.one 1,.fr [.sym],.syms,.auto,.ax]) (V:=Oa) (D:=Ob) (T:=fun x_ y_=>Gg x_.1 y_.1 y_.2.1) (pre:=fun x_ y_=>(fun (b:Int) (w:Int) (l:List Int)=>uu b w l) x_.1 y_.1 y_.2.1) (sp:=fun x_ y_=>(fun (b:Int) (w:Int) (l:List Int)=>bY b w l) x_.1 y_.1 y_.2.1) mixed ((ao Tu (ao Tw (ao tU (ao qH aD))))) Tryz.func102 (by kernel_rfl) Tryz.call102 (fun x_ y_=>Wd x_.1 y_.1 y_.2.1) (fun x_ y_=>Oc x_.1 y_.1 y_.2.1) (fun x_ y_ h=>abg x_.1 y_.1 y_.2.1 h)
abbrev Od:Type:=Int×(List Int)
noncomputable abbrev Oe (x:Od):LV:=LV.one (VV.sc (SV.ptr 0 0))
noncomputable abbrev Of (x:Od):List (Nat×Ev.Item):= [(0,Item.a8 [SV.sl 1 0,SV.int IntKind.u64 (SI.sym x.1)] 163),(1,Item.own 0
 (Ty.int IntKind.u8) x.2)]
noncomputable def Og:Tr (Od):=(.need ((4:Int)=4∧(0:Int)≤4∧(4:Int)≤70368744177664∧(4:Int)≤70368744177664) (.ret
 (4294967295,List.replicate 4 (0:Int))))
theorem Oh:aY Tryz.prog [] [] Tryz.f99 ((ag).wr (())) ((ag).wr (())) [.fr [.sym],.syms,.auto,.ax]=(Og).end Oe Of ((ag).wr (())):=by kernel_rfl
theorem We:aP Tryz.prog ((ag).wr (())) [] (aH Tryz.f99):=(aP.nil _)
abbrev uv:Prop:=True
noncomputable def Gi:au:=au.bV [] (ag) (ag) fun x_ y_=> .leaf (some (uv)) (Oe ((4294967295,[0,0,0,0]))) (Of ((4294967295,[0,0,0,0])))
theorem abh (h_:uv):(Og).Is ((4294967295,[0,0,0,0])):=by
 exact ⟨⟨rfl,by decide,by decide,by decide⟩,rfl⟩
theorem Bm:Gi.Ok Tryz.prog 99:=
 bM (tys:= []) (A:=ag) (H:=ag) (LT:=fun x_ y_=> []) (ks:= [.fr [.sym],.syms,.auto,.ax]) (V:=Oe) (D:=Of) (T:=fun x_ y_=>Og) (pre:=fun x_ y_=>uv) (sp:=fun x_ y_=>(4294967295,[0,0,0,0])) mixed aD Tryz.func99 (by kernel_rfl) Tryz.call99 (fun x_ y_=>We) (fun x_ y_=>Oh) (fun x_ y_ h=>abh h)
abbrev qQ:Type:=Int×Int×(List Int)
noncomputable abbrev qS:a9 St qQ:=(bH (jk 3 (ak (ah (aJ (0) (0))) (ae (ah (ay IntKind.i64)) (jk 30 ag)))) (ae (dN
 (168) ((ae (ay IntKind.i64) (ak (jY (1) (0)) ag)))) (ae (cg (0) (Ty.int IntKind.i64)) ag))).jQ (fun y=>(y.1.1,y.2.1.1,y.2.2.1))
 (fun x=>((x.1,()),((x.2.1,()),(x.2.2,())))) (fun _=>rfl)
abbrev zD:List Wk:= [.fr (cK 35 [(3,.an),(4,.an)]),.syms,.auto,.ax]
abbrev Tz:Exit→List Wk:=qI zD 0 [.fr (cK 35 [(3,.an)]),.syms,.auto,.ax] [.fr (cK 35 [(2,.an)]),.syms,.auto,.ax]
abbrev TA:Type:=Int×(List Int)
noncomputable abbrev zE (x:TA):Exit×St:=(Exit.exit 0,⟨(eE 3 (LV.one (VV.sc (SV.ptr 0 0))::(eE 31 []))),[some (Item.a8 [SV.int
 IntKind.i64 (SI.sym x.1),SV.sl 1 0] 168),some (Item.own 0 (Ty.int IntKind.i64) x.2)]⟩)
noncomputable def qT (i:Int) (n:Int) (p:List Int):Tr (qQ⊕(TA)):=(.ite (decide (i<(↑p.length:Int))) (.need (0≤i∧i<
 (↑p.length:Int)) (.ret (.inl (IntKind.i64.wrap (i+1),n,p.set i.toNat 1024)))) (.ret (.inr (n,p))))
theorem Kg (b:Int) (i:Int) (n:Int) (p:List Int):c8 Tryz.prog [(104,aau)] [] Tryz.f68 0 ((ag).wr (())) Tz (qS.wr (i,n,p))=(qT i n p).res qS.wr zE:=by kernel_rfl
theorem ait (a b n:Nat) (x:Int) (h:a+b=n) (hb:0<b):(0::(List.replicate a x++List.replicate b 0)).set (a+1) x=(0:Int)::(List.replicate (a+1) x++List.replicate (b-1) 0):=by
 obtain ⟨b,rfl⟩: ∃ c,b=c+1:=⟨b-1,by omega⟩
 rw[List.set_cons_succ,List.set_append_right _ _ (by simp),List.length_replicate,Nat.sub_self,List.replicate_succ,List.set_cons_zero,Nat.add_sub_cancel]
 congr 1
 rw[List.replicate_succ',List.append_assoc];rfl
def bJ (k:Nat):List Int:=0::List.replicate (2 ^ k-1) 1024
abbrev qU (i:Int) (n:Int) (p:List Int):Prop:=i=1∧p=List.replicate p.length 0∧1≤p.length∧p.length<1000000
noncomputable abbrev zF (x_:qQ):a6:= .need ((fun (i:Int) (n:Int) (p:List Int)=>qU i n p) x_.1 x_.2.1 x_.2.2) (.leaf (zE ((fun (i:Int) (n:Int) (p:List Int)=>(n,0::List.replicate (p.length-1) 1024)) x_.1 x_.2.1 x_.2.2)).1 (zE ((fun (i:Int) (n:Int) (p:List Int)=>(n,0::List.replicate (p.length-1) 1024)) x_.1 x_.2.1 x_.2.2)).2)
theorem Wf (i:Int) (n:Int) (p:List Int) (h_:qU i n p):cJ (fun x_:qQ=>qT x_.1 x_.2.1 x_.2.2) (i,n,p) ((n,0::List.replicate (p.length-1) 1024)):=by
 obtain ⟨rfl,h1,h2,h3⟩:=h_
 obtain ⟨m,hm⟩: ∃ c,p.length=c+1:=⟨p.length-1,by omega⟩
 rw[hm] at h1 h3
 subst h1
 rw[List.length_replicate,Nat.add_sub_cancel]
 clear hm h2
 have hl: ∀ k,k≤m→((0:Int)::(List.replicate k 1024++List.replicate (m-k) 0)).length=m+1:=fun k hk=>by simp;omega
 have key:=cJ.iter (L:=fun x_:qQ=>qT x_.1 x_.2.1 x_.2.2) (z:=(n,0::List.replicate m 1024)) (fun k=>(((k:Int)+1),n,0::(List.replicate k 1024++List.replicate (m-k) 0))) m (fun k hk=>?_) ?_
 ·exact key
 ·simp only[qT,aN,ai,aj,hl k (by omega)]
  refine ⟨fun _=>⟨by omega,?_⟩,fun h=>by omega⟩
  rw[aq (by omega) (by omega),show ((k:Int)+1).toNat=k+1 from by omega,ait k (m-k) m 1024 (by omega) (by omega),Nat.sub_sub];rfl
 ·have hl':((0:Int)::List.replicate m 1024).length=m+1:=by simp
  simp only[qT,aN,ai,aj,Nat.sub_self,List.replicate_zero,List.append_nil,hl']
  exact ⟨fun h=>by omega,fun _=>trivial⟩
theorem Oi (b:Int): ∀ x:qQ,Ex Tryz.prog ((ag).wr (())) (.loop (aU Tryz.f68 0)) (qS.wr x) (zF x):=
 bT mixed ((ao F2 aD)) (ws:=Tz) (aP.nil _) (E:=zE) (L:=fun x_=>qT x_.1 x_.2.1 x_.2.2) (pre:=fun x_=>(fun (i:Int) (n:Int) (p:List Int)=>qU i n p) x_.1 x_.2.1 x_.2.2) (sp:=fun x_=>(fun (i:Int) (n:Int) (p:List Int)=>(n,0::List.replicate (p.length-1) 1024)) x_.1 x_.2.1 x_.2.2) (fun x_=>Kg b x_.1 x_.2.1 x_.2.2) (fun z e=>by cases e) dc (fun x_ h=>Wf x_.1 x_.2.1 x_.2.2 h)
abbrev Oj:Type:=Int×(List Int)
noncomputable abbrev Ol (x:Oj):LV:=LV.one (VV.sc (SV.ptr 0 0))
noncomputable abbrev Om (x:Oj):List (Nat×Ev.Item):= [(0,Item.a8 [SV.int IntKind.i64 (SI.sym x.1),SV.sl 1 0] 168),(1,Item.own 0
 (Ty.int IntKind.i64) x.2)]
noncomputable def Gj (b:Int):Tr (Oj):=(.need (0≤IntKind.u64.wrap (nv b 1 8)) (.need (shl IntKind.i64 1 (IntKind.u64.wrap (nv b 1
 8))=shl IntKind.i64 1 (IntKind.u64.wrap (nv b 1 8))∧0≤shl IntKind.i64 1 (IntKind.u64.wrap (nv b 1 8))∧8*shl IntKind.i64 1
 (IntKind.u64.wrap (nv b 1 8))≤70368744177664∧shl IntKind.i64 1 (IntKind.u64.wrap (nv b 1 8))≤70368744177664) (.need (qU 1 (nv b 1 8)
 (List.replicate (shl IntKind.i64 1 (IntKind.u64.wrap (nv b 1 8))).toNat (0:Int))) (.ret (nv b 1 8,0::List.replicate ((List.replicate (shl
 IntKind.i64 1 (IntKind.u64.wrap (nv b 1 8))).toNat (0:Int)).length-1) (1024:Int))))))
theorem On (b:Int):aY Tryz.prog [(104,aau)] [(0,aX qS ((ag).wr (())) zD (zF))] Tryz.f68 ((J2).wr (b,())) ((ag).wr (())) [.fr [.sym],.syms,.auto,.ax]=(Gj b).end Ol Om ((ag).wr (())):=by kernel_rfl
theorem Wg (b:Int):aP Tryz.prog ((ag).wr (())) [(0,aX qS ((ag).wr (())) zD (zF))] (aH Tryz.f68):=(aP.cy (jr (by kernel_rfl) (bz (hp:=(ag).wr (())) (Oi b)) jH))
abbrev fW (b:Int):Prop:=1≤b∧b≤8
noncomputable def xF:au:=au.bV [] (J2) (ag) fun x_ y_=> .leaf (some ((fun (b:Int)=>fW b) x_.1)) (Ol ((fun (b:Int)=>(b,bJ b.toNat)) x_.1)) (Om ((fun (b:Int)=>(b,bJ b.toNat)) x_.1))
theorem abi (b:Int) (h_:fW b):(Gj b).Is ((b,bJ b.toNat)):=by
 obtain ⟨h1,h2⟩:=h_
 have e1:nv b 1 8=b:=by unfold nv;rw[if_neg (by omega),if_neg (by omega)]
 obtain ⟨k,rfl⟩: ∃ k:Nat,b=k:=⟨b.toNat,by omega⟩
 have e2:IntKind.u64.wrap (k:Int)=k:=wrap_u64 (by omega) (by omega)
 have h3:(2:Nat) ^ k≤256:=Nat.le_trans (Nat.pow_le_pow_right (by omega) (show k≤8 by omega)) (by decide)
 have h4:0<(2:Nat) ^ k:=Nat.two_pow_pos k
 have e3:shl .i64 1 (k:Int)=((2 ^ k:Nat):Int):=lp k (by omega)
 simp only[Gj,ai,aj,e1,e2,e3,bJ,Int.toNat_natCast,List.length_replicate]
 generalize (2:Nat) ^ k=m at*
 refine ⟨by omega,⟨trivial,by omega,by omega,by omega⟩,⟨rfl,by rw[List.length_replicate],by rw[List.length_replicate];omega,by rw[List.length_replicate];omega⟩,trivial⟩
theorem pj:xF.Ok Tryz.prog 68:=
 bM (tys:= []) (A:=J2) (H:=ag) (LT:=fun x_ y_=>(fun (b:Int)=> [(0,aX qS ((ag).wr (())) zD (zF))]) x_.1) (ks:= [.fr [.sym],.syms,.auto,.ax]) (V:=Ol) (D:=Om) (T:=fun x_ y_=>Gj x_.1) (pre:=fun x_ y_=>(fun (b:Int)=>fW b) x_.1) (sp:=fun x_ y_=>(fun (b:Int)=>(b,bJ b.toNat)) x_.1) mixed ((ao F2 aD)) Tryz.func68 (by kernel_rfl) Tryz.call68 (fun x_ y_=>Wg x_.1) (fun x_ y_=>On x_.1) (fun x_ y_ h=>abi x_.1 h)
abbrev avE:a9 Ev.Item Int:=(tY 168 (ae (ay .i64) (ak (jY 3 0) ag))).jQ (fun x=>x.1) (fun w=>(w,())) (fun _=>rfl)
abbrev kt:a9 Hp (Int×List Int×Int×List Int×Unit):=ae (bG Kf) (ae (cg 0 u8) (ae (bG avE) (ae (cg 0 (.int .i64)) ag)))
abbrev uw:Type:=Int×Int×Int×Int×(List Int)×Int×(List Int)
noncomputable abbrev qV:a9 St uw:=(bH (ak (ah (aJ (0) (0))) (ak (ah (aJ (2) (0))) (ae (ah (ay IntKind.i64)) (jk 3
 (ae (ah (ay IntKind.i64)) (ae (ah (ay IntKind.i64)) (jk 44 ag))))))) (ae (dN (163) ((ak (jY (1) (1)) (ae (ay IntKind.u64)
 ag)))) (ae (cg (1) (Ty.int IntKind.u8)) (ae (dN (168) ((ae (ay IntKind.i64) (ak (jY (3) (1)) ag)))) (ae (cg (1) (Ty.int
 IntKind.i64)) ag))))).jQ (fun y=>(y.1.1,y.1.2.1,y.1.2.2.1,y.2.1.1,y.2.2.1,y.2.2.2.1.1,y.2.2.2.2.1)) (fun x=>((x.1,(x.2.1,(x.2.2.1,
 ()))),((x.2.2.2.1,()),(x.2.2.2.2.1,((x.2.2.2.2.2.1,()),(x.2.2.2.2.2.2,())))))) (fun _=>rfl)
abbrev zG:List Wk:= [.one 1,.one 3,.fr (cK 52 [(0,.an),(1,.an),(2,.an),(6,.an),(7,.an)]),.syms,.auto,.ax]
abbrev TB:Exit→List Wk:=qI zG 0 [.one 1,.one 3,.fr (cK 52 []),.syms,.auto,.ax] [.one 1,.one 3,.fr (cK 52 []),.syms,.auto,
 .ax]
abbrev TC:Type:=Int×(List Int)×Int×(List Int)
noncomputable abbrev zH (x:TC):Exit×St:=(Exit.exit 0,⟨(eE 52 []),[some (Item.a8 [SV.sl 1 1,SV.int IntKind.u64 (SI.sym x.1)]
 163),some (Item.own 1 (Ty.int IntKind.u8) x.2.1),some (Item.a8 [SV.int IntKind.i64 (SI.sym x.2.2.1),SV.sl 3 1] 168),some (Item.own 1 (Ty.int
 IntKind.i64) x.2.2.2)]⟩)
noncomputable def ux (v':Int) (node:Int) (i:Int) (w':Int) (l':List Int) (gW:Int) (p':List Int):Tr (uw⊕(TC)):=
 (.ite (decide (0≤i)) (.need (0≤IntKind.u64.wrap i) (.need (0≤node∧node<(↑p'.length:Int)) (.need (qP (p'.getD node.toNat 0) (bg
 IntKind.i64 (shr IntKind.i64 v' (IntKind.u64.wrap i)) 1) w' l') (.ret (.inl (v',IntKind.i64.wrap (IntKind.i64.wrap (2*node)+bg IntKind.i64
 (shr IntKind.i64 v' (IntKind.u64.wrap i)) 1),IntKind.i64.wrap (i-1),(ba (p'.getD node.toNat 0) (bg IntKind.i64 (shr IntKind.i64 v'
 (IntKind.u64.wrap i)) 1) w' l').fst,(ba (p'.getD node.toNat 0) (bg IntKind.i64 (shr IntKind.i64 v' (IntKind.u64.wrap i)) 1) w' l').snd,gW,
 bZ p' node (bg IntKind.i64 (shr IntKind.i64 v' (IntKind.u64.wrap i)) 1))))))) (.ret (.inr (w',l',gW,p'))))
theorem Kh (v:Int) (w:Int) (l:List Int) (bits:Int) (p:List Int) (v':Int) (node:Int) (i:Int) (w':Int) (l':List Int) (gW:Int) (p':List Int):c8 Tryz.prog [(143,jZ),(100,Em)] [] Tryz.f101 0 ((kt).wr (w,l,bits,p,())) TB (qV.wr (v',node,i,w',l',gW,p'))=(ux v' node i w' l' gW p').res qV.wr zH:=by kernel_rfl
abbrev qW (v':Int) (node:Int) (i:Int) (w':Int) (l':List Int) (gW:Int) (p':List Int):Prop:=M0 p'∧pe w' l'∧0≤v'∧ -1≤i∧i<lg p'∧1≤node∧node<2 ^ (lg p'-(i+1).toNat+1)∧(l'.length:Int)+i<1099511600000
noncomputable abbrev zI (x_:uw):a6:= .need ((fun (v':Int) (node:Int) (i:Int) (w':Int) (l':List Int) (gW:Int) (p':List Int)=>qW v' node i w' l' gW p') x_.1 x_.2.1 x_.2.2.1 x_.2.2.2.1 x_.2.2.2.2.1 x_.2.2.2.2.2.1 x_.2.2.2.2.2.2) (.leaf (zH ((fun (v':Int) (node:Int) (i:Int) (w':Int) (l':List Int) (gW:Int) (p':List Int)=>((aF (i+1).toNat v' node w' l' p').1,(aF (i+1).toNat v' node w' l' p').2.1,gW,(aF (i+1).toNat v' node w' l' p').2.2)) x_.1 x_.2.1 x_.2.2.1 x_.2.2.2.1 x_.2.2.2.2.1 x_.2.2.2.2.2.1 x_.2.2.2.2.2.2)).1 (zH ((fun (v':Int) (node:Int) (i:Int) (w':Int) (l':List Int) (gW:Int) (p':List Int)=>((aF (i+1).toNat v' node w' l' p').1,(aF (i+1).toNat v' node w' l' p').2.1,gW,(aF (i+1).toNat v' node w' l' p').2.2)) x_.1 x_.2.1 x_.2.2.1 x_.2.2.2.1 x_.2.2.2.2.1 x_.2.2.2.2.2.1 x_.2.2.2.2.2.2)).2)
theorem Wh (v':Int) (node:Int) (i:Int) (w':Int) (l':List Int) (gW:Int) (p':List Int) (h_:qW v' node i w' l' gW p'):cJ (fun x_:uw=>ux x_.1 x_.2.1 x_.2.2.1 x_.2.2.2.1 x_.2.2.2.2.1 x_.2.2.2.2.2.1 x_.2.2.2.2.2.2) (v',node,i,w',l',gW,p') (((aF (i+1).toNat v' node w' l' p').1,(aF (i+1).toNat v' node w' l' p').2.1,gW,(aF (i+1).toNat v' node w' l' p').2.2)):=by
 obtain ⟨h1,h2,h3,h4,h5,h6,h7,h8⟩:=h_
 obtain ⟨k,hk⟩: ∃ k:Nat,i=(k:Int)-1:=⟨(i+1).toNat,by omega⟩
 subst hk
 clear h4
 induction k generalizing node w' l' p' with
 |zero=>
  refine .stop ?_
  simp only[ux,ib,aN,ai,aj]
  exact ⟨fun h=>by omega,fun h=>rfl⟩
 |succ k ih=>
  have e0:(((k+1:Nat):Int)-1+1).toNat=k+1:=by omega
  have e1:((k:Int)-1+1).toNat=k:=by omega
  have e2:(((k+1:Nat):Int)-1)=(k:Int):=by omega
  rw[e0] at h7 ⊢
  rw[e1] at ih
  rw[e2] at h5 h8 ⊢
  have hlg:=h1.1
  have hb:bg .i64 (shr .i64 v' k) 1=v'/2 ^ k%2:=Gb h3 k (by omega)
  have hp:(2:Int) ^ (lg p'-(k+1)+1)≤2 ^ 8:=eZ (by omega)
  have hp8:(2:Int) ^ 8=256:=by decide
  have Ts:(2:Int) ^ (lg p'-k+1)=2*2 ^ (lg p'-(k+1)+1):=by
   rw[show lg p'-k+1=(lg p'-(k+1)+1)+1 from by omega,Int.pow_succ,Int.mul_comm]
  generalize hbe:v'/2 ^ k%2=b at*
  have xb:0≤b∧b≤1:=by omega
  have hcl:=fx (dz p' node) b w' l'
  have j9:=ih (2*node+b) (ba (dz p' node) b w' l').1 (ba (dz p' node) b w' l').2 (bZ p' node b) (Bj h1 _ _) (jt h2 (by omega)) (by omega) (by rw[lq];omega) (by rw[lq,Ts];omega) (by omega)
  have e3:aF (k+1) v' node w' l' p'=aF k v' (2*node+b) (ba (dz p' node) b w' l').1 (ba (dz p' node) b w' l').2 (bZ p' node b):=by
   rw[aF,hbe]
  rw[e3]
  refine .go ?_ j9
  have hu:IntKind.u64.wrap (k:Int)=k:=wrap_u64 (by omega) (by omega)
  have hlen:node<(p'.length:Int):=by
   rw[h1.2.1]
   have:(2:Int) ^ (lg p'-(k+1)+1)≤2 ^ lg p':=eZ (by omega)
   have e:((2 ^ lg p':Nat):Int)=2 ^ lg p':=by exact_mod_cast rfl
   omega
  have Wi:p'.getD node.toNat 0=dz p' node:=by unfold dz nw;rw[if_pos (decide_eq_true ⟨h6,hlen⟩)]
  simp only[ux,ib,aN,ai,aj,hu,hb,Wi]
  refine ⟨fun _=>⟨by omega,⟨by omega,hlen⟩,h2,?_⟩,fun h=>by omega⟩
  rw[aq (n:=2*node) (by omega) (by omega),aq (n:=2*node+b) (by omega) (by omega),aq (n:=(k:Int)-1) (by omega) (by omega)]
theorem Oo (v:Int) (w:Int) (l:List Int) (bits:Int) (p:List Int): ∀ x:uw,Ex Tryz.prog ((kt).wr (w,l,bits,p,())) (.loop (aU Tryz.f101 0)) (qV.wr x) (zI x):=
 bT mixed ((ao gV (ao uq aD))) (ws:=TB) (aP.nil _) (E:=zH) (L:=fun x_=>ux x_.1 x_.2.1 x_.2.2.1 x_.2.2.2.1 x_.2.2.2.2.1 x_.2.2.2.2.2.1 x_.2.2.2.2.2.2) (pre:=fun x_=>(fun (v':Int) (node:Int) (i:Int) (w':Int) (l':List Int) (gW:Int) (p':List Int)=>qW v' node i w' l' gW p') x_.1 x_.2.1 x_.2.2.1 x_.2.2.2.1 x_.2.2.2.2.1 x_.2.2.2.2.2.1 x_.2.2.2.2.2.2) (sp:=fun x_=>(fun (v':Int) (node:Int) (i:Int) (w':Int) (l':List Int) (gW:Int) (p':List Int)=>((aF (i+1).toNat v' node w' l' p').1,(aF (i+1).toNat v' node w' l' p').2.1,gW,(aF (i+1).toNat v' node w' l' p').2.2)) x_.1 x_.2.1 x_.2.2.1 x_.2.2.2.1 x_.2.2.2.2.1 x_.2.2.2.2.2.1 x_.2.2.2.2.2.2) (fun x_=>Kh v w l bits p x_.1 x_.2.1 x_.2.2.1 x_.2.2.2.1 x_.2.2.2.2.1 x_.2.2.2.2.2.1 x_.2.2.2.2.2.2) (fun z e=>by cases e) dc (fun x_ h=>Wh x_.1 x_.2.1 x_.2.2.1 x_.2.2.2.1 x_.2.2.2.2.1 x_.2.2.2.2.2.1 x_.2.2.2.2.2.2 h)
abbrev Oq:Type:=Int×(List Int)×Int×(List Int)
noncomputable abbrev Ot (x:Oq):LV:=LV.cV []
noncomputable abbrev Ou (x:Oq):List (Nat×Ev.Item):= [(0,Item.a8 [SV.sl 1 1,SV.int IntKind.u64 (SI.sym x.1)] 163),(1,Item.own 1
 (Ty.int IntKind.u8) x.2.1),(2,Item.a8 [SV.int IntKind.i64 (SI.sym x.2.2.1),SV.sl 3 1] 168),(3,Item.own 1 (Ty.int IntKind.i64) x.2.2.2)]
noncomputable def Gk (v:Int) (w:Int) (l:List Int) (bits:Int) (p:List Int):Tr (Oq):=(.ite (decide (v<0)==false) (.ite (decide
 ((↑p.length:Int)≤v)) (.ret (w,l,bits,p)) (.need (qW v 1 (IntKind.i64.wrap (bits-1)) w l bits p) (.ret ((aF (Int.toNat
 (IntKind.i64.wrap (bits-1)+1)) v 1 w l p).fst,(aF (Int.toNat (IntKind.i64.wrap (bits-1)+1)) v 1 w l p).snd.fst,bits,(aF (Int.toNat
 (IntKind.i64.wrap (bits-1)+1)) v 1 w l p).snd.snd)))) (.ret (w,l,bits,p)))
theorem Ov (v:Int) (w:Int) (l:List Int) (bits:Int) (p:List Int):aY Tryz.prog [(143,jZ),(100,Em)] [(0,aX qV ((kt).wr (w,l,bits,p,())) zG (zI))] Tryz.f101 (((ak (ah (aJ 0 0)) (ak (ah (aJ 2 0)) (ae (ah (ay .i64)) ag)))).wr (v,())) ((kt).wr (w,l,bits,p,())) [.one 1,.one 3,.fr [.sym],.syms,.auto,.ax]=(Gk v w l bits p).end Ot Ou ((kt).wr (w,l,bits,p,())):=by kernel_rfl
theorem Wj (v:Int) (w:Int) (l:List Int) (bits:Int) (p:List Int):aP Tryz.prog ((kt).wr (w,l,bits,p,())) [(0,aX qV ((kt).wr (w,l,bits,p,())) zG (zI))] (aH Tryz.f101):=(aP.cy (jr (by kernel_rfl) (bz (hp:=(kt).wr (w,l,bits,p,())) (Oo v w l bits p)) jH))
abbrev mE (v:Int) (w:Int) (l:List Int) (bits:Int) (p:List Int):Prop:=M0 p∧pe w l∧0≤v∧v<2 ^ lg p∧1≤lg p∧l.length<1099511500000∧bits=lg p
noncomputable def Gl:au:=au.bV [] ((ak (ah (aJ 0 0)) (ak (ah (aJ 2 0)) (ae (ah (ay .i64)) ag)))) (kt) fun x_ y_=> .leaf (some ((fun (v:Int) (w:Int) (l:List Int) (bits:Int) (p:List Int)=>mE v w l bits p) x_.1 y_.1 y_.2.1 y_.2.2.1 y_.2.2.2.1)) (Ot ((fun (v:Int) (w:Int) (l:List Int) (bits:Int) (p:List Int)=>((aF (lg p) v 1 w l p).1,(aF (lg p) v 1 w l p).2.1,bits,(aF (lg p) v 1 w l p).2.2)) x_.1 y_.1 y_.2.1 y_.2.2.1 y_.2.2.2.1)) (Ou ((fun (v:Int) (w:Int) (l:List Int) (bits:Int) (p:List Int)=>((aF (lg p) v 1 w l p).1,(aF (lg p) v 1 w l p).2.1,bits,(aF (lg p) v 1 w l p).2.2)) x_.1 y_.1 y_.2.1 y_.2.2.1 y_.2.2.2.1))
theorem abj (v:Int) (w:Int) (l:List Int) (bits:Int) (p:List Int) (h_:mE v w l bits p):(Gk v w l bits p).Is (((aF (lg p) v 1 w l p).1,(aF (lg p) v 1 w l p).2.1,bits,(aF (lg p) v 1 w l p).2.2)):=by
 obtain ⟨h1,h2,h3,h4,h5,h6,rfl⟩:=h_
 have hlg:=h1.1
 have e1:IntKind.i64.wrap ((lg p:Int)-1)=lg p-1:=aq (by omega) (by omega)
 have e2:((lg p:Int)-1+1).toNat=lg p:=by omega
 have e3:((2 ^ lg p:Nat):Int)=2 ^ lg p:=by exact_mod_cast rfl
 simp only[Gk,ai,aj,bI,beq_iff_eq,decide_eq_true_eq,decide_eq_false_iff_not,e1,e2,h1.2.1,e3]
 refine ⟨fun _=>⟨fun h=>by omega,fun _=>⟨⟨h1,h2,h3,by omega,by omega,by omega,by rw[e2,Nat.sub_self];decide,by omega⟩,trivial⟩⟩,fun h=>?_⟩
 simp at h;omega
theorem Bn:Gl.Ok Tryz.prog 101:=
 bM (tys:= []) (A:=(ak (ah (aJ 0 0)) (ak (ah (aJ 2 0)) (ae (ah (ay .i64)) ag)))) (H:=kt) (LT:=fun x_ y_=>(fun (v:Int) (w:Int) (l:List Int) (bits:Int) (p:List Int)=> [(0,aX qV ((kt).wr (w,l,bits,p,())) zG (zI))]) x_.1 y_.1 y_.2.1 y_.2.2.1 y_.2.2.2.1) (ks:= [.one 1,.one 3,.fr [.sym],.syms,.auto,.ax]) (V:=Ot) (D:=Ou) (T:=fun x_ y_=>Gk x_.1 y_.1 y_.2.1 y_.2.2.1 y_.2.2.2.1) (pre:=fun x_ y_=>(fun (v:Int) (w:Int) (l:List Int) (bits:Int) (p:List Int)=>mE v w l bits p) x_.1 y_.1 y_.2.1 y_.2.2.1 y_.2.2.2.1) (sp:=fun x_ y_=>(fun (v:Int) (w:Int) (l:List Int) (bits:Int) (p:List Int)=>((aF (lg p) v 1 w l p).1,(aF (lg p) v 1 w l p).2.1,bits,(aF (lg p) v 1 w l p).2.2)) x_.1 y_.1 y_.2.1 y_.2.2.1 y_.2.2.2.1) mixed ((ao gV (ao uq aD))) Tryz.func101 (by kernel_rfl) Tryz.call101 (fun x_ y_=>Wj x_.1 y_.1 y_.2.1 y_.2.2.1 y_.2.2.2.1) (fun x_ y_=>Ov x_.1 y_.1 y_.2.1 y_.2.2.1 y_.2.2.2.1) (fun x_ y_ h=>abj x_.1 y_.1 y_.2.1 y_.2.2.1 y_.2.2.2.1 h)
end Go.Proofs.YtjalaohajcpllaaGreat
end
section
set_option linter.unusedVariables false
set_option linter.unusedSimpArgs false
namespace Go.Proofs.YtjalaohajcpllaaGreat
open Go Go.Ev
set_option maxRecDepth 1000000
abbrev dw:Ty:= .pair (.int .i64) (.pair (.int .i64) (.int .u8))
abbrev bQ:Type:=Int×Int×Int
abbrev Gm:a9 LV bQ:=(FZ (ae (ay .i64) (ae (ay .i64) (ae (ay .u8) ag)))).jQ (fun x=>(x.1,x.2.1,x.2.2.1)) (fun y=>(y.1,y.2.1,y.2.2,())) (fun _=>rfl)
abbrev oI:a9 (List LV) (List bQ×Unit):=ae (ah (dB false false dw)) ag
def bq (t:bQ):Int:=if t.1=0 then 1 else t.1
def g6 (t:bQ) (made:Int):Bool:=if t.1=0 then decide (t.2.1=0) else decide (t.2.2=0∧2≤t.1∧t.1≤257∧1≤t.2.1∧t.2.1≤4096∧t.2.1≤made)
def aW:Int→List bQ→Bool
 |_,[]=>true
 |made,t::l=>g6 t made&&decide (made+bq t≤8192)&&aW (made+bq t) l
abbrev Ow:Type:=Int
noncomputable abbrev Ox (x:Ow):LV:=LV.one (VV.sc (SV.int IntKind.i64 (SI.sym x)))
noncomputable abbrev Oy (x:Ow):List (Nat×Ev.Item):= []
noncomputable def Gn (t:Int×Int×Int):Tr (Ow):=(.ite (t.fst==0) (.ret (1)) (.ret (t.fst)))
theorem Oz (t:bQ):aY Tryz.prog [] [] Tryz.f82 (((ae Gm ag)).wr (t,())) ((ag).wr (())) [.fr [.sym],.syms,.auto,.ax]=(Gn t).end Ox Oy ((ag).wr (())):=by kernel_rfl
theorem Wl (t:bQ):aP Tryz.prog ((ag).wr (())) [] (aH Tryz.f82):=(aP.nil _)
abbrev ic (t:bQ):Prop:=True
noncomputable def xG:au:=au.bV [] ((ae Gm ag)) (ag) fun x_ y_=> .leaf (some ((fun (t:bQ)=>ic t) x_.1)) (Ox ((fun (t:bQ)=>bq t) x_.1)) (Oy ((fun (t:bQ)=>bq t) x_.1))
theorem abk (t:bQ) (h_:ic t):(Gn t).Is (bq t):=by
 simp only[Gn,bq,da,aj]
 exact ⟨fun h=>by rw[if_pos h],fun h=>by rw[if_neg h]⟩
theorem pn:xG.Ok Tryz.prog 82:=
 bM (tys:= []) (A:=(ae Gm ag)) (H:=ag) (LT:=fun x_ y_=>(fun (t:bQ)=> []) x_.1) (ks:= [.fr [.sym],.syms,.auto,.ax]) (V:=Ox) (D:=Oy) (T:=fun x_ y_=>Gn x_.1) (pre:=fun x_ y_=>(fun (t:bQ)=>ic t) x_.1) (sp:=fun x_ y_=>(fun (t:bQ)=>bq t) x_.1) mixed aD Tryz.func82 (by kernel_rfl) Tryz.call82 (fun x_ y_=>Wl x_.1) (fun x_ y_=>Oz x_.1) (fun x_ y_ h=>abk x_.1 h)
abbrev abl:Type:=Bool
noncomputable abbrev abm (x:abl):LV:=LV.one (VV.sc (SV.bool (SB.sym x)))
noncomputable abbrev abn (x:abl):List (Nat×Ev.Item):= []
noncomputable def TD (t:Int×Int×Int) (made:Int):Tr (abl):=(.ite (t.fst==0) (.ret (t.snd.fst==0)) (.ite ((t.snd.snd==0)==true)
 (.ite (decide (2≤t.fst)==true) (.ite (decide (t.fst≤257)==true) (.ite (decide (1≤t.snd.fst)==true) (.ret (decide (t.snd.fst≤if made<
 4096 then made else 4096))) (.ret (false))) (.ret (false))) (.ret (false))) (.ret (false))))
theorem Wm (t:bQ) (made:Int):aY Tryz.prog [] [] Tryz.f81 (((ae Gm (ae (ah (ay .i64)) ag))).wr (t,made,())) ((ag).wr (())) [.fr [.sym],.syms,.auto,.ax]=(TD t made).end abm abn ((ag).wr (())):=by kernel_rfl
theorem abo (t:bQ) (made:Int):aP Tryz.prog ((ag).wr (())) [] (aH Tryz.f81):=(aP.nil _)
abbrev uy (t:bQ) (made:Int):Prop:=True
noncomputable def TE:au:=au.bV [] ((ae Gm (ae (ah (ay .i64)) ag))) (ag) fun x_ y_=> .leaf (some ((fun (t:bQ) (made:Int)=>uy t made) x_.1 x_.2.1)) (abm ((fun (t:bQ) (made:Int)=>g6 t made) x_.1 x_.2.1)) (abn ((fun (t:bQ) (made:Int)=>g6 t made) x_.1 x_.2.1))
theorem aiu (t:bQ) (made:Int) (h_:uy t made):(TD t made).Is (g6 t made):=by
 have e:(t.2.1≤if made<4096 then made else 4096)↔(t.2.1≤4096∧t.2.1≤made):=by split<;>omega
 simp only[TD,g6,da,aj,ib,bI,beq_iff_eq,beq_eq_false_iff_ne,decide_eq_true_eq,decide_eq_false_iff_not,e]
 refine ⟨fun h=>by rw[if_pos h];exact (Bool.eq_iff_iff.2 (by simp)),fun h=>?_⟩
 rw[if_neg h]
 refine ⟨fun h1=>⟨fun h2=>⟨fun h3=>⟨fun h4=>decide_eq_decide.2 ⟨fun h5=>⟨h1,h2,h3,h4,h5⟩,fun h=>h.2.2.2.2⟩,fun h4=>?_⟩,fun h3=>?_⟩,fun h2=>?_⟩,fun h1=>?_⟩
 ·exact (decide_eq_false fun h=>h4 h.2.2.2.1).symm
 ·exact (decide_eq_false fun h=>h3 h.2.2.1).symm
 ·exact (decide_eq_false fun h=>h2 h.2.1).symm
 ·exact (decide_eq_false fun h=>h1 h.1).symm
theorem Gp:TE.Ok Tryz.prog 81:=
 bM (tys:= []) (A:=(ae Gm (ae (ah (ay .i64)) ag))) (H:=ag) (LT:=fun x_ y_=>(fun (t:bQ) (made:Int)=> []) x_.1 x_.2.1) (ks:= [.fr [.sym],.syms,.auto,.ax]) (V:=abm) (D:=abn) (T:=fun x_ y_=>TD x_.1 x_.2.1) (pre:=fun x_ y_=>(fun (t:bQ) (made:Int)=>uy t made) x_.1 x_.2.1) (sp:=fun x_ y_=>(fun (t:bQ) (made:Int)=>g6 t made) x_.1 x_.2.1) mixed aD Tryz.func81 (by kernel_rfl) Tryz.call81 (fun x_ y_=>abo x_.1 x_.2.1) (fun x_ y_=>Wm x_.1 x_.2.1) (fun x_ y_ h=>aiu x_.1 x_.2.1 h)
theorem ie {t:bQ} {made:Int} (h:g6 t made=true):1≤bq t∧bq t≤257:=by
 unfold g6 at h;unfold bq
 split at h
 ·rename_i e;rw[if_pos e];omega
 ·rename_i e;rw[if_neg e];have:=of_decide_eq_true h;omega
abbrev po:Type:=Int×(List (Int×Int×Int))×Int×Int
noncomputable abbrev mF:a9 St po:=(bH (jk 3 (ae (ah (ay IntKind.i64)) (jk 2 (ae (ah (dB false false ((Ty.int
 IntKind.i64).pair ((Ty.int IntKind.i64).pair (Ty.int IntKind.u8))))) (ae (ah (ay IntKind.i64)) (ae (ah (ay IntKind.i64)) (jk 19
 ag))))))) ag).jQ (fun y=>(y.1.1,y.1.2.1,y.1.2.2.1,y.1.2.2.2.1)) (fun x=>((x.1,(x.2.1,(x.2.2.1,(x.2.2.2,())))),())) (fun _=>rfl)
abbrev uz:List Wk:= [.fr (cK 28 [(3,.an),(6,.an),(7,.an),(8,.an)]),.syms,.auto,.ax]
abbrev Ki:Exit→List Wk:=qI uz 0 [.fr (cK 28 []),.syms,.auto,.ax] [.fr (cK 28 [(2,.an)]),.syms,.auto,.ax]
abbrev En:Type:=Bool
noncomputable abbrev qX (x:En):Exit×St:=(Exit.ret,⟨(eE 2 (LV.one (VV.sc (SV.bool (SB.sym x)))::(eE 25 []))),[]⟩)
abbrev Eo:Type:=Unit
noncomputable abbrev qY (x:Eo):Exit×St:=(Exit.exit 0,⟨(eE 28 []),[]⟩)
noncomputable def ku (made:Int) (l':List (Int×Int×Int)) (n:Int) (i:Int):Tr (po⊕(En⊕Eo)):=(.ite (decide (i
 <n)) (.need (0≤i∧i<(↑l'.length:Int)) (.need (uy (l'.getD i.toNat (0,0,0)) made) (.ite ((!g6 (l'.getD i.toNat (0,0,0)) made)==
 false) (.need (ic (l'.getD i.toNat (0,0,0))) (.ite (decide (IntKind.i64.wrap (8192-made)<bq (l'.getD i.toNat (0,0,0)))) (.ret (.inr
 (.inl (false)))) (.need (ic (l'.getD i.toNat (0,0,0))) (.ret (.inl (IntKind.i64.wrap (made+bq (l'.getD i.toNat (0,0,0))),l',n,
 IntKind.i64.wrap (i+1))))))) (.ret (.inr (.inl (false))))))) (.ret (.inr (.inr ()))))
theorem Gq (l:List bQ) (made:Int) (l':List (Int×Int×Int)) (n:Int) (i:Int):c8 Tryz.prog [(82,xG),(81,TE)] [] Tryz.f48 0 ((ag).wr (())) Ki (mF.wr (made,l',n,i))=(ku made l' n i).res mF.wr (Sum.elim qX qY):=by kernel_rfl
abbrev nA (made:Int) (l':List (Int×Int×Int)) (n:Int) (i:Int):Prop:=n=l'.length∧0≤i∧i≤n∧0≤made∧made≤8192∧n<1099511627776
noncomputable abbrev uA (x_:po):a6:= .need ((fun (made:Int) (l':List (Int×Int×Int)) (n:Int) (i:Int)=>nA made l' n i) x_.1 x_.2.1 x_.2.2.1 x_.2.2.2) (.ite ((fun (made:Int) (l':List (Int×Int×Int)) (n:Int) (i:Int)=> !aW made (l'.drop i.toNat)) x_.1 x_.2.1 x_.2.2.1 x_.2.2.2) (.leaf (qX ((fun (made:Int) (l':List (Int×Int×Int)) (n:Int) (i:Int)=>false) x_.1 x_.2.1 x_.2.2.1 x_.2.2.2)).1 (qX ((fun (made:Int) (l':List (Int×Int×Int)) (n:Int) (i:Int)=>false) x_.1 x_.2.1 x_.2.2.1 x_.2.2.2)).2) (.leaf (qY ((fun (made:Int) (l':List (Int×Int×Int)) (n:Int) (i:Int)=>()) x_.1 x_.2.1 x_.2.2.1 x_.2.2.2)).1 (qY ((fun (made:Int) (l':List (Int×Int×Int)) (n:Int) (i:Int)=>()) x_.1 x_.2.1 x_.2.2.1 x_.2.2.2)).2))
theorem OA (made:Int) (l':List (Int×Int×Int)) (n:Int) (i:Int) (h_:nA made l' n i):cJ (fun x_:po=>ku x_.1 x_.2.1 x_.2.2.1 x_.2.2.2) (made,l',n,i) (bif !aW made (l'.drop i.toNat) then .inl (false) else .inr (())):=by
 obtain ⟨rfl,h1,h2,h3,h4,h5⟩:=h_
 obtain ⟨k,rfl⟩: ∃ k:Nat,i=k:=⟨i.toNat,by omega⟩
 rw[Int.toNat_natCast]
 obtain ⟨m,hm⟩: ∃ m,l'.length=k+m:=⟨l'.length-k,by omega⟩
 clear h2
 induction m generalizing k made with
 |zero=>
  refine .stop ?_
  rw[List.drop_of_length_le (by omega)]
  simp only[ku,aN,ai,aj,aW]
  exact ⟨fun h=>by omega,fun _=>rfl⟩
 |succ m ih=>
  have hk:k<l'.length:=by omega
  have e1:IntKind.i64.wrap (8192-made)=8192-made:=aq (by omega) (by omega)
  rw[gq (0,0,0) hk,aW]
  generalize hx:l'.getD k (0,0,0)=x
  cases M1:g6 x made with
  |false=>
   refine .stop ?_
   simp only[ku,aN,ai,aj,Int.toNat_natCast,hx,M1]
   refine ⟨fun _=>⟨⟨by omega,by omega⟩,trivial,?_⟩,fun h=>by omega⟩
   simp[bI,aj]
  |true=>
   have Dx:=ie M1
   by_cases hle:made+bq x≤8192
   ·have j9:=ih (made+bq x) (by omega) (by omega) (k+1) (by omega) (by omega)
    rw[decide_eq_true hle,Bool.true_and,Bool.true_and]
    refine .go ?_ j9
    simp only[ku,aN,ai,aj,Int.toNat_natCast,hx,M1,Bool.not_true,beq_self_eq_true,aS,e1]
    refine ⟨fun _=>⟨⟨by omega,by omega⟩,trivial,trivial,fun h=>by omega,fun _=>⟨trivial,?_⟩⟩,fun h=>by omega⟩
    rw[aq (n:=made+bq x) (by omega) (by omega),aq (n:=(k:Int)+1) (by omega) (by omega)];rfl
   ·rw[decide_eq_false hle]
    refine .stop ?_
    simp only[ku,aN,ai,aj,Int.toNat_natCast,hx,M1,Bool.not_true,beq_self_eq_true,aS,e1]
    refine ⟨fun _=>⟨⟨by omega,by omega⟩,trivial,trivial,fun h=>rfl,fun h=>by omega⟩,fun h=>by omega⟩
theorem Kj (l:List bQ): ∀ x:po,Ex Tryz.prog ((ag).wr (())) (.loop (aU Tryz.f48 0)) (mF.wr x) (uA x):=
 bT mixed ((ao pn (ao Gp aD))) (ws:=Ki) (aP.nil _) (E:=Sum.elim qX qY) (L:=fun x_=>ku x_.1 x_.2.1 x_.2.2.1 x_.2.2.2) (pre:=fun x_=>(fun (made:Int) (l':List (Int×Int×Int)) (n:Int) (i:Int)=>nA made l' n i) x_.1 x_.2.1 x_.2.2.1 x_.2.2.2) (sp:=fun x_=>bif (fun (made:Int) (l':List (Int×Int×Int)) (n:Int) (i:Int)=> !aW made (l'.drop i.toNat)) x_.1 x_.2.1 x_.2.2.1 x_.2.2.2 then .inl ((fun (made:Int) (l':List (Int×Int×Int)) (n:Int) (i:Int)=>false) x_.1 x_.2.1 x_.2.2.1 x_.2.2.2) else .inr ((fun (made:Int) (l':List (Int×Int×Int)) (n:Int) (i:Int)=>()) x_.1 x_.2.1 x_.2.2.1 x_.2.2.2)) (fun x_=>Gq l x_.1 x_.2.1 x_.2.2.1 x_.2.2.2) (fun z=>by cases z<;>(intro e;cases e)) sy (fun x_ h=>OA x_.1 x_.2.1 x_.2.2.1 x_.2.2.2 h)
abbrev Gr:Type:=Bool
noncomputable abbrev Gs (x:Gr):LV:=LV.one (VV.sc (SV.bool (SB.sym x)))
noncomputable abbrev Gt (x:Gr):List (Nat×Ev.Item):= []
noncomputable def zJ (l:List (Int×Int×Int)):Tr (Gr):=(.need (nA 0 l (↑l.length:Int) 0) (.ite (!aW 0 (List.drop 0 l))
 (.ret (false)) (.ret (true))))
theorem Kk (l:List bQ):aY Tryz.prog [(82,xG),(81,TE)] [(0,aX mF ((ag).wr (())) uz (uA))] Tryz.f48 ((oI).wr (l,())) ((ag).wr (())) [.fr [.sym],.syms,.auto,.ax]=(zJ l).end Gs Gt ((ag).wr (())):=by kernel_rfl
theorem OB (l:List bQ):aP Tryz.prog ((ag).wr (())) [(0,aX mF ((ag).wr (())) uz (uA))] (aH Tryz.f48):=(aP.cy (jr (by kernel_rfl) (bz (hp:=(ag).wr (())) (Kj l)) jH))
abbrev mG (l:List bQ):Prop:=l.length<1099511627776
noncomputable def qZ:au:=au.bV [some dw] (oI) (ag) fun x_ y_=> .leaf (some ((fun (l:List bQ)=>mG l) x_.1)) (Gs ((fun (l:List bQ)=>aW 0 l) x_.1)) (Gt ((fun (l:List bQ)=>aW 0 l) x_.1))
theorem Wn (l:List bQ) (h_:mG l):(zJ l).Is (aW 0 l):=by
 simp only[zJ,ai,aj,bI]
 refine ⟨⟨rfl,by omega,by omega,by omega,by omega,by omega⟩,?_⟩
 cases h:aW 0 l<;>simp[h]
theorem mH:qZ.Ok Tryz.prog 48:=
 bM (tys:= [some dw]) (A:=oI) (H:=ag) (LT:=fun x_ y_=>(fun (l:List bQ)=> [(0,aX mF ((ag).wr (())) uz (uA))]) x_.1) (ks:= [.fr [.sym],.syms,.auto,.ax]) (V:=Gs) (D:=Gt) (T:=fun x_ y_=>zJ x_.1) (pre:=fun x_ y_=>(fun (l:List bQ)=>mG l) x_.1) (sp:=fun x_ y_=>(fun (l:List bQ)=>aW 0 l) x_.1) mixed ((ao pn (ao Gp aD))) Tryz.func48 (by kernel_rfl) Tryz.call48 (fun x_ y_=>OB x_.1) (fun x_ y_=>Kk x_.1) (fun x_ y_ h=>Wn x_.1 h)
abbrev pq:Type:=(List (Int×Int×Int))×Int×Int
noncomputable abbrev mI:a9 St pq:=(bH (ae (ah (dB false false ((Ty.int IntKind.i64).pair ((Ty.int IntKind.i64).pair (Ty.int
 IntKind.u8))))) (jk 2 (ae (ah (ay IntKind.i64)) (ae (ah (ay IntKind.i64)) (jk 56 ag))))) ag).jQ (fun y=>(y.1.1,y.1.2.1,
 y.1.2.2.1)) (fun x=>((x.1,(x.2.1,(x.2.2,()))),())) (fun _=>rfl)
abbrev uB:List Wk:= [.fr (cK 61 [(0,.an),(3,.an),(4,.an)]),.syms,.auto,.ax]
abbrev Kl:Exit→List Wk:=qI uB 0 [.fr (cK 61 []),.syms,.auto,.ax] [.fr (cK 61 [(2,.an)]),.syms,.auto,.ax]
abbrev Ep:Type:=Bool
noncomputable abbrev q4 (x:Ep):Exit×St:=(Exit.ret,⟨(eE 2 (LV.one (VV.sc (SV.bool (SB.sym x)))::(eE 58 []))),[]⟩)
abbrev Er:Type:=Unit
noncomputable abbrev q5 (x:Er):Exit×St:=(Exit.exit 0,⟨(eE 61 []),[]⟩)
noncomputable def ig (l':List (Int×Int×Int)) (made:Int) (i:Int):Tr (pq⊕(Ep⊕Er)):=(.ite (decide (i<
 (↑l'.length:Int))) (.need (0≤i∧i<(↑l'.length:Int)) (.ite ((l'.getD i.toNat (0,0,0)).fst==0) (.ite ((l'.getD i.toNat (0,0,0)).snd.fst !=
 0) (.ret (.inr (.inl (false)))) (.ite (decide (8192<IntKind.i64.wrap (made+1))) (.ret (.inr (.inl (false)))) (.ret (.inl (l',IntKind.i64.wrap
 (made+1),IntKind.i64.wrap (i+1)))))) (.ite (decide ((l'.getD i.toNat (0,0,0)).fst<2)==false) (.ite (decide (257<(l'.getD i.toNat (0,0,
 0)).fst)==false) (.ite (((l'.getD i.toNat (0,0,0)).snd.snd !=0)==false) (.ite (decide ((l'.getD i.toNat (0,0,0)).snd.fst<1)==false) (.ite
 (decide (4096<(l'.getD i.toNat (0,0,0)).snd.fst)==false) (.ite (decide (made<(l'.getD i.toNat (0,0,0)).snd.fst)) (.ret (.inr (.inl (false))))
 (.ite (decide (8192<IntKind.i64.wrap (made+(l'.getD i.toNat (0,0,0)).fst))) (.ret (.inr (.inl (false)))) (.ret (.inl (l',IntKind.i64.wrap (made
 +(l'.getD i.toNat (0,0,0)).fst),IntKind.i64.wrap (i+1)))))) (.ret (.inr (.inl (false))))) (.ret (.inr (.inl (false))))) (.ret (.inr (.inl
 (false))))) (.ret (.inr (.inl (false))))) (.ret (.inr (.inl (false))))))) (.ret (.inr (.inr ()))))
theorem Gu (l:List bQ) (l':List (Int×Int×Int)) (made:Int) (i:Int):c8 Tryz.prog [] [] Tryz.f71 0 ((ag).wr (())) Kl (mI.wr (l',made,i))=(ig l' made i).res mI.wr (Sum.elim q4 q5):=by kernel_rfl
abbrev nC (l':List (Int×Int×Int)) (made:Int) (i:Int):Prop:=0≤i∧i≤l'.length∧0≤made∧made≤8192∧l'.length<1099511627776
noncomputable abbrev uC (x_:pq):a6:= .need ((fun (l':List (Int×Int×Int)) (made:Int) (i:Int)=>nC l' made i) x_.1 x_.2.1 x_.2.2) (.ite ((fun (l':List (Int×Int×Int)) (made:Int) (i:Int)=> !aW made (l'.drop i.toNat)) x_.1 x_.2.1 x_.2.2) (.leaf (q4 ((fun (l':List (Int×Int×Int)) (made:Int) (i:Int)=>false) x_.1 x_.2.1 x_.2.2)).1 (q4 ((fun (l':List (Int×Int×Int)) (made:Int) (i:Int)=>false) x_.1 x_.2.1 x_.2.2)).2) (.leaf (q5 ((fun (l':List (Int×Int×Int)) (made:Int) (i:Int)=>()) x_.1 x_.2.1 x_.2.2)).1 (q5 ((fun (l':List (Int×Int×Int)) (made:Int) (i:Int)=>()) x_.1 x_.2.1 x_.2.2)).2))
theorem OC (l':List (Int×Int×Int)) (made:Int) (i:Int) (h_:nC l' made i):cJ (fun x_:pq=>ig x_.1 x_.2.1 x_.2.2) (l',made,i) (bif !aW made (l'.drop i.toNat) then .inl (false) else .inr (())):=by
 obtain ⟨h1,h2,h3,h4,h5⟩:=h_
 obtain ⟨k,rfl⟩: ∃ k:Nat,i=k:=⟨i.toNat,by omega⟩
 rw[Int.toNat_natCast]
 obtain ⟨m,hm⟩: ∃ m,l'.length=k+m:=⟨l'.length-k,by omega⟩
 clear h2
 induction m generalizing k made with
 |zero=>
  refine .stop ?_
  rw[List.drop_of_length_le (by omega)]
  simp only[ig,aN,ai,aj,aW]
  exact ⟨fun h=>by omega,fun _=>rfl⟩
 |succ m ih=>
  have hk:k<l'.length:=by omega
  rw[gq (0,0,0) hk,aW]
  generalize hx:l'.getD k (0,0,0)=x
  have hi:IntKind.i64.wrap ((k:Int)+1)=k+1:=aq (by omega) (by omega)
  cases M1:g6 x made with
  |false=>
   refine .stop ?_
   simp only[ig,aN,ai,aj,Int.toNat_natCast,hx]
   refine ⟨fun _=>⟨⟨by omega,by omega⟩,?_⟩,fun h=>by omega⟩
   obtain ⟨a,b,c⟩:=x
   simp only[g6] at M1
   simp only[bI,aj,beq_iff_eq,beq_eq_false_iff_ne,bne_iff_ne,bne_eq_false_iff_eq,decide_eq_true_eq,decide_eq_false_iff_not,reduceCtorEq,Bool.false_and,Bool.not_false,cond_true]
   split at M1
   ·have:=of_decide_eq_false M1
    grind
   ·have:=of_decide_eq_false M1
    grind
  |true=>
   have Dx:=ie M1
   obtain ⟨a,b,c⟩:=x
   simp only[g6,bq] at M1 Dx ⊢
   by_cases ha:a=0
   ·subst ha
    rw[if_pos rfl] at M1
    have hb:=of_decide_eq_true M1
    have e1:IntKind.i64.wrap (made+1)=made+1:=aq (by omega) (by omega)
    simp only[if_true]
    by_cases hle:made+1≤8192
    ·have j9:=ih (made+1) (by omega) (by omega) (k+1) (by omega) (by omega)
     rw[decide_eq_true hle,Bool.true_and,Bool.true_and]
     refine .go ?_ j9
     simp only[ig,aN,ai,aj,Int.toNat_natCast,hx,e1,hi,bI,beq_iff_eq,beq_eq_false_iff_ne,bne_iff_ne,bne_eq_false_iff_eq,reduceCtorEq]
     grind
    ·rw[decide_eq_false hle]
     refine .stop ?_
     simp only[ig,aN,ai,aj,Int.toNat_natCast,hx,e1,hi,bI,beq_iff_eq,beq_eq_false_iff_ne,bne_iff_ne,bne_eq_false_iff_eq,reduceCtorEq,Bool.false_and,Bool.and_false,Bool.not_false,cond_true]
     grind
   ·rw[if_neg ha] at M1 Dx ⊢
    have hb:=of_decide_eq_true M1
    have e1:IntKind.i64.wrap (made+a)=made+a:=aq (by omega) (by omega)
    by_cases hle:made+a≤8192
    ·have j9:=ih (made+a) (by omega) (by omega) (k+1) (by omega) (by omega)
     rw[decide_eq_true hle,Bool.true_and,Bool.true_and]
     refine .go ?_ j9
     simp only[ig,aN,ai,aj,Int.toNat_natCast,hx,e1,hi,bI,beq_iff_eq,beq_eq_false_iff_ne,bne_iff_ne,bne_eq_false_iff_eq,decide_eq_true_eq,decide_eq_false_iff_not,reduceCtorEq]
     grind
    ·rw[decide_eq_false hle]
     refine .stop ?_
     simp only[ig,aN,ai,aj,Int.toNat_natCast,hx,e1,hi,bI,beq_iff_eq,beq_eq_false_iff_ne,bne_iff_ne,bne_eq_false_iff_eq,decide_eq_true_eq,decide_eq_false_iff_not,reduceCtorEq,Bool.true_and,Bool.false_and,Bool.and_false,Bool.not_false,cond_true]
     grind
theorem Km (l:List bQ): ∀ x:pq,Ex Tryz.prog ((ag).wr (())) (.loop (aU Tryz.f71 0)) (mI.wr x) (uC x):=
 bT mixed aD (ws:=Kl) (aP.nil _) (E:=Sum.elim q4 q5) (L:=fun x_=>ig x_.1 x_.2.1 x_.2.2) (pre:=fun x_=>(fun (l':List (Int×Int×Int)) (made:Int) (i:Int)=>nC l' made i) x_.1 x_.2.1 x_.2.2) (sp:=fun x_=>bif (fun (l':List (Int×Int×Int)) (made:Int) (i:Int)=> !aW made (l'.drop i.toNat)) x_.1 x_.2.1 x_.2.2 then .inl ((fun (l':List (Int×Int×Int)) (made:Int) (i:Int)=>false) x_.1 x_.2.1 x_.2.2) else .inr ((fun (l':List (Int×Int×Int)) (made:Int) (i:Int)=>()) x_.1 x_.2.1 x_.2.2)) (fun x_=>Gu l x_.1 x_.2.1 x_.2.2) (fun z=>by cases z<;>(intro e;cases e)) sy (fun x_ h=>OC x_.1 x_.2.1 x_.2.2 h)
abbrev Gv:Type:=Bool
noncomputable abbrev Gw (x:Gv):LV:=LV.one (VV.sc (SV.bool (SB.sym x)))
noncomputable abbrev Gx (x:Gv):List (Nat×Ev.Item):= []
noncomputable def zK (l:List (Int×Int×Int)):Tr (Gv):=(.need (nC l 0 0) (.ite (!aW 0 (List.drop 0 l)) (.ret (false))
 (.ret (true))))
theorem Kn (l:List bQ):aY Tryz.prog [] [(0,aX mI ((ag).wr (())) uB (uC))] Tryz.f71 ((oI).wr (l,())) ((ag).wr (())) [.fr [.sym],.syms,.auto,.ax]=(zK l).end Gw Gx ((ag).wr (())):=by kernel_rfl
theorem OD (l:List bQ):aP Tryz.prog ((ag).wr (())) [(0,aX mI ((ag).wr (())) uB (uC))] (aH Tryz.f71):=(aP.cy (jr (by kernel_rfl) (bz (hp:=(ag).wr (())) (Km l)) jH))
abbrev iY (l:List bQ):Prop:=l.length<1099511627776
noncomputable def j0:au:=au.bV [some dw] (oI) (ag) fun x_ y_=> .leaf (some ((fun (l:List bQ)=>iY l) x_.1)) (Gw ((fun (l:List bQ)=>aW 0 l) x_.1)) (Gx ((fun (l:List bQ)=>aW 0 l) x_.1))
theorem Wo (l:List bQ) (h_:iY l):(zK l).Is (aW 0 l):=by
 simp only[zK,ai,aj,bI]
 refine ⟨⟨by omega,by omega,by omega,by omega,by omega⟩,?_⟩
 cases h:aW 0 l<;>simp[h]
theorem gX:j0.Ok Tryz.prog 71:=
 bM (tys:= [some dw]) (A:=oI) (H:=ag) (LT:=fun x_ y_=>(fun (l:List bQ)=> [(0,aX mI ((ag).wr (())) uB (uC))]) x_.1) (ks:= [.fr [.sym],.syms,.auto,.ax]) (V:=Gw) (D:=Gx) (T:=fun x_ y_=>zK x_.1) (pre:=fun x_ y_=>(fun (l:List bQ)=>iY l) x_.1) (sp:=fun x_ y_=>(fun (l:List bQ)=>aW 0 l) x_.1) mixed aD Tryz.func71 (by kernel_rfl) Tryz.call71 (fun x_ y_=>OD x_.1) (fun x_ y_=>Kn x_.1) (fun x_ y_ h=>Wo x_.1 h)
def gY:Nat→Int→List Int→List Int
 |0,_,o=>o
 |k+1,d,o=>gY k d (o++ [o.getD ((o.length:Int)-d).toNat 0])
def ze (o:List Int) (t:bQ):List Int:=if t.1=0 then o++ [t.2.2] else gY t.1.toNat t.2.1 o
def cY:List Int→List bQ→List Int
 |o,[]=>o
 |o,t::l=>cY (ze o t) l
def dO (l:List bQ):List Int:=if aW 0 l then cY [] l else []
theorem Es: ∀ (k:Nat) (d:Int) (o:List Int),(gY k d o).length=o.length+k
 |0,_,_=>rfl
 |k+1,d,o=>by rw[gY,Es k];simp;omega
theorem Bo {o:List Int} {t:bQ} {made:Int} (h:g6 t made=true):((ze o t).length:Int)=o.length+bq t:=by
 have h1:=ie h
 unfold ze bq at*
 split
 ·simp
 ·rename_i e
  rw[if_neg e] at h1
  rw[Es];omega
abbrev pr:Type:=(List (Int×Int×Int))×Int×Int×Int×Int×(List Int)×Int×Int×Int
noncomputable abbrev uD:a9 St pr:=(bH (jk 3 (ak (ah (jY (0) (0))) (jk 1 (ak (ah (aJ (1) (0))) (jk 3 (ae (ah (dB
 false false ((Ty.int IntKind.i64).pair ((Ty.int IntKind.i64).pair (Ty.int IntKind.u8))))) (ae (ah (ay IntKind.i64)) (ae (ah (ay
 IntKind.i64)) (jk 12 (ae (ah (ay IntKind.i64)) (ae (ah (ay IntKind.i64)) (jk 15 ag)))))))))))) (ae (cg (0) (Ty.int IntKind.u8))
 (ae (dN (90) ((ae (ay IntKind.i64) (ae (ay IntKind.i64) (ae (ay IntKind.u8) ag))))) ag))).jQ (fun y=>(y.1.1,y.1.2.1,
 y.1.2.2.1,y.1.2.2.2.1,y.1.2.2.2.2.1,y.2.1,y.2.2.1.1,y.2.2.1.2.1,y.2.2.1.2.2.1)) (fun x=>((x.1,(x.2.1,(x.2.2.1,(x.2.2.2.1,(x.2.2.2.2.1,
 ()))))),(x.2.2.2.2.2.1,((x.2.2.2.2.2.2.1,(x.2.2.2.2.2.2.2.1,(x.2.2.2.2.2.2.2.2,()))),())))) (fun _=>rfl)
abbrev Ko:List Wk:= [.ct 3 u8,.fr (cK 41 [(3,.an),(5,.an),(9,.an),(10,.an),(11,.an),(24,.an),(25,.an)]),.syms,
 .auto,.ax]
abbrev Kp:Exit→List Wk:=qI Ko 2 [.ct 3 u8,.fr (cK 41 [(3,.an),(9,.an),(10,.an),(11,.an)]),.syms,.auto,.ax]
 [.ct 3 u8,.fr (cK 41 [(2,.an)]),.syms,.auto,.ax]
abbrev Kq:Type:=(List (Int×Int×Int))×Int×Int×(List Int)
noncomputable abbrev uE (x:Kq):Exit×St:=(Exit.exit 2,⟨(eE 3 (LV.one (VV.sc (SV.sl 0 0))::(eE 5 (LV.one (VV.sc (SV.rd false
 false ((Ty.int IntKind.i64).pair ((Ty.int IntKind.i64).pair (Ty.int IntKind.u8))) x.1))::(LV.one (VV.sc (SV.int IntKind.i64 (SI.sym x.2.1)))::
 (LV.one (VV.sc (SV.int IntKind.i64 (SI.sym x.2.2.1)))::(eE 29 []))))))),[some (Item.own 0 (Ty.int IntKind.u8) x.2.2.2)]⟩)
noncomputable def pA (l':List (Int×Int×Int)) (n:Int) (i:Int) (tl:Int) (k:Int) (o:List Int) (t1:Int) (t2:Int) (t3:Int):Tr
 (pr⊕(Kq)):=(.ite (decide (k<tl)) (.need (0≤IntKind.i64.wrap ((↑o.length:Int)-t2)∧IntKind.i64.wrap ((↑o.length:Int)-t2)<
 (↑o.length:Int)) (.need ((o.length+1)*1≤70368744177664∧o.length+1≤70368744177664) (.ret (.inl (l',n,i,tl,IntKind.i64.wrap (k+1),o
 ++ [o.getD (IntKind.i64.wrap ((↑o.length:Int)-t2)).toNat 0],t1,t2,t3))))) (.ret (.inr (l',n,i,o))))
theorem Gy (l:List bQ) (l':List (Int×Int×Int)) (n:Int) (i:Int) (tl:Int) (k:Int) (o:List Int) (t1:Int) (t2:Int) (t3:Int):c8 Tryz.prog [(48,qZ)] [] Tryz.f24 2 ((ag).wr (())) Kp (uD.wr (l',n,i,tl,k,o,t1,t2,t3))=(pA l' n i tl k o t1 t2 t3).res uD.wr uE:=by kernel_rfl
abbrev gM (l':List (Int×Int×Int)) (n:Int) (i:Int) (tl:Int) (k:Int) (o:List Int) (t1:Int) (t2:Int) (t3:Int):Prop:=0≤k∧k≤tl∧(k<tl→1≤t2∧t2≤o.length)∧tl<1000000∧o.length+(tl-k)<1000000
noncomputable abbrev Kr (x_:pr):a6:= .need ((fun (l':List (Int×Int×Int)) (n:Int) (i:Int) (tl:Int) (k:Int) (o:List Int) (t1:Int) (t2:Int) (t3:Int)=>gM l' n i tl k o t1 t2 t3) x_.1 x_.2.1 x_.2.2.1 x_.2.2.2.1 x_.2.2.2.2.1 x_.2.2.2.2.2.1 x_.2.2.2.2.2.2.1 x_.2.2.2.2.2.2.2.1 x_.2.2.2.2.2.2.2.2) (.leaf (uE ((fun (l':List (Int×Int×Int)) (n:Int) (i:Int) (tl:Int) (k:Int) (o:List Int) (t1:Int) (t2:Int) (t3:Int)=>(l',n,i,gY (tl-k).toNat t2 o)) x_.1 x_.2.1 x_.2.2.1 x_.2.2.2.1 x_.2.2.2.2.1 x_.2.2.2.2.2.1 x_.2.2.2.2.2.2.1 x_.2.2.2.2.2.2.2.1 x_.2.2.2.2.2.2.2.2)).1 (uE ((fun (l':List (Int×Int×Int)) (n:Int) (i:Int) (tl:Int) (k:Int) (o:List Int) (t1:Int) (t2:Int) (t3:Int)=>(l',n,i,gY (tl-k).toNat t2 o)) x_.1 x_.2.1 x_.2.2.1 x_.2.2.2.1 x_.2.2.2.2.1 x_.2.2.2.2.2.1 x_.2.2.2.2.2.2.1 x_.2.2.2.2.2.2.2.1 x_.2.2.2.2.2.2.2.2)).2)
theorem OE (l':List (Int×Int×Int)) (n:Int) (i:Int) (tl:Int) (k:Int) (o:List Int) (t1:Int) (t2:Int) (t3:Int) (h_:gM l' n i tl k o t1 t2 t3):cJ (fun x_:pr=>pA x_.1 x_.2.1 x_.2.2.1 x_.2.2.2.1 x_.2.2.2.2.1 x_.2.2.2.2.2.1 x_.2.2.2.2.2.2.1 x_.2.2.2.2.2.2.2.1 x_.2.2.2.2.2.2.2.2) (l',n,i,tl,k,o,t1,t2,t3) ((l',n,i,gY (tl-k).toNat t2 o)):=by
 obtain ⟨h1,h2,h3,h4,h5⟩:=h_
 obtain ⟨m,hm⟩: ∃ m:Nat,tl=k+m:=⟨(tl-k).toNat,by omega⟩
 subst hm
 rw[show (k+(m:Int)-k).toNat=m from by omega]
 induction m generalizing k o with
 |zero=>
  refine .stop ?_
  simp only[pA,aN,ai,aj,gY]
  exact ⟨fun h=>by omega,fun _=>trivial⟩
 |succ m ih=>
  have h3:=h3 (by omega)
  have e1:IntKind.i64.wrap ((o.length:Int)-t2)=o.length-t2:=aq (by omega) (by omega)
  have e2:IntKind.i64.wrap (k+1)=k+1:=aq (by omega) (by omega)
  have j9:=ih (k+1) (o++ [o.getD ((o.length:Int)-t2).toNat 0]) (by omega) (by omega) (fun _=>⟨h3.1,by simp;omega⟩) (by omega) (by simp;omega)
  rw[show k+1+(m:Int)=k+((m+1:Nat):Int) from by omega] at j9
  refine .go ?_ j9
  simp only[pA,aN,ai,aj,e1,e2]
  exact ⟨fun _=>⟨⟨by omega,by omega⟩,⟨by omega,by omega⟩,trivial⟩,fun h=>by omega⟩
theorem Ks (l:List bQ): ∀ x:pr,Ex Tryz.prog ((ag).wr (())) (.loop (aU Tryz.f24 2)) (uD.wr x) (Kr x):=
 bT mixed ((ao mH aD)) (ws:=Kp) (aP.nil _) (E:=uE) (L:=fun x_=>pA x_.1 x_.2.1 x_.2.2.1 x_.2.2.2.1 x_.2.2.2.2.1 x_.2.2.2.2.2.1 x_.2.2.2.2.2.2.1 x_.2.2.2.2.2.2.2.1 x_.2.2.2.2.2.2.2.2) (pre:=fun x_=>(fun (l':List (Int×Int×Int)) (n:Int) (i:Int) (tl:Int) (k:Int) (o:List Int) (t1:Int) (t2:Int) (t3:Int)=>gM l' n i tl k o t1 t2 t3) x_.1 x_.2.1 x_.2.2.1 x_.2.2.2.1 x_.2.2.2.2.1 x_.2.2.2.2.2.1 x_.2.2.2.2.2.2.1 x_.2.2.2.2.2.2.2.1 x_.2.2.2.2.2.2.2.2) (sp:=fun x_=>(fun (l':List (Int×Int×Int)) (n:Int) (i:Int) (tl:Int) (k:Int) (o:List Int) (t1:Int) (t2:Int) (t3:Int)=>(l',n,i,gY (tl-k).toNat t2 o)) x_.1 x_.2.1 x_.2.2.1 x_.2.2.2.1 x_.2.2.2.2.1 x_.2.2.2.2.2.1 x_.2.2.2.2.2.2.1 x_.2.2.2.2.2.2.2.1 x_.2.2.2.2.2.2.2.2) (fun x_=>Gy l x_.1 x_.2.1 x_.2.2.1 x_.2.2.2.1 x_.2.2.2.2.1 x_.2.2.2.2.2.1 x_.2.2.2.2.2.2.1 x_.2.2.2.2.2.2.2.1 x_.2.2.2.2.2.2.2.2) (fun z e=>by cases e) dc (fun x_ h=>OE x_.1 x_.2.1 x_.2.2.1 x_.2.2.2.1 x_.2.2.2.2.1 x_.2.2.2.2.2.1 x_.2.2.2.2.2.2.1 x_.2.2.2.2.2.2.2.1 x_.2.2.2.2.2.2.2.2 h)
abbrev pB:Type:=(List (Int×Int×Int))×Int×Int×(List Int)
noncomputable abbrev mJ:a9 St pB:=(bH (jk 3 (ak (ah (jY (0) (0))) (jk 5 (ae (ah (dB false false ((Ty.int
 IntKind.i64).pair ((Ty.int IntKind.i64).pair (Ty.int IntKind.u8))))) (ae (ah (ay IntKind.i64)) (ae (ah (ay IntKind.i64)) (jk 29
 ag))))))) (ae (cg (0) (Ty.int IntKind.u8)) ag)).jQ (fun y=>(y.1.1,y.1.2.1,y.1.2.2.1,y.2.1)) (fun x=>((x.1,(x.2.1,(x.2.2.1,()))),
 (x.2.2.2,()))) (fun _=>rfl)
abbrev uF:List Wk:= [.ct 3 u8,.fr (cK 41 [(3,.an),(9,.an),(10,.an),(11,.an)]),.syms,.auto,.ax]
abbrev Kt:Exit→List Wk:=qI uF 0 [.ct 3 u8,.fr (cK 41 [(3,.an)]),.syms,.auto,.ax] [.ct 3 u8,.fr (cK 41 [(2,.an)]),
 .syms,.auto,.ax]
abbrev Ku:Type:=List Int
noncomputable abbrev uG (x:Ku):Exit×St:=(Exit.exit 0,⟨(eE 3 (LV.one (VV.sc (SV.sl 0 0))::(eE 37 []))),[some (Item.own 0
 (Ty.int IntKind.u8) x)]⟩)
noncomputable def pC (l':List (Int×Int×Int)) (n:Int) (i:Int) (o:List Int):Tr (pB⊕(Ku)):=(.ite (decide (i<n))
 (.need (0≤i∧i<(↑l'.length:Int)) (.ite ((l'.getD i.toNat (0,0,0)).fst==0) (.need ((o.length+1)*1≤70368744177664∧o.length+1≤
 70368744177664) (.need (gM l' n i (l'.getD i.toNat (0,0,0)).fst 0 (o++ [(l'.getD i.toNat (0,0,0)).snd.snd]) (l'.getD i.toNat (0,0,
 0)).fst (l'.getD i.toNat (0,0,0)).snd.fst (l'.getD i.toNat (0,0,0)).snd.snd) (.ret (.inl (l',n,IntKind.i64.wrap (i+1),gY (Int.toNat
 ((l'.getD i.toNat (0,0,0)).fst-0)) (l'.getD i.toNat (0,0,0)).snd.fst (o++ [(l'.getD i.toNat (0,0,0)).snd.snd])))))) (.need (gM l' n i
 (l'.getD i.toNat (0,0,0)).fst 0 o (l'.getD i.toNat (0,0,0)).fst (l'.getD i.toNat (0,0,0)).snd.fst (l'.getD i.toNat (0,0,0)).snd.snd) (.ret
 (.inl (l',n,IntKind.i64.wrap (i+1),gY (Int.toNat ((l'.getD i.toNat (0,0,0)).fst-0)) (l'.getD i.toNat (0,0,0)).snd.fst o)))))) (.ret (.inr
 (o))))
theorem Gz (l:List bQ) (l':List (Int×Int×Int)) (n:Int) (i:Int) (o:List Int):c8 Tryz.prog [(48,qZ)] [(2,aX uD ((ag).wr (())) Ko (Kr))] Tryz.f24 0 ((ag).wr (())) Kt (mJ.wr (l',n,i,o))=(pC l' n i o).res mJ.wr uG:=by kernel_rfl
abbrev nD (l':List (Int×Int×Int)) (n:Int) (i:Int) (o:List Int):Prop:=n=l'.length∧0≤i∧i≤l'.length∧aW o.length (l'.drop i.toNat)=true∧o.length≤8192∧l'.length<1099511627776
noncomputable abbrev uH (x_:pB):a6:= .need ((fun (l':List (Int×Int×Int)) (n:Int) (i:Int) (o:List Int)=>nD l' n i o) x_.1 x_.2.1 x_.2.2.1 x_.2.2.2) (.leaf (uG ((fun (l':List (Int×Int×Int)) (n:Int) (i:Int) (o:List Int)=>cY o (l'.drop i.toNat)) x_.1 x_.2.1 x_.2.2.1 x_.2.2.2)).1 (uG ((fun (l':List (Int×Int×Int)) (n:Int) (i:Int) (o:List Int)=>cY o (l'.drop i.toNat)) x_.1 x_.2.1 x_.2.2.1 x_.2.2.2)).2)
theorem OF (l':List (Int×Int×Int)) (n:Int) (i:Int) (o:List Int) (h_:nD l' n i o):cJ (fun x_:pB=>pC x_.1 x_.2.1 x_.2.2.1 x_.2.2.2) (l',n,i,o) (cY o (l'.drop i.toNat)):=by
 obtain ⟨rfl,h1,h2,h3,h4,h5⟩:=h_
 obtain ⟨k,rfl⟩: ∃ k:Nat,i=k:=⟨i.toNat,by omega⟩
 rw[Int.toNat_natCast] at h3 ⊢
 obtain ⟨m,hm⟩: ∃ m,l'.length=k+m:=⟨l'.length-k,by omega⟩
 clear h2
 induction m generalizing k o with
 |zero=>
  refine .stop ?_
  rw[List.drop_of_length_le (by omega)]
  simp only[pC,aN,ai,aj,cY]
  exact ⟨fun h=>by omega,fun _=>trivial⟩
 |succ m ih=>
  have hk:k<l'.length:=by omega
  rw[gq (0,0,0) hk,aW,Bool.and_eq_true,Bool.and_eq_true] at h3
  obtain ⟨⟨h6,h7⟩,h8⟩:=h3
  rw[gq (0,0,0) hk,cY]
  generalize hx:l'.getD k (0,0,0)=x at*
  have h7:=of_decide_eq_true h7
  have hg:=Bo (o:=o) h6
  have Dx:=ie h6
  have j9:=ih (ze o x) (by omega) (k+1) (by omega) (by rw[hg];exact h8) (by omega)
  refine .go ?_ j9
  have hi:IntKind.i64.wrap ((k:Int)+1)=k+1:=aq (by omega) (by omega)
  unfold g6 at h6
  unfold bq at Dx h7
  have hkn:(0:Int)≤k∧(k:Int)<l'.length:=⟨by omega,by omega⟩
  simp only[pC,aN,ai,aj,da,Int.toNat_natCast,hx,hi]
  refine ⟨fun _=>⟨hkn,fun e=>?_,fun e=>?_⟩,fun h=>by omega⟩
  ·rw[if_pos e] at h6 Dx h7
   refine ⟨⟨by omega,by omega⟩,?_,?_⟩
   ·simp only[gM,hx];simp;omega
   ·simp only[ze,if_pos e,e];rfl
  ·rw[if_neg e] at h6 Dx h7
   have h9:=of_decide_eq_true h6
   refine ⟨?_,?_⟩
   ·simp only[gM,hx];simp;omega
   ·simp only[ze,if_neg e,Int.sub_zero];rfl
theorem Kv (l:List bQ): ∀ x:pB,Ex Tryz.prog ((ag).wr (())) (.loop (aU Tryz.f24 0)) (mJ.wr x) (uH x):=
 bT mixed ((ao mH aD)) (ws:=Kt) (aP.inner (by kernel_rfl) (jr (by kernel_rfl) (bz (hp:=(ag).wr (())) (Ks l)) jH)) (E:=uG) (L:=fun x_=>pC x_.1 x_.2.1 x_.2.2.1 x_.2.2.2) (pre:=fun x_=>(fun (l':List (Int×Int×Int)) (n:Int) (i:Int) (o:List Int)=>nD l' n i o) x_.1 x_.2.1 x_.2.2.1 x_.2.2.2) (sp:=fun x_=>(fun (l':List (Int×Int×Int)) (n:Int) (i:Int) (o:List Int)=>cY o (l'.drop i.toNat)) x_.1 x_.2.1 x_.2.2.1 x_.2.2.2) (fun x_=>Gz l x_.1 x_.2.1 x_.2.2.1 x_.2.2.2) (fun z e=>by cases e) dc (fun x_ h=>OF x_.1 x_.2.1 x_.2.2.1 x_.2.2.2 h)
abbrev GA:Type:=List Int
noncomputable abbrev GB (x:GA):LV:=LV.one (VV.sc (SV.sl 0 0))
noncomputable abbrev GC (x:GA):List (Nat×Ev.Item):= [(0,Item.own 0 (Ty.int IntKind.u8) x)]
noncomputable def zL (l:List (Int×Int×Int)):Tr (GA):=(.need (mG l) (.ite (!aW 0 l) (.ret ([])) (.need (nD l
 (↑l.length:Int) 0 []) (.ret (cY [] (List.drop 0 l))))))
theorem Kw (l:List bQ):aY Tryz.prog [(48,qZ)] [(0,aX mJ ((ag).wr (())) uF (uH))] Tryz.f24 ((oI).wr (l,())) ((ag).wr (())) [.ct 0 u8,.fr [.sym],.syms,.auto,.ax]=(zL l).end GB GC ((ag).wr (())):=by kernel_rfl
theorem OG (l:List bQ):aP Tryz.prog ((ag).wr (())) [(0,aX mJ ((ag).wr (())) uF (uH))] (aH Tryz.f24):=(aP.cy (jr (by kernel_rfl) (bz (hp:=(ag).wr (())) (Kv l)) jH))
abbrev mK (l:List bQ):Prop:=l.length<1099511627776
noncomputable def TF:au:=au.bV [some dw] (oI) (ag) fun x_ y_=> .leaf (some ((fun (l:List bQ)=>mK l) x_.1)) (GB ((fun (l:List bQ)=>dO l) x_.1)) (GC ((fun (l:List bQ)=>dO l) x_.1))
theorem Wp (l:List bQ) (h_:mK l):(zL l).Is (dO l):=by
 simp only[zL,ai,aj,bI,dO,List.drop_zero]
 cases h:aW 0 l
 ·simp[h_]
 ·simp only[Bool.not_true,reduceCtorEq,false_imp_iff,true_imp_iff,true_and,if_true]
  exact ⟨h_,⟨rfl,by omega,by omega,h,by simp,by omega⟩,trivial⟩
theorem Wq:TF.Ok Tryz.prog 24:=
 bM (tys:= [some dw]) (A:=oI) (H:=ag) (LT:=fun x_ y_=>(fun (l:List bQ)=> [(0,aX mJ ((ag).wr (())) uF (uH))]) x_.1) (ks:= [.ct 0 u8,.fr [.sym],.syms,.auto,.ax]) (V:=GB) (D:=GC) (T:=fun x_ y_=>zL x_.1) (pre:=fun x_ y_=>(fun (l:List bQ)=>mK l) x_.1) (sp:=fun x_ y_=>(fun (l:List bQ)=>dO l) x_.1) mixed ((ao mH aD)) Tryz.func24 (by kernel_rfl) Tryz.call24 (fun x_ y_=>OG x_.1) (fun x_ y_=>Kw x_.1) (fun x_ y_ h=>Wp x_.1 h)
abbrev pD:Type:=(List (Int×Int×Int))×Int×Int×(List Int)
noncomputable abbrev uI:a9 St pD:=(bH (ae (ah (dB false false ((Ty.int IntKind.i64).pair ((Ty.int IntKind.i64).pair (Ty.int
 IntKind.u8))))) (jk 2 (ak (ah (jY (0) (0))) (ae (ah (ay IntKind.i64)) (ae (ah (ay IntKind.i64)) (jk 47 ag)))))) (ae (cg (0)
 (Ty.int IntKind.u8)) ag)).jQ (fun y=>(y.1.1,y.1.2.1,y.1.2.2.1,y.2.1)) (fun x=>((x.1,(x.2.1,(x.2.2.1,()))),(x.2.2.2,()))) (fun _=>rfl)
abbrev Kx:List Wk:= [.ct 3 u8,.fr (cK 53 [(0,.an),(3,.an),(4,.an),(5,.an)]),.syms,.auto,.ax]
abbrev Ky:Exit→List Wk:=qI Kx 2 [.ct 3 u8,.fr (cK 53 [(0,.an),(3,.an),(4,.an)]),.syms,.auto,.ax] [.ct 3 u8,
 .fr (cK 53 [(2,.an)]),.syms,.auto,.ax]
abbrev Kz:Type:=(List (Int×Int×Int))×Int×(List Int)
noncomputable abbrev uJ (x:Kz):Exit×St:=(Exit.exit 2,⟨(LV.one (VV.sc (SV.rd false false ((Ty.int IntKind.i64).pair ((Ty.int
 IntKind.i64).pair (Ty.int IntKind.u8))) x.1))::(eE 2 (LV.one (VV.sc (SV.sl 0 0))::(LV.one (VV.sc (SV.int IntKind.i64 (SI.sym x.2.1)))::(eE 48
 []))))),[some (Item.own 0 (Ty.int IntKind.u8) x.2.2)]⟩)
noncomputable def pE (l':List (Int×Int×Int)) (i:Int) (k:Int) (o:List Int):Tr (pD⊕(Kz)):=(.need (0≤i∧i<
 (↑l'.length:Int)) (.ite (decide (k<(l'.getD i.toNat (0,0,0)).fst)) (.need (0≤i∧i<(↑l'.length:Int)) (.need (0≤IntKind.i64.wrap
 ((↑o.length:Int)-(l'.getD i.toNat (0,0,0)).snd.fst)∧IntKind.i64.wrap ((↑o.length:Int)-(l'.getD i.toNat (0,0,0)).snd.fst)<(↑o.length:
 Int)) (.need ((o.length+1)*1≤70368744177664∧o.length+1≤70368744177664) (.ret (.inl (l',i,IntKind.i64.wrap (k+1),o++ [o.getD
 (IntKind.i64.wrap ((↑o.length:Int)-(l'.getD i.toNat (0,0,0)).snd.fst)).toNat 0])))))) (.ret (.inr (l',i,o)))))
theorem GD (l:List bQ) (l':List (Int×Int×Int)) (i:Int) (k:Int) (o:List Int):c8 Tryz.prog [(71,j0)] [] Tryz.f41 2 ((ag).wr (())) Ky (uI.wr (l',i,k,o))=(pE l' i k o).res uI.wr uJ:=by kernel_rfl
abbrev gN (l':List (Int×Int×Int)) (i:Int) (k:Int) (o:List Int):Prop:=0≤i∧i<l'.length∧0≤k∧(l'.getD i.toNat (0,0,0)).1<1000000∧(k<(l'.getD i.toNat (0,0,0)).1→1≤(l'.getD i.toNat (0,0,0)).2.1∧(l'.getD i.toNat (0,0,0)).2.1≤o.length)∧o.length+((l'.getD i.toNat (0,0,0)).1-k)<1000000∧o.length<1000000
noncomputable abbrev KA (x_:pD):a6:= .need ((fun (l':List (Int×Int×Int)) (i:Int) (k:Int) (o:List Int)=>gN l' i k o) x_.1 x_.2.1 x_.2.2.1 x_.2.2.2) (.leaf (uJ ((fun (l':List (Int×Int×Int)) (i:Int) (k:Int) (o:List Int)=>(l',i,gY ((l'.getD i.toNat (0,0,0)).1-k).toNat (l'.getD i.toNat (0,0,0)).2.1 o)) x_.1 x_.2.1 x_.2.2.1 x_.2.2.2)).1 (uJ ((fun (l':List (Int×Int×Int)) (i:Int) (k:Int) (o:List Int)=>(l',i,gY ((l'.getD i.toNat (0,0,0)).1-k).toNat (l'.getD i.toNat (0,0,0)).2.1 o)) x_.1 x_.2.1 x_.2.2.1 x_.2.2.2)).2)
theorem OH (l':List (Int×Int×Int)) (i:Int) (k:Int) (o:List Int) (h_:gN l' i k o):cJ (fun x_:pD=>pE x_.1 x_.2.1 x_.2.2.1 x_.2.2.2) (l',i,k,o) ((l',i,gY ((l'.getD i.toNat (0,0,0)).1-k).toNat (l'.getD i.toNat (0,0,0)).2.1 o)):=by
 obtain ⟨h0,h1,h2,h3,h4,h5,h6⟩:=h_
 generalize hx:l'.getD i.toNat (0,0,0)=x at*
 obtain ⟨m,hm⟩: ∃ m:Nat,(x.1-k).toNat=m:=⟨_,rfl⟩
 rw[hm]
 induction m generalizing k o with
 |zero=>
  refine .stop ?_
  simp only[pE,aN,ai,aj,gY,hx]
  exact ⟨⟨h0,h1⟩,fun h=>by omega,fun _=>trivial⟩
 |succ m ih=>
  have h4:=h4 (by omega)
  have e1:IntKind.i64.wrap ((o.length:Int)-x.2.1)=o.length-x.2.1:=aq (by omega) (by omega)
  have e2:IntKind.i64.wrap (k+1)=k+1:=aq (by omega) (by omega)
  have j9:=ih (k+1) (o++ [o.getD ((o.length:Int)-x.2.1).toNat 0]) (by omega) (by simp;omega) (fun _=>⟨h4.1,by simp;omega⟩) (by simp;omega) (by omega)
  refine .go ?_ j9
  simp only[pE,aN,ai,aj,e1,e2,hx]
  exact ⟨⟨h0,h1⟩,fun _=>⟨⟨h0,h1⟩,⟨by omega,by omega⟩,⟨by omega,by omega⟩,trivial⟩,fun h=>by omega⟩
theorem KB (l:List bQ): ∀ x:pD,Ex Tryz.prog ((ag).wr (())) (.loop (aU Tryz.f41 2)) (uI.wr x) (KA x):=
 bT mixed ((ao gX aD)) (ws:=Ky) (aP.nil _) (E:=uJ) (L:=fun x_=>pE x_.1 x_.2.1 x_.2.2.1 x_.2.2.2) (pre:=fun x_=>(fun (l':List (Int×Int×Int)) (i:Int) (k:Int) (o:List Int)=>gN l' i k o) x_.1 x_.2.1 x_.2.2.1 x_.2.2.2) (sp:=fun x_=>(fun (l':List (Int×Int×Int)) (i:Int) (k:Int) (o:List Int)=>(l',i,gY ((l'.getD i.toNat (0,0,0)).1-k).toNat (l'.getD i.toNat (0,0,0)).2.1 o)) x_.1 x_.2.1 x_.2.2.1 x_.2.2.2) (fun x_=>GD l x_.1 x_.2.1 x_.2.2.1 x_.2.2.2) (fun z e=>by cases e) dc (fun x_ h=>OH x_.1 x_.2.1 x_.2.2.1 x_.2.2.2 h)
abbrev pF:Type:=(List (Int×Int×Int))×Int×(List Int)
noncomputable abbrev mL:a9 St pF:=(bH (ae (ah (dB false false ((Ty.int IntKind.i64).pair ((Ty.int IntKind.i64).pair (Ty.int
 IntKind.u8))))) (jk 2 (ak (ah (jY (0) (0))) (ae (ah (ay IntKind.i64)) (jk 48 ag))))) (ae (cg (0) (Ty.int IntKind.u8)) ag)).jQ
 (fun y=>(y.1.1,y.1.2.1,y.2.1)) (fun x=>((x.1,(x.2.1,())),(x.2.2,()))) (fun _=>rfl)
abbrev uK:List Wk:= [.ct 3 u8,.fr (cK 53 [(0,.an),(3,.an),(4,.an)]),.syms,.auto,.ax]
abbrev KC:Exit→List Wk:=qI uK 0 [.ct 3 u8,.fr (cK 53 [(3,.an)]),.syms,.auto,.ax] [.ct 3 u8,.fr (cK 53 [(2,.an)]),
 .syms,.auto,.ax]
abbrev KD:Type:=List Int
noncomputable abbrev uL (x:KD):Exit×St:=(Exit.exit 0,⟨(eE 3 (LV.one (VV.sc (SV.sl 0 0))::(eE 49 []))),[some (Item.own 0
 (Ty.int IntKind.u8) x)]⟩)
noncomputable def pG (l':List (Int×Int×Int)) (i:Int) (o:List Int):Tr (pF⊕(KD)):=(.ite (decide (i<(↑l'.length:
 Int))) (.need (0≤i∧i<(↑l'.length:Int)) (.ite ((l'.getD i.toNat (0,0,0)).fst==0) (.need (0≤i∧i<(↑l'.length:Int)) (.need ((o.length+
 1)*1≤70368744177664∧o.length+1≤70368744177664) (.need (gN l' i 0 (o++ [(l'.getD i.toNat (0,0,0)).snd.snd])) (.ret (.inl (l',
 IntKind.i64.wrap (i+1),gY ((l'.getD i.toNat (0,0,0)).fst-0).toNat (l'.getD i.toNat (0,0,0)).snd.fst (o++ [(l'.getD i.toNat (0,0,
 0)).snd.snd]))))))) (.need (gN l' i 0 o) (.ret (.inl (l',IntKind.i64.wrap (i+1),gY ((l'.getD i.toNat (0,0,0)).fst-0).toNat (l'.getD
 i.toNat (0,0,0)).snd.fst o)))))) (.ret (.inr (o))))
theorem GF (l:List bQ) (l':List (Int×Int×Int)) (i:Int) (o:List Int):c8 Tryz.prog [(71,j0)] [(2,aX uI ((ag).wr (())) Kx (KA))] Tryz.f41 0 ((ag).wr (())) KC (mL.wr (l',i,o))=(pG l' i o).res mL.wr uL:=by kernel_rfl
abbrev nE (l':List (Int×Int×Int)) (i:Int) (o:List Int):Prop:=0≤i∧i≤l'.length∧aW o.length (l'.drop i.toNat)=true∧o.length≤8192∧l'.length<1099511627776
noncomputable abbrev uM (x_:pF):a6:= .need ((fun (l':List (Int×Int×Int)) (i:Int) (o:List Int)=>nE l' i o) x_.1 x_.2.1 x_.2.2) (.leaf (uL ((fun (l':List (Int×Int×Int)) (i:Int) (o:List Int)=>cY o (l'.drop i.toNat)) x_.1 x_.2.1 x_.2.2)).1 (uL ((fun (l':List (Int×Int×Int)) (i:Int) (o:List Int)=>cY o (l'.drop i.toNat)) x_.1 x_.2.1 x_.2.2)).2)
theorem OI (l':List (Int×Int×Int)) (i:Int) (o:List Int) (h_:nE l' i o):cJ (fun x_:pF=>pG x_.1 x_.2.1 x_.2.2) (l',i,o) (cY o (l'.drop i.toNat)):=by
 obtain ⟨h1,h2,h3,h4,h5⟩:=h_
 obtain ⟨k,rfl⟩: ∃ k:Nat,i=k:=⟨i.toNat,by omega⟩
 rw[Int.toNat_natCast] at h3 ⊢
 obtain ⟨m,hm⟩: ∃ m,l'.length=k+m:=⟨l'.length-k,by omega⟩
 clear h2
 induction m generalizing k o with
 |zero=>
  refine .stop ?_
  rw[List.drop_of_length_le (by omega)]
  simp only[pG,aN,ai,aj,cY]
  exact ⟨fun h=>by omega,fun _=>trivial⟩
 |succ m ih=>
  have hk:k<l'.length:=by omega
  rw[gq (0,0,0) hk,aW,Bool.and_eq_true,Bool.and_eq_true] at h3
  obtain ⟨⟨h6,h7⟩,h8⟩:=h3
  rw[gq (0,0,0) hk,cY]
  generalize hx:l'.getD k (0,0,0)=x at*
  have h7:=of_decide_eq_true h7
  have hg:=Bo (o:=o) h6
  have Dx:=ie h6
  have j9:=ih (ze o x) (by omega) (k+1) (by omega) (by rw[hg];exact h8) (by omega)
  refine .go ?_ j9
  have hi:IntKind.i64.wrap ((k:Int)+1)=k+1:=aq (by omega) (by omega)
  unfold g6 at h6
  unfold bq at Dx h7
  have hkn:(0:Int)≤k∧(k:Int)<l'.length:=⟨by omega,by omega⟩
  simp only[pG,aN,ai,aj,da,Int.toNat_natCast,hx,hi]
  refine ⟨fun _=>⟨hkn,fun e=>?_,fun e=>?_⟩,fun h=>by omega⟩
  ·rw[if_pos e] at h6 Dx h7
   refine ⟨hkn,⟨by omega,by omega⟩,?_,?_⟩
   ·simp only[gN,Int.toNat_natCast,hx];simp;omega
   ·simp only[ze,if_pos e,e];rfl
  ·rw[if_neg e] at h6 Dx h7
   have h9:=of_decide_eq_true h6
   refine ⟨?_,?_⟩
   ·simp only[gN,Int.toNat_natCast,hx];simp;omega
   ·simp only[ze,if_neg e,Int.sub_zero];rfl
theorem KE (l:List bQ): ∀ x:pF,Ex Tryz.prog ((ag).wr (())) (.loop (aU Tryz.f41 0)) (mL.wr x) (uM x):=
 bT mixed ((ao gX aD)) (ws:=KC) (aP.inner (by kernel_rfl) (jr (by kernel_rfl) (bz (hp:=(ag).wr (())) (KB l)) jH)) (E:=uL) (L:=fun x_=>pG x_.1 x_.2.1 x_.2.2) (pre:=fun x_=>(fun (l':List (Int×Int×Int)) (i:Int) (o:List Int)=>nE l' i o) x_.1 x_.2.1 x_.2.2) (sp:=fun x_=>(fun (l':List (Int×Int×Int)) (i:Int) (o:List Int)=>cY o (l'.drop i.toNat)) x_.1 x_.2.1 x_.2.2) (fun x_=>GF l x_.1 x_.2.1 x_.2.2) (fun z e=>by cases e) dc (fun x_ h=>OI x_.1 x_.2.1 x_.2.2 h)
abbrev GG:Type:=List Int
noncomputable abbrev GH (x:GG):LV:=LV.one (VV.sc (SV.sl 0 0))
noncomputable abbrev GI (x:GG):List (Nat×Ev.Item):= [(0,Item.own 0 (Ty.int IntKind.u8) x)]
noncomputable def zM (l:List (Int×Int×Int)):Tr (GG):=(.need (iY l) (.ite (!aW 0 l) (.ret ([])) (.need (nE l 0
 []) (.ret (cY [] (List.drop 0 l))))))
theorem KF (l:List bQ):aY Tryz.prog [(71,j0)] [(0,aX mL ((ag).wr (())) uK (uM))] Tryz.f41 ((oI).wr (l,())) ((ag).wr (())) [.ct 0 u8,.fr [.sym],.syms,.auto,.ax]=(zM l).end GH GI ((ag).wr (())):=by kernel_rfl
theorem OJ (l:List bQ):aP Tryz.prog ((ag).wr (())) [(0,aX mL ((ag).wr (())) uK (uM))] (aH Tryz.f41):=(aP.cy (jr (by kernel_rfl) (bz (hp:=(ag).wr (())) (KE l)) jH))
abbrev iZ (l:List bQ):Prop:=l.length<1099511627776
noncomputable def zN:au:=au.bV [some dw] (oI) (ag) fun x_ y_=> .leaf (some ((fun (l:List bQ)=>iZ l) x_.1)) (GH ((fun (l:List bQ)=>dO l) x_.1)) (GI ((fun (l:List bQ)=>dO l) x_.1))
theorem Wr (l:List bQ) (h_:iZ l):(zM l).Is (dO l):=by
 simp only[zM,ai,aj,bI,dO,List.drop_zero]
 cases h:aW 0 l
 ·simp[h_]
 ·simp only[Bool.not_true,reduceCtorEq,false_imp_iff,true_imp_iff,true_and,if_true]
  exact ⟨h_,⟨by omega,by omega,h,by simp,by omega⟩,trivial⟩
theorem xH:zN.Ok Tryz.prog 41:=
 bM (tys:= [some dw]) (A:=oI) (H:=ag) (LT:=fun x_ y_=>(fun (l:List bQ)=> [(0,aX mL ((ag).wr (())) uK (uM))]) x_.1) (ks:= [.ct 0 u8,.fr [.sym],.syms,.auto,.ax]) (V:=GH) (D:=GI) (T:=fun x_ y_=>zM x_.1) (pre:=fun x_ y_=>(fun (l:List bQ)=>iZ l) x_.1) (sp:=fun x_ y_=>(fun (l:List bQ)=>dO l) x_.1) mixed ((ao gX aD)) Tryz.func41 (by kernel_rfl) Tryz.call41 (fun x_ y_=>OJ x_.1) (fun x_ y_=>KF x_.1) (fun x_ y_ h=>Wr x_.1 h)
end Go.Proofs.YtjalaohajcpllaaGreat
end
section
set_option linter.unusedVariables false
set_option linter.unusedSimpArgs false
namespace Go.Proofs.YtjalaohajcpllaaGreat
open Go Go.Ev
set_option maxRecDepth 100000
abbrev rdt (l:List Int):LV:= .one (.sc (.rd true false u8 l))
noncomputable def abp:au:=au.bV [some u8] bA ag fun x _=> .leaf (some (x.1.length≤70368744177664)) (rdt x.1) []
theorem KG:aY Tryz.prog [] [] Tryz.f31 [.one (.sc (.gz (.slice none 0 0)))] [] [.Nz 0 u8,.auto]=
 End.leaf (LV.one (VV.sc (SV.rd true false (Ty.int IntKind.u8) []))) []:=by kernel_rfl
theorem KH (l:List Int):aY Tryz.prog [] [] Tryz.f31 [.one (.sc (.rd false true u8 l))] [] [.Nz 0 u8,.auto]=
 End.need (((0:Nat)+l.length)*(1:Nat)≤(70368744177664:Nat)∧(0:Nat)+l.length≤(70368744177664:Nat)) (End.leaf (LV.one (VV.sc (SV.rd
 true false (Ty.int IntKind.u8) ([]++l)))) []):=by kernel_rfl
theorem abq:abp.Ok Tryz.prog 31:=by
 refine (au.bE Tryz.call31 fun x y Q h=>?_).sym
 obtain ⟨l,_⟩:=x
 obtain ⟨hl,hq⟩:=h
 have hl:l.length≤70368744177664:=hl
 refine hX.aij (x:= []) (y:= []) (fun e=>?_) ?_
 ·subst e
  refine (aG mixed aD Tryz.func31 rfl (LT:= []) (ks:= [.Nz 0 u8,.auto]) (aP.nil _)).use (D:= []) ?_ hq
  show (aY _ _ _ _ [.one (.sc (.gz (.slice none 0 0)))] [] _).sat _
  rw[KG]
  exact ⟨rfl,rfl⟩
 ·refine (aG mixed aD Tryz.func31 rfl (LT:= []) (ks:= [.Nz 0 u8,.auto]) (aP.nil _)).use (D:= []) ?_ hq
  show (aY _ _ _ _ [.one (.sc (.rd false true u8 l))] [] _).sat _
  rw[KH]
  exact ⟨⟨by omega,by omega⟩,rfl,rfl⟩
end Go.Proofs.YtjalaohajcpllaaGreat
end
