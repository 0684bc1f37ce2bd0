/- What the laws lean on, part 22: a reader of code, plain facts, and what each function gives; no conditions. -/
import Derived.Test.YtliehnnljilacaaGreatA21
noncomputable section
open Go.IntKind (i64 signed u16 u32 u64 wrap wrap_u32)
set_option linter.unusedVariables false
set_option linter.unusedSimpArgs false
namespace Go.Proofs.YtliehnnljilacaaGreat
open Go Go.Ev Go.Proofs.Tryz
set_option maxHeartbeats 0
set_option maxRecDepth 1000000
abbrev aDl:cl bE Cf:=fe 65 (cDv (cr 12 0))
abbrev aDm:cl bE Cf:=jLd 1 13
abbrev aDn:cl bE Sg:=jLg 14
abbrev aDo:cl bE Jn:=fe 206 (zy 1 (pk 15 0))
def Ws(b:ab):Jn×List ah:=eO b (0,2)
abbrev aVe(x:abi):List ao:= [(0,aDl.wr x.2.1),(12,aDm.wr x.2.2.1),(13,aDn.wr x.2.2.2.1),(14,aDo.wr x.2.2.2.2.1),(15,bE.own 0 (ag.pair (ag.pair ae.sl)) x.2.2.2.2.2)]
def aVf(c:Cf)(f:Fl)(b er:ab)(k:Cf)(g:Sg)(j:Jn)(l:List ah)(s:Ss)(p:PP) (h:HH) (u:Cu):Tr abi:=.need (nh c f b er) (.ret (0,c,c,eA jd (Ws b).2,(Ws b).1,(Ws b).2))
abbrev NI(c:Cf)(f:Fl)(b er:ab)(k:Cf)(g:Sg)(j:Jn)(l:List cH.D)(s:Ss)(p:PP)(h:HH)(u:Cu):Prop:=dE b er∧bL b∧kD c er∧f.2.1=false
abbrev apt(c:Cf)(f:Fl)(b er:ab)(k:Cf)(g:Sg)(j:Jn)(l:List cH.D)(s:Ss)(p:PP)(h:HH)(u:Cu):abi:=(0,c,c,eA jd (eO b (0,2)).2,eO b (0,2))
def aDp:bT:=cj [] nO qm (q12∘q0 NI) (q12∘q0 apt) aUZ aVe
theorem ayV:aeR NI aVf apt:=by
 intro c f b er k g j l s p h u h_;delta apt;exact⟨h_,rfl⟩
theorem ayW:aDp.Ok aA 20:=ay (bI tL bU) func20 call20 (ks:=eU) (fun _=>abJ @ayV)
def aDq(n:Int)(c:Cf)(f:Fl)(b er:ab)(k:Cf)(g:Sg)(j:Jn)(l:List ah)(s:Ss) (p:PP) (h:HH) (u:Cu):Tr sk:=.ret (i64.wrap (i64.wrap (2+i64.wrap (n*c.2))*1024))
abbrev Cw(n:Int)(c:Cf)(f:Fl)(b er:ab)(k:Cf)(g:Sg)(j:Jn)(l:List cH.D)(s:Ss)(p:PP)(h:HH)(u:Cu):Prop:=gy c∧0≤n∧n≤1
abbrev apu(n:Int)(c:Cf)(f:Fl)(b er:ab)(k:Cf)(g:Sg)(j:Jn)(l:List cH.D)(s:Ss)(p:PP)(h:HH)(u:Cu):sk:=1024*(2+n*c.2)
def aDr:bT:=cj [] ((bR (bO (cr 0 0)) (bD (bO (bX .i64)) bG))) qm (q12∘q1 Cw) (q12∘q1 apu) aED aEE
theorem ayX:aeS Cw aDq apu:=by
 intro n c f b er k g j l s p h u h_;delta apu;obtain⟨⟨_,_,h1,h2⟩,h3,h4⟩:=h_;have hm:n*c.2=0∨n*c.2=c.2:=by
  rcases(by omega:n=0∨n=1)with rfl|rfl
  ·left;omega
  ·right;omega
 simp only[aDq,bH];rw[bM (n:=n*c.2) (by omega) (by omega),bM (n:=2+n*c.2) (by omega) (by omega),bM (by omega) (by omega),Int.mul_comm]
theorem abt:aDr.Ok aA 30:=ay bU func30 call30 (ks:=eU) (fun x_=>abJ (@ayX x_.1))
def NJ(c:Cf):Int:=i64.wrap (c.2*1024)
def NK(o:Int×Int×Int×ab)(c:Cf):Int:=i64.wrap (1024*(2+o.2.1*c.2)+o.2.2.1)
def Wt(o:Int×Int×Int×ab)(c:Cf)(b:ab):Int×ab:=spB b (NK o c) o.2.2.2
def aDs(o:Int×Int×Int×ab)(c:Cf)(f:Fl)(b er:ab)(k:Cf)(g:Sg)(j:Jn)(l:List ah) (s:Ss) (p:PP) (h:HH) (u:Cu):Tr Pe:=.ite (decide (o.2.1<0)==false) (.ite (decide (2≤o.2.1)) (.ret (1,b)) (.ite (decide (o.2.2.1<0)==false) (.ite (decide (NJ c<o.2.2.1)==false) (.ite (decide (i64.wrap (NJ c-o.2.2.1)<(↑o.2.2.2.length:Int))) (.ret (2,b)) (.need (Cw o.2.1 c f b er k g j l s p h u) (.need (tu (NK o c) o.2.2.2 f b er) (.ret ((Wt o c b).1,(Wt o c b).2))))) (.ret (2,b))) (.ret (2,b)))) (.ret (1,b))
abbrev NL(o:gz)(c:Cf)(f:Fl)(b er:ab)(k:Cf)(g:Sg)(j:Jn)(l:List cH.D)(s:Ss)(p:PP)(h:HH)(u:Cu):Prop:=gy c∧b.length<1099511627776∧o.2.2.2.length<1099511627776
abbrev apv(o:gz)(c:Cf)(f:Fl)(b er:ab)(k:Cf)(g:Sg)(j:Jn)(l:List cH.D)(s:Ss)(p:PP)(h:HH)(u:Cu):Pe:=ta c b o
def aDt:bT:=cj [none,some u8] mn qm (q12∘q1 NL) (q12∘q1 apv) azY aU5
theorem ayY:aeS NL aDs apv:=by
 intro o c f b er k g j l s p h u h_;delta apv;obtain⟨⟨h0,GH,h1,h2⟩,h3,h4⟩:=h_;have e0:NJ c=1024*c.2:=by unfold NJ;rw[bM (by omega) (by omega),Int.mul_comm]
 simp only[aDs,zY,bW,bF,bH,e0];unfold ta;refine⟨fun d1=>⟨fun d2=>by rw[if_pos (by omega)],fun d2=>?_⟩,fun d1=>by rw[if_pos (by omega)]⟩;rw[if_neg (by omega)];refine⟨fun d3=>⟨fun d4=>?_,fun d4=>by rw[if_pos (by omega)]⟩,fun d3=>by rw[if_pos (by omega)]⟩;rw[bM (n:=1024*c.2-o.2.2.1) (by omega) (by omega)];refine⟨fun d5=>by rw[if_pos (by omega)],fun d5=>?_⟩;have hm:o.2.1*c.2=0∨o.2.1*c.2=c.2:=by
  rcases(by omega:o.2.1=0∨o.2.1=1)with d|d
  ·rw[d];left;omega
  ·rw[d];right;omega
 have e1:NK o c=1024*(2+o.2.1*c.2)+o.2.2.1:=by unfold NK;exact bM (by omega) (by omega)
 rw[if_neg (by omega)];exact⟨⟨⟨h0,GH,h1,h2⟩,by omega,by omega⟩,⟨h3,h4⟩,by unfold Wt;rw[e1]⟩
theorem ayZ:aDt.Ok aA 22:=ay (bI abt (bI Np bU)) func22 call22 (ks:=eU) (fun x_=>abJ (@ayY x_.1))
def Wu(b:ab):Jn×List ah:=eO b (0,2)
def iy(o:Int×Int×Int×ab)(f:Fl)(b er:ab)(k:Cf)(g:Sg)(j:Jn)(l:List ah) (s:Ss) (p:PP) (h:HH):Int×Int×Int×ab×Bool×Fl×ab×ab×Cf×Sg×Jn×List ah:=seL o.1 f b er k g j l s p h
def dG(o:Int×Int×Int×ab)(f:Fl)(b er:ab)(g:Sg)(j:Jn)(l:List ah) (s:Ss) (p:PP) (h:HH) (u:Cu):Int×Fl×ab×ab×Sg×Jn×List ah×Ss×PP×HH×Cu:=vE o.2.2.2 (f,b,er,g,j,l,s,p,h,u)
abbrev NM:Type:=Int×Int×Int×ab×Cf×Fl×ab×ab×Cf×Sg×Jn×(List ah)×Ss×PP×HH×Cu×Cf×Sg×Jn×(List ah)
abbrev apw(x:NM):LV:=LV.one (VV.agg [ar x.1,ar x.2.1,ar x.2.2.1,SV.arr ae 64 x.2.2.2.1])
abbrev apx(x:NM):List ao:= [(0,aDl.wr x.2.2.2.2.1),(1,dA.wr x.2.2.2.2.2.1),(2,bE.own 0 ae x.2.2.2.2.2.2.1),(3,bE.own 0 ag x.2.2.2.2.2.2.2.1),(4,mM.wr x.2.2.2.2.2.2.2.2.1),(5,iY.wr x.2.2.2.2.2.2.2.2.2.1),(6,fk.wr x.2.2.2.2.2.2.2.2.2.2.1),(7,bE.own 1 (ag.pair (ag.pair ae.sl)) x.2.2.2.2.2.2.2.2.2.2.2.1),(8,ql.wr x.2.2.2.2.2.2.2.2.2.2.2.2.1),(9,kY.wr x.2.2.2.2.2.2.2.2.2.2.2.2.2.1),(10,oY.wr x.2.2.2.2.2.2.2.2.2.2.2.2.2.2.1),(11,p6.wr x.2.2.2.2.2.2.2.2.2.2.2.2.2.2.2.1),(12,aDm.wr x.2.2.2.2.2.2.2.2.2.2.2.2.2.2.2.2.1),(13,aDn.wr x.2.2.2.2.2.2.2.2.2.2.2.2.2.2.2.2.2.1),(14,aDo.wr x.2.2.2.2.2.2.2.2.2.2.2.2.2.2.2.2.2.2.1),(15,bE.own 0 (ag.pair (ag.pair ae.sl)) x.2.2.2.2.2.2.2.2.2.2.2.2.2.2.2.2.2.2.2)]
def RC(o:Int×Int×Int×ab)(c:Cf)(f:Fl)(b er:ab)(k:Cf)(g:Sg)(j:Jn)(l:List ah) (s:Ss) (p:PP) (h:HH) (u:Cu):Tr (NM⊕Nx⊕Nx):=.ite (o.1==9) (.need (xD f b er) (.need (NI c (f.1,false,false,f.2.2.2) b er k g j l s p h u) (.ret (.inl (0,0,0,List.replicate 64 (0:Int),c,(f.1,false,false,f.2.2.2),b,er,k,g,j,l,s,p,h,u,c,eA jd (Wu b).2,(Wu b).1,(Wu b).2))))) (.ite (o.1==10) (.need (NL o c f b er k g j l s p h u) (.ret (.inr (.inl ((ta c b o).1,0,0,List.replicate 64 (0:Int),c,f,(ta c b o).2,er,k,g,j,l,s,p,h,u))))) (.need (jN f b er) (.ite f.2.1 (.need (FH o.1) (.ret (.inr (.inl (5,0,ao3 o.1,List.replicate 64 (0:Int),c,f,b,er,k,g,j,l,s,p,h,u))))) (.ite (o.1==7) (.need (tG c f b er) (.ret (.inr (.inl ((kL f b er c).2.2,0,(kL f b er c).1,(kL f b er c).2.1,c,f,b,er,k,g,j,l,s,p,h,u))))) (.ite (o.1==8) (.need (xC o.2.1 o.2.2.2 f b er) (.ret (.inr (.inl (0,0,0,List.replicate 64 (0:Int),c,((f.1.1,o.2.2.2),f.2.1,decide (0≤o.2.1),o.2.1),b,er,k,g,j,l,s,p,h,u))))) (.ite (o.1==2) (.ite ((dG o f b er g j l s p h u).1 !=0) (.need (FF o c f b er k g j l s p h u) (.ite true (.ret (.inr (.inr ((dG o f b er g j l s p h u).1,0,0,List.replicate 64 (0:Int),c,(dG o f b er g j l s p h u).2.1,(dG o f b er g j l s p h u).2.2.1,(dG o f b er g j l s p h u).2.2.2.1,k,(dG o f b er g j l s p h u).2.2.2.2.1,(dG o f b er g j l s p h u).2.2.2.2.2.1,(dG o f b er g j l s p h u).2.2.2.2.2.2.1,(dG o f b er g j l s p h u).2.2.2.2.2.2.2.1,(dG o f b er g j l s p h u).2.2.2.2.2.2.2.2.1,(dG o f b er g j l s p h u).2.2.2.2.2.2.2.2.2.1,(dG o f b er g j l s p h u).2.2.2.2.2.2.2.2.2.2)))) (.ret (.inr (.inr (1,0,0,List.replicate 64 (0:Int),c,(dG o f b er g j l s p h u).2.1,(dG o f b er g j l s p h u).2.2.1,(dG o f b er g j l s p h u).2.2.2.1,k,(dG o f b er g j l s p h u).2.2.2.2.1,(dG o f b er g j l s p h u).2.2.2.2.2.1,(dG o f b er g j l s p h u).2.2.2.2.2.2.1,(dG o f b er g j l s p h u).2.2.2.2.2.2.2.1,(dG o f b er g j l s p h u).2.2.2.2.2.2.2.2.1,(dG o f b er g j l s p h u).2.2.2.2.2.2.2.2.2.1,(dG o f b er g j l s p h u).2.2.2.2.2.2.2.2.2.2)))))) (.need (FG o c f b er k g j l s p h u) (.ite true (.ret (.inr (.inl (0,0,0,List.replicate 64 (0:Int),c,(dG o f b er g j l s p h u).2.1,(dG o f b er g j l s p h u).2.2.1,(dG o f b er g j l s p h u).2.2.2.1,k,(dG o f b er g j l s p h u).2.2.2.2.1,(dG o f b er g j l s p h u).2.2.2.2.2.1,(dG o f b er g j l s p h u).2.2.2.2.2.2.1,(dG o f b er g j l s p h u).2.2.2.2.2.2.2.1,(dG o f b er g j l s p h u).2.2.2.2.2.2.2.2.1,(dG o f b er g j l s p h u).2.2.2.2.2.2.2.2.2.1,(dG o f b er g j l s p h u).2.2.2.2.2.2.2.2.2.2)))) (.ret (.inr (.inl (1,0,0,List.replicate 64 (0:Int),c,(dG o f b er g j l s p h u).2.1,(dG o f b er g j l s p h u).2.2.1,(dG o f b er g j l s p h u).2.2.2.1,k,(dG o f b er g j l s p h u).2.2.2.2.1,(dG o f b er g j l s p h u).2.2.2.2.2.1,(dG o f b er g j l s p h u).2.2.2.2.2.2.1,(dG o f b er g j l s p h u).2.2.2.2.2.2.2.1,(dG o f b er g j l s p h u).2.2.2.2.2.2.2.2.1,(dG o f b er g j l s p h u).2.2.2.2.2.2.2.2.2.1,(dG o f b er g j l s p h u).2.2.2.2.2.2.2.2.2.2))))))) (.ite (decide (o.1=3∨o.1=5∨o.1=6)) (.need (Cr o c f b er k g j l s p h u) (.ite ((iy o f b er k g j l s p h).2.2.2.2.1) (.ret (.inr (.inr ((iy o f b er k g j l s p h).1,(iy o f b er k g j l s p h).2.1,(iy o f b er k g j l s p h).2.2.1,(iy o f b er k g j l s p h).2.2.2.1,c,(iy o f b er k g j l s p h).2.2.2.2.2.1,(iy o f b er k g j l s p h).2.2.2.2.2.2.1,(iy o f b er k g j l s p h).2.2.2.2.2.2.2.1,(iy o f b er k g j l s p h).2.2.2.2.2.2.2.2.1,(iy o f b er k g j l s p h).2.2.2.2.2.2.2.2.2.1,(iy o f b er k g j l s p h).2.2.2.2.2.2.2.2.2.2.1,(iy o f b er k g j l s p h).2.2.2.2.2.2.2.2.2.2.2,s,p,h,u)))) (.ret (.inr (.inr (1,0,0,List.replicate 64 (0:Int),c,(iy o f b er k g j l s p h).2.2.2.2.2.1,(iy o f b er k g j l s p h).2.2.2.2.2.2.1,(iy o f b er k g j l s p h).2.2.2.2.2.2.2.1,(iy o f b er k g j l s p h).2.2.2.2.2.2.2.2.1,(iy o f b er k g j l s p h).2.2.2.2.2.2.2.2.2.1,(iy o f b er k g j l s p h).2.2.2.2.2.2.2.2.2.2.1,(iy o f b er k g j l s p h).2.2.2.2.2.2.2.2.2.2.2,s,p,h,u)))))) (.need (Cr o c f b er k g j l s p h u) (.ite (decide (o.1=1∨o.1=4)) (.ret (.inr (.inl (seN o.1,0,0,List.replicate 64 (0:Int),c,f,b,er,k,g,j,l,s,p,h,u)))) (.ret (.inr (.inl (1,0,0,List.replicate 64 (0:Int),c,f,b,er,k,g,j,l,s,p,h,u)))))))))))))
theorem aeA(o:gz)(c:Cf)(f:Fl)(b er:ab)(k:Cf)(g:Sg)(j:Jn)(l:List cH.D)(s:Ss)(p:PP)(h:HH)(u:Cu):cY aA [(23,Xr),(21,Y3),(20,aDp),(22,aDt),(24,ayK),(25,YN),(26,Y1),(27,ao1)] [] f10 (mn.wr (o,())) (qm.wr (c,f,b,er,k,g,j,l,s,p,h,u,())) [.one 7,.fr [.sym],.cu,.bS,.ck]=(RC o c f b er k g j l s p h u).end (Sum.elim apw (Sum.elim apd apd)) (Sum.elim apx (Sum.elim ape apn)) (qm.wr (c,f,b,er,k,g,j,l,s,p,h,u,())):=by kernel_rfl
theorem apC{b:ab}(h:(eW b).2.2=true):aiW (eW b).1:=by
 have hg:=oG h;unfold eW at h hg ⊢;split at h
 ·rename_i c;rw[if_pos c]at hg ⊢;have hs:=pS c.2.2.2;by_cases hz:fD (QH b)= []
  ·rw[hz,List.length_take]at hs;simp only[List.length_nil]at hs;have:=hg.1;have:=hg.2.1;omega
  ·exact(sU hz).2.2
 ·cases h
theorem abv(b:ab):0≤zx b∧zx b≤4294967295:=by
 unfold zx;split
 ·rename_i c;have:=apC c.1;exact⟨this.2.2.1,this.2.2.2.1⟩
 ·decide
theorem aKG{b er:ab}(h1:dE b er)(h2:bL b)(h3:(2:Int)≤er.length):mY (eO b (0,2)).1 (eO b (0,2)).2 er:=by
 have hr:iO (0,2) er:=⟨by decide,by decide,by show(0:Int)+2≤er.length;omega⟩;obtain⟨o1,o2⟩:=Ke h1 h2 hr rfl;have e0:=abv (ff b (0,2) 0);have e1:=abv (ff b (0,2) 1);have hc:(-1≤(pZ (ff b (0,2) 0) (ff b (0,2) 1)).1∧(pZ (ff b (0,2) 0) (ff b (0,2) 1)).1≤1)∧0≤(pZ (ff b (0,2) 0) (ff b (0,2) 1)).2∧(pZ (ff b (0,2) 0) (ff b (0,2) 1)).2≤4294967295:=by
  unfold pZ;split
  ·split
   ·exact⟨by simp,e1⟩
   ·exact⟨by simp,e0⟩
  ·split
   ·exact⟨by simp,e1⟩
   ·exact⟨by simp,by simp⟩
 unfold eO at o1 ⊢;split
 ·exact⟨hr,rfl,by decide,by decide,by decide,by decide,qT⟩
 ·rename_i c;rw[if_neg c]at o1;have hl:(ff b (0,2) (pZ (ff b (0,2) 0) (ff b (0,2) 1)).1).length≤1024:=by show(cO _ _ _).length≤_;unfold cO;rw[List.length_take];omega
  generalize ff b (0,2) (pZ (ff b (0,2) 0) (ff b (0,2) 1)).1=S at o1 hl ⊢;generalize pZ (ff b (0,2) 0) (ff b (0,2) 1)=C at hc c ⊢;have hp:=pY S.length (S.drop 16);rw[List.length_drop]at hp;by_cases h16:S.length<16
  ·have e:S.drop 16= []:=List.drop_eq_nil_of_le (by omega);have Gb:=pY S.length (S.drop 16);rw[e]at Gb;simp only[List.length_nil]at Gb;refine⟨hr,rfl,hc.2,hc.1,?_,?_,o1⟩
   ·show 0≤16+(dP S.length (S.drop 16)).2∧16+(dP S.length (S.drop 16)).2≤1024;rw[e];omega
   ·show 16*((dP S.length (S.drop 16)).1.length:Int)≤16+(dP S.length (S.drop 16)).2;rw[e];omega
  ·refine⟨hr,rfl,hc.2,hc.1,?_,?_,o1⟩
   ·show 0≤16+(dP S.length (S.drop 16)).2∧16+(dP S.length (S.drop 16)).2≤1024;omega
   ·show 16*((dP S.length (S.drop 16)).1.length:Int)≤16+(dP S.length (S.drop 16)).2;omega
theorem NP{c:Cf}{b er:ab}{g:Sg}{j:Jn}{l:List Rc}(h:gA c b er g j l):gA c b er (eA jd (eO b (0,2)).2) (eO b (0,2)).1 (eO b (0,2)).2:=by
 have h2:(2:Int)≤er.length:=by have:=h.fit;omega
 have hr:iO (0,2) er:=⟨by decide,by decide,by show(0:Int)+2≤er.length;omega⟩;exact⟨h.fl,h.by_,h.fit,aKG h.fl h.by_ h2,xR _ (Ke h.fl h.by_ hr rfl).1 Lo,h.ks⟩
theorem RD{c:Cf}{f:Fl}{b er:ab}{g:Sg}{j:Jn}{l:List Rc}(h:gA c b er g j l):mH c f b er g j l (AD c g) og:=by
 obtain⟨r1,r2,_⟩:=V6 h;have z:∀n,bL (List.replicate n 0):=fun n=>bL.rep _ ⟨by decide,by decide⟩;exact⟨h,⟨r1,r2,List.length_replicate,z _⟩,rfl,⟨List.length_replicate,z _⟩,List.length_replicate,rfl,rfl,axD,.inl rfl,fun e=>absurd e (by decide)⟩
theorem ay0{c:Cf}{f:Fl}{b er:ab}{g:Sg}{j:Jn}{l:List Rc}(h:gA c b er g j l)(hb:V8 c f b g=true):qc c f b er g j l (iI c f b g).1 (iI c f b g).2.1 (iI c f b g).2.2.1 (iI c f b g).2.2.2:=by
 obtain⟨q1,q2,q3,q4,q5,q6⟩:=of_decide_eq_true hb;obtain⟨r1,r2,r3⟩:=V6 h;have so:aoj c f (AD c g) (jK c f b g).2:=aok (s:=AD c g) h r1 r2 q3;obtain⟨_,_,c3,c4,c5,c6,c7,c8,c9⟩:=h.st.C7 q1;have z:∀n,bL (List.replicate n 0):=fun n=>bL.rep _ ⟨by decide,by decide⟩;have hR:cR c=1024*(c.2-2):=by unfold cR;rw[if_pos h.fit.1]
 have sb:=so.bQ;have sl:=so.len;have es:(j4 c f b g).bK=(AD c g).bK:=so.bK;have es2:(j4 c f b g).bK.2=c.2:=by rw[es];rfl
 obtain⟨b1,b2⟩:=so.bytes List.length_replicate (z _);obtain⟨l1,l2⟩:=so.list List.length_replicate (z _);have hm:=c9;unfold mK at hm;simp only[Bool.and_eq_true,decide_eq_true_eq]at hm;have hml:=zA c9;have nu:=Ei ((g.2.2.2.2.2.2.2.drop 64).take 8) 0 ⟨by decide,by decide⟩;have n0:0≤mi g.2.2.2.2.2.2.2:=nu.1;obtain⟨k1,k2,k3,k4⟩:=zU (q:=⟨(jK c f b g).2.cM.bQ,g.2.2.2.1,0,0,0,Hf 4096,false⟩) rfl List.length_replicate (z _) (by show 0≤(jK c f b g).2.cM.bQ∧(jK c f b g).2.cM.bQ≤16;omega) ⟨c3,q4⟩
 have hcw:=anD (r:=AO (j4 c f b g)) (p:=g.2.2.2.2.2.1) h.fl h.by_ (by
  show 0≤(j4 c f b g).bK.1+2∧1≤(j4 c f b g).bK.2-2∧(j4 c f b g).bK.1+2+((j4 c f b g).bK.2-2)≤er.length;rw[es];have e2:(AD c g).bK.2=c.2:=rfl;omega) (by
  show 0≤g.2.2.2.2.2.1∧g.2.2.2.2.2.1≤1024*((j4 c f b g).bK.2-2);rw[es2];omega)
 refine⟨h,⟨⟨by show iO (j4 c f b g).bK er;rw[es];exact r1,by show 3≤(j4 c f b g).bK.2;rw[es2];exact r2,b1,b2⟩,so.ver,so.by_.1,so.by_.2,⟨l1,l2⟩,by show(jK c f b g).2.ct.length=4;rw[so.ct];exact List.length_replicate,?_,⟨c7,q5⟩⟩,?_,hcw,⟨⟨rfl,n0,by simp[iI,Ug],by show(List.drop 72 g.2.2.2.2.2.2.2).length=128;rw[List.length_drop,hml]⟩,h.st.by_.drop 72,?_⟩,?_,k1,?_,?_⟩
 ·show 0≤(jK c f b g).2.cM.cU.len∧(jK c f b g).2.cM.cU.len≤1024*((j4 c f b g).bK.2-2);rw[es2];omega
 ·show g.2.2.2.1=(atP (jK c f b g).2.cM.bQ g.2.2.2.1).block;exact k3.symm
 ·show mi g.2.2.2.2.2.2.2<2305843009213690000;omega
 ·show mi g.2.2.2.2.2.2.2≤1152921504606848000+g.2.2.2.2.2.1;omega
 ·rcases k2 with k|k
  ·exact .inl k
  ·exact .inr (.inl k)
 ·intro e;have e:(dY ⟨(jK c f b g).2.cM.bQ,g.2.2.2.1,0,0,0,Hf 4096,false⟩).part=5:=e;omega
abbrev isOk(c:Cf)(r:IS):Prop:=r.2.2.2.1=c∧gA c r.2.1 r.2.2.1 r.2.2.2.2.1 r.2.2.2.2.2.1 r.2.2.2.2.2.2
theorem apD{c:Cf}{f:Fl}{b er:ab}{g:Sg}{j:Jn}{l:List Rc}(h:gA c b er g j l):isOk c (uj (ca g j f b er l) c):=by
 obtain⟨k1,k2,k3⟩:=L2 (f:=f) h.fl h.jn h.st;exact⟨rfl,h.next k1 k2 k3⟩
theorem ay1{c:Cm}{s:Sg}{j:Jn}{f:Fl}{b er:ab}{l:List Rc}(h1:dE b er)(h2:mY j l er)(h3:mB s)(h4:bL c.2.2.2.2):Kp b er (sW c s j f b er l).2.2.2.2.1 (sW c s j f b er l).2.2.2.2.2.1∧mY (sW c s j f b er l).2.2.1 (sW c s j f b er l).2.2.2.2.2.2 (sW c s j f b er l).2.2.2.2.2.1∧mB (sW c s j f b er l).2.1:=by
 obtain⟨k1,k2⟩:=Lm h4;unfold sW;split
 ·exact⟨.rfl,h2,h3⟩
 ·exact Lq h1 h2 h3 k1 (by omega)
theorem ay2{c:Cf}{f:Fl}{b er:ab}{g:Sg}{j:Jn}{l:List Rc}{s:Ss}{p:PP}{hh:HH}(h:gA c b er g j l):isOk c (lgX (yq c f b er g j l s p hh)):=by
 unfold yq;split
 ·obtain⟨k1,k2,k3⟩:=ay1 (c:=(s.target,s.cM.cU.ver,s.cM.cU.lP,s.cM.cU.len,AH hh)) (f:=f) h.fl h.jn h.st (Vz hh);exact⟨rfl,h.next k1 k2 k3⟩
 ·exact⟨rfl,h⟩
theorem aKH{n:Int}{c:Cf}{f:Fl}{b er:ab}{g:Sg}{j:Jn}{l:List Rc}(h:gA c b er g j l):isOk c (seE n f b er c g j l).2.2.2.2.2:=by
 unfold seE;split
 ·exact apD h
 ·exact⟨rfl,h⟩
theorem aKI{n:Int}{c:Cf}{f:Fl}{b er:ab}{g:Sg}{j:Jn}{l:List Rc}{s:Ss}{p:PP}{hh:HH}(h:gA c b er g j l):isOk c (seL n f b er c g j l s p hh).2.2.2.2.2:=by
 unfold seL;split
 ·exact apD h
 ·split
  ·exact ay2 h
  ·exact⟨rfl,h⟩
theorem NQ{c:Cf}{b er:ab}{o:gz}(ho:bL o.2.2.2):Kp b er (ta c b o).2 er:=by
 unfold ta;split
 ·exact .rfl
 ·split
  ·exact .rfl
  ·unfold spB;split
   ·rename_i h;exact US h ho
   ·exact .rfl
abbrev TL:=Int×Int×Int×ab
abbrev Dv:=Cf×Fl×ab×ab×Cf×Sg×Jn×List Rc×Int×Ss×PP×HH×Cu
def ssN:Ss:=⟨0,(0,0),[],nH,[],[],0,0,0,0⟩
def ppN:PP:=⟨0,0,0,0,0,[],false⟩
def hhN:HH:=⟨false,[],0,[]⟩
def cuN:Cu:=⟨(0,0),0,0,[],0,0⟩
def dvI(c:Cf)(f:Fl)(b er:ab)(k:Cf)(g:Sg)(j:Jn)(l:List Rc):Dv:=(c,f,b,er,k,g,j,l,0,ssN,ppN,hhN,cuN)
def dvE(c:Cf)(f:Fl)(b er:ab)(k:Cf)(g:Sg)(j:Jn)(l:List Rc)(s:Ss)(p:PP):Dv:=(c,f,b,er,k,g,j,l,1,s,p,hhN,cuN)
def dvL(c:Cf)(f:Fl)(b er:ab)(k:Cf)(g:Sg)(j:Jn)(l:List Rc)(s:Ss)(p:PP)(h:HH)(u:Cu):Dv:=(c,f,b,er,k,g,j,l,2,s,p,h,u)
def m9:Dv→Prop:=fun(c,f,b,er,k,g,j,l,m,s,p,h,u)=>k=c∧(m=0∧gA c b er g j l∨m=1∧mH c f b er g j l s p∨m=2∧qc c f b er g j l s p h u)
theorem iA{c:Cf}{f:Fl}{b er:ab}{k:Cf}{g:Sg}{j:Jn}{l:List Rc}(e:k=c)(h:gA c b er g j l):m9 (dvI c f b er k g j l):=⟨e,.inl ⟨rfl,h⟩⟩
theorem rf{c:Cf}{f:Fl}{b er:ab}{k:Cf}{g:Sg}{j:Jn}{l:List Rc}{s:Ss}{p:PP}(e:k=c)(h:mH c f b er g j l s p):m9 (dvE c f b er k g j l s p):=⟨e,.inr (.inl ⟨rfl,h⟩)⟩
theorem rh{c:Cf}{f:Fl}{b er:ab}{k:Cf}{g:Sg}{j:Jn}{l:List Rc}{s:Ss}{p:PP}{h:HH}{u:Cu}(e:k=c)(H:qc c f b er g j l s p h u):m9 (dvL c f b er k g j l s p h u):=⟨e,.inr (.inr ⟨rfl,H⟩)⟩
def apE:Nu⊕Nv⊕Nw⊕Nx→TL×Dv
 | .inl (e,n,s,m,c,f,b,er,_,_,_,_,k,g,j,l)=>((e,n,s,m),dvI c f b er k g j l)
 | .inr (.inl (e,n,s,m,c,f,b,er,k,g,j,l))=>((e,n,s,m),dvI c f b er k g j l)
 | .inr (.inr (.inl (e,n,s,m,c,f,b,er,k,g,j,l,x,p)))=>((e,n,s,m),dvE c f b er k g j l x p)
 | .inr (.inr (.inr (e,n,s,m,c,f,b,er,k,g,j,l,x,p,h,u)))=>((e,n,s,m),dvL c f b er k g j l x p h u)
def apF:NC⊕Nw⊕Nx⊕Nx⊕Nw→TL×Dv
 | .inl (e,n,s,m,c,f,b,er,_,_,_,_,_,_,k,g,j,l)=>((e,n,s,m),dvI c f b er k g j l)
 | .inr (.inl (e,n,s,m,c,f,b,er,k,g,j,l,x,p))=>((e,n,s,m),dvE c f b er k g j l x p)
 | .inr (.inr (.inl (e,n,s,m,c,f,b,er,k,g,j,l,_,_,_,_)))=>((e,n,s,m),dvI c f b er k g j l)
 | .inr (.inr (.inr (.inl (e,n,s,m,c,f,b,er,k,g,j,l,x,p,h,u))))=>((e,n,s,m),dvL c f b er k g j l x p h u)
 | .inr (.inr (.inr (.inr (e,n,s,m,c,f,b,er,k,g,j,l,_,_))))=>((e,n,s,m),dvI c f b er k g j l)
def apG:NM⊕Nx⊕Nx→TL×Dv
 | .inl (e,n,s,m,c,f,b,er,_,_,_,_,_,_,_,_,k,g,j,l)=>((e,n,s,m),dvI c f b er k g j l)
 | .inr (.inl (e,n,s,m,c,f,b,er,k,g,j,l,x,p,h,u))=>((e,n,s,m),dvL c f b er k g j l x p h u)
 | .inr (.inr (e,n,s,m,c,f,b,er,k,g,j,l,_,_,_,_))=>((e,n,s,m),dvI c f b er k g j l)
abbrev gn(o:gz):Prop:=bL o.2.2.2∧o.2.2.2.length<1099511627776
theorem yH{c:Cf}{b er:ab}{g:Sg}{j:Jn}{l:List Rc}(h:gA c b er g j l):b.length<1099511627776:=by
 have:=h.fl;omega
theorem aKJ{o:gz}{c:Cf}{f:Fl}{b er:ab}{g:Sg}{j:Jn}{l:List Rc}(ho:gn o)(h:gA c b er g j l):(RA o c f b er c g j l).all fun z=>m9 (apE z).2:=by
 obtain⟨OA,Ga⟩:=ho;have hs:gA c (ta c b o).2 er g j l:=h.next (NQ OA) h.jn h.st;obtain⟨k1,k2,k3⟩:=L2 (f:=f) h.fl h.jn h.st;have hc:=h.next k1 k2 k3;have hbl:=yH h;simp only[RA,jm,all_bne,Fz,M7,all_true];refine⟨fun _=>⟨trivial,⟨h.fl,h.by_,h.fit,rfl⟩,iA rfl (NP h)⟩,fun _=>⟨fun _=>⟨⟨h.fit.1,hbl,Ga⟩,iA rfl hs⟩,fun _=>⟨trivial,lU.2 ⟨fun _=>⟨trivial,iA rfl h⟩,fun _=>?_⟩⟩⟩⟩;refine jm.2 ⟨fun _=>⟨⟨h.fl,h.by_,h.ks⟩,iA rfl h⟩,fun _=>jm.2 ⟨fun _=>⟨Ga,iA rfl h⟩,fun _=>jm.2 ⟨fun _=>all_bne.2 ⟨fun _=>⟨h,all_true.2 (rf rfl (RD hc))⟩,fun _=>⟨h,all_true.2 (iA rfl hc)⟩⟩,fun _=>jm.2 ⟨fun _=>?_,fun _=>⟨h,yG.2 ⟨fun _=>iA rfl h,fun _=>iA rfl h⟩⟩⟩⟩⟩⟩;exact lU.2 ⟨fun e=>⟨h,all_true.2 (rh rfl (ay0 h e))⟩,fun _=>all_bne.2 ⟨fun _=>⟨h,all_true.2 (rf rfl (RD hc))⟩,fun _=>⟨h,all_true.2 (iA rfl hc)⟩⟩⟩
theorem aKK{o:gz}{c:Cf}{f:Fl}{b er:ab}{g:Sg}{j:Jn}{l:List Rc}{s:Ss}{p:PP}(ho:gn o)(H:mH c f b er g j l s p):(RB o c f b er c g j l s p).all fun z=>m9 (apF z).2:=by
 obtain⟨OA,Ga⟩:=ho;have h:=H.ld;have hs:gA c (ta c b o).2 er g j l:=h.next (NQ OA) h.jn h.st;have hbl:=yH h;obtain⟨m1,m2⟩:=aCL (c:=c) (x:=o.2.2.2) (V:=(f,b,er,g,j,l,s,p)) H OA;have hq:=aKH (n:=o.1) (f:=f) h;have hf:∀f',mH c f' b er g j l s p:=fun f'=>⟨h,H.ss,H.sl,H.list,H.ct,H.done,H.block,H.pr,H.part,H.three⟩;simp only[RB,jm,all_bne,Fz,M7,all_true];refine⟨fun _=>⟨trivial,⟨h.fl,h.by_,h.fit,rfl⟩,iA rfl (NP h)⟩,fun _=>⟨fun _=>⟨⟨h.fit.1,hbl,Ga⟩,rf rfl ⟨hs,H.ss,H.sl,H.list,H.ct,H.done,H.block,H.pr,H.part,H.three⟩⟩,fun _=>⟨trivial,lU.2 ⟨fun _=>⟨trivial,rf rfl H⟩,fun _=>?_⟩⟩⟩⟩;refine jm.2 ⟨fun _=>⟨⟨h.fl,h.by_,h.ks⟩,rf rfl H⟩,fun _=>jm.2 ⟨fun _=>⟨Ga,rf rfl (hf _)⟩,fun _=>jm.2 ⟨fun e2=>?_,fun e2=>?_⟩⟩⟩
 ·refine lU.2 ⟨fun eg=>all_bne.2 ⟨fun d=>⟨⟨e2,OA,Ga,H,eg,d⟩,all_true.2 (rh rfl ((m1 eg).2 d))⟩,fun d=>⟨⟨e2,OA,Ga,H,eg,d⟩,all_true.2 (iA rfl (m1 eg).1)⟩⟩,fun eg=>all_bne.2 ⟨fun d=>⟨⟨e2,OA,Ga,H,eg,d⟩,all_true.2 (rf rfl ((m2 eg).2 d))⟩,fun d=>⟨⟨e2,OA,Ga,H,eg,d⟩,all_true.2 (iA rfl (m2 eg).1)⟩⟩⟩
 ·exact yG.2 ⟨fun _=>⟨⟨H,e2⟩,lU.2 ⟨fun _=>iA hq.1 hq.2,fun _=>iA hq.1 hq.2⟩⟩,fun _=>⟨⟨H,e2⟩,yG.2 ⟨fun _=>rf rfl H,fun _=>rf rfl H⟩⟩⟩
theorem aKL{o:gz}{c:Cf}{f:Fl}{b er:ab}{g:Sg}{j:Jn}{l:List Rc}{s:Ss}{p:PP}{hh:HH}{u:Cu}(ho:gn o)(H:qc c f b er g j l s p hh u):(RC o c f b er c g j l s p hh u).all fun z=>m9 (apG z).2:=by
 obtain⟨OA,Ga⟩:=ho;have h:=H.ld;have hs:gA c (ta c b o).2 er g j l:=h.next (NQ OA) h.jn h.st;have hbl:=yH h;obtain⟨m1,m2⟩:=VQ (c:=c) (x:=o.2.2.2) (V:=(f,b,er,g,j,l,s,p,hh,u)) H OA;have hq:=aKI (n:=o.1) (f:=f) (s:=s) (p:=p) (hh:=hh) h;have hf:∀f',qc c f' b er g j l s p hh u:=fun f'=>⟨h,H.la,H.cK,H.cw,H.hh,H.hn,H.pr,H.part,H.Ru⟩;simp only[RC,jm,all_bne,Fz,M7,all_true];refine⟨fun _=>⟨trivial,⟨h.fl,h.by_,h.fit,rfl⟩,iA rfl (NP h)⟩,fun _=>⟨fun _=>⟨⟨h.fit.1,hbl,Ga⟩,rh rfl ⟨hs,H.la,H.cK,H.cw,H.hh,H.hn,H.pr,H.part,H.Ru⟩⟩,fun _=>⟨trivial,lU.2 ⟨fun _=>⟨trivial,rh rfl H⟩,fun _=>?_⟩⟩⟩⟩;refine jm.2 ⟨fun _=>⟨⟨h.fl,h.by_,h.ks⟩,rh rfl H⟩,fun _=>jm.2 ⟨fun _=>⟨Ga,rh rfl (hf _)⟩,fun _=>jm.2 ⟨fun e2=>?_,fun e2=>?_⟩⟩⟩
 ·exact all_bne.2 ⟨fun d=>⟨⟨e2,OA,Ga,H,d⟩,all_true.2 (rh rfl (m2 d))⟩,fun d=>⟨⟨e2,OA,Ga,H,d⟩,all_true.2 (iA rfl m1)⟩⟩
 ·exact yG.2 ⟨fun _=>⟨⟨H,e2⟩,lU.2 ⟨fun _=>iA hq.1 hq.2,fun _=>iA hq.1 hq.2⟩⟩,fun _=>⟨⟨H,e2⟩,yG.2 ⟨fun _=>rh rfl H,fun _=>rh rfl H⟩⟩⟩
abbrev NR:Type:=Nat
abbrev aKM(x:NR):LV:=aw (SV.rl x)
abbrev aKN(x:NR):List ao:= []
def aKO(n t:Int):Tr NR:=.need (¬Oq (uM n) (uM t)=none) (.ret (ae6 (uM n) (uM t)))
def apH(n t:Int):Nat:=ae6 (uM n) (uM t)
abbrev FI(n t:Int):Prop:=Oq (uM n) (uM t)≠none
abbrev Ww(n t:Int):NR:=apH n t
def aKP:bT:=cj [] ((bD (bO (bX .i64)) (bD (bO (bX .i64)) bG))) bG (q0∘q2 FI) (q0∘q2 Ww) aKM aKN
theorem apI:ab1 FI aKO Ww:=by
 intro n t h_;delta Ww;exact⟨h_,rfl⟩
theorem RE:aKP.Ok aA 33:=ay bU func33 call33 (ks:=eU) (fun x_ _=>@apI x_.1 x_.2.1)
def aDu(n:Int):Nat:=apH n 1
def RF(l:ab):List Nat:=l.map aDu
def Wx(er:ab):Prop:=∀z∈er,Oq (uM z) (uM 1)≠none
abbrev FJ:Type:=Int×Int×aj×ai×ab×ab×aj×ak×an×(List ah)×(List Nat)
abbrev apJ:cl St FJ:=(dy (bR (bO (cr (0) (0))) (jk 2 (bR (bO (pk (8) (0))) (jk 8 (bD (bO (bX i64)) (bD (bO (bX i64)) (jk 14 bG))))))) (bD (cb ud) (bD (cb dA) (bD (dd (0) ae) (bD (dd (0) ag) (bD (cb ue) (bD (cb iY) (bD (cb Ey) (bD (dd (0) (ag.pair (ag.pair ae.sl))) (bD (dd (0) Ty.rl) bG)))))))))).jr (fun y=>(y.1.1,y.1.2.1,y.2.1,y.2.2.1,y.2.2.2.1,y.2.2.2.2.1,y.2.2.2.2.2.1,y.2.2.2.2.2.2.1,y.2.2.2.2.2.2.2.1,y.2.2.2.2.2.2.2.2.1,y.2.2.2.2.2.2.2.2.2.1)) (fun x=>((x.1,(x.2.1,())),(x.2.2.1,(x.2.2.2.1,(x.2.2.2.2.1,(x.2.2.2.2.2.1,(x.2.2.2.2.2.2.1,(x.2.2.2.2.2.2.2.1,(x.2.2.2.2.2.2.2.2.1,(x.2.2.2.2.2.2.2.2.2.1,(x.2.2.2.2.2.2.2.2.2.2,()))))))))))) (fun _=>rfl)
abbrev apK:List Wk:= [.kA 3 .rl,.fr (eH 28 [(0,.bV),(3,.bV),(12,.bV),(13,.bV)]),.cu,.bS,.ck]
abbrev aKQ:Exit→List Wk:=ua apK 0 [.kA 3 .rl,.fr (eH 28 [(3,.bV)]),.cu,.bS,.ck] [.kA 3 .rl,.fr (eH 28 [(2,.bV)]),.cu,.bS,.ck]
def Cx(n i:Int)(c:aj)(f:ai)(b er:ab)(k:aj) (g:ak) (j:an) (l:List ah) (out:List Nat):Int:=if 0≤i∧i<(↑er.length:Int)then er.getD i.toNat 0 else 0
abbrev Wy:Type:=(aj)×ai×ab×ab×aj×ak×an×(List ah)×(List Nat)
abbrev aKR(x:Wy):Exit×St:=(Exit.exit 0,⟨(gE 3 (LV.one (VV.sc (SV.sl 8 0))::(gE 24 []))),[some (ud.wr x.1),some (dA.wr x.2.1),some (bE.own 0 ae x.2.2.1),some (bE.own 0 ag x.2.2.2.1),some (ue.wr x.2.2.2.2.1),some (iY.wr x.2.2.2.2.2.1),some (Ey.wr x.2.2.2.2.2.2.1),some (bE.own 0 (ag.pair (ag.pair ae.sl)) x.2.2.2.2.2.2.2.1),some (bE.own 0 Ty.rl x.2.2.2.2.2.2.2.2)]⟩)
def Wz(n i:Int)(c:aj)(f:ai)(b er:ab)(k:aj) (g:ak) (j:an) (l:List ah) (out:List Nat):Tr (FJ⊕(Wy)):=.ite (decide (i<n)) (.need (KB i f b er) (.need (FI (Cx n i c f b er k g j l out) 1) (.need ((out.length+1)*8≤70368744177664∧out.length+1≤70368744177664) (.ret (.inl (n,i64.wrap (i+1),c,f,b,er,k,g,j,l,out++ [apH (Cx n i c f b er k g j l out) 1])))))) (.ret (.inr (c,f,b,er,k,g,j,l,out)))
abbrev FK(n i:Int)(c:aj)(f:ai)(b er:ab)(k:aj)(g:ak)(j:an)(l:List ah)(out:List Nat):Prop:=0≤i∧i≤n∧n=er.length∧er.length≤256∧Wx er∧out.length=i.toNat
abbrev WA(n i:Int)(c:aj)(f:ai)(b er:ab)(k:aj)(g:ak)(j:an)(l:List ah)(out:List Nat):Wy:=(c,f,b,er,k,g,j,l,out++RF (er.drop i.toNat))
abbrev apL:FJ→cT:=gX (aK FK) (aK WA) aKR
theorem apM(n i:Int)(c:aj)(f:ai)(b er:ab)(k:aj)(g:ak)(j:an)(l:List ah)(out:List Nat)(h_:FK n i c f b er k g j l out):eG (fun x_:FJ=>Wz x_.1 x_.2.1 x_.2.2.1 x_.2.2.2.1 x_.2.2.2.2.1 x_.2.2.2.2.2.1 x_.2.2.2.2.2.2.1 x_.2.2.2.2.2.2.2.1 x_.2.2.2.2.2.2.2.2.1 x_.2.2.2.2.2.2.2.2.2.1 x_.2.2.2.2.2.2.2.2.2.2) (n,i,c,f,b,er,k,g,j,l,out) (WA n i c f b er k g j l out):=by
 delta WA;obtain⟨h1,h2,rfl,h4,h5,h6⟩:=h_;obtain⟨m,rfl⟩:∃m:Nat,i=m:=⟨i.toNat,by omega⟩;obtain⟨q,hq⟩:∃q,er.length-m=q:=⟨_,rfl⟩;rw[Int.toNat_natCast]at h6 ⊢;induction q generalizing m out with
 |zero=>
  refine .stop ?_;have d:¬ (m:Int)<er.length:=by omega
  rw[List.drop_of_length_le (by omega)];simp[Wz,d,bY,bH,RF]
 |succ q ih=>
  have d:(m:Int)<er.length:=by omega
  have w:=ih (out++ [aDu (er.getD m 0)]) (m+1) (by omega) (by omega) (by rw[List.length_append];simp;omega) (by omega);rw[gU 0 (by omega),RF,List.map_cons];rw[List.append_assoc,List.singleton_append]at w;refine .go ?_ w;have hm:Oq (uM (er.getD m 0)) (uM 1)≠none:=h5 _ (by rw[List.getD_eq_getElem?_getD,List.getElem?_eq_getElem (by omega)];exact List.getElem_mem _);have hw:i64.wrap ((m:Int)+1)=((m+1:Nat):Int):=by rw[bM (by omega) (by omega)];rfl
  have e2:Cx (er.length:Int) (m:Int) c f b er k g j l out=er.getD m 0:=by unfold Cx;rw[if_pos ⟨by omega,d⟩,Int.toNat_natCast]
  simp only[Wz,hw,e2,bW,bF,bH];exact⟨fun _=>⟨trivial,hm,⟨by omega,by omega⟩,rfl⟩,fun h=>absurd d h⟩
theorem aeB(y_):∀x:FJ,Ex aA (o7.wr y_) (.loop (cG f15 0)) (apJ.wr x) (apL x):=ee bJ ((bI wz (bI Y5 (bI RE bU)))) (ws:=aKQ) (cn.nil _) (fun _=>by kernel_rfl) (fun z e=>by cases e) im (aY @apM)
def WB(f:ai):(Int×ab)×Bool×Bool×Int:=f
abbrev abw:Type:=List Nat
abbrev aVk(x:abw):LV:=aw (SV.sl 8 0)
abbrev aVl(x:abw):List ao:= [(8,bE.own 0 Ty.rl x)]
def aDv(c:aj)(f:ai)(b er:ab)(k:aj) (g:ak) (j:an) (l:List ah):Tr abw:=.need (sn (WB f) b er) (.need (FK (i64.wrap (Int.tdiv (↑b.length:sk) 1024)) 0 c (WB f) b er k g j l []) (.ret ([]++RF (List.drop 0 er))))
abbrev NS(c:Cf)(f:Fl)(b er:ab)(k:Cf)(g:Sg)(j:Jn)(l:List cH.D):Prop:=dE b er∧Wx er
abbrev apN(c:Cf)(f:Fl)(b er:ab)(k:Cf)(g:Sg)(j:Jn)(l:List cH.D):abw:=RF er
def aVm:bT:=cj [] nO o7 (q8∘q0 NS) (q8∘q0 apN) aVk aVl
theorem ay4:aeo NS aDv apN:=by
 intro c f b er k g j l h_;delta apN;obtain⟨⟨h1,h2,h3⟩,h4⟩:=h_;have hw:i64.wrap (Int.tdiv (b.length:Int) 1024)=er.length:=by rw[Int.tdiv_eq_ediv_of_nonneg (by omega),bM (by omega) (by omega)];omega
 have e:WB f=f:=rfl;simp only[aDv,e,bF,bH];rw[hw];exact⟨trivial,⟨by omega,by omega,rfl,h3,h4,rfl⟩,rfl⟩
theorem ay5:aVm.Ok aA 15:=az (bI wz (bI Y5 (bI RE bU))) func15 call15 (ks:= [.kA 0 .rl,.fr [.sym],.cu,.bS,.ck]) apJ apK apL aeB (fun _=>bC @ay4)
def aVp:Tr YD:=.need Bh (.ret (jd.1.1,0,0,0,jd.1.2.2.2.2,jd.2.1,0,0,0,0,jd.2.2.2.2.2.2.1,jd.2.2.2.2.2.2.2))
abbrev NT:Prop:=True
abbrev apO:YD:=eP jd
def aVq:bT:=cj [] aQP bG (q0∘q0 NT) (q0∘q0 apO) aPP aPQ
theorem ay6(h_:NT):(aVp).Is (apO):=by
 delta apO;exact⟨trivial,rfl⟩
theorem ay7:aVq.Ok aA 50:=ay (bI J6 bU) func50 call50 (ks:=eU) (fun x_ y_ h=>ay6 h)
def aVt:Tr YD:=.need NT (.ret (jd.1.1,0,0,0,jd.1.2.2.2.2,jd.2.1,0,0,0,0,jd.2.2.2.2.2.2.1,jd.2.2.2.2.2.2.2))
abbrev yI:Prop:=True
abbrev apP:YD:=eP jd
def abz:bT:=cj [] aQP bG (q0∘q0 yI) (q0∘q0 apP) aPP aPQ
theorem ay8(h_:yI):(aVt).Is (apP):=by
 delta apP;exact⟨trivial,rfl⟩
theorem NU:abz.Ok aA 28:=ay (bI ay7 bU) func28 call28 (ks:=eU) (fun x_ y_ h=>ay8 h)
def aKU(e:Int):Tr sk:=.ret e
abbrev n7(e:Int):Prop:=True
abbrev WC(e:Int):sk:=e
def aKV:bT:=cj [] inA bG (q0∘q1 n7) (q0∘q1 WC) aED aEE
theorem apQ:abY n7 aKU WC:=by
 intro e h_;delta WC;exact rfl
theorem FL:aKV.Ok aA 8:=ay bU func8 call8 (ks:=eU) (fun x_ _=>@apQ x_.1)
def zZ:(Int×Int)×Int×Int×Int×Bool×Int:=((0,2),0,(-1),0,false,0)
def z3:(Int×Int×Int×Int×ab)×Bool×Int×Int×Int×Int×ab×ab:=(((-1),0,0,0,List.replicate 64 (0:Int)),false,0,0,0,0,List.replicate 8 (0:Int),[])
def fo:List ab×Int:=([[1,0,0,0,0,0,0,0,0,0,0,0,0,0,0,0,0,0,0,0,0,0,0,0,0,0,0,0,0,0,0,0]],3)
def RG:Tr IE:=.need (xI fo) (.need (n7 0) (.ite (((0:Int)!=0)==false) (.need (KV (7,0,0,[]) fo ((0,[]),false,false,0) (List.replicate 8192 (255:Int)) (List.replicate (jx fo) (0:Int)) fo z3 zZ []) (.ite (((kL ((0,[]),false,false,0) (List.replicate 8192 (255:Int)) (List.replicate (jx fo) (0:Int)) fo).1==(-1))==true) (.need (n7 13) (.ite (((13:Int)==13)==true) (.need (UM fo ((0,[]),false,false,0) (List.replicate 8192 (255:Int)) (List.replicate (jx fo) (0:Int)) fo z3 zZ []) (.ite ((!false)==true) (.need (NS fo ((0,[]),false,false,0) (List.replicate 8192 (255:Int)) (List.replicate (jx fo) (0:Int)) fo z3 zZ []) (.ret ((8:Int)==8))) (.ret false))) (.ret false))) (.ret false))) (.ret false)))
abbrev vD:Prop:=True
abbrev FN:IE:=true
def apT:bT:=cj [] bG bG (q0∘q0 vD) (q0∘q0 FN) aEH aEI
theorem WD(h_:vD):(RG).Is (FN):=by
 delta FN;have e1:jx fo=8:=rfl;have e2:(kL ((0,[]),false,false,0) (List.replicate 8192 255) (List.replicate 8 0) fo).1= -1:=rfl;have h1:dE (List.replicate 8192 255) (List.replicate 8 0):=⟨by simp,by simp,by simp⟩;have h2:bL (List.replicate 8192 255):=bL.rep 8192 ⟨by decide,by decide⟩
 have h3:zt fo.1:=fun k hk=>by
  have hk:k<1:=hk;obtain rfl:k=0:=by omega
  rfl
 have h4:Wx (List.replicate 8 0):=fun z hz=>by
  rw[List.eq_of_mem_replicate hz];decide+kernel
 have h5:gy fo:=by decide
 simp only[RG,e1,e2,bF,bY,bH];exact⟨h5,trivial,fun _=>⟨⟨rfl,rfl,h1,h2,h3⟩,fun _=>⟨trivial,fun _=>⟨trivial,fun _=>⟨⟨h1,h4⟩,rfl⟩,fun h=>by cases h⟩,fun h=>by cases h⟩,fun h=>by cases h⟩,fun h=>by cases h⟩
theorem FO:apT.Ok aA 4:=ay (bI QZ (bI FL (bI au3 (bI aHS (bI ay5 bU))))) func4 call4 (ks:=eU) (fun x_ y_ h=>WD h)
end Go.Proofs.YtliehnnljilacaaGreat
noncomputable section
namespace Go.Proofs.YtliehnnljilacaaGreat
open Go Go.Ev Go.Proofs.Tryz
set_option maxHeartbeats 0
set_option maxRecDepth 1000000
def WE(f:Fl)(g:Sg):YD:=if f.2.1=true then eP jd else eP g
def aVu(c:Cf)(m:Int):Int:=if cR c<m then cR c else m
def a0q(c:Cf)(m:Int):Int:=if 0<aVu c m then aVu c m else 0
def WG(c:Cf)(b:ab)(n m:Int):ab:=if n<0∨2≤n then []else At b (1024*(2+n*c.2)+2048) (a0q c m)
def aVv(c:Cf)(f:Fl)(b er:ab)(k:Cf)(g:Sg)(j:Jn)(l:List ah):Tr IE:=.need (jN f b er) (.ret (!f.2.1))
abbrev Cy(c:Cf)(f:Fl)(b er:ab)(k:Cf)(g:Sg)(j:Jn)(l:List cH.D):Prop:=True
abbrev HM(c:Cf)(f:Fl)(b er:ab)(k:Cf)(g:Sg)(j:Jn)(l:List cH.D):IE:= !f.2.1
def apV:bT:=cj [] nO o7 (q8∘q0 Cy) (q8∘q0 HM) aEH aEI
theorem ay9:aeo Cy aVv HM:=by
 intro c f b er k g j l h_;delta HM;exact⟨trivial,rfl⟩
theorem abB:apV.Ok aA 14:=ay (bI lM bU) func14 call14 (ks:=eU) (fun _=>bC @ay9)
abbrev aDx:bT:=abz.or aB5
theorem aza:aDx.Ok aA 28:=NU.or BZ
def abC(c:Cf)(f:Fl)(b er:ab)(k:Cf)(g:Sg)(j:Jn)(l:List ah):Tr YD:=.need (Cy c f b er k g j l) (.ite (!!f.2.1) (.need yI (.ret ((eP jd).1,0,0,0,(eP jd).2.2.2.2.1,(eP jd).2.2.2.2.2.1,0,0,0,0,(eP jd).2.2.2.2.2.2.2.2.2.2.1,(eP jd).2.2.2.2.2.2.2.2.2.2.2))) (.need (qV k f b er g j l) (.ret ((eP g).1,(eP g).2.1,(eP g).2.2.1,(eP g).2.2.2.1,(eP g).2.2.2.2.1,(eP g).2.2.2.2.2.1,(eP g).2.2.2.2.2.2.1,(eP g).2.2.2.2.2.2.2.1,(eP g).2.2.2.2.2.2.2.2.1,(eP g).2.2.2.2.2.2.2.2.2.1,(eP g).2.2.2.2.2.2.2.2.2.2.1,(eP g).2.2.2.2.2.2.2.2.2.2.2))))
theorem aeC(c:Cf)(f:Fl)(b er:ab)(k:Cf)(g:Sg)(j:Jn)(l:List cH.D):cY aA [(14,apV),(28,aDx)] [] f12 (nO.wr (())) (o7.wr (c,f,b,er,k,g,j,l,())) [.fr [.sym],.cu,.bS,.ck]=(abC c f b er k g j l).end aPP aPQ (o7.wr (c,f,b,er,k,g,j,l,())):=by kernel_rfl
theorem azb(c:Cf)(f:Fl)(b er:ab)(k:Cf)(g:Sg)(j:Jn)(l:List cH.D)(h_:g.2.2.2.2.2.2.2.length≤200):(abC c f b er k g j l).Is (WE f g):=by
 unfold WE;cases hf:f.2.1 with
 |true=>simp only[abC,hf,Bool.not_true,Bool.not_false,dH,dV,bF,bH];exact⟨trivial,trivial,rfl⟩
 |false=>simp only[abC,hf,Bool.not_true,Bool.not_false,dH,dV,bF,bH];exact⟨trivial,h_,rfl⟩
def NW(n:Int)(c:Cf):Int:=i64.wrap (1024*(2+n*c.2)+2048)
def apX(n m:Int)(c:Cf)(f:Fl)(b er:ab)(k:Cf)(g:Sg)(j:Jn)(l:List ah):Int:=if cR c<m then cR c else m
def apY(n m:Int)(c:Cf)(f:Fl)(b er:ab)(k:Cf)(g:Sg)(j:Jn)(l:List ah):Int:=if 0<apX n m c f b er k g j l then apX n m c f b er k g j l else 0
def ap0(n m:Int)(c:Cf)(f:Fl)(b er:ab)(k:Cf)(g:Sg)(j:Jn)(l:List ah):Tr af4:=.ite (decide (n<0)==false) (.ite (decide (2≤n)) (.ret ([])) (.need (Ct n c f b er k g j l) (.need (pQ c) (.need (pP (NW n c) (apY n m c f b er k g j l) f b er) (.ret (At b (NW n c) (apY n m c f b er k g j l))))))) (.ret ([]))
theorem aeD(n m:Int)(c:Cf)(f:Fl)(b er:ab)(k:Cf)(g:Sg)(j:Jn)(l:List cH.D):cY aA [(30,aC9),(29,IG),(31,IW)] [] f13 (((bR (bO (cr 0 0)) (bD (bO (bX .i64)) (bD (bO (bX .i64)) bG)))).wr (n,m,())) (o7.wr (c,f,b,er,k,g,j,l,())) [.fr [.rd true u8],.fr [.sym],.cu,.bS,.ck]=(ap0 n m c f b er k g j l).end aEK aEL (o7.wr (c,f,b,er,k,g,j,l,())):=by kernel_rfl
theorem azc(n m:Int)(c:Cf)(f:Fl)(b er:ab)(k:Cf)(g:Sg)(j:Jn)(l:List cH.D)(h1:gy c)(h2:b.length<1099511627776):(ap0 n m c f b er k g j l).Is (WG c b n m):=by
 obtain⟨k1,k2,k3,k4⟩:=h1;unfold WG;simp only[ap0,zY,bW,bF,bH];refine⟨fun d1=>⟨fun d2=>by rw[if_pos (by omega)],fun d2=>⟨⟨⟨k1,k2,k3,k4⟩,by omega,by omega⟩,trivial,h2,?_⟩⟩,fun d1=>by rw[if_pos (by omega)]⟩;have hm:n*c.2=0∨n*c.2=c.2:=by
  rcases(by omega:n=0∨n=1)with rfl|rfl
  ·left;omega
  ·right;omega
 have e1:NW n c=1024*(2+n*c.2)+2048:=by unfold NW;exact bM (by omega) (by omega)
 rw[if_neg (by omega),e1];rfl
def aVz(c:Cf)(f:Fl)(b er:ab)(k:Cf)(g:Sg)(j:Jn)(l:List ah)(s:Ss)(p:PP):Tr IE:=.need (jN f b er) (.ret (!f.2.1))
abbrev Cz(c:Cf)(f:Fl)(b er:ab)(k:Cf)(g:Sg)(j:Jn)(l:List cH.D)(s:Ss)(p:PP):Prop:=True
abbrev HN(c:Cf)(f:Fl)(b er:ab)(k:Cf)(g:Sg)(j:Jn)(l:List cH.D)(s:Ss)(p:PP):IE:= !f.2.1
def ap2:bT:=cj [] nO m7 (Iz∘q0 Cz) (Iz∘q0 HN) aEH aEI
theorem azd:aeP Cz aVz HN:=by
 intro c f b er k g j l s p h_;delta HN;exact⟨trivial,rfl⟩
theorem abE:ap2.Ok aA 14:=ay (bI lM bU) func14 call14 (ks:=eU) (fun _=>EI @azd)
abbrev aDA:bT:=abz.or ana
theorem aze:aDA.Ok aA 28:=NU.or Rq
def abF(c:Cf)(f:Fl)(b er:ab)(k:Cf)(g:Sg)(j:Jn)(l:List ah)(s:Ss)(p:PP):Tr YD:=.need (Cz c f b er k g j l s p) (.ite (!!f.2.1) (.need yI (.ret ((eP jd).1,0,0,0,(eP jd).2.2.2.2.1,(eP jd).2.2.2.2.2.1,0,0,0,0,(eP jd).2.2.2.2.2.2.2.2.2.2.1,(eP jd).2.2.2.2.2.2.2.2.2.2.2))) (.need (yi k f b er g j l s p) (.ret ((eP g).1,(eP g).2.1,(eP g).2.2.1,(eP g).2.2.2.1,(eP g).2.2.2.2.1,(eP g).2.2.2.2.2.1,(eP g).2.2.2.2.2.2.1,(eP g).2.2.2.2.2.2.2.1,(eP g).2.2.2.2.2.2.2.2.1,(eP g).2.2.2.2.2.2.2.2.2.1,(eP g).2.2.2.2.2.2.2.2.2.2.1,(eP g).2.2.2.2.2.2.2.2.2.2.2))))
theorem aeE(c:Cf)(f:Fl)(b er:ab)(k:Cf)(g:Sg)(j:Jn)(l:List cH.D)(s:Ss)(p:PP):cY aA [(14,ap2),(28,aDA)] [] f12 (nO.wr (())) (m7.wr (c,f,b,er,k,g,j,l,s,p,())) [.fr [.sym],.cu,.bS,.ck]=(abF c f b er k g j l s p).end aPP aPQ (m7.wr (c,f,b,er,k,g,j,l,s,p,())):=by kernel_rfl
theorem azf(c:Cf)(f:Fl)(b er:ab)(k:Cf)(g:Sg)(j:Jn)(l:List cH.D)(s:Ss)(p:PP)(h_:g.2.2.2.2.2.2.2.length≤200):(abF c f b er k g j l s p).Is (WE f g):=by
 unfold WE;cases hf:f.2.1 with
 |true=>simp only[abF,hf,Bool.not_true,Bool.not_false,dH,dV,bF,bH];exact⟨trivial,trivial,rfl⟩
 |false=>simp only[abF,hf,Bool.not_true,Bool.not_false,dH,dV,bF,bH];exact⟨trivial,h_,rfl⟩
def NX(n:Int)(c:Cf):Int:=i64.wrap (1024*(2+n*c.2)+2048)
def ap4(n m:Int)(c:Cf)(f:Fl)(b er:ab)(k:Cf)(g:Sg)(j:Jn)(l:List ah) (s:Ss) (p:PP):Int:=if cR c<m then cR c else m
def ap5(n m:Int)(c:Cf)(f:Fl)(b er:ab)(k:Cf)(g:Sg)(j:Jn)(l:List ah) (s:Ss) (p:PP):Int:=if 0<ap4 n m c f b er k g j l s p then ap4 n m c f b er k g j l s p else 0
def ap7(n m:Int)(c:Cf)(f:Fl)(b er:ab)(k:Cf)(g:Sg)(j:Jn)(l:List ah) (s:Ss) (p:PP):Tr af4:=.ite (decide (n<0)==false) (.ite (decide (2≤n)) (.ret ([])) (.need (Cv n c f b er k g j l s p) (.need (pQ c) (.need (pP (NX n c) (ap5 n m c f b er k g j l s p) f b er) (.ret (At b (NX n c) (ap5 n m c f b er k g j l s p))))))) (.ret ([]))
theorem aeF(n m:Int)(c:Cf)(f:Fl)(b er:ab)(k:Cf)(g:Sg)(j:Jn)(l:List cH.D)(s:Ss)(p:PP):cY aA [(30,aDi),(29,IG),(31,IW)] [] f13 (((bR (bO (cr 0 0)) (bD (bO (bX .i64)) (bD (bO (bX .i64)) bG)))).wr (n,m,())) (m7.wr (c,f,b,er,k,g,j,l,s,p,())) [.fr [.rd true u8],.fr [.sym],.cu,.bS,.ck]=(ap7 n m c f b er k g j l s p).end aEK aEL (m7.wr (c,f,b,er,k,g,j,l,s,p,())):=by kernel_rfl
theorem azg(n m:Int)(c:Cf)(f:Fl)(b er:ab)(k:Cf)(g:Sg)(j:Jn)(l:List cH.D)(s:Ss)(p:PP)(h1:gy c)(h2:b.length<1099511627776):(ap7 n m c f b er k g j l s p).Is (WG c b n m):=by
 obtain⟨k1,k2,k3,k4⟩:=h1;unfold WG;simp only[ap7,zY,bW,bF,bH];refine⟨fun d1=>⟨fun d2=>by rw[if_pos (by omega)],fun d2=>⟨⟨⟨k1,k2,k3,k4⟩,by omega,by omega⟩,trivial,h2,?_⟩⟩,fun d1=>by rw[if_pos (by omega)]⟩;have hm:n*c.2=0∨n*c.2=c.2:=by
  rcases(by omega:n=0∨n=1)with rfl|rfl
  ·left;omega
  ·right;omega
 have e1:NX n c=1024*(2+n*c.2)+2048:=by unfold NX;exact bM (by omega) (by omega)
 rw[if_neg (by omega),e1];rfl
def aVE(c:Cf)(f:Fl)(b er:ab)(k:Cf)(g:Sg)(j:Jn)(l:List ah)(s:Ss)(p:PP) (h:HH) (u:Cu):Tr IE:=.need (jN f b er) (.ret (!f.2.1))
abbrev CA(c:Cf)(f:Fl)(b er:ab)(k:Cf)(g:Sg)(j:Jn)(l:List cH.D)(s:Ss)(p:PP)(h:HH)(u:Cu):Prop:=True
abbrev HO(c:Cf)(f:Fl)(b er:ab)(k:Cf)(g:Sg)(j:Jn)(l:List cH.D)(s:Ss)(p:PP)(h:HH)(u:Cu):IE:= !f.2.1
def ap9:bT:=cj [] nO qm (q12∘q0 CA) (q12∘q0 HO) aEH aEI
theorem azh:aeR CA aVE HO:=by
 intro c f b er k g j l s p h u h_;delta HO;exact⟨trivial,rfl⟩
theorem abH:ap9.Ok aA 14:=ay (bI lM bU) func14 call14 (ks:=eU) (fun _=>abJ @azh)
abbrev aDC:bT:=abz.or anL
theorem azi:aDC.Ok aA 28:=NU.or anN
def abI(c:Cf)(f:Fl)(b er:ab)(k:Cf)(g:Sg)(j:Jn)(l:List ah)(s:Ss)(p:PP) (h:HH) (u:Cu):Tr YD:=.need (CA c f b er k g j l s p h u) (.ite (!!f.2.1) (.need yI (.ret ((eP jd).1,0,0,0,(eP jd).2.2.2.2.1,(eP jd).2.2.2.2.2.1,0,0,0,0,(eP jd).2.2.2.2.2.2.2.2.2.2.1,(eP jd).2.2.2.2.2.2.2.2.2.2.2))) (.need (Fs k f b er g j l s p h u) (.ret ((eP g).1,(eP g).2.1,(eP g).2.2.1,(eP g).2.2.2.1,(eP g).2.2.2.2.1,(eP g).2.2.2.2.2.1,(eP g).2.2.2.2.2.2.1,(eP g).2.2.2.2.2.2.2.1,(eP g).2.2.2.2.2.2.2.2.1,(eP g).2.2.2.2.2.2.2.2.2.1,(eP g).2.2.2.2.2.2.2.2.2.2.1,(eP g).2.2.2.2.2.2.2.2.2.2.2))))
theorem aeG(c:Cf)(f:Fl)(b er:ab)(k:Cf)(g:Sg)(j:Jn)(l:List cH.D)(s:Ss)(p:PP)(h:HH)(u:Cu):cY aA [(14,ap9),(28,aDC)] [] f12 (nO.wr (())) (qm.wr (c,f,b,er,k,g,j,l,s,p,h,u,())) [.fr [.sym],.cu,.bS,.ck]=(abI c f b er k g j l s p h u).end aPP aPQ (qm.wr (c,f,b,er,k,g,j,l,s,p,h,u,())):=by kernel_rfl
theorem azj(c:Cf)(f:Fl)(b er:ab)(k:Cf)(g:Sg)(j:Jn)(l:List cH.D)(s:Ss)(p:PP)(h:HH)(u:Cu)(h_:g.2.2.2.2.2.2.2.length≤200):(abI c f b er k g j l s p h u).Is (WE f g):=by
 unfold WE;cases hf:f.2.1 with
 |true=>simp only[abI,hf,Bool.not_true,Bool.not_false,dH,dV,bF,bH];exact⟨trivial,trivial,rfl⟩
 |false=>simp only[abI,hf,Bool.not_true,Bool.not_false,dH,dV,bF,bH];exact⟨trivial,h_,rfl⟩
def NY(n:Int)(c:Cf):Int:=i64.wrap (1024*(2+n*c.2)+2048)
def aqb(n m:Int)(c:Cf)(f:Fl)(b er:ab)(k:Cf)(g:Sg)(j:Jn)(l:List ah) (s:Ss) (p:PP) (h:HH) (u:Cu):Int:=if cR c<m then cR c else m
def aqc(n m:Int)(c:Cf)(f:Fl)(b er:ab)(k:Cf)(g:Sg)(j:Jn)(l:List ah) (s:Ss) (p:PP) (h:HH) (u:Cu):Int:=if 0<aqb n m c f b er k g j l s p h u then aqb n m c f b er k g j l s p h u else 0
def aqe(n m:Int)(c:Cf)(f:Fl)(b er:ab)(k:Cf)(g:Sg)(j:Jn)(l:List ah) (s:Ss) (p:PP) (h:HH) (u:Cu):Tr af4:=.ite (decide (n<0)==false) (.ite (decide (2≤n)) (.ret ([])) (.need (Cw n c f b er k g j l s p h u) (.need (pQ c) (.need (pP (NY n c) (aqc n m c f b er k g j l s p h u) f b er) (.ret (At b (NY n c) (aqc n m c f b er k g j l s p h u))))))) (.ret ([]))
theorem aeH(n m:Int)(c:Cf)(f:Fl)(b er:ab)(k:Cf)(g:Sg)(j:Jn)(l:List cH.D)(s:Ss)(p:PP)(h:HH)(u:Cu):cY aA [(30,aDr),(29,IG),(31,IW)] [] f13 (((bR (bO (cr 0 0)) (bD (bO (bX .i64)) (bD (bO (bX .i64)) bG)))).wr (n,m,())) (qm.wr (c,f,b,er,k,g,j,l,s,p,h,u,())) [.fr [.rd true u8],.fr [.sym],.cu,.bS,.ck]=(aqe n m c f b er k g j l s p h u).end aEK aEL (qm.wr (c,f,b,er,k,g,j,l,s,p,h,u,())):=by kernel_rfl
theorem azk(n m:Int)(c:Cf)(f:Fl)(b er:ab)(k:Cf)(g:Sg)(j:Jn)(l:List cH.D)(s:Ss)(p:PP)(h:HH)(u:Cu)(h1:gy c)(h2:b.length<1099511627776):(aqe n m c f b er k g j l s p h u).Is (WG c b n m):=by
 obtain⟨k1,k2,k3,k4⟩:=h1;unfold WG;simp only[aqe,zY,bW,bF,bH];refine⟨fun d1=>⟨fun d2=>by rw[if_pos (by omega)],fun d2=>⟨⟨⟨k1,k2,k3,k4⟩,by omega,by omega⟩,trivial,h2,?_⟩⟩,fun d1=>by rw[if_pos (by omega)]⟩;have hm:n*c.2=0∨n*c.2=c.2:=by
  rcases(by omega:n=0∨n=1)with rfl|rfl
  ·left;omega
  ·right;omega
 have e1:NY n c=1024*(2+n*c.2)+2048:=by unfold NY;exact bM (by omega) (by omega)
 rw[if_neg (by omega),e1];rfl
abbrev tI:Ty:=.int .i64
abbrev tB:Ty:=.sl (.int .u8)
abbrev aVJ:Ty:=.pair (.sl tB) tI
abbrev a0r:Ty:=.pair (.pair tI tB) (.pair .bool (.pair .bool tI))
abbrev a0s:Ty:=.pair tI (.pair tI (.pair tI (.pair tI tB)))
abbrev a0t:Ty:=.pair tI (.pair tI (.pair tI (.pair tI (.pair tB tB))))
abbrev a0u:Ty:=.pair a0s (.pair .bool a0t)
abbrev a0v:Ty:=.pair (.pair tI tI) (.pair tI (.pair tI (.pair tI (.pair .bool tI))))
abbrev a0w:Ty:=.pair tI (.pair tI (.pair tI (.pair tB tB)))
abbrev aKW:Ty:=.pair tI (.pair (.pair tI tI) (.pair tB (.pair (.pair tI (.pair tI (.pair a0w tB))) (.pair tB (.pair tB (.pair tI (.pair tI (.pair tI tI))))))))
abbrev aKX:Ty:=.pair tI (.pair tI (.pair tI (.pair tI (.pair tI (.pair tB .bool)))))
abbrev aKY:Ty:=.pair .bool (.pair tB (.pair tI tB))
abbrev aKZ:Ty:=.pair (.pair tI tI) (.pair tI (.pair tI (.pair tB (.pair tI tI))))
abbrev fE:Ty:=.pair aVJ (.pair a0r (.pair tB (.pair tB (.pair aVJ (.pair a0u (.pair a0v (.pair (.sl cH) (.pair tI (.pair aKW (.pair aKX (.pair aKY aKZ)))))))))))
def a0x(s:Ss):aKW.D:=(s.target,s.bK,s.bytes,(s.cM.key,s.cM.bQ,(s.cM.cU.ver,s.cM.cU.lP,s.cM.cU.len,s.cM.cU.list,s.cM.cU.plain),s.cM.sign),s.list,s.ct,s.plain,s.block,s.off,s.done)
def a0y(y:aKW.D):Ss:=⟨y.1,y.2.1,y.2.2.1,⟨y.2.2.2.1.1,y.2.2.2.1.2.1,⟨y.2.2.2.1.2.2.1.1,y.2.2.2.1.2.2.1.2.1,y.2.2.2.1.2.2.1.2.2.1,y.2.2.2.1.2.2.1.2.2.2.1,y.2.2.2.1.2.2.1.2.2.2.2⟩,y.2.2.2.1.2.2.2⟩,y.2.2.2.2.1,y.2.2.2.2.2.1,y.2.2.2.2.2.2.1,y.2.2.2.2.2.2.2.1,y.2.2.2.2.2.2.2.2.1,y.2.2.2.2.2.2.2.2.2⟩
def a0z(p:PP):aKX.D:=(p.bQ,p.block,p.part,p.len,p.cS,p.buf,p.bad)
def a0A(y:aKX.D):PP:=⟨y.1,y.2.1,y.2.2.1,y.2.2.2.1,y.2.2.2.2.1,y.2.2.2.2.2.1,y.2.2.2.2.2.2⟩
def a0B(h:HH):aKY.D:=(h.begun,h.s,h.n,h.wait)
def a0C(y:aKY.D):HH:=⟨y.1,y.2.1,y.2.2.1,y.2.2.2⟩
def a0D(u:Cu):aKZ.D:=(u.r,u.pos,u.n,u.word,u.ready,u.err)
def a0E(y:aKZ.D):Cu:=⟨y.1,y.2.1,y.2.2.1,y.2.2.2.1,y.2.2.2.2.1,y.2.2.2.2.2⟩
def Gv(x:Dv):fE.D:=(x.1,x.2.1,x.2.2.1,x.2.2.2.1,x.2.2.2.2.1,x.2.2.2.2.2.1,x.2.2.2.2.2.2.1,x.2.2.2.2.2.2.2.1,x.2.2.2.2.2.2.2.2.1,a0x x.2.2.2.2.2.2.2.2.2.1,a0z x.2.2.2.2.2.2.2.2.2.2.1,a0B x.2.2.2.2.2.2.2.2.2.2.2.1,a0D x.2.2.2.2.2.2.2.2.2.2.2.2)
def fL(y:fE.D):Dv:=(y.1,y.2.1,y.2.2.1,y.2.2.2.1,y.2.2.2.2.1,y.2.2.2.2.2.1,y.2.2.2.2.2.2.1,y.2.2.2.2.2.2.2.1,y.2.2.2.2.2.2.2.2.1,a0y y.2.2.2.2.2.2.2.2.2.1,a0A y.2.2.2.2.2.2.2.2.2.2.1,a0C y.2.2.2.2.2.2.2.2.2.2.2.1,a0E y.2.2.2.2.2.2.2.2.2.2.2.2)
def RI:Dv→Hp:=fun(c,f,b,er,k,g,j,l,m,s,p,h,u)=>if m=1 then m7.wr (c,f,b,er,k,g,j,l,s,p,())else if m=2 then qm.wr (c,f,b,er,k,g,j,l,s,p,h,u,())else o7.wr (c,f,b,er,k,g,j,l,())
def tc(y:fE.D):Hp:=RI (fL y)
theorem CB(y:fE.D):kd (tc y) 0=some .cK:=by
 unfold tc;generalize fL y=x;obtain⟨c,f,b,er,k,g,j,l,m,s,p,h,u⟩:=x;unfold RI;simp only;split
 ·rfl
 ·split<;>rfl
abbrev tlV(t:TL):LV:=.one (.agg [.int .i64 (.sym t.1),.int .i64 (.sym t.2.1),.int .i64 (.sym t.2.2.1),.arr (.int .u8) 64 t.2.2.2])
theorem a0F{c:Cf}{f:Fl}{b er:ab}{k:Cf}{g:Sg}{j:Jn}{l:List Rc}(z):(Sum.elim ao7 (Sum.elim ao9 (Sum.elim apb apd))) z=tlV (apE z).1∧canon 0 (cq ((Sum.elim ao8 (Sum.elim apa (Sum.elim apc ape))) z) (o7.wr (c,f,b,er,k,g,j,l,())))=some (RI (apE z).2):=by
 rcases z with⟨_,_,_,_,_,_,_,_,_,_,_,_,_,_,_,_⟩|⟨_,_,_,_,_,_,_,_,_,_,_,_⟩|⟨_,_,_,_,_,_,_,_,_,_,_,_,_,_⟩|⟨_,_,_,_,_,_,_,_,_,_,_,_,_,_,_,_⟩<;>exact⟨rfl,by kernel_rfl⟩
theorem a0G{c:Cf}{f:Fl}{b er:ab}{k:Cf}{g:Sg}{j:Jn}{l:List Rc}{s:Ss}{p:PP}(z):(Sum.elim api (Sum.elim apb (Sum.elim apd (Sum.elim apd apb)))) z=tlV (apF z).1∧canon 0 (cq ((Sum.elim apj (Sum.elim apc (Sum.elim apn (Sum.elim ape aps)))) z) (m7.wr (c,f,b,er,k,g,j,l,s,p,())))=some (RI (apF z).2):=by
 rcases z with⟨_,_,_,_,_,_,_,_,_,_,_,_,_,_,_,_,_,_⟩|⟨_,_,_,_,_,_,_,_,_,_,_,_,_,_⟩|⟨_,_,_,_,_,_,_,_,_,_,_,_,_,_,_,_⟩|⟨_,_,_,_,_,_,_,_,_,_,_,_,_,_,_,_⟩|⟨_,_,_,_,_,_,_,_,_,_,_,_,_,_⟩<;>exact⟨rfl,by kernel_rfl⟩
theorem a0H{c:Cf}{f:Fl}{b er:ab}{k:Cf}{g:Sg}{j:Jn}{l:List Rc}{s:Ss}{p:PP}{h:HH}{u:Cu}(z):(Sum.elim apw (Sum.elim apd apd)) z=tlV (apG z).1∧canon 0 (cq ((Sum.elim apx (Sum.elim ape apn)) z) (qm.wr (c,f,b,er,k,g,j,l,s,p,h,u,())))=some (RI (apG z).2):=by
 rcases z with⟨_,_,_,_,_,_,_,_,_,_,_,_,_,_,_,_,_,_,_,_⟩|⟨_,_,_,_,_,_,_,_,_,_,_,_,_,_,_,_⟩|⟨_,_,_,_,_,_,_,_,_,_,_,_,_,_,_,_⟩<;>exact⟨rfl,by kernel_rfl⟩
def doR(o:gz):Dv→TL×Dv→Prop:=fun(c,f,b,er,k,g,j,l,m,s,p,h,u) r=>if m=1 then ∃z,(RB o c f b er k g j l s p).Is z∧r=apF z else if m=2 then ∃z,(RC o c f b er k g j l s p h u).Is z∧r=apG z else ∃z,(RA o c f b er k g j l).Is z∧r=apE z
open Classical in
def doD(o:gz)(x:Dv):TL×Dv:=if h:∃r,doR o x r then h.choose else((0,0,0,[]),x)
theorem aK0{o:gz}{x:Dv}(ho:gn o)(hx:m9 x):∃r,doR o x r∧m9 r.2:=by
 obtain⟨c,f,b,er,k,g,j,l,m,s,p,h,u⟩:=x;obtain⟨rfl,⟨rfl,H⟩|⟨rfl,H⟩|⟨rfl,H⟩⟩:=hx
 ·obtain⟨z,h1,h2⟩:=Tr.zX (aKJ (f:=f) ho H);exact⟨_,⟨z,h1,rfl⟩,h2⟩
 ·obtain⟨z,h1,h2⟩:=Tr.zX (aKK ho H);exact⟨_,⟨z,h1,rfl⟩,h2⟩
 ·obtain⟨z,h1,h2⟩:=Tr.zX (aKL ho H);exact⟨_,⟨z,h1,rfl⟩,h2⟩
theorem azm{o:gz}{x:Dv}{r r':TL×Dv}(h:doR o x r)(h':doR o x r'):r=r':=by
 obtain⟨c,f,b,er,k,g,j,l,m,s,p,hh,u⟩:=x;unfold doR at h h';simp only at h h';split at h
 ·rename_i e;rw[if_pos e]at h';obtain⟨z,a1,rfl⟩:=h;obtain⟨y,b1,rfl⟩:=h';rw[a1.unique b1]
 ·rename_i e;rw[if_neg e]at h';split at h
  ·rename_i e;rw[if_pos e]at h';obtain⟨z,a1,rfl⟩:=h;obtain⟨y,b1,rfl⟩:=h';rw[a1.unique b1]
  ·rename_i e;rw[if_neg e]at h';obtain⟨z,a1,rfl⟩:=h;obtain⟨y,b1,rfl⟩:=h';rw[a1.unique b1]
theorem aqf{o:gz}{x:Dv}(ho:gn o)(hx:m9 x):doR o x (doD o x)∧m9 (doD o x).2:=by
 obtain⟨r,h1,h2⟩:=aK0 ho hx;have e:doD o x=(⟨r,h1⟩:∃r,doR o x r).choose:=dif_pos _;have h3:=(⟨r,h1⟩:∃r,doR o x r).choose_spec;rw[← e]at h3;rw[azm h3 h1];exact⟨h1,h2⟩
theorem aqg:∃D:OqP fE,D=yF tc:=⟨_,rfl⟩
def rK:OqP fE:=Classical.choose aqg
theorem FQ:rK=yF tc:=Classical.choose_spec aqg
abbrev aVK(o:gz)(y:OqP fE×fE.D):TL×fE.D:=((doD o (fL y.2)).1,Gv (doD o (fL y.2)).2)
def aVL:bT:=cj [none,some u8] mn (hOq fE) (fun a y=>y.1.1=rK∧gn a.1∧m9 (fL y.1.2)) (fun a y=>aVK a.1 y.1) (fun z=>tlV z.1) fun z=> [(0,.qn fE rK z.2)]
theorem aK1:aVL.Ok aA 10:=by
 simp only[aVL,FQ];refine Cl (A:=mn) (tys:= [none,some u8]) CB (fun a=>rfl) (pre:=fun a y=>gn a.1∧m9 (fL y.1.2)) (sp:=fun a y=>aVK a.1 y.1) (V:=tlV) fun a y hp=>?_;obtain⟨o,⟨⟩⟩:=a;obtain⟨ho,hx⟩:=hp;obtain⟨h1,_⟩:=aqf ho hx;show lB aA 10 (mn.wr (o,())) (RI (fL y)) fun v dZ=>v=tlV (doD o (fL y)).1∧OqE tc 0 v dZ (Gv (doD o (fL y)).2);have key:∀ {v:LV} {dZ:Hp} {r:TL×Dv},v=tlV r.1→canon 0 dZ=some (RI r.2)→v=tlV r.1∧OqE tc 0 v dZ (Gv r.2):=fun {v dZ r} e1 e2=>⟨e1,s9 (SH:=tc) (by rw[e1];rfl) (by rw[e2];rfl)⟩;have hx:m9 (fL y):=hx;generalize fL y=x at*;obtain⟨c,f,b,er,k,g,j,l,m,s,p,h,u⟩:=x;obtain⟨rfl,⟨rfl,H⟩|⟨rfl,H⟩|⟨rfl,H⟩⟩:=hx
 ·obtain⟨z,a1,a2⟩:∃z,(RA o k f b er k g j l).Is z∧doD o (k,f,b,er,k,g,j,l,0,s,p,h,u)=apE z:=h1;rw[a2];intro β w vals hh dt;refine(jl bJ (bI lM (bI KA (bI ayM (bI ayP (bI Wi (bI Bn (bI Kz (bI ayw bU)))))))) func10 (by kernel_rfl) call10 (LT:= []) (cn.nil _) (aey o k f b er k g j l) a1 β w vals hh dt).mono fun e w'=>?_;rintro⟨val,β',r,dZ,rfl,⟨rfl,rfl⟩,k3,k4⟩;exact⟨val,β',_,_,rfl,(let q:=a0F (c:=k) (f:=f) (b:=b) (er:=er) (k:=k) (g:=g) (j:=j) (l:=l) z;key q.1 q.2),k3,k4⟩
 ·obtain⟨z,a1,a2⟩:∃z,(RB o k f b er k g j l s p).Is z∧doD o (k,f,b,er,k,g,j,l,1,s,p,h,u)=apF z:=h1;rw[a2];intro β w vals hh dt;refine(jl bJ (bI lM (bI KA (bI ayR (bI ayU (bI Wi (bI Bn (bI Kz (bI ao0 bU)))))))) func10 (by kernel_rfl) call10 (LT:= []) (cn.nil _) (aez o k f b er k g j l s p) a1 β w vals hh dt).mono fun e w'=>?_;rintro⟨val,β',r,dZ,rfl,⟨rfl,rfl⟩,k3,k4⟩;exact⟨val,β',_,_,rfl,(let q:=a0G (c:=k) (f:=f) (b:=b) (er:=er) (k:=k) (g:=g) (j:=j) (l:=l) (s:=s) (p:=p) z;key q.1 q.2),k3,k4⟩
 ·obtain⟨z,a1,a2⟩:∃z,(RC o k f b er k g j l s p h u).Is z∧doD o (k,f,b,er,k,g,j,l,2,s,p,h,u)=apG z:=h1;rw[a2];intro β w vals hh dt;refine(jl bJ (bI lM (bI KA (bI ayW (bI ayZ (bI Wi (bI Bn (bI Kz (bI ao2 bU)))))))) func10 (by kernel_rfl) call10 (LT:= []) (cn.nil _) (aeA o k f b er k g j l s p h u) a1 β w vals hh dt).mono fun e w'=>?_;rintro⟨val,β',r,dZ,rfl,⟨rfl,rfl⟩,k3,k4⟩;exact⟨val,β',_,_,rfl,(let q:=a0H (c:=k) (f:=f) (b:=b) (er:=er) (k:=k) (g:=g) (j:=j) (l:=l) (s:=s) (p:=p) (h:=h) (u:=u) z;key q.1 q.2),k3,k4⟩
theorem FR(x:Dv):canon 0 (RI x)=some (RI x):=by
 obtain⟨c,f,b,er,k,g,j,l,m,s,p,h,u⟩:=x;unfold RI;simp only;split
 ·exact(by kernel_rfl:canon 0 (m7.wr (c,f,b,er,k,g,j,l,s,p,()))=some (m7.wr (c,f,b,er,k,g,j,l,s,p,())))
 ·split
  ·exact(by kernel_rfl:canon 0 (qm.wr (c,f,b,er,k,g,j,l,s,p,h,u,()))=some (qm.wr (c,f,b,er,k,g,j,l,s,p,h,u,())))
  ·exact(by kernel_rfl:canon 0 (o7.wr (c,f,b,er,k,g,j,l,()))=some (o7.wr (c,f,b,er,k,g,j,l,())))
def onD(x:Dv):Bool:= !x.2.1.2.1
def stD(x:Dv):YD:=WE x.2.1 x.2.2.2.2.2.1
def daD(n m:Int)(x:Dv):ab:=WG x.1 x.2.2.1 n m
abbrev aeI(z:Bool):LV:=aw (au z)
def aVM:bT:=cj [] nO (hOq fE) (fun a y=>y.1.1=rK∧m9 (fL y.1.2)) (fun a y=>(onD (fL y.1.2),y.1.2)) (fun z=>aeI z.1) fun z=> [(0,.qn fE rK z.2)]
theorem aK2:aVM.Ok aA 14:=by
 simp only[aVM,FQ];refine Cl (A:=nO) (tys:= []) CB (fun a=>rfl) (pre:=fun a y=>m9 (fL y.1.2)) (sp:=fun a y=>(onD (fL y.1.2),y.1.2)) (V:=aeI) fun a y hp=>?_;obtain⟨⟩:=a;have hx:m9 (fL y):=hp;have key:∀ {v:LV} {dZ:Hp},v=aeI (onD (fL y))→dZ=RI (fL y)→v=aeI (onD (fL y))∧OqE tc 0 v dZ y:=fun {v dZ} e1 e2=>⟨e1,s9 (SH:=tc) (by rw[e1];rfl) (by rw[e2];exact FR _)⟩;show lB aA 14 (nO.wr ()) (RI (fL y)) fun v dZ=>v=aeI (onD (fL y))∧OqE tc 0 v dZ y;generalize fL y=x at*;obtain⟨c,f,b,er,k,g,j,l,m',s,p,h,u⟩:=x;obtain⟨rfl,⟨rfl,H⟩|⟨rfl,H⟩|⟨rfl,H⟩⟩:=hx
 ·have hr:apV.run (nO.wr ()) (o7.wr (k,f,b,er,k,g,j,l,()))= .bN (some (Cy k f b er k g j l)) (aEH (HM k f b er k g j l)) (aEI (HM k f b er k g j l)):=by kernel_rfl
  have h1:=abB.calls _ _ (fun v d=>v=aEH (HM k f b er k g j l)∧d= []) (by rw[hr];exact⟨trivial,rfl,rfl⟩);intro β w vals hh dt;refine(h1 β w vals hh dt).mono fun e w'=>?_;rintro⟨val,β',r,dZ,rfl,⟨d,⟨rfl,rfl⟩,rfl⟩,k3,k4⟩;exact⟨val,β',_,_,rfl,key rfl rfl,k3,k4⟩
 ·have hr:ap2.run (nO.wr ()) (m7.wr (k,f,b,er,k,g,j,l,s,p,()))= .bN (some (Cz k f b er k g j l s p)) (aEH (HN k f b er k g j l s p)) (aEI (HN k f b er k g j l s p)):=by kernel_rfl
  have h1:=abE.calls _ _ (fun v d=>v=aEH (HN k f b er k g j l s p)∧d= []) (by rw[hr];exact⟨trivial,rfl,rfl⟩);intro β w vals hh dt;refine(h1 β w vals hh dt).mono fun e w'=>?_;rintro⟨val,β',r,dZ,rfl,⟨d,⟨rfl,rfl⟩,rfl⟩,k3,k4⟩;exact⟨val,β',_,_,rfl,key rfl rfl,k3,k4⟩
 ·have hr:ap9.run (nO.wr ()) (qm.wr (k,f,b,er,k,g,j,l,s,p,h,u,()))= .bN (some (CA k f b er k g j l s p h u)) (aEH (HO k f b er k g j l s p h u)) (aEI (HO k f b er k g j l s p h u)):=by kernel_rfl
  have h1:=abH.calls _ _ (fun v d=>v=aEH (HO k f b er k g j l s p h u)∧d= []) (by rw[hr];exact⟨trivial,rfl,rfl⟩);intro β w vals hh dt;refine(h1 β w vals hh dt).mono fun e w'=>?_;rintro⟨val,β',r,dZ,rfl,⟨d,⟨rfl,rfl⟩,rfl⟩,k3,k4⟩;exact⟨val,β',_,_,rfl,key rfl rfl,k3,k4⟩
abbrev aeJ(z:YD):LV:=aPP z
def aVN:bT:=cj [] nO (hOq fE) (fun a y=>y.1.1=rK∧m9 (fL y.1.2)) (fun a y=>(stD (fL y.1.2),y.1.2)) (fun z=>aeJ z.1) fun z=> [(0,.qn fE rK z.2)]
theorem aK3:aVN.Ok aA 12:=by
 simp only[aVN,FQ];refine Cl (A:=nO) (tys:= []) CB (fun a=>rfl) (pre:=fun a y=>m9 (fL y.1.2)) (sp:=fun a y=>(stD (fL y.1.2),y.1.2)) (V:=aeJ) fun a y hp=>?_;obtain⟨⟩:=a;have hx:m9 (fL y):=hp;have key:∀ {v:LV} {dZ:Hp},v=aeJ (stD (fL y))→dZ=RI (fL y)→v=aeJ (stD (fL y))∧OqE tc 0 v dZ y:=fun {v dZ} e1 e2=>⟨e1,s9 (SH:=tc) (by rw[e1];rfl) (by rw[e2];exact FR _)⟩;show lB aA 12 (nO.wr ()) (RI (fL y)) fun v dZ=>v=aeJ (stD (fL y))∧OqE tc 0 v dZ y;generalize fL y=x at*;obtain⟨c,f,b,er,k,g,j,l,m',s,p,h,u⟩:=x;obtain⟨rfl,⟨rfl,H⟩|⟨rfl,H⟩|⟨rfl,H⟩⟩:=hx
 ·have HG:=H.st.mid;have HF:=H.fit.1;have HB:=yH H;intro β w vals hh dt;refine(jl bJ (bI abB (bI aza bU)) func12 (by kernel_rfl) call12 (LT:= []) (cn.nil _) (aeC k f b er k g j l) (azb k f b er k g j l HG) β w vals hh dt).mono fun e w'=>?_;rintro⟨val,β',r,dZ,rfl,⟨rfl,rfl⟩,k3,k4⟩;exact⟨val,β',_,_,rfl,key rfl rfl,k3,k4⟩
 ·have HG:=H.ld.st.mid;have HF:=H.ld.fit.1;have HB:=yH H.ld;intro β w vals hh dt;refine(jl bJ (bI abE (bI aze bU)) func12 (by kernel_rfl) call12 (LT:= []) (cn.nil _) (aeE k f b er k g j l s p) (azf k f b er k g j l s p HG) β w vals hh dt).mono fun e w'=>?_;rintro⟨val,β',r,dZ,rfl,⟨rfl,rfl⟩,k3,k4⟩;exact⟨val,β',_,_,rfl,key rfl rfl,k3,k4⟩
 ·have HG:=H.ld.st.mid;have HF:=H.ld.fit.1;have HB:=yH H.ld;intro β w vals hh dt;refine(jl bJ (bI abH (bI azi bU)) func12 (by kernel_rfl) call12 (LT:= []) (cn.nil _) (aeG k f b er k g j l s p h u) (azj k f b er k g j l s p h u HG) β w vals hh dt).mono fun e w'=>?_;rintro⟨val,β',r,dZ,rfl,⟨rfl,rfl⟩,k3,k4⟩;exact⟨val,β',_,_,rfl,key rfl rfl,k3,k4⟩
abbrev aeK(z:ab):LV:=aw (SV.rd true false ae z)
def aVO:bT:=cj [] (bR (bO (cr 0 0)) (bD (bO (bX .i64)) (bD (bO (bX .i64)) bG))) (hOq fE) (fun a y=>y.1.1=rK∧m9 (fL y.1.2)) (fun a y=>(daD a.1 a.2.1 (fL y.1.2),y.1.2)) (fun z=>aeK z.1) fun z=> [(0,.qn fE rK z.2)]
theorem aK4:aVO.Ok aA 13:=by
 simp only[aVO,FQ];refine Cl (A:=(bR (bO (cr 0 0)) (bD (bO (bX .i64)) (bD (bO (bX .i64)) bG)))) (tys:= []) CB (fun a=>rfl) (pre:=fun a y=>m9 (fL y.1.2)) (sp:=fun a y=>(daD a.1 a.2.1 (fL y.1.2),y.1.2)) (V:=aeK) fun a y hp=>?_;obtain⟨n,m,⟨⟩⟩:=a;have hx:m9 (fL y):=hp;have key:∀ {v:LV} {dZ:Hp},v=aeK (daD n m (fL y))→dZ=RI (fL y)→v=aeK (daD n m (fL y))∧OqE tc 0 v dZ y:=fun {v dZ} e1 e2=>⟨e1,s9 (SH:=tc) (by rw[e1];rfl) (by rw[e2];exact FR _)⟩;show lB aA 13 ((bR (bO (cr 0 0)) (bD (bO (bX .i64)) (bD (bO (bX .i64)) bG))).wr (n,m,())) (RI (fL y)) fun v dZ=>v=aeK (daD n m (fL y))∧OqE tc 0 v dZ y;generalize fL y=x at*;obtain⟨c,f,b,er,k,g,j,l,m',s,p,h,u⟩:=x;obtain⟨rfl,⟨rfl,H⟩|⟨rfl,H⟩|⟨rfl,H⟩⟩:=hx
 ·have HG:=H.st.mid;have HF:=H.fit.1;have HB:=yH H;intro β w vals hh dt;refine(jl bJ (bI abk (bI wC (bI wF bU))) func13 (by kernel_rfl) call13 (LT:= []) (cn.nil _) (aeD n m k f b er k g j l) (azc n m k f b er k g j l HF HB) β w vals hh dt).mono fun e w'=>?_;rintro⟨val,β',r,dZ,rfl,⟨rfl,rfl⟩,k3,k4⟩;exact⟨val,β',_,_,rfl,key rfl rfl,k3,k4⟩
 ·have HG:=H.ld.st.mid;have HF:=H.ld.fit.1;have HB:=yH H.ld;intro β w vals hh dt;refine(jl bJ (bI abo (bI wC (bI wF bU))) func13 (by kernel_rfl) call13 (LT:= []) (cn.nil _) (aeF n m k f b er k g j l s p) (azg n m k f b er k g j l s p HF HB) β w vals hh dt).mono fun e w'=>?_;rintro⟨val,β',r,dZ,rfl,⟨rfl,rfl⟩,k3,k4⟩;exact⟨val,β',_,_,rfl,key rfl rfl,k3,k4⟩
 ·have HG:=H.ld.st.mid;have HF:=H.ld.fit.1;have HB:=yH H.ld;intro β w vals hh dt;refine(jl bJ (bI abt (bI wC (bI wF bU))) func13 (by kernel_rfl) call13 (LT:= []) (cn.nil _) (aeH n m k f b er k g j l s p h u) (azk n m k f b er k g j l s p h u HF HB) β w vals hh dt).mono fun e w'=>?_;rintro⟨val,β',r,dZ,rfl,⟨rfl,rfl⟩,k3,k4⟩;exact⟨val,β',_,_,rfl,key rfl rfl,k3,k4⟩
def WH(c:Cf):Dv:=dvI c ((0,[]),false,false,0) (List.replicate (1024*jx c) 255) (List.replicate (jx c) 0) c jd ((0,2),0,-1,0,false,0) []
theorem azn{c:Cf}(h:gy c)(hk:zt c.1):m9 (WH c):=by
 obtain⟨h1,h2,h3,h4⟩:=h;have hs:(jx c:Int)=2+2*c.2:=by unfold jx;omega
 have e1:(List.replicate (jx c) (0:Int)).length=jx c:=List.length_replicate;have e2:(List.replicate (1024*jx c) (255:Int)).length=1024*jx c:=List.length_replicate;have hf:dE (List.replicate (1024*jx c) 255) (List.replicate (jx c) 0):=⟨by omega,by omega,by omega⟩;have hr:iO (0,2) (List.replicate (jx c) 0):=⟨by decide,by decide,by show(0:Int)+2≤_;omega⟩;exact iA rfl ⟨hf,bL.rep _ ⟨by decide,by decide⟩,⟨⟨h1,h2,h3,h4⟩,by omega⟩,⟨hr,rfl,by decide,by decide,by decide,by decide,qT⟩,Lo,hk⟩
abbrev aK5(z:Int):LV:=LV.dB [VV.sc (SV.ptr 0 0),VV.sc (ar z)]
def azo:bT:=cj [some (.arr u8 32)] cfA bG (fun a _=>gy a.1) (fun a _=>((0:Int),Gv (WH a.1))) (fun z=>aK5 z.1) fun z=> [(0,.qn fE rK z.2)]
theorem aK6:azo.Ok aA 7:=by
 simp only[azo,FQ];refine Wb (A:=cfA) (tys:= [some (.arr u8 32)]) (pre:=fun a=>gy a.1) (sp:=fun a=>((0:Int),Gv (WH a.1))) (V:=aK5) fun a hp=>?_;obtain⟨c,⟨⟩⟩:=a;have hr:ak1.run (cfA.wr (c,())) []= .bN (some (xI c)) (KS (vm c)) (EA (vm c)):=by kernel_rfl
 have h1:=QZ.calls (cfA.wr (c,())) [] (fun v d=>v=KS (vm c)∧d=EA (vm c)) (by rw[hr];exact⟨hp,rfl,rfl⟩);intro β w vals hh dt;refine(h1 β w vals hh dt).mono ?_;rintro e w' ⟨val,β',r,dZ,rfl,⟨d,⟨rfl,rfl⟩,rfl⟩,k3,k4⟩;have hc:canon 0 (cq (EA (vm c)) [])=some (RI (WH c)):=by kernel_rfl
 exact⟨val,β',_,_,rfl,⟨rfl,by kernel_rfl,s9 (SH:=tc) rfl hc⟩,k3,k4⟩
structure Od where
 D:OqP fE
 x:fE.D
abbrev jOd:cl bE Od:=(aUV fE).jr (fun p=>⟨p.1,p.2⟩) (fun o=>(o.D,o.x)) (fun _=>rfl)
abbrev hOd:cl Hp (Od×Unit):=bD (cb jOd) bG
theorem NZ{P:Program}{f:FuncId}{X Z:Type}{tys:List (Option Ty)}{A:cl (List LV) X}{pre:X→(OqP fE×fE.D)×Unit→Prop}{sp:X→(OqP fE×fE.D)×Unit→Z}{V:Z→LV}{D:Z→List ao}(h:(cj tys A (hOq fE) pre sp V D).Ok P f){Gc:X→Od×Unit→Prop}{yR:X→Od×Unit→Z} (hp:∀a y,Gc a y→pre a ((y.1.D,y.1.x),())) (hs:∀a y,yR a y=sp a ((y.1.D,y.1.x),())):(cj tys A hOd Gc yR V D).Ok P f:=by
 refine⟨fun args hh Q hq=>h.calls args hh Q ?_⟩;simp only[cj,bT.fw,bT.sym,bT.of]at hq ⊢;split at hq
 ·rename_i x y hx hy;rw[hx,hOd.ok hy,show(hOq fE).rd (hOd.wr y)=some ((y.1.D,y.1.x),())from by kernel_rfl];rw[hs]at hq;exact⟨hp _ _ hq.1,hq.2⟩
 ·exact hq.elim
theorem aqh(o:gz)(y:fE.D):∃r:TL×fE.D,r=((doD o (fL y)).1,Gv (doD o (fL y)).2):=⟨_,rfl⟩
def AQ(o:gz)(y:fE.D):TL×fE.D:=Classical.choose (aqh o y)
theorem aqi(o:gz)(y:fE.D):AQ o y=((doD o (fL y)).1,Gv (doD o (fL y)).2):=Classical.choose_spec (aqh o y)
theorem abK(c:Cf):∃r:fE.D,r=Gv (WH c):=⟨_,rfl⟩
def lK(c:Cf):fE.D:=Classical.choose (abK c)
theorem abL(c:Cf):lK c=Gv (WH c):=Classical.choose_spec (abK c)
abbrev uk(y:fE.D):Prop:=m9 (fL y)
theorem z4{o:gz}{y:fE.D}(ho:gn o)(h:uk y):uk (AQ o y).2:=by rw[aqi];exact(aqf ho h).2
theorem azq{c:Cf}(h:gy c)(hk:zt c.1):uk (lK c):=by rw[abL];exact azn h hk
def onE(y:fE.D):Bool:=onD (fL y)
def stE(y:fE.D):YD:=stD (fL y)
def daE(n m:Int)(y:fE.D):ab:=daD n m (fL y)
abbrev FT(o:gz)(y:Od):Prop:=y.D=rK∧gn o∧uk y.x
abbrev a0K(o:gz)(y:Od):TL×fE.D:=AQ o y.x
abbrev a0L(z:TL×fE.D):LV:=tlV z.1
abbrev dxD{Z:Type}(z:Z×fE.D):List ao:= [(0,.qn fE rK z.2)]
def a0M:bT:=cj [none,some u8] mn hOd (q1∘q1 FT) (q1∘q1 a0K) a0L dxD
theorem N0:a0M.Ok aA 10:=NZ aK1 (fun a y h=>h) (fun a y=>aqi _ _)
abbrev HQ(y:Od):Prop:=y.D=rK∧uk y.x
abbrev a0N(y:Od):Bool×fE.D:=(onE y.x,y.x)
abbrev a0O(z:Bool×fE.D):LV:=aeI z.1
def a0P:bT:=cj [] nO hOd (q1∘q0 HQ) (q1∘q0 a0N) a0O dxD
theorem aqj:a0P.Ok aA 14:=NZ aK2 (fun a y h=>h) (fun a y=>rfl)
abbrev a0Q(y:Od):YD×fE.D:=(stE y.x,y.x)
abbrev a0R(z:YD×fE.D):LV:=aeJ z.1
def a0S:bT:=cj [] nO hOd (q1∘q0 HQ) (q1∘q0 a0Q) a0R dxD
theorem aqk:a0S.Ok aA 12:=NZ aK3 (fun a y h=>h) (fun a y=>rfl)
abbrev WI(n m:Int)(y:Od):Prop:=y.D=rK∧uk y.x
abbrev a0T(n m:Int)(y:Od):ab×fE.D:=(daE n m y.x,y.x)
abbrev a0U(z:ab×fE.D):LV:=aeK z.1
def a0V:bT:=cj [] (bR (bO (cr 0 0)) (bD (bO (bX .i64)) (bD (bO (bX .i64)) bG))) hOd (q1∘q2 WI) (q1∘q2 a0T) a0U dxD
theorem aql:a0V.Ok aA 13:=NZ aK4 (fun a y h=>h) (fun a y=>rfl)
abbrev N1(c:Cf):Prop:=gy c
abbrev a0W(c:Cf):Int×fE.D:=(0,lK c)
abbrev a0X(z:Int×fE.D):LV:=aK5 z.1
def aK7:bT:=cj [some (.arr u8 32)] cfA bG (q0∘q1 N1) (q0∘q1 a0W) a0X dxD
theorem aqm:aK7.Ok aA 7:=by
 have e:aK7=azo:=by
  unfold aK7 azo;congr 1;funext a b;show((0:Int),lK a.1)=(0,Gv (WH a.1));rw[abL]
 rw[e];exact aK6
end Go.Proofs.YtliehnnljilacaaGreat
end
