/- What the laws lean on, part 20: a reader of code, plain facts, and what each function gives; no conditions. -/
import Derived.Test.YtliehnnljilacaaGreatA19
noncomputable section
open Go.IntKind (i64 signed u16 u32 u64 wrap wrap_u32)
set_option linter.unusedVariables false
set_option linter.unusedSimpArgs false
namespace Go.Proofs.YtliehnnljilacaaGreat
open Go Go.Ev Go.Proofs.Tryz
set_option maxRecDepth 1000000
abbrev a0h:cl Hp (Cf×Fl×ab×ab×Sg×Jn×List Rc×Ss×PP×Unit):=bD (cb ug) (bD (cb dA) (bD (dd 0 u8) (bD (dd 0 (.int .i64)) (bD (cb jc) (bD (cb awO) (bD (dd 0 cH) (bD (cb vt) (bD (cb kY) bG))))))))
abbrev a0i:cl (List LV) (Ck×Unit):=bR (bO (cr 0 0)) (bR (bO (cr 7 0)) (bD (jf ((cCk (gx false false u8) bG).jr (fun x=>(x.1,x.2.1,x.2.2.1,x.2.2.2.1,x.2.2.2.2.1,x.2.2.2.2.2.1)) (fun y=>(y.1,y.2.1,y.2.2.1,y.2.2.2.1,y.2.2.2.2.1,y.2.2.2.2.2,())) (fun _=>rfl))) bG))
def n6(c:Cf)(f:Fl)(b er:ab)(g:Sg)(j:Jn)(l:List ah)(s:Ss)(p:PP):ab×Int:=if f.2.1=true then([],5)else if(0:Int)≤0∧(0:Int)≤224∧(224:Int)≤1024*s.bK.2 then(cO b (1024*s.bK.1+0) 224,0)else([],2)
def gO(c:Cf)(f:Fl)(b er:ab)(g:Sg)(j:Jn)(l:List ah)(s:Ss)(p:PP):Int×Int×Int×Int×Int×ab×ab×ab×Int:=TW (eI c.1 g.1.2.2.1 (cR c) (n6 c f b er g j l s p).1)
def zV(c:Cf)(f:Fl)(b er:ab)(g:Sg)(j:Jn)(l:List ah)(s:Ss)(p:PP):Int:=i64.wrap (64*(gO c f b er g j l s p).2.1)
def tX(c:Cf)(f:Fl)(b er:ab)(g:Sg)(j:Jn)(l:List ah)(s:Ss)(p:PP):ab×Int:=if f.2.1=true then([],5)else if(0:Int)≤1024∧0≤zV c f b er g j l s p∧1024+zV c f b er g j l s p≤1024*s.bK.2 then(cO b (1024*s.bK.1+1024) (zV c f b er g j l s p),0)else([],2)
def Ce(c:Cf)(f:Fl)(b er:ab)(g:Sg)(j:Jn)(l:List ah)(s:Ss)(p:PP):ab:= [(tX c f b er g j l s p).1].flatten
abbrev aa5:Type:=Bool×Ss
abbrev aUC(x:aa5):LV:=aw (au x.1)
abbrev aUD(x:aa5):List ao:= [(7,vt.wr x.2)]
def aog(x:Int×Int×Int×Int×ab×ab)(c:Cf)(f:Fl)(b er:ab)(g:Sg)(j:Jn)(l:List ah) (s:Ss) (p:PP):Tr aa5:=(.need (fO s.bK 0 224 f b er) (.ite (((n6 c f b er g j l s p).2 !=0)==false) (.need ((n6 c f b er g j l s p).1.length<1152921504606846976) (.ite (!decide (idF (n6 c f b er g j l s p).1=x.2.2.2.2.1)) (.ret (false,s)) (.need (B0 c f b er g j l) (.need (qH c g.1.2.2.1 (n6 c f b er g j l s p).1) (.ite ((gO c f b er g j l s p).2.2.2.2.2.2.2.2 !=0) (.ret (false,s)) (.need ((0:Int)≤0∧(0:Int)≤224∧(224:Int)≤224) (.need (fO s.bK 1024 (zV c f b er g j l s p) f b er) (.need ((0:Int)≤0∧(0:Int)≤1024∧(1024:Int)≤1024) (.ite (((tX c f b er g j l s p).2==0)==true) (.need (1<2305843009213693952∧(Ce c f b er g j l s p).length<1152921504606846976) (.ret (decide (iG (Ce c f b er g j l s p)=(gO c f b er g j l s p).2.2.2.2.2.1),{target:=s.target,bK:=s.bK,bytes:=cP s.bytes 0 224 (n6 c f b er g j l s p).1,cM:= {key:=(gO c f b er g j l s p).1,bQ:=(gO c f b er g j l s p).2.1,cU:= {ver:=(gO c f b er g j l s p).2.2.1,lP:=(gO c f b er g j l s p).2.2.2.1,len:=(gO c f b er g j l s p).2.2.2.2.1,list:=(gO c f b er g j l s p).2.2.2.2.2.1,plain:=(gO c f b er g j l s p).2.2.2.2.2.2.1},sign:=(gO c f b er g j l s p).2.2.2.2.2.2.2.1},list:=cP s.list 0 1024 (tX c f b er g j l s p).1,ct:=s.ct,plain:=s.plain,block:=s.block,off:=s.off,done:=s.done}))) (.ret (false,{target:=s.target,bK:=s.bK,bytes:=cP s.bytes 0 224 (n6 c f b er g j l s p).1,cM:= {key:=(gO c f b er g j l s p).1,bQ:=(gO c f b er g j l s p).2.1,cU:= {ver:=(gO c f b er g j l s p).2.2.1,lP:=(gO c f b er g j l s p).2.2.2.1,len:=(gO c f b er g j l s p).2.2.2.2.1,list:=(gO c f b er g j l s p).2.2.2.2.2.1,plain:=(gO c f b er g j l s p).2.2.2.2.2.2.1},sign:=(gO c f b er g j l s p).2.2.2.2.2.2.2.1},list:=cP s.list 0 1024 (tX c f b er g j l s p).1,ct:=s.ct,plain:=s.plain,block:=s.block,off:=s.off,done:=s.done}))))))))))) (.ret (false,s))))
def aye(q:JF×Int)(x y:ab)(s:Ss):Bool×Ss:=if q.2≠0 then(false,s)else(decide (iG y=q.1.cU.list),{s with bytes:=cP s.bytes 0 224 x,cM:=q.1,list:=cP s.list 0 1024 y})
def V4(c:Cf)(f:Fl)(b:ab)(g:Sg)(s:Ss)(i:ab):Bool×Ss:=if f.2.1=true then(false,s)else if idF (cO b (1024*s.bK.1) 224)≠i then(false,s) else aye (eI c.1 g.1.2.2.1 (cR c) (cO b (1024*s.bK.1) 224)) (cO b (1024*s.bK.1) 224) (cO b (1024*s.bK.1+1024) (64*(eI c.1 g.1.2.2.1 (cR c) (cO b (1024*s.bK.1) 224)).1.bQ)) s
abbrev Cg(x:Ck)(c:Cf)(f:Fl)(b er:ab)(g:Sg)(j:Jn)(l:List Rc)(s:Ss)(p:PP):Prop:=gA c b er g j l∧iO s.bK er∧3≤s.bK.2
abbrev aoh(x:Ck)(c:Cf)(f:Fl)(b er:ab)(g:Sg)(j:Jn)(l:List Rc)(s:Ss)(p:PP):aa5:=V4 c f b g s x.2.2.2.2.1
def aUE:bT:=cj [none,none,some u8] a0i a0h (q9∘q1 Cg) (q9∘q1 aoh) aUC aUD
theorem ayf:aeP Cg aog aoh:=by
 intro x c f b er g j l s p h_;delta aoh;obtain⟨h1,h2,h3⟩:=h_;have fl:=h1.fl;have f3:=fl.2.2;have hr:∀a n,fO s.bK a n f b er:=fun _ _=>⟨fl,h2⟩;unfold V4;cases hof:f.2.1 with
 |true=>
  have e7:n6 c f b er g j l s p=([],5):=by unfold n6;rw[if_pos hof]
  rw[if_pos rfl];simp only[aog,e7,bF];exact⟨hr _ _,bY.2 ⟨fun e=>absurd e (by decide),fun _=>bH.2 rfl⟩⟩
 |false=>
  have e7:n6 c f b er g j l s p=(cO b (1024*s.bK.1) 224,0):=by unfold n6;rw[if_neg (by rw[hof];decide),if_pos ⟨by decide,by decide,by omega⟩,Int.add_zero]
  rw[if_neg (by decide)];have hl:(cO b (1024*s.bK.1) 224).length=(224:Int):=gg ⟨by omega,by decide,by have:=fl.1;omega⟩;have hb:bL (cO b (1024*s.bK.1) 224):=(h1.by_.drop _).take _;have e8:gO c f b er g j l s p=TW (eI c.1 g.1.2.2.1 (cR c) (cO b (1024*s.bK.1) 224)):=by unfold gO;rw[e7]
  have hf:=Ba (ks:=c.1) (fl:=g.1.2.2.1) (rm:=cR c) (b:=cO b (1024*s.bK.1) 224);have hm:qH c g.1.2.2.1 (cO b (1024*s.bK.1) 224):=⟨hb,by omega,h1.ks⟩;have hy:B0 c f b er g j l:=h1.st.mid;generalize cO b (1024*s.bK.1) 224=B at*;generalize eI c.1 g.1.2.2.1 (cR c) B=q at*
  have hq:q.2=0→1≤q.1.bQ∧q.1.bQ≤16:=fun d=>by
   obtain⟨a1,a2,a3,a4,_⟩:=hf d;rw[a1];exact⟨a3,a4⟩
  have e9:q.2=0→zV c f b er g j l s p=64*q.1.bQ:=fun d=>by
   have:=hq d;unfold zV;rw[e8];exact bM (n:=64*q.1.bQ) (by omega) (by omega)
  have Yb:q.2=0→tX c f b er g j l s p=(cO b (1024*s.bK.1+1024) (64*q.1.bQ),0):=fun d=>by
   have:=hq d;unfold tX;rw[e9 d,if_neg (by rw[hof];decide),if_pos ⟨by decide,by omega,by omega⟩]
  have e11:q.2=0→Ce c f b er g j l s p=cO b (1024*s.bK.1+1024) (64*q.1.bQ):=fun d=>by
   unfold Ce;rw[Yb d];simp
  simp only[aog,e7,e8,bF];refine⟨hr _ _,bY.2 ⟨fun _=>⟨by omega,cD.2 ⟨fun d=>?_,fun d=>?_⟩⟩,fun e=>absurd e (by decide)⟩⟩
  ·rw[if_pos d];exact bH.2 rfl
  ·rw[if_neg (fun h=>h d)];refine⟨hy,hm,b9.2 ⟨fun d2=>?_,fun d2=>?_⟩⟩
   ·have d2:q.2=0:=d2;unfold aye;rw[if_neg (fun h=>h d2),Yb d2,e11 d2];have:=hq d2;have hl2:(cO b (1024*s.bK.1+1024) (64*q.1.bQ)).length=64*q.1.bQ:=gg ⟨by omega,by omega,by have:=fl.1;omega⟩;exact⟨by decide,hr _ _,by decide,bY.2 ⟨fun _=>⟨⟨by decide,by omega⟩,bH.2 rfl⟩,fun e=>by simp at e⟩⟩
   ·have d2:q.2≠0:=d2;unfold aye;rw[if_pos d2];exact bH.2 rfl
theorem ayg:aUE.Ok aA 112:=ay (bI lE (bI aAe (bI JH (bI awT (bI G3 bU))))) func112 call112 (ks:=eU) (fun x_=>uo (@ayf x_.1))
abbrev V5(a b:Int):Prop:=AB a b=false
abbrev aJK:Type:=PP
abbrev a0j(x:aJK):LV:=.dB [.sc (.ptr 0 0),.sc (.int .i64 (.sym 0))]
abbrev a0k(x:aJK):List ao:= [(0,kY.wr x)]
abbrev a0l(a b:Int):aJK:=atP a b
def aUF:bT:=cj [] iiA bG (q0∘q2 V5) (q0∘q2 a0l) a0j a0k
theorem aJL:aUF.Ok aA 113:=by
 refine⟨fun args hp Q hq=>aSN.calls args hp Q ?_⟩;simp only[aUF,cj,atE,bT.fw,bT.sym,bT.of]at hq ⊢;split at hq
 ·exact⟨fun e=>(by have:=hq.1;have:AB _ _=false:=this;rw[this]at e;cases e),fun _=>⟨trivial,hq.2⟩⟩
 ·exact hq.elim
abbrev Ch(b:ab):Prop:=bL b∧mK b=true
def aUG:bT:=cj [some u8] bA bG (q0∘q1 Ch) (q0∘q1 aud) aBc aBd
theorem ayh:aUG.Ok aA 116:=E5 ajy fun x y h=>⟨⟨h.1,by have:=zA h.2;show x.1.length<_;omega⟩,by
 have h2:mK x.1=true:=h.2;show(!mK x.1)=false;rw[h2];rfl⟩
abbrev a0m:cl Hp (Ss×PP×Fl×ab×ab×Cu×Unit):=bD (cb aTg) (bD (cb kY) (bD (cb qI) (bD (dd 0 u8) (bD (dd 0 (.int .i64)) (bD (cb E7) bG)))))
def MU(s:Ss)(f:Fl)(b:ab):ab×Int:=Ec f b {begun:=eX.begun,s:=eX.s,n:=0,wait:=eX.wait} s.bK s.cM.cU.len
def aCU(s:Ss)(p:PP)(f:Fl)(b er:ab)(u:Cu):Tr sk:=.ite (decide (s.done<s.cM.cU.len)) (.ret (6)) (.need (u5 {begun:=eX.begun,s:=eX.s,n:=0,wait:=eX.wait} s.bK s.cM.cU.len f b er) (.ite ((MU s f b).2 !=0) (.ret ((MU s f b).2)) (.ite (!decide ((MU s f b).1=s.cM.cU.plain)) (.ret (7)) (.ret (0)))))
abbrev Ci(s:Ss)(p:PP)(f:Fl)(b er:ab)(u:Cu):Prop:=dE b er∧iO s.bK er∧0≤s.cM.cU.len∧s.done≤1024*(s.bK.2-2)
abbrev aoi(s:Ss)(p:PP)(f:Fl)(b er:ab)(u:Cu):sk:=Fk f b s
def aUJ:bT:=cj [] gL a0m (q6∘q0 Ci) (q6∘q0 aoi) aED aEE
theorem ayi:ac1 Ci aCU aoi:=by
 intro s p f b er u h_;delta aoi;obtain⟨h1,h2,h3,h4⟩:=h_;have h5:=h2.2;have h6:=h1.2.2;have e:(⟨eX.begun,eX.s,0,eX.wait⟩:HH)=eX:=rfl;simp only[aCU,MU,e,bF,bH,bW,b9,cD,Fk];have hn:eX.n=0:=rfl;refine⟨fun c=>by rw[if_pos c],fun c=>⟨⟨h1,h2,h3,by omega,lO,by rw[hn];omega⟩,fun c1=>?_,fun c1=>?_⟩⟩
 ·rw[if_neg c,if_neg (fun h=>h c1)];refine⟨fun c2=>?_,fun c2=>?_⟩
  ·rw[if_neg c2]
  ·rw[if_pos c2]
 ·rw[if_neg c,if_pos c1]
theorem ayj:aUJ.Ok aA 115:=ay (bI wG (bI TY bU)) func115 call115 (ks:=eU) (fun _=>bz @ayi)
theorem V6{c:Cf}{b er:ab}{g:Sg}{j:Jn}{l:List Rc}(h:gA c b er g j l):iO (AD c g).bK er∧3≤c.2∧(0≤kl g∧kl g≤1):=by
 obtain⟨⟨_,_,k1,k2⟩,k3⟩:=h.fit;have ht:kl g=0∨kl g=1:=by unfold kl;split;exact .inr rfl;exact .inl rfl
 have e:(AD c g).bK=(2+kl g*c.2,c.2):=rfl;rw[e];rcases ht with ht|ht
 ·rw[ht];exact⟨⟨by show 0≤2+0*c.2;omega,by show 1≤c.2;omega,by show 2+0*c.2+c.2≤_;omega⟩,k1,by decide⟩
 ·rw[ht];exact⟨⟨by show 0≤2+1*c.2;omega,by show 1≤c.2;omega,by show 2+1*c.2+c.2≤_;omega⟩,k1,by decide⟩
structure aoj (c:Cf) (f:Fl) (s S:Ss):Prop where
 on:f.2.1=false
 bK:S.bK=s.bK
 bQ:1≤S.cM.bQ∧S.cM.bQ≤16
 len:0≤S.cM.cU.len∧S.cM.cU.len≤cR c
 ver:uC S.cM.cU
 by_:bL S.cM.cU.list∧bL S.cM.cU.plain
 bytes:s.bytes.length=224→bL s.bytes→S.bytes.length=224∧bL S.bytes
 list:s.list.length=1024→bL s.list→S.list.length=1024∧bL S.list
 ct:S.ct=s.ct
 target:S.target=s.target
theorem aok{c:Cf}{f:Fl}{b er:ab}{g:Sg}{j:Jn}{l:List Rc}{s:Ss}{i:ab}(h:gA c b er g j l)(h2:iO s.bK er)(h3:3≤s.bK.2)(H:(V4 c f b g s i).1=true):aoj c f s (V4 c f b g s i).2:=by
 have fl:=h.fl;have f3:=fl.2.2;unfold V4 at H ⊢;by_cases c1:f.2.1=true
 ·rw[if_pos c1]at H;cases H
 rw[if_neg c1]at H ⊢;have hl:(cO b (1024*s.bK.1) 224).length=(224:Int):=gg ⟨by omega,by decide,by have:=fl.1;omega⟩;have hb:bL (cO b (1024*s.bK.1) 224):=(h.by_.drop _).take _;have hf:=Ba (ks:=c.1) (fl:=g.1.2.2.1) (rm:=cR c) (b:=cO b (1024*s.bK.1) 224);have hB:=anB (ks:=c.1) (fl:=g.1.2.2.1) (rm:=cR c) hb;generalize cO b (1024*s.bK.1) 224=B at*;generalize eI c.1 g.1.2.2.1 (cR c) B=q at*;split
 ·rename_i c2;rw[if_pos c2]at H;cases H
 rename_i c2;rw[if_neg c2]at H;unfold aye at H ⊢;split
 ·rename_i c3;rw[if_pos c3]at H;cases H
 rename_i c3;have c3:q.2=0:=Decidable.not_not.1 c3;obtain⟨a1,a2,a3,a4,a5,a6,a7⟩:=hf c3;have a0:q.1=(tD c.1 B).1:=by rw[a1]
 have hl2:((cO b (1024*s.bK.1+1024) (64*q.1.bQ)).length:Int)≤1024:=by rw[a0];have:(cO b (1024*s.bK.1+1024) (64*(tD c.1 B).1.bQ)).length=64*(tD c.1 B).1.bQ:=gg ⟨by omega,by omega,by have:=fl.1;omega⟩;omega
 exact⟨by simpa using c1,rfl,by rw[a0];exact⟨a3,a4⟩,by rw[a0];exact⟨a5,a6⟩,by rw[a0];exact a7,hB,fun k1 k2=>⟨jI (k:=0) (n:=224) k1 (by omega),m5 (k:=0) (n:=224) k2 hb⟩,fun k1 k2=>⟨jI (k:=0) (n:=1024) k1 (by omega),m5 (k:=0) (n:=1024) k2 ((h.by_.drop _).take _)⟩,rfl,rfl⟩
def zW:PP:= {bQ:=0,block:=0,part:=1,len:=0,cS:=8,buf:=og.buf,bad:=og.bad}
def V7(c:Cf)(g:Sg):Ss:= {target:=(AD c g).target,bK:=(2+kl g*c.2,c.2),bytes:=(AD c g).bytes,cM:= {key:=0,bQ:=0,cU:= {ver:=0,lP:=0,len:=0,list:=(AD c g).cM.cU.list,plain:=(AD c g).cM.cU.plain},sign:=(AD c g).cM.sign},list:=(AD c g).list,ct:=(AD c g).ct,plain:=0,block:=0,off:=0,done:=0}
def aol(g:Sg):HH:=Ug (eP g).2.2.2.2.2.2.2.2.2.2.2
def eE(c:Cf)(f:Fl)(b:ab)(g:Sg):Bool×Ss:=V4 c f b g (V7 c g) (eP g).2.2.2.2.2.2.2.2.2.2.1
def aom(c:Cf)(f:Fl)(b:ab)(g:Sg):PP:=atP (eE c f b g).2.cM.bQ (eP g).2.2.2.2.2.2.2.1
def yD(c:Cf)(f:Fl)(b:ab)(g:Sg):Ss:= {target:=(eE c f b g).2.target,bK:=(eE c f b g).2.bK,bytes:=(eE c f b g).2.bytes,cM:=(eE c f b g).2.cM,list:=(eE c f b g).2.list,ct:=(eE c f b g).2.ct,plain:=(eE c f b g).2.plain,block:=(eP g).2.2.2.2.2.2.2.1,off:=(eP g).2.2.2.2.2.2.2.2.1,done:=(eP g).2.2.2.2.2.2.2.2.2.1}
def jS(c:Cf)(f:Fl)(b:ab)(g:Sg):Cu:=ry (AO (yD c f b g)) (eP g).2.2.2.2.2.2.2.2.2.1 b
abbrev MW:Type:=Bool×Ss×PP×HH×Cu
abbrev aJO(x:MW):LV:=LV.dB [VV.sc (SV.ptr 7 0),VV.sc (au x.1)]
abbrev aJP(x:MW):List ao:= [(7,ui.wr x.2.1),(8,kY.wr x.2.2.1),(9,oY.wr x.2.2.2.1),(10,p6.wr x.2.2.2.2)]
abbrev MX:Type:=IE⊕MW
abbrev aJQ:MX→LV:=Sum.elim aPM aJO
abbrev aJR:MX→List ao:=Sum.elim aEI aJP
def aCV(c:Cf)(f:Fl)(b er:ab)(g:Sg)(j:Jn)(l:List ah):Tr (IE⊕MW):=(.need (qV c f b er g j l) (.need (yg c f b er g j l) (.ite ((!(eP g).2.2.2.2.2.1)==false) (.ite (((eP g).2.2.2.2.2.2.1 !=(AD c g).target)==false) (.need (Cg (eP g).2.2.2.2.2.2 c f b er g j l (V7 c g) zW) (.ite ((!(eE c f b g).1)==false) (.ite (decide ((eE c f b g).2.cM.bQ<(eP g).2.2.2.2.2.2.2.1)==false) (.ite (decide ((eE c f b g).2.cM.cU.len<(eP g).2.2.2.2.2.2.2.2.2.1)) (.ret (.inl false)) (.need (V5 (eE c f b g).2.cM.bQ (eP g).2.2.2.2.2.2.2.1) (.ite (((0:Int)!=0)==false) (.need (yh (yD c f b g) zW f b er) (.ite (((eP g).2.2.2.2.2.2.2.1==(eE c f b g).2.cM.bQ)==true) (.need (Ci (yD c f b g) zW f b er {r:=((eE c f b g).2.bK.1+2,(eE c f b g).2.bK.2-2),pos:=(jS c f b g).pos,n:=(jS c f b g).n,word:=(jS c f b g).word,ready:=(jS c f b g).ready,err:=0}) (.ite (Fk f b (yD c f b g)!=0) (.ret (.inl false)) (.need (Ch (eP g).2.2.2.2.2.2.2.2.2.2.2) (.ret (.inr (true,{target:=(eE c f b g).2.target,bK:=(eE c f b g).2.bK,bytes:=(eE c f b g).2.bytes,cM:=(eE c f b g).2.cM,list:=(eE c f b g).2.list,ct:=(eE c f b g).2.ct,plain:=(eE c f b g).2.plain,block:=(eP g).2.2.2.2.2.2.2.1,off:=(eP g).2.2.2.2.2.2.2.2.1,done:=(eP g).2.2.2.2.2.2.2.2.2.1},aom c f b g,aol g,{r:=((eE c f b g).2.bK.1+2,(eE c f b g).2.bK.2-2),pos:=(jS c f b g).pos,n:=(jS c f b g).n,word:=(jS c f b g).word,ready:=(jS c f b g).ready,err:=0})))))) (.need (Ch (eP g).2.2.2.2.2.2.2.2.2.2.2) (.ret (.inr (true,{target:=(eE c f b g).2.target,bK:=(eE c f b g).2.bK,bytes:=(eE c f b g).2.bytes,cM:=(eE c f b g).2.cM,list:=(eE c f b g).2.list,ct:=(eE c f b g).2.ct,plain:=(eE c f b g).2.plain,block:=(eP g).2.2.2.2.2.2.2.1,off:=(eP g).2.2.2.2.2.2.2.2.1,done:=(eP g).2.2.2.2.2.2.2.2.2.1},aom c f b g,aol g,{r:=((eE c f b g).2.bK.1+2,(eE c f b g).2.bK.2-2),pos:=(jS c f b g).pos,n:=(jS c f b g).n,word:=(jS c f b g).word,ready:=(jS c f b g).ready,err:=0})))))) (.ret (.inl false))))) (.ret (.inl false))) (.ret (.inl false)))) (.ret (.inl false))) (.ret (.inl false)))))
def jK(c:Cf)(f:Fl)(b:ab)(g:Sg):Bool×Ss:=V4 c f b g (AD c g) g.2.2.2.2.2.2.1
def j4(c:Cf)(f:Fl)(b:ab)(g:Sg):Ss:= {(jK c f b g).2 with block:=g.2.2.2.1,off:=g.2.2.2.2.1,done:=g.2.2.2.2.2.1}
def V8(c:Cf)(f:Fl)(b:ab)(g:Sg):Bool:=decide (g.2.1=true∧g.2.2.1=kl g∧(jK c f b g).1=true∧g.2.2.2.1≤(jK c f b g).2.cM.bQ∧g.2.2.2.2.2.1≤(jK c f b g).2.cM.cU.len∧(g.2.2.2.1=(jK c f b g).2.cM.bQ→Fk f b (j4 c f b g)=0))
def iI(c:Cf)(f:Fl)(b:ab)(g:Sg):Ss×PP×HH×Cu:=(j4 c f b g,atP (jK c f b g).2.cM.bQ g.2.2.2.1,Ug g.2.2.2.2.2.2.2,ry (AO (j4 c f b g)) g.2.2.2.2.2.1 b)
abbrev Cj(c:Cf)(f:Fl)(b er:ab)(g:Sg)(j:Jn)(l:List Rc):Prop:=gA c b er g j l
abbrev aon(c:Cf)(f:Fl)(b er:ab)(g:Sg)(j:Jn)(l:List Rc):Tr MX:=.ite (V8 c f b g) (.ret (.inr (true,iI c f b g))) (.ret (.inl false))
def aUK:bT:=sR [] gL AN (q7∘q0 Cj) (q7∘q0 aon) aJQ aJR
theorem ayk(c:Cf)(f:Fl)(b er:ab)(g:Sg)(j:Jn)(l:List Rc)(h_:Cj c f b er g j l)(z_:MX)(fS:(aon c f b er g j l).Is z_):(aCV c f b er g j l).Is z_:=by
 delta aon at fS;have fS:=bY.1 fS;have rC:¬ (g.2.1=true∧g.2.2.1=kl g∧(jK c f b g).1=true∧g.2.2.2.1≤(jK c f b g).2.cM.bQ∧g.2.2.2.2.2.1≤(jK c f b g).2.cM.cU.len∧(g.2.2.2.1=(jK c f b g).2.cM.bQ→Fk f b (j4 c f b g)=0))→z_= .inl false:=fun d=>(bH.1 (fS.2 (decide_eq_false d))).symm;have aUL:(g.2.1=true∧g.2.2.1=kl g∧(jK c f b g).1=true∧g.2.2.2.1≤(jK c f b g).2.cM.bQ∧g.2.2.2.2.2.1≤(jK c f b g).2.cM.cU.len∧(g.2.2.2.1=(jK c f b g).2.cM.bQ→Fk f b (j4 c f b g)=0))→z_= .inr (true,iI c f b g):=fun d=>(bH.1 (fS.1 (decide_eq_true d))).symm;obtain⟨r1,r2,r3⟩:=V6 h_;have e6:eE c f b g=jK c f b g:=rfl;have Yb:yD c f b g=j4 c f b g:=rfl;have hs:qV c f b er g j l:=h_.st.mid;have ho:yg c f b er g j l:=⟨h_.fl,h_.fit,h_.st.mid⟩;have hst:Cg (eP g).2.2.2.2.2.2 c f b er g j l (V7 c g) zW:=⟨h_,r1,r2⟩;simp only[aCV,e6,Yb,bF];refine⟨hs,ho,?_⟩;cases d1:g.2.1 with
 |false=>
  have e:(eP g).2.2.2.2.2.1=false:=d1;simp only[e];exact dV.2 (bH.2 (rC fun h=>by rw[d1]at h;cases h.1).symm)
 |true=>
  have e:(eP g).2.2.2.2.2.1=true:=d1;simp only[e];refine dH.2 (bY.2 ⟨fun d2=>⟨hst,?_⟩,fun d2=>bH.2 (rC fun h=>?_).symm⟩)
  ·have q2:g.2.2.1=kl g:=(by simp at d2;exact d2);refine bY.2 ⟨fun d3=>?_,fun d3=>bH.2 (rC fun h=>by rw[h.2.2.1]at d3;cases d3).symm⟩;have q3:(jK c f b g).1=true:=(by simpa using d3);have so:=aok (s:=AD c g) h_ r1 r2 q3;have so:aoj c f (AD c g) (jK c f b g).2:=so;have hc:=h_.st.C7 d1;obtain⟨_,_,c3,c4,c5,c6,c7,c8,c9⟩:=hc;have hh:Ch (eP g).2.2.2.2.2.2.2.2.2.2.2:=⟨h_.st.by_,c9⟩;have sb:=so.bQ;have sl:=so.len;have hR:cR c=1024*(c.2-2):=(by unfold cR;rw[if_pos h_.fit.1]);have es:(j4 c f b g).bK=(AD c g).bK:=so.bK;have es2:(j4 c f b g).bK.2=c.2:=(by rw[es];rfl);refine bY.2 ⟨fun d4=>?_,fun d4=>bH.2 (rC fun h=>?_).symm⟩
   ·have q4:g.2.2.2.1≤(jK c f b g).2.cM.bQ:=(by simp at d4;exact d4);refine bW.2 ⟨fun d5=>bH.2 (rC fun h=>absurd h.2.2.2.2.1 (Int.not_le.2 d5)).symm,fun d5=>?_⟩;have q5:g.2.2.2.2.2.1≤(jK c f b g).2.cM.cU.len:=Int.not_lt.1 d5;have hat:V5 (jK c f b g).2.cM.bQ g.2.2.2.1:=by
     show AB _ _=false;unfold AB;exact decide_eq_false (by omega)
    have hwr:yh (j4 c f b g) zW f b er:=⟨h_.fl,by rw[es];exact r1,by rw[es2];omega,c7,by show g.2.2.2.2.2.1≤1024*((j4 c f b g).bK.2-2);rw[es2];omega,so.on⟩;have hse:∀u,Ci (j4 c f b g) zW f b er u:=fun u=>⟨h_.fl,by rw[es];exact r1,sl.1,by show g.2.2.2.2.2.1≤1024*((j4 c f b g).bK.2-2);rw[es2];omega⟩;refine⟨hat,bY.2 ⟨fun _=>⟨hwr,bY.2 ⟨fun d6=>⟨hse _,b9.2 ⟨fun d7=>⟨hh,bH.2 (aUL ⟨d1,q2,q3,q4,q5,fun _=>d7⟩).symm⟩,fun d7=>bH.2 (rC fun h=>?_).symm⟩⟩,fun d6=>⟨hh,bH.2 (aUL ⟨d1,q2,q3,q4,q5,fun h=>?_⟩).symm⟩⟩⟩,fun e=>absurd e (by decide)⟩⟩
    ·have d6:g.2.2.2.1=(jK c f b g).2.cM.bQ:=(by simp at d6;exact d6);exact d7 (h.2.2.2.2.2 d6)
    ·have d6:¬g.2.2.2.1=(jK c f b g).2.cM.bQ:=(by simp at d6;exact d6);exact absurd h d6
   ·have d4:¬g.2.2.2.1≤(jK c f b g).2.cM.bQ:=(by simp at d4;exact Int.not_le.2 d4);exact d4 h.2.2.2.1
  ·simp at d2;exact d2 h.2.1
theorem ayl:aUK.Ok aA 73:=kO bJ ((bI BZ (bI aah (bI ayg (bI aJL (bI aao (bI ayj (bI ayh bU)))))))) func73 (by kernel_rfl) call73 (ks:=eU) (fun _ _=>cn.nil _) (fun _ _=>by kernel_rfl) fun x_ y_ h=>ayk y_.1 y_.2.1 y_.2.2.1 y_.2.2.2.1 y_.2.2.2.2.1 y_.2.2.2.2.2.1 y_.2.2.2.2.2.2.1 h
def j5(c:Cf)(f:Fl)(b er:ab)(g:Sg)(j:Jn)(l:List ah):Ss:=AD c (ca g j f b er l).2.1
abbrev MY:Type:=Int×Int×Cf×Fl×ab×ab×Sg×Jn×(List ah)
abbrev aJT(x:MY):LV:=LV.dB [VV.sc (ar x.1),VV.sc (ar x.2.1)]
abbrev aJU(x:MY):List ao:= [(0,ug.wr x.2.2.1),(1,dA.wr x.2.2.2.1),(2,bE.own 0 ae x.2.2.2.2.1),(3,bE.own 0 ag x.2.2.2.2.2.1),(4,jc.wr x.2.2.2.2.2.2.1),(5,fX.wr x.2.2.2.2.2.2.2.1),(6,bE.own 1 (ag.pair (ag.pair ae.sl)) x.2.2.2.2.2.2.2.2)]
abbrev MZ:Type:=Int×Int×Cf×Fl×ab×ab×Sg×Jn×(List ah)×Ss×PP×HH×Cu
abbrev aJV(x:MZ):LV:=LV.dB [VV.sc (ar x.1),VV.sc (ar x.2.1)]
abbrev aJW(x:MZ):List ao:= [(0,zN.wr x.2.2.1),(1,dA.wr x.2.2.2.1),(2,bE.own 0 ae x.2.2.2.2.1),(3,bE.own 0 ag x.2.2.2.2.2.1),(4,jc.wr x.2.2.2.2.2.2.1),(5,fX.wr x.2.2.2.2.2.2.2.1),(6,bE.own 1 (ag.pair (ag.pair ae.sl)) x.2.2.2.2.2.2.2.2.1),(7,ui.wr x.2.2.2.2.2.2.2.2.2.1),(8,kY.wr x.2.2.2.2.2.2.2.2.2.2.1),(9,oY.wr x.2.2.2.2.2.2.2.2.2.2.2.1),(10,p6.wr x.2.2.2.2.2.2.2.2.2.2.2.2)]
abbrev M0:Type:=Int×Int×Cf×Fl×ab×ab×Sg×Jn×(List ah)×Ss×PP
abbrev aJX(x:M0):LV:=LV.dB [VV.sc (ar x.1),VV.sc (ar x.2.1)]
abbrev aJY(x:M0):List ao:= [(0,zN.wr x.2.2.1),(1,dA.wr x.2.2.2.1),(2,bE.own 0 ae x.2.2.2.2.1),(3,bE.own 0 ag x.2.2.2.2.2.1),(4,jc.wr x.2.2.2.2.2.2.1),(5,fX.wr x.2.2.2.2.2.2.2.1),(6,bE.own 1 (ag.pair (ag.pair ae.sl)) x.2.2.2.2.2.2.2.2.1),(7,vt.wr x.2.2.2.2.2.2.2.2.2.1),(8,kY.wr x.2.2.2.2.2.2.2.2.2.2)]
abbrev M1:Type:=MY⊕MZ⊕M0
abbrev aJZ:M1→LV:=Sum.elim aJT (Sum.elim aJV aJX)
abbrev aJ0:M1→List ao:=Sum.elim aJU (Sum.elim aJW aJY)
def aCW(c:Cf)(f:Fl)(b er:ab)(g:Sg)(j:Jn)(l:List ah):Tr (MY⊕MZ⊕M0):=(.need (oN c f b er g j l) (.ite false (.ret (.inl (0,12,c,f,b,er,g,j,l))) (.ite (V8 c f b g) (.need (Cj c f b er g j l) (.ite true (.ret (.inr (.inl ((iI c f b g).1.off,0,c,f,b,er,g,j,l,(iI c f b g).1,(iI c f b g).2.1,(iI c f b g).2.2.1,{r:=((j4 c f b g).bK.1+2,(j4 c f b g).bK.2-2),pos:=(iI c f b g).2.2.2.pos,n:=(iI c f b g).2.2.2.n,word:=(iI c f b g).2.2.2.word,ready:=(iI c f b g).2.2.2.ready,err:=0})))) (.ite ((ca g j f b er l).1 !=0) (.need (mo c f b er g j l) (.ret (.inl (0,(ca g j f b er l).1,c,(ca g j f b er l).2.2.2.1,(ca g j f b er l).2.2.2.2.1,(ca g j f b er l).2.2.2.2.2.1,(ca g j f b er l).2.1,(ca g j f b er l).2.2.1,(ca g j f b er l).2.2.2.2.2.2)))) (.need (mo c f b er g j l) (.ret (.inr (.inr (0,0,c,(ca g j f b er l).2.2.2.1,(ca g j f b er l).2.2.2.2.1,(ca g j f b er l).2.2.2.2.2.1,(ca g j f b er l).2.1,(ca g j f b er l).2.2.1,(ca g j f b er l).2.2.2.2.2.2,{target:=(j5 c f b er g j l).target,bK:=(2+kl (ca g j f b er l).2.1*c.2,c.2),bytes:=(j5 c f b er g j l).bytes,cM:= {key:=0,bQ:=0,cU:= {ver:=0,lP:=0,len:=0,list:=(j5 c f b er g j l).cM.cU.list,plain:=(j5 c f b er g j l).cM.cU.plain},sign:=(j5 c f b er g j l).cM.sign},list:=(j5 c f b er g j l).list,ct:=(j5 c f b er g j l).ct,plain:=0,block:=0,off:=0,done:=0},{bQ:=0,block:=0,part:=1,len:=0,cS:=8,buf:=og.buf,bad:=og.bad})))))))) (.need (Cj c f b er g j l) (.ite false .fail (.ite ((ca g j f b er l).1 !=0) (.need (mo c f b er g j l) (.ret (.inl (0,(ca g j f b er l).1,c,(ca g j f b er l).2.2.2.1,(ca g j f b er l).2.2.2.2.1,(ca g j f b er l).2.2.2.2.2.1,(ca g j f b er l).2.1,(ca g j f b er l).2.2.1,(ca g j f b er l).2.2.2.2.2.2)))) (.need (mo c f b er g j l) (.ret (.inr (.inr (0,0,c,(ca g j f b er l).2.2.2.1,(ca g j f b er l).2.2.2.2.1,(ca g j f b er l).2.2.2.2.2.1,(ca g j f b er l).2.1,(ca g j f b er l).2.2.1,(ca g j f b er l).2.2.2.2.2.2,{target:=(j5 c f b er g j l).target,bK:=(2+kl (ca g j f b er l).2.1*c.2,c.2),bytes:=(j5 c f b er g j l).bytes,cM:= {key:=0,bQ:=0,cU:= {ver:=0,lP:=0,len:=0,list:=(j5 c f b er g j l).cM.cU.list,plain:=(j5 c f b er g j l).cM.cU.plain},sign:=(j5 c f b er g j l).cM.sign},list:=(j5 c f b er g j l).list,ct:=(j5 c f b er g j l).ct,plain:=0,block:=0,off:=0,done:=0},{bQ:=0,block:=0,part:=1,len:=0,cS:=8,buf:=og.buf,bad:=og.bad})))))))))))
abbrev yE(c:Cf)(f:Fl)(b er:ab)(g:Sg)(j:Jn)(l:List Rc):Prop:=gA c b er g j l
abbrev aoo(c:Cf)(f:Fl)(b er:ab)(g:Sg)(j:Jn)(l:List Rc):Tr M1:=.ite (V8 c f b g) (.ret (.inr (.inl (g.2.2.2.2.1,0,c,f,b,er,g,j,l,iI c f b g)))) (.ite ((ca g j f b er l).1!=0) (.ret (.inl (0,yS (ca g j f b er l) c))) (.ret (.inr (.inr (0,0,c,(ca g j f b er l).2.2.2.1,(ca g j f b er l).2.2.2.2.1,(ca g j f b er l).2.2.2.2.2.1,(ca g j f b er l).2.1,(ca g j f b er l).2.2.1,(ca g j f b er l).2.2.2.2.2.2,AD c (ca g j f b er l).2.1,og)))))
def aUM:bT:=sR [] gL AN (q7∘q0 yE) (q7∘q0 aoo) aJZ aJ0
theorem aym(c:Cf)(f:Fl)(b er:ab)(g:Sg)(j:Jn)(l:List Rc)(h_:yE c f b er g j l)(z_:M1)(fS:(aoo c f b er g j l).Is z_):(aCW c f b er g j l).Is z_:=by
 delta aoo at fS;have fS:=bY.1 fS;have hu:oN c f b er g j l:=trivial;simp only[aCW,j5,bF,dH,dV];refine⟨hu,bY.2 ⟨fun d=>⟨h_,dH.2 (bH.2 (bH.1 (fS.1 d)))⟩,fun d=>⟨h_,dV.2 (b9.2 ⟨fun d2=>⟨h_,bH.2 (bH.1 ((b9.1 (fS.2 d)).1 d2))⟩,fun d2=>⟨h_,bH.2 (bH.1 ((b9.1 (fS.2 d)).2 d2))⟩⟩)⟩⟩⟩
theorem ayn:aUM.Ok aA 47:=kO bJ ((bI B1 (bI ayl (bI Rn bU)))) func47 (by kernel_rfl) call47 (ks:= [.one 6,.fr [.sym],.cu,.bS,.ck]) (fun _ _=>cn.nil _) (fun _ _=>by kernel_rfl) fun x_ y_ h=>aym y_.1 y_.2.1 y_.2.2.1 y_.2.2.2.1 y_.2.2.2.2.1 y_.2.2.2.2.2.1 y_.2.2.2.2.2.2.1 h
abbrev aUN(x:IK):LV:=LV.dB [VV.sc (SV.int i64 (SI.lit 0)),VV.sc (SV.int i64 (SI.lit 12))]
def aUP(c:Cf)(f:Fl)(b er:ab)(g:Sg)(j:Jn)(l:List ah)(s:Ss)(p:PP):Tr IK:=.need (qf c f b er g j l s p) (.ret ())
abbrev M3(c:Cf)(f:Fl)(b er:ab)(g:Sg)(j:Jn)(l:List Rc)(s:Ss)(p:PP):Prop:=True
abbrev aop(c:Cf)(f:Fl)(b er:ab)(g:Sg)(j:Jn)(l:List Rc)(s:Ss)(p:PP):IK:=()
def aUQ:bT:=cj [] gL nV (q9∘q0 M3) (q9∘q0 aop) aUN aEQ
theorem ayo:aex M3 aUP aop:=by
 intro c f b er g j l s p h_;delta aop;exact⟨trivial,rfl⟩
theorem ayp:aUQ.Ok aA 47:=ay (bI s8 bU) func47 call47 (ks:= [.bS,.ck]) (fun _=>uo @ayo)
def aUT(c:Cf)(f:Fl)(b er:ab)(g:Sg)(j:Jn)(l:List ah)(s:Ss)(p:PP)(h:HH) (u:Cu):Tr IK:=.need (qd c f b er g j l s p h u) (.ret ())
abbrev M4(c:Cf)(f:Fl)(b er:ab)(g:Sg)(j:Jn)(l:List Rc)(s:Ss)(p:PP)(h:HH)(u:Cu):Prop:=True
abbrev aoq(c:Cf)(f:Fl)(b er:ab)(g:Sg)(j:Jn)(l:List Rc)(s:Ss)(p:PP)(h:HH)(u:Cu):IK:=()
def aUU:bT:=cj [] gL s5 (zQ∘q0 M4) (zQ∘q0 aoq) aUN aEQ
theorem ayq:aeQ M4 aUT aoq:=by
 intro c f b er g j l s p h u h_;delta aoq;exact⟨trivial,rfl⟩
theorem ayr:aUU.Ok aA 47:=ay (bI qe bU) func47 call47 (ks:= [.bS,.ck]) (fun _=>aa9 @ayq)
abbrev aJ1(x:IK):LV:=LV.one (VV.sc (SV.int i64 (SI.lit 12)))
def aJ3(c:Cf)(f:Fl)(b er:ab)(g:Sg)(j:Jn)(l:List ah)(s:Ss)(p:PP):Tr IK:=.need (qf c f b er g j l s p) (.ret ())
abbrev Fx(c:Cf)(f:Fl)(b er:ab)(g:Sg)(j:Jn)(l:List Rc)(s:Ss)(p:PP):Prop:=True
abbrev V9(c:Cf)(f:Fl)(b er:ab)(g:Sg)(j:Jn)(l:List Rc)(s:Ss)(p:PP):IK:=()
def aJ4:bT:=cj [] gL nV (q9∘q0 Fx) (q9∘q0 V9) aJ1 aEQ
theorem aor:aex Fx aJ3 V9:=by
 intro c f b er g j l s p h_;delta V9;exact⟨trivial,rfl⟩
theorem aos:aJ4.Ok aA 44:=ay (bI s8 bU) func44 call44 (ks:= [.bS,.ck]) (fun _=>uo @aor)
def aJ7(c:Cf)(f:Fl)(b er:ab)(g:Sg)(j:Jn)(l:List ah)(s:Ss)(p:PP)(h:HH) (u:Cu):Tr IK:=.need (qd c f b er g j l s p h u) (.ret ())
abbrev Fy(c:Cf)(f:Fl)(b er:ab)(g:Sg)(j:Jn)(l:List Rc)(s:Ss)(p:PP)(h:HH)(u:Cu):Prop:=True
abbrev Wa(c:Cf)(f:Fl)(b er:ab)(g:Sg)(j:Jn)(l:List Rc)(s:Ss)(p:PP)(h:HH)(u:Cu):IK:=()
def aJ8:bT:=cj [] gL s5 (zQ∘q0 Fy) (zQ∘q0 Wa) aJ1 aEQ
theorem aot:aeQ Fy aJ7 Wa:=by
 intro c f b er g j l s p h u h_;delta Wa;exact⟨trivial,rfl⟩
theorem aou:aJ8.Ok aA 44:=ay (bI qe bU) func44 call44 (ks:= [.bS,.ck]) (fun _=>aa9 @aot)
end Go.Proofs.YtliehnnljilacaaGreat
namespace Go.Ev
open Go
abbrev OqP(t:Ty):=t.D→World→Nat→List Nat→(Value→(t:Ty)→List t.D→Prop)→Prop
def yF{t:Ty}(SH:t.D→Hp):OqP t:=fun x w b l rd=>∃β:Env,β.b 0=b∧(∀v t m,β.rd true v t m→rd v t m)∧(∀v t m,¬β.rd false v t m)∧cN w (SH x) β β (SH x) w∧∀c,fb (SH x) β c↔c∈l
theorem Ry{hp:Hp}{β β':Env}(hb:β'.b=β.b)(hh:β'.h=β.h){c:Nat}:fb hp β' c↔fb hp β c:=⟨fun⟨i,x,h1,h2⟩=>⟨i,x,h1,(dM.congr (by rw[hb]) (by rw[hh])).1 h2⟩,fun⟨i,x,h1,h2⟩=>⟨i,x,h1,(dM.congr (by rw[hb]) (by rw[hh])).2 h2⟩⟩
theorem cN.move{hp:Hp}{β:Env}{w w':World}(h:cN w hp β β hp w)(ho:∀b,fb hp β b→w'.heap[b]? =w.heap[b]?)(hr:∀pm v t l b,β.rd pm v t l→inBlock v b→w'.heap[b]? =w.heap[b]?):cN w' hp β β hp w':=by
 refine⟨fun i y hi=>(h.items i y hi).of (dx.refl _ _) rfl rfl (fun b k=>ho b ⟨i,y,hi,k⟩) (fun v t l b k1 k2 _=>hr true v t l b k1 k2),h.inj,dx.refl _ _,fun i x b hi ho=>.inr ⟨x,hi,ho⟩,rfl,rfl,Nat.le_refl _,fun _ _ _=>rfl,fun pm v t l k=>?_,fun pm v t l b h1 h2=>.inr ⟨pm,v,t,l,fun e=>e,h1,h2⟩⟩;obtain⟨a1,a2⟩:=h.reads pm v t l k;refine⟨a1.of fun b hb _=>hr pm v t l b k hb,fun b hb=>⟨?_,(a2 b hb).2⟩⟩;have e:=hr pm v t l b k hb;rw[Array.getElem?_eq_getElem (a2 b hb).1]at e;exact(Array.getElem?_eq_some_iff.1 e).1
noncomputable section
variable {t:Ty} {SH:t.D→Hp} {x:t.D} {β:Env} {w:World}
theorem aow(h:cN w [some (.qn t (yF SH) x)] β β [some (.qn t (yF SH) x)] w):∃γ:Env,γ.b 0=β.b 0∧γ.rd=β.rd∧cN w (SH x) γ γ (SH x) w∧∀c,fb (SH x) γ c↔c∈held (β.h 0):=by
 obtain⟨h1,h2⟩:=(h.items 0 _ rfl:gb β _ w 0 (.qn t (yF SH) x));obtain⟨δ,k1,k2,k3,k4,k5⟩:=h2 w (β.rd true) (fun _ _ _ h=>h) (fun _ _ _=>rfl)
 have hm:∀pm v t l,δ.rd pm v t l→β.rd pm v t l:=fun pm v t l hr=>by
  cases pm with
  |true=>exact k2 v t l hr
  |false=>exact absurd hr (k3 v t l)
 have ho:∀c,fb (SH x) ⟨δ.b,δ.h,β.rd⟩ c↔c∈held (β.h 0):=fun c=>(Ry (β:=δ) (β':=⟨δ.b,δ.h,β.rd⟩) rfl rfl).trans (k5 c);refine⟨⟨δ.b,δ.h,β.rd⟩,k1,rfl,⟨fun i y hi=>?_,fun i j y z b hi hj h1 h2=>k4.inj i j y z b hi hj ((dM.congr (β:=δ) rfl rfl).1 h1) ((dM.congr (β:=δ) rfl rfl).1 h2),dx.refl _ _,fun i x b hi ho=>.inr ⟨x,hi,ho⟩,rfl,rfl,Nat.le_refl _,fun _ _ _=>rfl,fun pm v t l hr=>?_,fun pm v t l b h1 h2=>.inr ⟨pm,v,t,l,fun e=>e,h1,h2⟩⟩,ho⟩
 ·exact gb.of (β:=δ) (β':=⟨δ.b,δ.h,β.rd⟩) (L:=kd (SH x)) ⟨fun i hi=>⟨hi,rfl⟩,fun i c hi=>⟨c,hi,Nat.le_refl _,fun _=>rfl⟩,hm⟩ rfl rfl (k4.items i y hi) (fun _ _=>rfl) (fun _ _ _ _ _ _ _=>rfl)
 ·obtain⟨a1,a2⟩:=h.reads pm v t l hr;exact⟨dw.mono (β:=β) (β':=⟨δ.b,δ.h,β.rd⟩) (fun _ _ _ _ h=>h) a1,fun b hb=>⟨(a2 b hb).1,fun Og=>(a2 b hb).2 ⟨0,_,rfl,(ho b).1 Og⟩⟩⟩
theorem aev{W:World}{bP hp:Hp}{β₀:Env}(h:cN W bP β₀ β hp w){roots ids:List Nat}{xs:List bE}(hr:Reached hp roots ids xs [])(hn:xs.all bE.nr=true){γ:Env} (hγ:γ=⟨fun j=>β.b (ids.getD j 0),fun j=>β.h (ids.getD j 0),fun pm v t l=>pm=true∧β.rd true v t l⟩):cN w (gR ids xs) γ γ (gR ids xs) w∧∀b,fb (gR ids xs) γ b→fb hp β b:=by
 subst hγ;have c:=Di (β:=β) (w:=w) hr (own:=fun _=>False) (lent:=false);have Oa:si (we ids xs) β ⟨fun j=>β.b (ids.getD j 0),fun j=>β.h (ids.getD j 0),fun pm v t l=>pm=true∧β.rd true v t l⟩ (kd hp) (kd (gR ids xs)) true:=⟨c.cK,c.own,fun v t l h=>⟨rfl,h⟩,fun e=>by cases e⟩;have lk:∀b,fb (gR ids xs) ⟨fun j=>β.b (ids.getD j 0),fun j=>β.h (ids.getD j 0),fun pm v t l=>pm=true∧β.rd true v t l⟩ b→fb hp β b:=by
  rintro b ⟨j,y,hj,ho⟩;obtain⟨i,x,h1,h2,_,rfl⟩:=ky hr hj;exact⟨i,x,h2,(dM.dD (by show β.b _=_;rw[fv h1]) (by show β.h _=_;rw[fv h1])).1 ho⟩
 refine⟨⟨fun j y hj=>?_,fun j k y z b hj hk h1 h2=>?_,dx.refl _ _,fun i x b hi ho=>.inr ⟨x,hi,ho⟩,rfl,rfl,Nat.le_refl _,fun _ _ _=>rfl,fun pm v t l mN=>?_,fun pm v t l b h1 h2=>.inr ⟨pm,v,t,l,id,h1,h2⟩⟩,lk⟩
 ·obtain⟨i,x,h1,h2,h3,rfl⟩:=ky hr hj;exact gb.Gf Oa (fun _=>List.all_eq_true.1 hn x (List.mem_of_getElem? h3)) (fun _=>by show β.b _=_;rw[fv h1]) (by show β.h _=_;rw[fv h1]) (h.items i x h2)
 ·obtain⟨i1,x1,a1,a2,_,rfl⟩:=ky hr hj;obtain⟨i2,x2,b1,b2,_,rfl⟩:=ky hr hk;have e:=h.inj i1 i2 x1 x2 b a2 b2 ((dM.dD (by show β.b _=_;rw[fv a1]) (by show β.h _=_;rw[fv a1])).1 h1) ((dM.dD (by show β.b _=_;rw[fv b1]) (by show β.h _=_;rw[fv b1])).1 h2);subst e;have e1:=kv hr.nodup a1;have e2:=kv hr.nodup b1;rw[e1]at e2;exact Option.some.inj e2
 ·obtain⟨rfl,mN⟩:=mN;obtain⟨a1,a2⟩:=h.reads true v t l mN;refine⟨?_,fun b hb=>⟨(a2 b hb).1,fun ho=>(a2 b hb).2 (lk b ho)⟩⟩;obtain⟨a,n,c,rfl,yP,hc,hz,hrr⟩:=a1;refine⟨a,n,c,rfl,yP,hc,hz,fun h0=>?_⟩;obtain⟨a0,gq,rfl,k1,k2,k3⟩:=hrr h0;exact⟨a0,gq,rfl,k1,k2.imp fun _ _=>t.kx Oa.rdt,k3⟩
theorem aJ9{hp:Hp}{roots ids:List Nat}{xs:List bE}(h:(mz 1000 roots [] []).val hp=some (ids,xs)):Reached hp roots ids xs []:=wc 1000 _ [] [] ⟨List.nodup_nil,rfl,fun _ _ _ h=>by simp at h,fun _ h=>by simp at h,fun r h=>.inr h⟩ h
theorem Rz{W:World}{bP hp:Hp}{β₀:Env}(h:cN W bP β₀ β hp w){r:Nat}{ids:List Nat}{xs:List bE}(hr:(mz 1000 [r] [] []).val hp=some (ids,xs))(h0:ids[0]? =some r)(hs:gR ids xs=SH x)(hn:xs.all bE.nr=true):∃l:List Nat,(∀b∈l,fb hp β b∧b<w.heap.size)∧∀ (β2:Env) (L:Nat→Option Kd) (i:Nat),β2.b i=β.b r→β2.h i=hold l→β2.rd true=β.rd true→gb β2 L w i (.qn t (yF SH) x):=by
 obtain⟨k1,k2⟩:=aev h (aJ9 hr) hn rfl;rw[hs]at k1 k2;generalize hγ:(⟨fun j=>β.b (ids.getD j 0),fun j=>β.h (ids.getD j 0),fun pm v t l=>pm=true∧β.rd true v t l⟩:Env)=γ at*
 classical
 refine⟨(List.range w.heap.size).filter fun c=>decide (fb (SH x) γ c),fun b hb=>?_,fun β2 L i e1 e2 e3=>?_⟩
 ·obtain⟨a1,a2⟩:=List.mem_filter.1 hb;exact⟨k2 b (of_decide_eq_true a2),List.mem_range.1 a1⟩
 ·have hm:∀c,fb (SH x) γ c↔c∈held (β2.h i):=fun c=>by
   rw[e2,pv,List.mem_filter,List.mem_range,decide_eq_true_iff];exact⟨fun k=>⟨k1.lt k,k⟩,fun k=>k.2⟩
  refine⟨fun b hb=>k1.lt ((hm b).2 hb),fun w2 rd g1 g2=>⟨γ,?_,fun v t m k=>?_,fun v t m k=>?_,?_,hm⟩⟩
  ·subst hγ;show β.b (ids.getD 0 0)=_;rw[fv h0,e1]
  ·subst hγ;exact g1 v t m (by rw[e3];exact k.2)
  ·subst hγ;exact absurd k.1 (by decide)
  ·refine k1.move (fun b hb=>g2 b (.inl ((hm b).1 hb)) (k1.lt hb)) fun pm v t l b k hb=>?_;have iZ:=((k1.reads pm v t l k).2 b hb).1;subst hγ;exact g2 b (.inr ⟨v,t,l,by rw[e3];exact k.2,hb⟩) iZ
theorem aew{dZ:Hp}{w':World}{γ β':Env}{x':t.D}{ids:List Nat}{xs:List bE}(h:cN w [some (.qn t (yF SH) x)] β β [some (.qn t (yF SH) x)] w)(hg:γ.rd=β.rd)(hg0:γ.b 0=β.b 0)(hgo:∀c,fb (SH x) γ c↔c∈held (β.h 0)) (hk:kd (SH x) 0=some .cK) (h':cN w (SH x) γ β' dZ w') (hr:(mz 1000 [0] [] []).val dZ=some (ids,xs)) (h0:ids[0]? =some 0) (hs:gR ids xs=SH x') (hn:xs.all bE.nr=true):∃β2:Env,β2.b 0=β.b 0∧β2.rd=β'.rd∧cN w [some (.qn t (yF SH) x)] β β2 [some (.qn t (yF SH) x')] w':=by
 obtain⟨l0,a1,a2⟩:=Rz h' hr h0 hs hn;have b0:β'.b 0=β.b 0:=(h'.first.cK 0 hk).2.trans hg0
 have aD3:∀b,b∈l0→w.heap.size≤b∨b∈held (β.h 0):=fun b hb=>by
  obtain⟨i,y,hi,ho⟩:=(a1 b hb).1;rcases h'.own i y b hi ho with k|⟨z,k3,k4⟩
  ·exact .inl k
  ·exact .inr ((hgo b).1 ⟨i,z,k3,k4⟩)
 have one:∀ {i:Nat} {y z:bE},[some y][i]? =some (some z)→i=0∧z=y:=fun {i y z} hi=>by
  cases i with
  |zero=>simp at hi;exact⟨rfl,hi.symm⟩
  |succ i=>simp at hi
 refine⟨⟨β.b,fun _=>hold l0,β'.rd⟩,rfl,rfl,⟨fun i y hi=>?_,fun i j y z b hi hj _ _=>?_,⟨fun i hi=>?_,fun i c hi=>?_,fun pm v t l mN=>h'.first.rd pm v t l (by rw[hg];exact mN)⟩,fun i y b hi ho=>?_,h'.os,h'.output,h'.size,fun b hb rC=>?_,fun pm v t l mN=>?_,fun pm v t l b mN hb=>?_⟩⟩
 ·obtain⟨rfl,rfl⟩:=one hi;exact a2 _ _ 0 b0.symm rfl rfl
 ·rw[(one hi).1,(one hj).1]
 ·obtain⟨y,h1,_⟩:=jM hi;obtain⟨rfl,rfl⟩:=one h1;exact⟨rfl,rfl⟩
 ·obtain⟨y,h1,h2⟩:=jM hi;obtain⟨rfl,rfl⟩:=one h1;cases h2
 ·obtain⟨rfl,rfl⟩:=one hi;have Og:b∈held (hold l0):=ho;rw[pv]at Og;rcases aD3 b Og with k|k
  ·exact .inl k
  ·exact .inr ⟨_,rfl,k⟩
 ·exact h'.bV b hb fun ho=>rC ⟨0,_,rfl,(hgo b).1 ho⟩
 ·obtain⟨k1,k2⟩:=h'.reads pm v t l mN;refine⟨dw.mono (β:=β') (β':=⟨β.b,fun _=>hold l0,β'.rd⟩) (fun _ _ _ _ h=>h) k1,fun b hb=>⟨(k2 b hb).1,fun⟨i,y,hi,ho⟩=>(k2 b hb).2 ?_⟩⟩;obtain⟨rfl,rfl⟩:=one hi;have Og:b∈held (hold l0):=ho;rw[pv]at Og;exact(a1 b Og).1
 ·rcases h'.from_ pm v t l b mN hb with k|⟨nm,v',t',l',k0,k1,k2⟩
  ·exact .inl k
  ·exact .inr ⟨nm,v',t',l',k0,by rw[hg]at k1;exact k1,k2⟩
def idR:ur:=⟨fun b=>if b=0 then some 0 else none,fun _ _=>none⟩
structure OqE (SH:t.D→Hp) (r:Nat) (v:LV) (hp:Hp) (x:t.D):Prop where
 val:v.dD idR=v
 can:∃ids xs,(mz 1000 [r] [] []).val hp=some (ids,xs)∧ids[0]? =some r∧gR ids xs=SH x∧xs.all bE.nr=true
theorem aox{P:Program}{f:FuncId}{args:List LV}{R:LV→t.D→Prop}(hk:kd (SH x) 0=some .cK)(ha:args.map (LV.dD idR)=args) (h:lB P f args (SH x) fun v dZ=>∃x',R v x'∧OqE SH 0 v dZ x'):lB P f args [some (.qn t (yF SH) x)] fun v dZ=>∃x',R v x'∧dZ= [some (.qn t (yF SH) x')]:=by
 intro β w vals hh dt;obtain⟨γ,g0,g1,g2,g3⟩:=aow hh
 have hi:∀ {b j:Nat},idR.f b=some j→b=0∧j=0:=fun {b j} h=>by
  have h:(if b=0 then some 0 else none)=some j:=h;split at h
  ·rename_i e;cases h;exact⟨e,rfl⟩
  ·cases h
 have Oa:si idR β γ (kd [some (.qn t (yF SH) x)]) (kd (SH x)) false:=by
  refine⟨fun b j hj hb=>?_,fun i j c hj um=>?_,fun v t l h=>by rw[g1];exact h,fun _ v t l h=>by rw[g1];exact h⟩
  ·obtain⟨rfl,rfl⟩:=hi hj;exact⟨hk,g0⟩
  ·obtain⟨rfl,rfl⟩:=hi hj;cases um
 have aKa:dC (LV.den γ (kd (SH x))) args vals:=by
  rw[← ha];exact dt.vF fun a v hd=>LV.gD Oa (by simp) hd
 refine(h γ w vals g2 aKa).mono ?_;rintro e w' ⟨val,β',r,dZ,rfl,⟨x',hR,hv,ids,xs,k1,k2,k3,k4⟩,C3,h'⟩;obtain⟨β2,b0,rd2,Sq⟩:=aew hh g1 g0 g3 hk h' k1 k2 k3 k4;have aKb:si idR β' β2 (kd dZ) (kd [some (.qn t (yF SH) x')]) false:=by
  refine⟨fun b j hj hb=>?_,fun i j c hj um=>?_,fun v t l h=>by rw[rd2];exact h,fun _ v t l h=>by rw[rd2];exact h⟩
  ·obtain⟨rfl,rfl⟩:=hi hj;exact⟨rfl,by rw[b0,(h'.first.cK 0 hk).2,g0]⟩
  ·obtain⟨rfl,rfl⟩:=hi hj;rw[(h'.first.cK 0 hk).1]at um;cases um
 refine⟨val,β2,r,_,rfl,⟨x',hR,rfl⟩,?_,Sq⟩;rw[← hv];exact LV.gD aKb (by simp) C3
end
theorem ayt{P:Program}{f:FuncId}{args:List LV}{t:Ty}{SH:t.D→Hp}{x:t.D}{v0:LV}(h:lB P f args [] fun v dZ=>v=v0∧kd dZ 0=some .cK∧OqE SH 0 v dZ x):lB P f args [] fun v dZ=>v=v0∧dZ= [some (.qn t (yF SH) x)]:=by
 intro β w vals hh dt;refine(h β w vals hh dt).mono ?_;rintro e w' ⟨val,β',r,dZ,rfl,⟨rfl,hk,hv,ids,xs,k1,k2,k3,k4⟩,C3,h'⟩;obtain⟨l0,a1,a2⟩:=Rz h' k1 k2 k3 k4
 have one:∀ {i:Nat} {y z:bE},[some y][i]? =some (some z)→i=0∧z=y:=fun {i y z} hi=>by
  cases i with
  |zero=>simp at hi;exact⟨rfl,hi.symm⟩
  |succ i=>simp at hi
 have Sq:cN w [] β ⟨fun _=>β'.b 0,fun _=>hold l0,β'.rd⟩ [some (.qn t (yF SH) x)] w':=by
  refine⟨fun i y hi=>?_,fun i j y z b hi hj _ _=>?_,⟨fun i hi=>?_,fun i c hi=>?_,fun pm v t l mN=>h'.first.rd pm v t l mN⟩,fun i y b hi ho=>?_,h'.os,h'.output,h'.size,fun b hb rC=>?_,fun pm v t l mN=>?_,fun pm v t l b mN hb=>h'.from_ pm v t l b mN hb⟩
  ·obtain⟨rfl,rfl⟩:=one hi;exact a2 _ _ 0 rfl rfl rfl
  ·rw[(one hi).1,(one hj).1]
  ·obtain⟨y,h1,_⟩:=jM hi;simp at h1
  ·obtain⟨y,h1,_⟩:=jM hi;simp at h1
  ·obtain⟨rfl,rfl⟩:=one hi;have Og:b∈held (hold l0):=ho;rw[pv]at Og;obtain⟨i,y,hi,ho⟩:=(a1 b Og).1;rcases h'.own i y b hi ho with k|⟨z,k3,_⟩
   ·exact .inl k
   ·simp at k3
  ·exact h'.bV b hb fun⟨i,x,hi,_⟩=>by simp at hi
  ·obtain⟨k1,k2⟩:=h'.reads pm v t l mN;refine⟨dw.mono (β:=β') (β':=⟨fun _=>β'.b 0,fun _=>hold l0,β'.rd⟩) (fun _ _ _ _ h=>h) k1,fun b hb=>⟨(k2 b hb).1,fun⟨i,y,hi,ho⟩=>(k2 b hb).2 ?_⟩⟩;obtain⟨rfl,rfl⟩:=one hi;have Og:b∈held (hold l0):=ho;rw[pv]at Og;exact(a1 b Og).1
 have hi:∀ {b j:Nat},idR.f b=some j→b=0∧j=0:=fun {b j} h=>by
  have h:(if b=0 then some 0 else none)=some j:=h;split at h
  ·rename_i e;cases h;exact⟨e,rfl⟩
  ·cases h
 have aKb:si idR β' ⟨fun _=>β'.b 0,fun _=>hold l0,β'.rd⟩ (kd dZ) (kd [some (.qn t (yF SH) x)]) false:=by
  refine⟨fun b j hj hb=>?_,fun i j c hj um=>?_,fun v t l h=>h,fun _ v t l h=>h⟩
  ·obtain⟨rfl,rfl⟩:=hi hj;exact⟨rfl,rfl⟩
  ·obtain⟨rfl,rfl⟩:=hi hj;rw[hk]at um;cases um
 refine⟨val,_,r,_,rfl,⟨rfl,rfl⟩,?_,Sq⟩;rw[← hv];exact LV.gD aKb (by simp) C3
def aUV(t:Ty):cl bE (OqP t×t.D) where
 rd s:=match s with
  | .qn t' D x=>if h:t'=t then some (h▸D,h▸x)else none
  |_=>none
 wr p:=.qn t p.1 p.2
 ok:=by
  intro s x h;split at h
  ·split at h
   ·rename_i e;subst e;cases h;rfl
   ·cases h
  ·cases h
abbrev hOq(t:Ty):cl Hp ((OqP t×t.D)×Unit):=bD (cb (aUV t)) bG
def canon(r:Nat)(hp:Hp):Option Hp:=match(mz 1000 [r] [] []).val hp with
 |some (i::ids,xs)=>bif i==r&&xs.all bE.nr then some (gR (i::ids) xs)else none
 |_=>none
theorem s9{t:Ty}{SH:t.D→Hp}{r:Nat}{v:LV}{hp:Hp}{x:t.D}(h1:v.dD idR=v)(h2:canon r hp=some (SH x)):OqE SH r v hp x:=by
 refine⟨h1,?_⟩;unfold canon at h2;split at h2
 ·rename_i i ids xs h;cases hc:(i==r&&xs.all bE.nr)with
  |true=>
   rw[hc]at h2;obtain⟨c1,c2⟩:=(Bool.and_eq_true _ _).mp hc;have:i=r:=(by simpa using c1);subst this;exact⟨_,_,h,rfl,Option.some.inj h2,c2⟩
  |false=>rw[hc]at h2;cases h2
 ·cases h2
theorem Cl{P:Program}{f:FuncId}{t:Ty}{SH:t.D→Hp}(hk:∀x,kd (SH x) 0=some .cK){tys:List (Option Ty)}{X Z:Type}{A:cl (List LV) X}(hA:∀a,(A.wr a).map (LV.dD idR)=A.wr a){pre:X→(OqP t×t.D)×Unit→Prop}{sp:X→(OqP t×t.D)×Unit→Z×t.D}{V:Z→LV} (hS:∀a x,pre a ((yF SH,x),())→lB P f (A.wr a) (SH x) fun v dZ=>v=V (sp a ((yF SH,x),())).1∧OqE SH 0 v dZ (sp a ((yF SH,x),())).2):(cj tys A (hOq t) (fun a y=>y.1.1=yF SH∧pre a y) sp (fun z=>V z.1) fun z=> [(0,.qn t (yF SH) z.2)]).Ok P f:=by
 have key:(bT.of tys A (hOq t) fun a y=>.bN (some (y.1.1=yF SH∧pre a y)) (V (sp a y).1) [(0,.qn t (yF SH) (sp a y).2)]).Ok P f:=by
  refine⟨fun args hp Q hq=>?_⟩;simp only[bT.of]at hq;split at hq
  ·rename_i a y hx hy;rw[A.ok hx,(hOq t).ok hy];obtain⟨⟨D,x⟩,u⟩:=y;obtain⟨⟨h1,h2⟩,h3⟩:=hq;have h1:D=yF SH:=h1;subst h1;have h4:=hS a x h2
   have h5:=aox (hk x) (hA a) (R:=fun v x'=>v=V (sp a ((yF SH,x),())).1∧x'=(sp a ((yF SH,x),())).2) (P:=P) (f:=f) fun β w vals hh dt=>(h4 β w vals hh dt).mono fun e w'=>by
    rintro⟨val,β',r,dZ,rfl,⟨k1,k2⟩,k3,k4⟩;exact⟨val,β',r,_,rfl,⟨_,⟨k1,rfl⟩,k2⟩,k3,k4⟩
   intro β w vals hh dt;refine(h5 β w vals hh dt).mono ?_;rintro e w' ⟨val,β',r,dZ,rfl,⟨x',⟨rfl,rfl⟩,rfl⟩,k3,k4⟩;exact⟨val,β',_,_,rfl,⟨_,h3,rfl⟩,k3,k4⟩
  ·exact hq.elim
 exact key.sym
theorem Wb{P:Program}{f:FuncId}{t:Ty}{SH:t.D→Hp}{tys:List (Option Ty)}{X Z:Type}{A:cl (List LV) X}{pre:X→Prop}{sp:X→Z×t.D}{V:Z→LV} (hS:∀a,pre a→lB P f (A.wr a) [] fun v dZ=>v=V (sp a).1∧kd dZ 0=some .cK∧OqE SH 0 v dZ (sp a).2):(cj tys A bG (fun a _=>pre a) (fun a _=>sp a) (fun z=>V z.1) fun z=> [(0,.qn t (yF SH) z.2)]).Ok P f:=by
 have key:(bT.of tys A bG fun a _=>.bN (some (pre a)) (V (sp a).1) [(0,.qn t (yF SH) (sp a).2)]).Ok P f:=by
  refine⟨fun args hp Q hq=>?_⟩;simp only[bT.of]at hq;split at hq
  ·rename_i a y hx hy;rw[A.ok hx,(bG:cl Hp Unit).ok hy];obtain⟨h2,h3⟩:=hq;intro β w vals hh dt;refine(ayt (hS a h2) β w vals hh dt).mono ?_;rintro e w' ⟨val,β',r,dZ,rfl,⟨rfl,rfl⟩,k3,k4⟩;exact⟨val,β',_,_,rfl,⟨_,h3,rfl⟩,k3,k4⟩
  ·exact hq.elim
 exact key.sym
theorem jl{P:Program}(jy:P.follows .mixedOrders=true){tab:List (FuncId×bT)}(mc:∀p∈tab,p.2.Ok P p.1){f:FuncId}{fn:Func}(hf:P.funcs[f]? =some fn)(hb:fn.body.isSome=true)(he:oT P f){LT:gW}{args:List LV}{hp:Hp}(hL:cn P hp LT (fV fn)){ks:List Wk}
  {Z:Type} {V:Z→LV} {D:Z→List (Nat×bE)} {T:Tr Z} (hT:cY P tab LT fn args hp ks=T.end V D hp) {z:Z} (hz:T.Is z):lB P f args hp fun v dZ=>v=V z∧dZ=cq (D z) hp:=
 il.done he (cg jy mc hf hb (ks:=ks) hL _ (by rw[hT];exact Tr.ov hz))
def Tr.all{X:Type}(P:X→Prop):Tr X→Prop
 | .ret x=>P x
 | .ite b t e=>(b=true→t.all P)∧(b=false→e.all P)
 | .need q t=>q∧t.all P
 | .fail=>False
theorem Tr.zX{X:Type}{P:X→Prop}:∀ {t:Tr X},t.all P→∃z,t.Is z∧P z
 | .ret x,h=>⟨x,rfl,h⟩
 | .ite true t e,h=>by obtain⟨z,h1,h2⟩:=Tr.zX (h.1 rfl);exact⟨z,⟨fun _=>h1,fun e=>by cases e⟩,h2⟩
 | .ite false t e,h=>by obtain⟨z,h1,h2⟩:=Tr.zX (h.2 rfl);exact⟨z,⟨fun e=>(by cases e),fun _=>h1⟩,h2⟩
 | .need q t,h=>by obtain⟨z,h1,h2⟩:=Tr.zX h.2;exact⟨z,⟨h.1,h1⟩,h2⟩
 | .fail,h=>h.elim
theorem Tr.Is.unique{X:Type}:∀ {t:Tr X} {y z:X},t.Is y→t.Is z→y=z
 | .ret _,_,_,h,h'=>by cases h;cases h';rfl
 | .ite true _ _,_,_,h,h'=>(h.1 rfl).unique (h'.1 rfl)
 | .ite false _ _,_,_,h,h'=>(h.2 rfl).unique (h'.2 rfl)
 | .need _ t,_,_,h,h'=>Tr.Is.unique (t:=t) h.2 h'.2
 | .fail,_,_,h,_=>h.elim
noncomputable section
variable {X:Type} {P:X→Prop} {t e:Tr X}
theorem lU{b:Bool}:(Tr.ite b t e).all P↔(b=true→t.all P)∧(b=false→e.all P):=Iff.rfl
theorem Fz{q:Prop}:(Tr.need q t).all P↔q∧t.all P:=Iff.rfl
theorem M7{x:X}:(Tr.ret x).all P↔P x:=Iff.rfl
theorem jm{a b:Int}:(Tr.ite (a==b) t e).all P↔(a=b→t.all P)∧(a≠b→e.all P):=by rw[lU,beq_iff_eq,beq_eq_false_iff_ne]
theorem all_bne{a b:Int}:(Tr.ite (a !=b) t e).all P↔(a=b→e.all P)∧(a≠b→t.all P):=by rw[lU,bne_iff_ne,bne_eq_false_iff_eq];exact And.comm
theorem yG{c:Prop}[Decidable c]:(Tr.ite (decide c) t e).all P↔(c→t.all P)∧(¬c→e.all P):=by by_cases h:c<;>simp[lU,h]
theorem all_true:(Tr.ite true t e).all P↔t.all P:=⟨fun h=>h.1 rfl,fun h=>⟨fun _=>h,fun e=>by cases e⟩⟩
end
def bT.pick{X Y:Type}(A:cl (List LV) X)(H:cl Hp Y)(c:X→Y→Bool)(e1 e2:bT):bT:=⟨e1.tys,fun args hp=>match A.rd (args.map (LV.fq SV.symm)),H.rd (hp.map (Option.map (bE.fq SV.symm)))with
 |some x,some y=>.ite (c x y) (e1.run args hp) (e2.run args hp)
 |_,_=>.fail⟩
theorem bT.Ok.pick{P:Program}{f:FuncId}{X Y:Type}{A:cl (List LV) X}{H:cl Hp Y}{c:X→Y→Bool}{e1 e2:bT}(h1:e1.Ok P f)(h2:e2.Ok P f):(bT.pick A H c e1 e2).Ok P f:=by
 refine⟨fun args hp Q hq=>?_⟩;simp only[bT.pick]at hq;split at hq
 ·rename_i x y hx hy;cases hc:c x y with
  |true=>exact h1.calls args hp Q (hq.1 hc)
  |false=>exact h2.calls args hp Q (hq.2 hc)
 ·exact hq.elim
end Go.Ev
