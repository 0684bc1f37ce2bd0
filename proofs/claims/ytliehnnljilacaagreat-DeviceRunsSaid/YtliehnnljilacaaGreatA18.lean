/- What the laws lean on, part 18: a reader of code, plain facts, and what each function gives; no conditions. -/
import Derived.Test.YtliehnnljilacaaGreatA17
noncomputable section
open Go.IntKind (i64 signed u16 u32 u64 wrap wrap_u32)
set_option linter.unusedVariables false
set_option linter.unusedSimpArgs false
namespace Go.Proofs.YtliehnnljilacaaGreat
open Go Go.Ev Go.Proofs.Tryz
set_option maxRecDepth 1000000
def Mo(s:Ss)(f:Fl)(b:ab):ab×Int:=Ec f b {begun:=eX.begun,s:=eX.s,n:=0,wait:=eX.wait} s.bK s.cM.cU.len
def aCv(s:Ss)(p:PP)(f:Fl)(b er:ab)(h:HH)(u:Cu):Tr sk:=.ite (decide (s.done< s.cM.cU.len)) (.ret (6)) (.need (u5 {begun:=eX.begun,s:=eX.s,n:=0,wait:=eX.wait} s.bK s.cM.cU.len f b er) (.ite ((Mo s f b).2 !=0) (.ret ((Mo s f b).2)) (.ite (!decide ((Mo s f b).1=s.cM.cU.plain)) (.ret (7)) (.ret (0)))))
def Fk(f:Fl)(b:ab)(s:Ss):Int:=if s.done<s.cM.cU.len then 6 else if(Ec f b eX s.bK s.cM.cU.len).2≠0 then(Ec f b eX s.bK s.cM.cU.len).2 else if(Ec f b eX s.bK s.cM.cU.len).1=s.cM.cU.plain then 0 else 7
abbrev yk(s:Ss)(p:PP)(f:Fl)(b er:ab)(h:HH)(u:Cu):Prop:=dE b er∧iO s.bK er∧0≤s.cM.cU.len∧s.done≤1024*(s.bK.2-2)
abbrev ant(s:Ss)(p:PP)(f:Fl)(b er:ab)(h:HH)(u:Cu):sk:=Fk f b s
def aTR:bT:=cj [] gL anl (q7∘q0 yk) (q7∘q0 ant) aED aEE
theorem axu:ac2 yk aCv ant:=by
 intro s p f b er h u h_;delta ant;obtain⟨h1,h2,h3,h4⟩:=h_;have h5:=h2.2;have h6:=h1.2.2;have e:(⟨eX.begun,eX.s,0,eX.wait⟩:HH)=eX:=rfl;simp only[aCv,Mo,e,bF,bH,bW,b9,cD,Fk];have hn:eX.n=0:=rfl;refine⟨fun c=>by rw[if_pos c],fun c=>⟨⟨h1,h2,h3,by omega,lO,by rw[hn];omega⟩,fun c1=>?_,fun c1=>?_⟩⟩
 ·rw[if_neg c,if_neg (fun h=>h c1)];refine⟨fun c2=>?_,fun c2=>?_⟩
  ·rw[if_neg c2]
  ·rw[if_pos c2]
 ·rw[if_neg c,if_pos c1]
theorem axv:aTR.Ok aA 115:=ay (bI wG (bI TY bU)) func115 call115 (ks:=eU) (fun _=>bB @axu)
theorem aaD{c:Cu}{f:Fl}{b er:ab}(h:dE b er)(hc:rJ c er):Kp b er (AL c f b er).2.2.2.1 (AL c f b er).2.2.2.2:=by
 unfold AL;split
 ·exact .rfl
 ·exact(BC h hc).1
theorem Mp{c:Ck}{s:Sg}{j:Jn}{f:Fl}{b er:ab}{l:List Rc}(h1:dE b er)(h2:mY j l er)(h3:mB s)(h4:bL c.2.2.2.2.1∧bL c.2.2.2.2.2∧c.2.2.2.2.2.length≤200):Kp b er (hY c s j f b er l).2.2.2.2.1 (hY c s j f b er l).2.2.2.2.2.1∧mY (hY c s j f b er l).2.2.1 (hY c s j f b er l).2.2.2.2.2.2 (hY c s j f b er l).2.2.2.2.2.1∧mB (hY c s j f b er l).2.1:=by
 obtain⟨k1,k2⟩:=Ln h4.1 h4.2.1 h4.2.2;unfold hY;split
 ·exact⟨.rfl,h2,h3⟩
 ·exact Lq h1 h2 h3 k1 (by omega)
structure AP (V:Wv) (k:Int):Prop where
 fl:dE V.2.1 V.2.2.1
 cw:AK V.2.2.2.2 V.2.2.1
 hh:Fa V.2.2.2.1
 hn:V.2.2.2.1.n+k<2305843009213690000
theorem AP.wv{V:Wv}{k:Int}(h:AP V k):VH V k:=⟨h.fl,h.cw,h.hh.ok,by have:=h.hn;omega⟩
theorem axw{o:ab}{V:Wv}{k:Int}(h:AP V k)(ho:bL o)(hk:o.length≤k):Kp V.2.1 V.2.2.1 (nW o V).2.2.1 (nW o V).2.2.2.1∧AP (nW o V).2 (k-o.length)∧(nW o V).2.2.2.2.2.r=V.2.2.2.2.r:=by
 obtain⟨k1,k2,k3,_⟩:=aaA (f:=V.1) h.fl h.cw ho;have e:(dk V.2.2.2.1 o).n=V.2.2.2.1.n+o.length:=js o V.2.2.2.1;have:=h.hn;refine⟨k1,⟨k1.fl h.fl,k2,VC h.hh ho (by omega),?_⟩,k3⟩;show(dk V.2.2.2.1 o).n+(k-o.length)<_;omega
theorem Mq:∀ (n:Nat) {x:ab} {S:ZS} {V:Wv},Rj S→bL x→AP V (S.1.plain-S.1.made)→
  Kp V.2.1 V.2.2.1 (jJ n x S V).2.2.2.1 (jJ n x S V).2.2.2.2.1∧AP (jJ n x S V).2.2 0∧(jJ n x S V).2.2.2.2.2.2.r=V.2.2.2.2.r
 |0,x,S,V,h1,_,h3=>⟨.rfl,⟨h3.fl,h3.cw,h3.hh,by have:=h3.hn;have:=h1.made;show V.2.2.2.1.n+0<_;omega⟩,rfl⟩
 |n+1,x,S,V,h1,h2,h3=>by
  obtain⟨a1,a2,a3,a4,a5,a6,a7⟩:=Mj h1 h2;have q1:=a1.made.2.1;have q0:=h1.made;obtain⟨k1,k2,k3⟩:=axw h3 a4 (by omega);have k0:AP (nW (fG x 128 0 [] S).2.1 V).2 0:=⟨k2.fl,k2.cw,k2.hh,by have:=k2.hn;omega⟩;rw[jJ];split
  ·exact⟨k1,k0,k3⟩
  ·split
   ·exact⟨k1,k0,k3⟩
   ·split
    ·exact⟨k1,k0,k3⟩
    ·have e3:(fG x 128 0 [] S).2.2.1.plain-(fG x 128 0 [] S).2.2.1.made=S.1.plain-S.1.made-(fG x 128 0 [] S).2.1.length:=(by omega);obtain⟨i1,i2,i3⟩:=Mq n (x:=x.drop (fG x 128 0 [] S).1.toNat) (S:=(fG x 128 0 [] S).2.2) (V:=(nW (fG x 128 0 [] S).2.1 V).2) a1 (fun y hy=>h2 y (List.mem_of_mem_drop hy)) (by rw[e3];exact k2);exact⟨k1.trans i1,i2,i3.trans k3⟩
abbrev a0c:bT:=aTL.or aTO
theorem aJg:a0c.Ok aA 152:=aI8.or aJf
def qb(s:Ss):Ss:= {s with block:=s.block+1,done:=s.done+s.plain}
abbrev PkR:=Int×Fl×ab×ab×Sg×Jn×List Rc×Ss×HH×Cu
def aTS(k:Int×LG)(s:Ss)(h:HH)(u:Cu):PkR:=(if k.1≠0 then k.1 else if s.block<s.cM.bQ then 0 else Fk k.2.2.2.1 k.2.2.2.2.1 s,k.2.2.2.1,k.2.2.2.2.1,k.2.2.2.2.2.1,k.2.1,k.2.2.1,k.2.2.2.2.2.2,s,h,u)
def aJh(y:Int×Wv)(q:Int×CF)(g:Sg)(j:Jn)(l:List Rc)(s:Ss):PkR:=if y.1≠0 then(y.1,y.2.1,y.2.2.1,y.2.2.2.1,g,j,l,s,y.2.2.2.2.1,y.2.2.2.2.2) else if q.1≠0 then(q.1,q.2.2.1,q.2.2.2.1,q.2.2.2.2,g,j,l,s,y.2.2.2.2.1,q.2.1) else aTS (hY (km (qb s) y.2.2.2.2.1) g j q.2.2.1 q.2.2.2.1 q.2.2.2.2 l) (qb s) y.2.2.2.2.1 q.2.1
def lJ(y:Int×Wv):Int×CF:=AL y.2.2.2.2.2 y.2.1 y.2.2.1 y.2.2.2.1
def VL(x:ab)(f:Fl)(b er:ab)(g:Sg)(j:Jn)(l:List Rc)(s:Ss)(h:HH)(u:Cu):PkR:=if iG (s.ct++x)≠(s.list.drop (64*s.block).toNat).take 64 then(7,f,b,er,g,j,l,s,h,u) else if(Fc (nZ (oM s.plain)) x (oM s.plain)).2≠0 then((Fc (nZ (oM s.plain)) x (oM s.plain)).2,f,b,er,g,j,l,s,h,u) else aJh (jJ (nZ (oM s.plain)) x (oM s.plain) (f,b,er,h,u)).2 (lJ (jJ (nZ (oM s.plain)) x (oM s.plain) (f,b,er,h,u)).2) g j l s
structure aJi (s:Ss) (er:ab):Prop where
 ss:aem s er
 list:s.list.length=1024
 ct:s.ct.length=4
 plain:0≤s.plain∧s.plain≤8192
 block:0≤s.block∧s.block<16
 done:0≤s.done∧s.done+s.plain≤1024*(s.bK.2-2)
 len:0≤s.cM.cU.len
def qX(s:Ss):Int:=i64.wrap (s.done+s.plain)
def nX(s:Ss):Int:=i64.wrap (s.block+1)
def zS(s:Ss):Int:=i64.wrap (64*s.block)
def Mr(x:ab)(s:Ss):ab:= [List.take 4 (List.drop 0 s.ct),x].flatten
def dI(x:ab)(f:Fl)(b er:ab)(s:Ss)(h:HH)(u:Cu):Bool×Int×Fl×ab×ab×HH×Cu:=jJ (nZ (oM s.plain)) x (oM s.plain) (f,b,er,h,u)
def qY(s:Ss):Ss:= {target:=s.target,bK:=s.bK,bytes:=s.bytes,cM:=s.cM,list:=s.list,ct:=s.ct,plain:=s.plain,block:=nX s,off:=s.off,done:=qX s}
def Fm(s:Ss):ab:=List.take (1024-zS s).toNat (List.drop (zS s).toNat s.list)
def VM(x:ab)(f:Fl)(b er:ab)(s:Ss)(h:HH)(u:Cu):Int×Int×Int×Int×ab×ab:=km (qY s) (dI x f b er s h u).2.2.2.2.2.1
def iw(x:ab)(f:Fl)(b er:ab)(s:Ss)(h:HH)(u:Cu):Int×Cu×Fl×ab×ab:=AL (dI x f b er s h u).2.2.2.2.2.2 (dI x f b er s h u).2.2.1 (dI x f b er s h u).2.2.2.1 (dI x f b er s h u).2.2.2.2.1
def fT(x:ab)(f:Fl)(b er:ab)(g:Sg)(j:Jn)(l:List ah)(s:Ss)(h:HH) (u:Cu):Int×Sg×Jn×Fl×ab×ab×List ah:=hY (VM x f b er s h u) g j (dI x f b er s h u).2.2.1 (dI x f b er s h u).2.2.2.1 (dI x f b er s h u).2.2.2.2.1 l
def eD(x:ab)(f:Fl)(b er:ab)(g:Sg)(j:Jn)(l:List ah)(s:Ss)(h:HH) (u:Cu):Int×Sg×Jn×Fl×ab×ab×List ah:=hY (VM x f b er s h u) g j (iw x f b er s h u).2.2.1 (iw x f b er s h u).2.2.2.1 (iw x f b er s h u).2.2.2.2 l
def aCx(x:ab)(c:Cf)(f:Fl)(b er:ab)(g:Sg)(j:Jn)(l:List ah)(s:Ss)(p:PP) (h:HH) (u:Cu):Tr Mf:=.need ((0:Int)≤0∧(0:Int)≤4∧(4:Int)≤4) (.need (2<2305843009213693952∧(Mr x s).length< 1152921504606846976) (.need (0≤zS s∧zS s≤1024∧(1024:Int)≤1024) (.need (64≤(Fm s).length) (.need (64≤(Fm s).length) (.ite (!decide (iG (Mr x s)=List.take 64 (List.drop 0 (Fm s)))) (.ret (7,f,b,er,g,j,l,s,h,u)) (.need (Ml x s p f b er h u) (.ite ((Fc (nZ (oM s.plain)) x (oM s.plain)).2 !=0) (.ret ((Fc (nZ (oM s.plain)) x (oM s.plain)).2,f,b,er,g,j,l,s,h,u)) (.need (Mn x s p f b er h u) (.ite ((dI x f b er s h u).2.1==0) (.need (BE (dI x f b er s h u).2.2.2.2.2.2 (dI x f b er s h u).2.2.1 (dI x f b er s h u).2.2.2.1 (dI x f b er s h u).2.2.2.2.1) (.ite ((iw x f b er s h u).1 !=0) (.ret ((iw x f b er s h u).1,(iw x f b er s h u).2.2.1,(iw x f b er s h u).2.2.2.1,(iw x f b er s h u).2.2.2.2,g,j,l,s,(dI x f b er s h u).2.2.2.2.2.1,(iw x f b er s h u).2.1)) (.need (tV c (iw x f b er s h u).2.2.1 (iw x f b er s h u).2.2.2.1 (iw x f b er s h u).2.2.2.2 g j l (qY s) p (dI x f b er s h u).2.2.2.2.2.1 (iw x f b er s h u).2.1) (.ite ((eD x f b er g j l s h u).1 !=0) (.ret ((eD x f b er g j l s h u).1,(eD x f b er g j l s h u).2.2.2.1,(eD x f b er g j l s h u).2.2.2.2.1,(eD x f b er g j l s h u).2.2.2.2.2.1,(eD x f b er g j l s h u).2.1,(eD x f b er g j l s h u).2.2.1,(eD x f b er g j l s h u).2.2.2.2.2.2,{target:=s.target,bK:=s.bK,bytes:=s.bytes,cM:=s.cM,list:=s.list,ct:=s.ct,plain:=s.plain,block:=nX s,off:=s.off,done:=qX s},(dI x f b er s h u).2.2.2.2.2.1,(iw x f b er s h u).2.1)) (.ite (decide (nX s<s.cM.bQ)) (.ret (0,(eD x f b er g j l s h u).2.2.2.1,(eD x f b er g j l s h u).2.2.2.2.1,(eD x f b er g j l s h u).2.2.2.2.2.1,(eD x f b er g j l s h u).2.1,(eD x f b er g j l s h u).2.2.1,(eD x f b er g j l s h u).2.2.2.2.2.2,{target:=s.target,bK:=s.bK,bytes:=s.bytes,cM:=s.cM,list:=s.list,ct:=s.ct,plain:=s.plain,block:=nX s,off:=s.off,done:=qX s},(dI x f b er s h u).2.2.2.2.2.1,(iw x f b er s h u).2.1)) (.need (yk (qY s) p (eD x f b er g j l s h u).2.2.2.1 (eD x f b er g j l s h u).2.2.2.2.1 (eD x f b er g j l s h u).2.2.2.2.2.1 (dI x f b er s h u).2.2.2.2.2.1 (iw x f b er s h u).2.1) (.ret (Fk (eD x f b er g j l s h u).2.2.2.1 (eD x f b er g j l s h u).2.2.2.2.1 (qY s),(eD x f b er g j l s h u).2.2.2.1,(eD x f b er g j l s h u).2.2.2.2.1,(eD x f b er g j l s h u).2.2.2.2.2.1,(eD x f b er g j l s h u).2.1,(eD x f b er g j l s h u).2.2.1,(eD x f b er g j l s h u).2.2.2.2.2.2,{target:=s.target,bK:=s.bK,bytes:=s.bytes,cM:=s.cM,list:=s.list,ct:=s.ct,plain:=s.plain,block:=nX s,off:=s.off,done:=qX s},(dI x f b er s h u).2.2.2.2.2.1,(iw x f b er s h u).2.1)))))))) (.ite ((dI x f b er s h u).2.1 !=0) (.ret ((dI x f b er s h u).2.1,(dI x f b er s h u).2.2.1,(dI x f b er s h u).2.2.2.1,(dI x f b er s h u).2.2.2.2.1,g,j,l,s,(dI x f b er s h u).2.2.2.2.2.1,(dI x f b er s h u).2.2.2.2.2.2)) (.need (tV c (dI x f b er s h u).2.2.1 (dI x f b er s h u).2.2.2.1 (dI x f b er s h u).2.2.2.2.1 g j l (qY s) p (dI x f b er s h u).2.2.2.2.2.1 (dI x f b er s h u).2.2.2.2.2.2) (.ite ((fT x f b er g j l s h u).1 !=0) (.ret ((fT x f b er g j l s h u).1,(fT x f b er g j l s h u).2.2.2.1,(fT x f b er g j l s h u).2.2.2.2.1,(fT x f b er g j l s h u).2.2.2.2.2.1,(fT x f b er g j l s h u).2.1,(fT x f b er g j l s h u).2.2.1,(fT x f b er g j l s h u).2.2.2.2.2.2,{target:=s.target,bK:=s.bK,bytes:=s.bytes,cM:=s.cM,list:=s.list,ct:=s.ct,plain:=s.plain,block:=nX s,off:=s.off,done:=qX s},(dI x f b er s h u).2.2.2.2.2.1,(dI x f b er s h u).2.2.2.2.2.2)) (.ite (decide (nX s<s.cM.bQ)) (.ret (0,(fT x f b er g j l s h u).2.2.2.1,(fT x f b er g j l s h u).2.2.2.2.1,(fT x f b er g j l s h u).2.2.2.2.2.1,(fT x f b er g j l s h u).2.1,(fT x f b er g j l s h u).2.2.1,(fT x f b er g j l s h u).2.2.2.2.2.2,{target:=s.target,bK:=s.bK,bytes:=s.bytes,cM:=s.cM,list:=s.list,ct:=s.ct,plain:=s.plain,block:=nX s,off:=s.off,done:=qX s},(dI x f b er s h u).2.2.2.2.2.1,(dI x f b er s h u).2.2.2.2.2.2)) (.need (yk (qY s) p (fT x f b er g j l s h u).2.2.2.1 (fT x f b er g j l s h u).2.2.2.2.1 (fT x f b er g j l s h u).2.2.2.2.2.1 (dI x f b er s h u).2.2.2.2.2.1 (dI x f b er s h u).2.2.2.2.2.2) (.ret (Fk (fT x f b er g j l s h u).2.2.2.1 (fT x f b er g j l s h u).2.2.2.2.1 (qY s),(fT x f b er g j l s h u).2.2.2.1,(fT x f b er g j l s h u).2.2.2.2.1,(fT x f b er g j l s h u).2.2.2.2.2.1,(fT x f b er g j l s h u).2.1,(fT x f b er g j l s h u).2.2.1,(fT x f b er g j l s h u).2.2.2.2.2.2,{target:=s.target,bK:=s.bK,bytes:=s.bytes,cM:=s.cM,list:=s.list,ct:=s.ct,plain:=s.plain,block:=nX s,off:=s.off,done:=qX s},(dI x f b er s h u).2.2.2.2.2.1,(dI x f b er s h u).2.2.2.2.2.2))))))))))))))))
abbrev Ms(x:ab)(c:Cf)(f:Fl)(b er:ab)(g:Sg)(j:Jn)(l:List Rc)(s:Ss)(p:PP)(h:HH)(u:Cu):Prop:=gA c b er g j l∧aJi s er∧AP (f,b,er,h,u) s.plain∧bL x∧x.length<1099511627776
abbrev anu(x:ab)(c:Cf)(f:Fl)(b er:ab)(g:Sg)(j:Jn)(l:List Rc)(s:Ss)(p:PP)(h:HH)(u:Cu):Mf:=VL x f b er g j l s h u
def aTV:bT:=cj [none,some u8] ((bR (bO (cr 0 0)) (bD (bO (gx false false u8)) bG))) s5 (zQ∘q1 Ms) (zQ∘q1 anu) aIT aIU
theorem axx:aeR Ms aCx anu:=by
 intro x c f b er g j l s p h u h_;delta anu;obtain⟨h1,h2,h3,h4,h5⟩:=h_;have g0:=h2.ss.rg.1;have g1:=h2.ss.rg.2;have g2:=h1.fl.2.2;have g3:=h2.done;have g4:=h2.plain;have g5:=h2.block;have w1:i64.wrap (s.done+s.plain)=s.done+s.plain:=bM (by omega) (by omega);have w2:i64.wrap (64*s.block)=64*s.block:=bM (by omega) (by omega);have w3:i64.wrap (s.block+1)=s.block+1:=bM (by omega) (by omega);have e3:Mr x s=s.ct++x:=by unfold Mr;rw[List.drop_zero,List.take_of_length_le (by rw[h2.ct];omega)];simp
 have e5:qY s=qb s:=by unfold qY nX qX qb;rw[w1,w3]
 have e6:Fm s=s.list.drop (64*s.block).toNat:=by unfold Fm zS;rw[w2];exact List.take_of_length_le (by rw[List.length_drop,h2.list];omega)
 have l6:(s.list.drop (64*s.block).toNat).length=1024-(64*s.block).toNat:=by rw[List.length_drop,h2.list]
 have F1:AP (f,b,er,h,u) ((oM s.plain).1.plain-(oM s.plain).1.made):=by rw[show(oM s.plain).1.plain-(oM s.plain).1.made=s.plain from Int.sub_zero _];exact h3
 obtain⟨k1,k2,k3⟩:=Mq (nZ (oM s.plain)) (x:=x) (Fg g4) h4 F1;have kf:=aaD (f:=(jJ (nZ (oM s.plain)) x (oM s.plain) (f,b,er,h,u)).2.2.1) k2.fl k2.cw.torJ;obtain⟨Z,hZ⟩:∃Z,Z=jJ (nZ (oM s.plain)) x (oM s.plain) (f,b,er,h,u):=⟨_,rfl⟩;rw[← hZ]at k1 k2 k3 kf;have e4:dI x f b er s h u=Z:=by unfold dI;exact hZ.symm
 have e8:iw x f b er s h u=lJ Z.2:=by unfold iw;rw[e4];rfl
 have Yb:eD x f b er g j l s h u=hY (km (qb s) Z.2.2.2.2.2.1) g j (lJ Z.2).2.2.1 (lJ Z.2).2.2.2.1 (lJ Z.2).2.2.2.2 l:=by unfold eD VM;rw[e8,e5,e4]
 have e0:qX s=s.done+s.plain:=w1;have e1:nX s=s.block+1:=w3;have e2:zS s=64*s.block:=w2;have kf:Kp Z.2.2.2.1 Z.2.2.2.2.1 (lJ Z.2).2.2.2.1 (lJ Z.2).2.2.2.2:=kf;have k1:Kp b er Z.2.2.2.1 Z.2.2.2.2.1:=k1;have k4:=k1.trans kf;have hn:=h1.next k4 (k4.rg' h1.jn) h1.st;obtain⟨m1,m2,m3⟩:=B7 (s:=qb s) k2.hh;obtain⟨c1,c2,c3⟩:=Mp (c:=km (qb s) Z.2.2.2.2.2.1) (f:=(lJ Z.2).2.2.1) hn.fl hn.jn hn.st ⟨m1,m2,m3⟩;have kz:=k4.trans c1;have q1:yk (qb s) p (hY (km (qb s) Z.2.2.2.2.2.1) g j (lJ Z.2).2.2.1 (lJ Z.2).2.2.2.1 (lJ Z.2).2.2.2.2 l).2.2.2.1 (hY (km (qb s) Z.2.2.2.2.2.1) g j (lJ Z.2).2.2.1 (lJ Z.2).2.2.2.1 (lJ Z.2).2.2.2.2 l).2.2.2.2.1 (hY (km (qb s) Z.2.2.2.2.2.1) g j (lJ Z.2).2.2.1 (lJ Z.2).2.2.2.1 (lJ Z.2).2.2.2.2 l).2.2.2.2.2.1 Z.2.2.2.2.2.1 (lJ Z.2).2.1:=⟨kz.fl h1.fl,kz.rg h2.ss.rg,h2.len,g3.2⟩;have q2:tV c (lJ Z.2).2.2.1 (lJ Z.2).2.2.2.1 (lJ Z.2).2.2.2.2 g j l (qb s) p Z.2.2.2.2.2.1 (lJ Z.2).2.1:=⟨hn,h2.ss.len,k2.hh⟩;have q3:BE Z.2.2.2.2.2.2 Z.2.2.1 Z.2.2.2.1 Z.2.2.2.2.1:=⟨k2.fl,k2.cw.torJ⟩;have q4:Mn x s p f b er h u:=⟨g4,h4,h5,h3.wv⟩;have q5:Ml x s p f b er h u:=⟨g4,h4,h5⟩;have q6:((s.ct++x).length:Int)=4+x.length:=by rw[List.length_append,h2.ct];omega
 unfold VL;rw[← hZ];simp only[aCx,e3,e5,e6,e8,Yb,e4,e0,e1,e2,List.drop_zero,bF,bH,cD,b9,cd,bW];refine⟨⟨by decide,by decide,by decide⟩,⟨by decide,by omega⟩,⟨by omega,by omega,Int.le_refl _⟩,by omega,by omega,fun d=>by rw[if_pos d],fun d=>⟨q5,?_⟩⟩;rw[if_neg (fun h=>h d)];refine⟨fun d1=>?_,fun d1=>by rw[if_pos d1]⟩;rw[if_neg (fun h=>h d1)];unfold aJh;refine⟨q4,fun d2=>?_,fun d2=>⟨fun d3=>absurd d3 d2,fun _=>by rw[if_pos d2]⟩⟩;rw[if_neg (fun h=>h d2)];refine⟨q3,fun d3=>?_,fun d3=>by rw[if_pos d3]⟩;rw[if_neg (fun h=>h d3)];unfold aTS;refine⟨q2,fun d4=>⟨fun d5=>?_,fun d5=>⟨q1,?_⟩⟩,fun d4=>?_⟩
 ·rw[if_neg (fun h=>h d4),if_pos (show(qb s).block<(qb s).cM.bQ from d5)];rfl
 ·rw[if_neg (fun h=>h d4),if_neg (show ¬ (qb s).block<(qb s).cM.bQ from d5)];rfl
 ·rw[if_pos d4];rfl
theorem axy:aTV.Ok aA 111:=ay (bI G3 (bI aJg (bI avm (bI aas (bI axv bU))))) func111 call111 (ks:= [.one 6,.fr [.sym],.cu,.bS,.ck]) (fun x_=>aa9 (@axx x_.1))
abbrev ptB:cl (List LV) ((Int×ab×Unit)×Unit):=bR (bO (cr 0 0)) (bD (jf (bD (bX .i64) (bD (gx false false u8) bG))) bG)
def VN(y:Int×ab×PUnit)(s:Ss):Int×Ss:=Rs y.2.1 s
def nY(y:Int×ab×PUnit)(f:Fl)(b er:ab)(g:Sg)(j:Jn)(l:List ah)(s:Ss) (h:HH) (u:Cu):Int×Fl×ab×ab×Sg×Jn×List ah×Ss×HH×Cu:=VL y.2.1 f b er g j l s h u
def aCy(y:Int×ab×PUnit)(c:Cf)(f:Fl)(b er:ab)(g:Sg)(j:Jn)(l:List ah) (s:Ss) (p:PP) (h:HH) (u:Cu):Tr Mf:=.ite (y.1==1) .fail (.ite (y.1==2) .fail (.ite (y.1==3) .fail (.ite (y.1==4) (.need (VD y.2.1 s p f b er h u) (.ret ((VN y s).1,f,b,er,g,j,l,(VN y s).2,h,u))) (.need (Ms y.2.1 c f b er g j l s p h u) (.ret ((nY y f b er g j l s h u).1,(nY y f b er g j l s h u).2.1,(nY y f b er g j l s h u).2.2.1,(nY y f b er g j l s h u).2.2.2.1,(nY y f b er g j l s h u).2.2.2.2.1,(nY y f b er g j l s h u).2.2.2.2.2.1,(nY y f b er g j l s h u).2.2.2.2.2.2.1,(nY y f b er g j l s h u).2.2.2.2.2.2.2.1,(nY y f b er g j l s h u).2.2.2.2.2.2.2.2.1,(nY y f b er g j l s h u).2.2.2.2.2.2.2.2.2))))))
def aen(k:Int)(x:ab)(f:Fl)(b er:ab)(g:Sg)(j:Jn)(l:List Rc)(s:Ss)(h:HH)(u:Cu):PkR:=if k=4 then((Rs x s).1,f,b,er,g,j,l,(Rs x s).2,h,u)else VL x f b er g j l s h u
structure aJj (k:Int) (x:ab) (s:Ss) (f:Fl) (b er:ab) (h:HH) (u:Cu):Prop where
 kind:k=4∨k=5
 by_:bL x
 len:x.length<1099511627776
 four:k=4→4≤x.length
 aTY:0≤s.cM.cU.len∧s.cM.cU.len<1099511627776
 done:0≤s.done∧s.done<1099511627776
 Ru:k=5→aJi s er∧AP (f,b,er,h,u) s.plain
abbrev Ca(y:Int×ab×Unit)(c:Cf)(f:Fl)(b er:ab)(g:Sg)(j:Jn)(l:List Rc)(s:Ss)(p:PP)(h:HH)(u:Cu):Prop:=gA c b er g j l∧aJj y.1 y.2.1 s f b er h u
abbrev anv(y:Int×ab×Unit)(c:Cf)(f:Fl)(b er:ab)(g:Sg)(j:Jn)(l:List Rc)(s:Ss)(p:PP)(h:HH)(u:Cu):Mf:=aen y.1 y.2.1 f b er g j l s h u
def anw:bT:=cj [none,some u8] ptB s5 (zQ∘q1 Ca) (zQ∘q1 anv) aIT aIU
theorem axz:aeR Ca aCy anv:=by
 intro y c f b er g j l s p h u h_;delta anv;obtain⟨h1,h2⟩:=h_;have k:=h2.kind;have n1:¬y.1=1:=by omega
 have n2:¬y.1=2:=by omega
 have n3:¬y.1=3:=by omega
 simp only[aCy,VN,nY,aen,bF,bH,cd];refine⟨fun d=>absurd d n1,fun _=>⟨fun d=>absurd d n2,fun _=>⟨fun d=>absurd d n3,fun _=>⟨fun d=>⟨⟨h2.four d,h2.aTY.1,h2.aTY.2,h2.done.1,h2.done.2⟩,?_⟩,fun d=>?_⟩⟩⟩⟩
 ·rw[if_pos d]
 ·obtain⟨q1,q2⟩:=h2.Ru (by omega);rw[if_neg d];exact⟨⟨h1,q1,q2,h2.by_,h2.len⟩,rfl⟩
theorem Mt:anw.Ok aA 72:=ay (bI aI0 (bI axy bU)) func72 call72 (ks:= [.one 6,.fr [.sym],.cu,.bS,.ck]) (fun x_=>aa9 (@axz x_.1))
def hX(y:Int×ab×PUnit)(s:Ss):Ss:=gG s y.2.1
def VO(y:Int×ab×PUnit)(c:Cf)(s:Ss):Int×Ss:=Rp c y.2.1 s
def zT(y:Int×ab×PUnit)(c:Cf)(f:Fl)(b er:ab)(g:Sg)(s:Ss):Int×Fl×ab×ab×Ss:=uh c g y.2.1 s f b er
def pj(y:Int×ab×PUnit)(f:Fl)(b er:ab)(s:Ss):Int×Fl×ab×ab:=eC 1 y.2.1 s.bK f b er
def Fo(y:Int×ab×PUnit)(f:Fl)(b er:ab)(s:Ss):Cu:=ry (AO s) s.done (pj y f b er s).2.2.1
def s7(y:Int×ab×PUnit)(f:Fl)(b er:ab)(g:Sg)(j:Jn)(l:List ah)(s:Ss):Int×Sg×Jn×Fl×ab×ab×List ah:=hY (km (hX y s) (dk eX (m6 s.cM.cU))) g j (pj y f b er s).2.1 (pj y f b er s).2.2.1 (pj y f b er s).2.2.2 l
def aCz(y:Int×ab×PUnit)(c:Cf)(f:Fl)(b er:ab)(g:Sg)(j:Jn)(l:List ah) (s:Ss) (p:PP):Tr (Me⊕Mf):=.ite (y.1==1) (.need (L7 y.2.1 c f b er g j l s p) (.ret (.inl ((VO y c s).1,f,b,er,g,j,l,(VO y c s).2)))) (.ite (y.1==2) (.need (B6 y.2.1 c f b er g j l s p) (.ret (.inl ((zT y c f b er g s).1,(zT y c f b er g s).2.1,(zT y c f b er g s).2.2.1,(zT y c f b er g s).2.2.2.1,g,j,l,(zT y c f b er g s).2.2.2.2)))) (.ite (y.1==3) (.ite (!decide (iG y.2.1=s.cM.cU.list)) (.need (tW y.2.1 c f b er g j l s p) (.ret (.inl (7,f,b,er,g,j,l,s)))) (.ite ((pj y f b er s).1 !=0) (.need (tW y.2.1 c f b er g j l s p) (.ret (.inl ((pj y f b er s).1,(pj y f b er s).2.1,(pj y f b er s).2.2.1,(pj y f b er s).2.2.2,g,j,l,{target:=(hX y s).target,bK:=s.bK,bytes:=(hX y s).bytes,cM:=(hX y s).cM,list:=(hX y s).list,ct:=(hX y s).ct,plain:=(hX y s).plain,block:=(hX y s).block,off:=(hX y s).off,done:=(hX y s).done})))) (.need (tW y.2.1 c f b er g j l s p) (.ret (.inr ((s7 y f b er g j l s).1,(s7 y f b er g j l s).2.2.2.1,(s7 y f b er g j l s).2.2.2.2.1,(s7 y f b er g j l s).2.2.2.2.2.1,(s7 y f b er g j l s).2.1,(s7 y f b er g j l s).2.2.1,(s7 y f b er g j l s).2.2.2.2.2.2,{target:=(hX y s).target,bK:=s.bK,bytes:=(hX y s).bytes,cM:=(hX y s).cM,list:=(hX y s).list,ct:=(hX y s).ct,plain:=(hX y s).plain,block:=(hX y s).block,off:=(hX y s).off,done:=(hX y s).done},dk eX (m6 s.cM.cU),{r:=(s.bK.1+2,s.bK.2-2),pos:=(Fo y f b er s).pos,n:=(Fo y f b er s).n,word:=(Fo y f b er s).word,ready:=(Fo y f b er s).ready,err:=0})))))) (.ite (y.1==4) .fail .fail)))
abbrev PeR:=Int×Fl×ab×ab×Sg×Jn×List Rc×Ss
def Gt(k:Int)(x:ab)(c:Cf)(f:Fl)(b er:ab)(g:Sg)(j:Jn)(l:List Rc)(s:Ss):PeR:=if k=1 then((Rp c x s).1,f,b,er,g,j,l,(Rp c x s).2) else if k=2 then((uh c g x s f b er).1,(uh c g x s f b er).2.1,(uh c g x s f b er).2.2.1,(uh c g x s f b er).2.2.2.1,g,j,l,(uh c g x s f b er).2.2.2.2) else if iG x=s.cM.cU.list then((eC 1 x s.bK f b er).1,(eC 1 x s.bK f b er).2.1,(eC 1 x s.bK f b er).2.2.1,(eC 1 x s.bK f b er).2.2.2,g,j,l,gG s x) else(7,f,b,er,g,j,l,s)
def Fp(k:Int)(x:ab)(s:Ss)(f:Fl)(b er:ab):Bool:=decide (k=3∧iG x=s.cM.cU.list∧(eC 1 x s.bK f b er).1=0)
def a0d(k:Int×LG)(s:Ss)(h:HH)(u:Cu):PkR:=(k.1,k.2.2.2.1,k.2.2.2.2.1,k.2.2.2.2.2.1,k.2.1,k.2.2.1,k.2.2.2.2.2.2,s,h,u)
def anx(x:ab)(f:Fl)(b er:ab)(g:Sg)(j:Jn)(l:List Rc)(s:Ss):PkR:=a0d (hY (km (gG s x) (dk eX (m6 s.cM.cU))) g j (eC 1 x s.bK f b er).2.1 (eC 1 x s.bK f b er).2.2.1 (eC 1 x s.bK f b er).2.2.2 l) (gG s x) (dk eX (m6 s.cM.cU)) (ry (AO s) s.done (eC 1 x s.bK f b er).2.2.1)
structure aJq (k:Int) (x:ab) (s:Ss) (er:ab):Prop where
 kind:k=1∨k=2∨k=3
 by_:bL x
 ss:k≠1→aem s er
 two:k=2→x.length=216
 three:k=3→aIX s∧x.length≤1024
abbrev qZ(y:Int×ab×Unit)(c:Cf)(f:Fl)(b er:ab)(g:Sg)(j:Jn)(l:List Rc)(s:Ss)(p:PP):Prop:=gA c b er g j l∧aJq y.1 y.2.1 s er
abbrev anz(y:Int×ab×Unit)(c:Cf)(f:Fl)(b er:ab)(g:Sg)(j:Jn)(l:List Rc)(s:Ss)(p:PP):Tr Mg:=.ite (Fp y.1 y.2.1 s f b er) (.ret (.inr (anx y.2.1 f b er g j l s))) (.ret (.inl (Gt y.1 y.2.1 c f b er g j l s)))
def aCA:bT:=sR [none,some u8] ptB nV (q9∘q1 qZ) (q9∘q1 anz) aIV aIW
theorem axA(y:Int×ab×Unit)(c:Cf)(f:Fl)(b er:ab)(g:Sg)(j:Jn)(l:List Rc)(s:Ss)(p:PP)(h_:qZ y c f b er g j l s p)(z_:Mg)(fS:(anz y c f b er g j l s p).Is z_):(aCz y c f b er g j l s p).Is z_:=by
 delta anz at fS;obtain⟨h1,h2⟩:=h_;obtain⟨k,x,w⟩:=y;have fS:=bY.1 fS
 have q0:¬ (k=1∨k=2)→tW x c f b er g j l s p:=fun d=>by
  have:k=3:=by have:k=1∨k=2∨k=3:=h2.kind;omega
  exact⟨h1,h2.ss (by show k≠1;omega),(h2.three this).1,(h2.three this).2,h2.by_⟩
 have q1:k=2→B6 x c f b er g j l s p:=fun d=>⟨h1,h2.ss (by show k≠1;omega),h2.two d,h2.by_⟩;have hk:k=1∨k=2∨k=3:=h2.kind;have hg:¬ (k=3∧iG x=s.cM.cU.list∧(eC 1 x s.bK f b er).1=0)→z_= .inl (Gt k x c f b er g j l s):=fun d=>(bH.1 (fS.2 (decide_eq_false d))).symm;have hl:(k=3∧iG x=s.cM.cU.list∧(eC 1 x s.bK f b er).1=0)→z_= .inr (anx x f b er g j l s):=fun d=>(bH.1 (fS.1 (decide_eq_true d))).symm;simp only[aCz,hX,VO,zT,pj,Fo,s7,bF,bH,cd,cD,b9];refine⟨fun d=>⟨?_,?_⟩,fun d=>⟨fun d2=>⟨q1 d2,?_⟩,fun d2=>⟨fun d3=>⟨fun d4=>⟨q0 (by omega),?_⟩,fun d4=>⟨fun d5=>⟨q0 (by omega),?_⟩,fun d5=>⟨q0 (by omega),?_⟩⟩⟩,fun d3=>absurd hk (by omega)⟩⟩⟩
 ·trivial
 ·rw[hg (by omega)];unfold Gt;rw[if_pos d]
 ·rw[hg (by omega)];unfold Gt;rw[if_neg d,if_pos d2]
 ·rw[hg (fun h=>d4 h.2.1)];unfold Gt;rw[if_neg d,if_neg d2,if_neg d4]
 ·rw[hl ⟨d3,d4,d5⟩];rfl
 ·rw[hg (fun h=>d5 h.2.2)];unfold Gt;rw[if_neg d,if_neg d2,if_pos d4];rfl
theorem aaG:aCA.Ok aA 72:=kO bJ ((bI axc (bI axe (bI axk bU)))) func72 (by kernel_rfl) call72 (ks:= [.one 6,.fr [.sym],.cu,.bS,.ck]) (fun _ _=>cn.nil _) (fun _ _=>by kernel_rfl) fun x_ y_ h=>axA x_.1 y_.1 y_.2.1 y_.2.2.1 y_.2.2.2.1 y_.2.2.2.2.1 y_.2.2.2.2.2.1 y_.2.2.2.2.2.2.1 y_.2.2.2.2.2.2.2.1 y_.2.2.2.2.2.2.2.2.1 h
theorem axB{c:Cu}{f:Fl}{b er:ab}(h:dE b er)(hc:AK c er):AK (AL c f b er).2.1 (AL c f b er).2.2.2.2∧(AL c f b er).2.1.r=c.r∧(AL c f b er).2.1.pos=c.pos:=by
 obtain⟨k1,k2,k3,k4,k5,k6⟩:=BC (f:=f) h hc.torJ;unfold AL;split
 ·exact⟨hc,rfl,rfl⟩
 ·rename_i d;exact⟨⟨k2,fun _=>by rw[k4];exact hc.free (Decidable.not_not.1 fun e=>d (.inl e))⟩,k5,k3⟩
theorem aCB:∀ (n:Nat) {x:ab} {S:ZS} {V:Wv},Rj S→bL x→(jJ n x S V).2.2.2.2.2.1.n≤V.2.2.2.1.n+(S.1.plain-S.1.made)
 |0,x,S,V,h1,_=>by
  have:=h1.made;show V.2.2.2.1.n≤_;omega
 |n+1,x,S,V,h1,h2=>by
  obtain⟨a1,a2,a3,a4,a5,a6,a7⟩:=Mj h1 h2;have q1:=a1.made.2.1;have e:(dk V.2.2.2.1 (fG x 128 0 [] S).2.1).n=V.2.2.2.1.n+(fG x 128 0 [] S).2.1.length:=js _ _;rw[jJ];split
  ·show(dk V.2.2.2.1 (fG x 128 0 [] S).2.1).n≤_;omega
  ·split
   ·show(dk V.2.2.2.1 (fG x 128 0 [] S).2.1).n≤_;omega
   ·split
    ·show(dk V.2.2.2.1 (fG x 128 0 [] S).2.1).n≤_;omega
    ·have i:=aCB n (x:=x.drop (fG x 128 0 [] S).1.toNat) (S:=(fG x 128 0 [] S).2.2) (V:=(nW (fG x 128 0 [] S).2.1 V).2) a1 (fun y hy=>h2 y (List.mem_of_mem_drop hy));have i:_≤(dk V.2.2.2.1 (fG x 128 0 [] S).2.1).n+((fG x 128 0 [] S).2.2.1.plain-(fG x 128 0 [] S).2.2.1.made):=i;omega
structure a0e (c:Cf) (b er:ab) (s:Ss) (h:HH) (u:Cu) (r:PkR):Prop where
 kp:Kp b er r.2.2.1 r.2.2.2.1
 ld:gA c r.2.2.1 r.2.2.2.1 r.2.2.2.2.1 r.2.2.2.2.2.1 r.2.2.2.2.2.2.1
 cw:AK r.2.2.2.2.2.2.2.2.2 r.2.2.2.1
 hh:Fa r.2.2.2.2.2.2.2.2.1
 hn:r.2.2.2.2.2.2.2.2.1.n≤h.n+s.plain
 se:r.2.2.2.2.2.2.2.1=s∨r.2.2.2.2.2.2.2.1=qb s
 ok:r.1=0→r.2.2.2.2.2.2.2.1=qb s
theorem axC{x:ab}{c:Cf}{f:Fl}{b er:ab}{g:Sg}{j:Jn}{l:List Rc}{s:Ss}{h:HH}{u:Cu}(h1:gA c b er g j l)(h2:aJi s er)(h3:AP (f,b,er,h,u) s.plain)(h4:bL x):a0e c b er s h u (VL x f b er g j l s h u):=by
 have g4:=h2.plain;have F1:AP (f,b,er,h,u) ((oM s.plain).1.plain-(oM s.plain).1.made):=by rw[show(oM s.plain).1.plain-(oM s.plain).1.made=s.plain from Int.sub_zero _];exact h3
 obtain⟨k1,k2,k3⟩:=Mq (nZ (oM s.plain)) (x:=x) (Fg g4) h4 F1;have k5:=aCB (nZ (oM s.plain)) (x:=x) (V:=(f,b,er,h,u)) (Fg g4) h4;rw[show(oM s.plain).1.plain-(oM s.plain).1.made=s.plain from Int.sub_zero _]at k5;unfold VL;split
 ·exact⟨.rfl,h1,h3.cw,h3.hh,by show h.n≤_;omega,.inl rfl,fun e=>absurd (show(7:Int)=0 from e) (by decide)⟩
 split
 ·rename_i d;exact⟨.rfl,h1,h3.cw,h3.hh,by show h.n≤_;omega,.inl rfl,fun e=>absurd e d⟩
 generalize jJ (nZ (oM s.plain)) x (oM s.plain) (f,b,er,h,u)=Z at k1 k2 k3 k5 ⊢;have k1:Kp b er Z.2.2.2.1 Z.2.2.2.2.1:=k1;have k5:Z.2.2.2.2.2.1.n≤h.n+s.plain:=k5;have kf:Kp Z.2.2.2.1 Z.2.2.2.2.1 (lJ Z.2).2.2.2.1 (lJ Z.2).2.2.2.2:=aaD k2.fl k2.cw.torJ;have kc:AK (lJ Z.2).2.1 (lJ Z.2).2.2.2.2:=(axB k2.fl k2.cw).1;have k4:=k1.trans kf;have ld1:=h1.next k1 (k1.rg' h1.jn) h1.st;have hn:=h1.next k4 (k4.rg' h1.jn) h1.st;unfold aJh;split
 ·rename_i d;exact⟨k1,ld1,k2.cw,k2.hh,k5,.inl rfl,fun e=>absurd e d⟩
 split
 ·rename_i d;exact⟨k4,hn,kc,k2.hh,k5,.inl rfl,fun e=>absurd e d⟩
 obtain⟨m1,m2,m3⟩:=B7 (s:=qb s) k2.hh;obtain⟨c1,c2,c3⟩:=Mp (c:=km (qb s) Z.2.2.2.2.2.1) (f:=(lJ Z.2).2.2.1) hn.fl hn.jn hn.st ⟨m1,m2,m3⟩;exact⟨k4.trans c1,hn.next c1 c2 c3,⟨⟨c1.rg kc.r,kc.word,kc.by_,kc.n,kc.pos,kc.ready⟩,kc.free⟩,k2.hh,k5,.inr rfl,fun _=>rfl⟩
structure PrB (p:PP):Prop where
 bad:p.bad=false
 buf:p.buf.length=4096
 by_:bL p.buf
 bQ:0≤p.bQ∧p.bQ≤16
 block:0≤p.block∧p.block≤p.bQ
 len:0≤p.len
 part:0≤p.part∧p.part≤5
 cS:p.part≠0→p.len<p.cS∧p.cS≤4096
 one:p.part=1→p.cS=8∧p.block=0
 two:p.part=2→p.cS=216∧p.block=0∧1≤p.bQ
 three:p.part=3→p.cS=64*p.bQ∧p.block=0
 four:p.part=4→p.cS=4
 more:p.part=4∨p.part=5→p.block<p.bQ
theorem yl{p:PP}{y:Int}(h:PrB p)(hy:By y):(du p y).2.2.2.2≠0∨((du p y).2.2.2.2=0∧(du p y).2.2.2.1=false∧PrB (du p y).1∧(du p y).1.part=p.part∧(du p y).1.bQ=p.bQ∧(du p y).1.block=p.block)∨((du p y).2.2.2.2=0∧(du p y).2.2.2.1=true∧p.part≠0∧(du p y).2.1=p.part∧((du p y).2.2.1.length:Int)=p.cS∧bL (du p y).2.2.1∧∃q:PP,(du p y).1=(dS q (du p y).2.2.1).1∧(dS q (du p y).2.2.1).2=true∧q.part=p.part∧q.bQ=p.bQ∧q.block=p.block∧q.bad=false∧q.buf.length=4096∧bL q.buf):=by
 have hl:=h.len;have hb:=h.buf;by_cases c0:p.part=0
 ·left;unfold du;rw[if_pos (.inr c0)];exact(show(6:Int)≠0 by decide)
 have hw:=h.cS c0;have w1:i64.wrap (p.len+1)=p.len+1:=bM (by omega) (by omega);have c1:¬ (p.bad=true∨p.part=0):=by rw[h.bad];simp[c0]
 unfold du;rw[if_neg c1];simp only[w1];by_cases c2:p.len+1<p.cS
 ·rw[if_pos c2];refine .inr (.inl ⟨rfl,rfl,⟨h.bad,by simpa using hb,h.by_.set _ hy,h.bQ,h.block,by show 0≤p.len+1;omega,h.part,fun _=>⟨c2,hw.2⟩,h.one,h.two,h.three,h.four,h.more⟩,rfl,rfl,rfl⟩)
 rw[if_neg c2];by_cases c3:(dS {p with buf:=p.buf.set p.len.toNat y,len:=p.len+1} (List.take (p.len+1).toNat (p.buf.set p.len.toNat y))).2=true
 ·rw[if_pos c3];refine .inr (.inr ⟨rfl,rfl,c0,rfl,?_,(h.by_.set _ hy).take _,_,rfl,c3,rfl,rfl,rfl,h.bad,by simpa using hb,h.by_.set _ hy⟩);show((List.take (p.len+1).toNat (p.buf.set p.len.toNat y)).length:Int)=_;rw[List.length_take,List.length_set,hb];omega
 ·rw[if_neg c3];exact .inl (show(6:Int)≠0 by decide)
theorem zU{q:PP}(hb:q.bad=false)(hl:q.buf.length=4096)(hy:bL q.buf)(h1:0≤q.bQ∧q.bQ≤16)(h2:0≤q.block∧q.block≤q.bQ):PrB (dY q)∧((dY q).part=0∨(dY q).part=4)∧(dY q).block=q.block∧(dY q).bQ=q.bQ:=by
 unfold dY;split
 ·rename_i c;exact⟨⟨hb,hl,hy,h1,h2,by simp,by simp,by simp,by simp,by simp,by simp,by simp,fun _=>c⟩,.inr rfl,rfl,rfl⟩
 ·exact⟨⟨hb,hl,hy,h1,h2,by simp,by simp,by simp,by simp,by simp,by simp,by simp,by simp⟩,.inl rfl,rfl,rfl⟩
theorem Rv{p q:PP}{x:ab}(h:PrB p)(hx:bL x)(g:(dS q x).2=true)(g1:q.part=p.part)(g2:q.bQ=p.bQ)(g3:q.block=p.block)(g4:q.bad=false)(g5:q.buf.length=4096)(g6:bL q.buf)(g7:p.part≠0):PrB (dS q x).1∧(p.part=1→(dS q x).1.part=2∧(dS q x).1.block=0)∧(p.part=2→(dS q x).1.part=3∧(dS q x).1.block=0)∧(p.part=3→((dS q x).1.part=0∨(dS q x).1.part=4)∧(dS q x).1.block=0)∧(p.part=4→(dS q x).1.part=5∧(dS q x).1.block=p.block∧1≤Go.Proofs.YtliehnnljilacaaGreat.two x 2∧Go.Proofs.YtliehnnljilacaaGreat.two x 2≤8192)∧(p.part=5→((dS q x).1.part=0∨(dS q x).1.part=4)∧(dS q x).1.block=p.block+1):=by
 have hp:=h.part;have hb:=h.block;have hB:=h.bQ;have h1:=h.one;have h2:=h.two;have h3:=h.three;have h5:=h.more;unfold dS at g ⊢;by_cases c1:q.part=1
 ·rw[if_pos c1]at g ⊢;have hr:=head_range g;exact⟨⟨g4,g5,g6,⟨by show 0≤(cJ x).1.2;omega,hr.2⟩,⟨by show 0≤q.block;omega,by show q.block≤(cJ x).1.2;have:=(h1 (by omega)).2;omega⟩,by simp,by simp,by simp,by simp,fun _=>⟨rfl,by show q.block=0;have:=(h1 (by omega)).2;omega,hr.1⟩,by simp,by simp,by simp⟩,fun _=>⟨rfl,by show q.block=0;have:=(h1 (by omega)).2;omega⟩,fun e=>by omega,fun e=>by omega,fun e=>by omega,fun e=>by omega⟩
 rw[if_neg c1]at g ⊢;by_cases c2:q.part=2
 ·rw[if_pos c2]at g ⊢;have hw:i64.wrap (64*q.bQ)=64*q.bQ:=bM (by omega) (by omega);rw[hw];have e0:q.block=0:=by have:=(h2 (by omega)).2.1;omega
  have c0:=(h2 (by omega)).2.2;exact⟨⟨g4,g5,g6,by show 0≤q.bQ∧q.bQ≤16;omega,by show 0≤q.block∧q.block≤q.bQ;omega,by simp,by simp,fun _=>⟨by show(0:Int)<64*q.bQ;omega,by show 64*q.bQ≤4096;omega⟩,by simp,by simp,fun _=>⟨rfl,e0⟩,by simp,by simp⟩,fun e=>by omega,fun _=>⟨rfl,e0⟩,fun e=>by omega,fun e=>by omega,fun e=>by omega⟩
 rw[if_neg c2]at g ⊢;by_cases c4:q.part=4
 ·rw[if_pos c4]at g ⊢;by_cases s:lI x=true
  ·rw[if_pos s];have s':=s;unfold lI at s';have s':=of_decide_eq_true s';have:=h5 (.inl (by omega));exact⟨⟨g4,g5,g6,by show 0≤q.bQ∧q.bQ≤16;omega,by show 0≤q.block∧q.block≤q.bQ;omega,by simp,by simp,fun _=>⟨by show(0:Int)<Go.Proofs.YtliehnnljilacaaGreat.two x 0;omega,s'.2.1⟩,by simp,by simp,by simp,by simp,fun _=>by show q.block<q.bQ;omega⟩,fun e=>by omega,fun e=>by omega,fun e=>by omega,fun _=>⟨rfl,g3,s'.2.2.1,s'.2.2.2⟩,fun e=>by omega⟩
  ·exact absurd g s
 rw[if_neg c4]at g ⊢;by_cases c5:q.part=5
 ·rw[if_pos c5]at g ⊢;have:=h5 (.inr (by omega));have hw:i64.wrap (q.block+1)=q.block+1:=bM (by omega) (by omega);rw[hw];obtain⟨k1,k2,k3,k4⟩:=zU (q:= {q with block:=q.block+1}) g4 g5 g6 (by show 0≤q.bQ∧q.bQ≤16;omega) (by show 0≤q.block+1∧q.block+1≤q.bQ;omega);exact⟨k1,fun e=>by omega,fun e=>by omega,fun e=>by omega,fun e=>by omega,fun _=>⟨k2,by have k3:_=q.block+1:=k3;rw[k3,g3]⟩⟩
 rw[if_neg c5]at g ⊢;obtain⟨k1,k2,k3,k4⟩:=zU (q:=q) g4 g5 g6 (by omega) (by omega);exact⟨k1,fun e=>by omega,fun e=>by omega,fun e=>⟨k2,by rw[k3];have:=(h3 e).2;omega⟩,fun e=>by omega,fun e=>by omega⟩
theorem axD:PrB og:=⟨rfl,by decide,bL.rep _ ⟨by decide,by decide⟩,by decide,by decide,by decide,by decide,by decide,by decide,by decide,by decide,by decide,by decide⟩
abbrev LtS:=Fl×ab×ab×Sg×Jn×List Rc×Ss×PP×HH×Cu
def gk(s:Ss):Ss:= {s with off:=i64.wrap (s.off+1)}
def ltP(r:PkR)(p:PP):Int×LtS:=(r.1,r.2.1,r.2.2.1,r.2.2.2.1,r.2.2.2.2.1,r.2.2.2.2.2.1,r.2.2.2.2.2.2.1,r.2.2.2.2.2.2.2.1,p,r.2.2.2.2.2.2.2.2.1,r.2.2.2.2.2.2.2.2.2)
def Of(y:Int)(f:Fl)(b er:ab)(g:Sg)(j:Jn)(l:List Rc)(s:Ss)(p:PP)(h:HH)(u:Cu):Int×LtS:=if(du p y).2.2.2.2=0∧(du p y).2.2.2.1=true then ltP (aen (du p y).2.1 (du p y).2.2.1 f b er g j l (gk s) h u) (du p y).1 else((du p y).2.2.2.2,f,b,er,g,j,l,gk s,(du p y).1,h,u)
def vE:ab→LtS→Int×LtS
 | [],V=>(0,V)
 |y::ys,V=>
  if(Of y V.1 V.2.1 V.2.2.1 V.2.2.2.1 V.2.2.2.2.1 V.2.2.2.2.2.1 V.2.2.2.2.2.2.1 V.2.2.2.2.2.2.2.1 V.2.2.2.2.2.2.2.2.1 V.2.2.2.2.2.2.2.2.2).1≠0 then Of y V.1 V.2.1 V.2.2.1 V.2.2.2.1 V.2.2.2.2.1 V.2.2.2.2.2.1 V.2.2.2.2.2.2.1 V.2.2.2.2.2.2.2.1 V.2.2.2.2.2.2.2.2.1 V.2.2.2.2.2.2.2.2.2
  else vE ys (Of y V.1 V.2.1 V.2.2.1 V.2.2.2.1 V.2.2.2.2.1 V.2.2.2.2.2.1 V.2.2.2.2.2.2.1 V.2.2.2.2.2.2.2.1 V.2.2.2.2.2.2.2.2.1 V.2.2.2.2.2.2.2.2.2).2
structure VP (s:Ss) (er:ab):Prop where
 ss:aem s er
 ver:uC s.cM.cU
 l1:bL s.cM.cU.list
 l2:bL s.cM.cU.plain
 list:s.list.length=1024∧bL s.list
 ct:s.ct.length=4
 len:0≤s.cM.cU.len∧s.cM.cU.len≤1024*(s.bK.2-2)
 done:0≤s.done∧s.done≤s.cM.cU.len
structure qc (c:Cf) (f:Fl) (b er:ab) (g:Sg) (j:Jn) (l:List Rc) (s:Ss) (p:PP) (h:HH) (u:Cu):Prop where
 ld:gA c b er g j l
 la:VP s er
 cK:s.block=p.block
 cw:AK u er
 hh:Fa h
 hn:h.n≤1152921504606848000+s.done
 pr:PrB p
 part:p.part=0∨p.part=4∨p.part=5
 Ru:p.part=5→0≤s.plain∧s.plain≤8192∧s.done+s.plain≤s.cM.cU.len
theorem qc.lim{c:Cf}{f:Fl}{b er:ab}{g:Sg}{j:Jn}{l:List Rc}{s:Ss}{p:PP}{h:HH}{u:Cu}(H:qc c f b er g j l s p h u):s.cM.cU.len<1000000:=by
 have a:=H.la.ss.rg;have b:=H.ld.fl.2.2;have d:=H.la.len;omega
theorem qc.pt{c:Cf}{f:Fl}{b er:ab}{g:Sg}{j:Jn}{l:List Rc}{s:Ss}{p:PP}{h:HH}{u:Cu}(H:qc c f b er g j l s p h u){x:ab}(hx:bL x)(hl:(x.length:Int)=p.cS)(h0:p.part≠0):aJj p.part x (gk s) f b er h u:=by
 have hm:=H.lim;have q1:=H.part;have q2:=(H.pr.cS h0).2;have q3:=H.la.len;have q4:=H.la.done;refine⟨by omega,hx,by omega,fun e=>by have:=H.pr.four e;omega,⟨q3.1,by show s.cM.cU.len<_;omega⟩,⟨q4.1,by show s.done<_;omega⟩,fun e=>?_⟩;obtain⟨k1,k2,k3⟩:=H.Ru e;have k4:=H.pr.more (.inr e);have k5:=H.pr.bQ;have k6:=H.pr.block;have k7:=H.cK;exact⟨⟨⟨H.la.ss.rg,H.la.ss.three,H.la.ss.len,H.la.ss.by_⟩,H.la.list.1,H.la.ct,⟨k1,k2⟩,by show 0≤s.block∧s.block<16;omega,by show 0≤s.done∧s.done+s.plain≤1024*(s.bK.2-2);omega,q3.1⟩,⟨H.ld.fl,H.cw,H.hh,by show h.n+s.plain<_;have:=H.hn;omega⟩⟩
abbrev ltV(c:Cf)(V:LtS):Prop:=qc c V.1 V.2.1 V.2.2.1 V.2.2.2.1 V.2.2.2.2.1 V.2.2.2.2.2.1 V.2.2.2.2.2.2.1 V.2.2.2.2.2.2.2.1 V.2.2.2.2.2.2.2.2.1 V.2.2.2.2.2.2.2.2.2
abbrev ltD(c:Cf)(V:LtS):Prop:=gA c V.2.1 V.2.2.1 V.2.2.2.1 V.2.2.2.2.1 V.2.2.2.2.2.1
theorem VP.off{s:Ss}{er:ab}(H:VP s er):VP (gk s) er:=⟨⟨H.ss.rg,H.ss.three,H.ss.len,H.ss.by_⟩,H.ver,H.l1,H.l2,H.list,H.ct,H.len,H.done⟩
theorem anA{c:Cf}{f:Fl}{b er:ab}{g:Sg}{j:Jn}{l:List Rc}{s:Ss}{p:PP}{h:HH}{u:Cu}(H:qc c f b er g j l s p h u){y:Int}(hy:By y):ltD c (Of y f b er g j l s p h u).2∧((Of y f b er g j l s p h u).1=0→ltV c (Of y f b er g j l s p h u).2):=by
 have hm:=H.lim;have q3:=H.la.len;have q4:=H.la.done;obtain a|⟨a1,a2,a3,a4,a5,a6⟩|⟨a1,a2,a3,a4,a5,a6,q,b1,b2,b3,b4,b5,b6,b7,b8⟩:=yl H.pr hy
 ·unfold Of;rw[if_neg (fun e=>a e.1)];exact⟨H.ld,fun e=>absurd e a⟩
 ·unfold Of;rw[if_neg (fun e=>by rw[a2]at e;exact absurd e.2 (by decide))];exact⟨H.ld,fun _=>⟨H.ld,H.la.off,H.cK.trans a6.symm,H.cw,H.hh,H.hn,a3,by show(du p y).1.part=0∨(du p y).1.part=4∨(du p y).1.part=5;rw[a4];exact H.part,fun e=>H.Ru (a4▸e)⟩⟩
 ·have n:=Rv H.pr a6 b2 b3 b4 b5 b6 b7 b8 a3;rw[← b1]at n;obtain⟨n0,_,_,_,n4,n5⟩:=n;have pt:=H.pt a6 a5 a3;unfold Of;rw[if_pos ⟨a1,a2⟩,a4];generalize (du p y).2.2.1=x at a5 a6 pt n4;generalize (du p y).1=P at n0 n4 n5;have hp:=H.part;unfold aen;by_cases c4:p.part=4
  ·rw[if_pos c4];obtain⟨n1,n2,n3⟩:=n4 c4;have hx4:=H.pr.four c4;show gA c b er g j l∧((Rs x (gk s)).1=0→qc c f b er g j l (Rs x (gk s)).2 P h u);refine⟨H.ld,fun e=>?_⟩;unfold Rs at e ⊢;by_cases c5:(gk s).cM.cU.len-(gk s).done<two x 2
   ·rw[if_pos c5]at e;exact absurd (show(10:Int)=0 from e) (by decide)
   ·rw[if_neg c5]at e ⊢;have c5:¬s.cM.cU.len-s.done<two x 2:=c5;exact⟨H.ld,⟨⟨H.la.ss.rg,H.la.ss.three,H.la.ss.len,H.la.ss.by_⟩,H.la.ver,H.la.l1,H.la.l2,H.la.list,jI (k:=0) (n:=4) H.la.ct (by omega),H.la.len,H.la.done⟩,H.cK.trans n2.symm,H.cw,H.hh,H.hn,n0,.inr (.inr n1),fun _=>by show 0≤two x 2∧two x 2≤8192∧s.done+two x 2≤s.cM.cU.len;omega⟩
  ·rw[if_neg c4];have c5:p.part=5:=(by omega);obtain⟨m1,m2⟩:=n5 c5;obtain⟨k1,k2⟩:=pt.Ru c5;obtain⟨f1,f2,f3⟩:=H.Ru c5;have kp:=axC H.ld k1 k2 (x:=x) a6 (g:=g) (j:=j) (l:=l);generalize VL x f b er g j l (gk s) h u=r at kp;refine⟨kp.ld,fun e=>?_⟩;have e2:=kp.ok e;have e3:=kp.hn;show qc c r.2.1 r.2.2.1 r.2.2.2.1 r.2.2.2.2.1 r.2.2.2.2.2.1 r.2.2.2.2.2.2.1 r.2.2.2.2.2.2.2.1 P r.2.2.2.2.2.2.2.2.1 r.2.2.2.2.2.2.2.2.2;rw[e2];refine⟨kp.ld,⟨⟨kp.kp.rg H.la.ss.rg,H.la.ss.three,H.la.ss.len,H.la.ss.by_⟩,H.la.ver,H.la.l1,H.la.l2,H.la.list,H.la.ct,H.la.len,by show 0≤s.done+s.plain∧s.done+s.plain≤s.cM.cU.len;omega⟩,?_,kp.cw,kp.hh,?_,n0,by omega,fun e=>by omega⟩
   ·show s.block+1=P.block;rw[m2,H.cK]
   ·have e3:r.2.2.2.2.2.2.2.2.1.n≤h.n+s.plain:=e3;have:=H.hn;show r.2.2.2.2.2.2.2.2.1.n≤1152921504606848000+(s.done+s.plain);omega
theorem VQ{c:Cf}:∀ {x:ab} {V:LtS},ltV c V→bL x→ltD c (vE x V).2∧((vE x V).1=0→ltV c (vE x V).2)
 | [],V,H,_=>⟨H.ld,fun _=>H⟩
 |y::ys,V,H,hx=>by
  obtain⟨k1,k2⟩:=anA H (hx y (by simp));rw[vE];split
  ·rename_i d;exact⟨k1,fun e=>absurd e d⟩
  ·rename_i d;exact VQ (k2 (Decidable.not_not.1 d)) fun z hz=>hx z (by simp[hz])
abbrev VR:=Fl×ab×ab×Sg×Jn×List Rc×Ss×PP
def erP(r:PeR)(p:PP):Int×VR:=(r.1,r.2.1,r.2.2.1,r.2.2.2.1,r.2.2.2.2.1,r.2.2.2.2.2.1,r.2.2.2.2.2.2.1,r.2.2.2.2.2.2.2,p)
def rz(y:Int)(f:Fl)(b er:ab)(s:Ss)(p:PP):Bool:=decide ((du p y).2.2.2.2=0∧(du p y).2.2.2.1=true)&&Fp (du p y).2.1 (du p y).2.2.1 (gk s) f b er
def VS(y:Int)(c:Cf)(f:Fl)(b er:ab)(g:Sg)(j:Jn)(l:List Rc)(s:Ss)(p:PP):Int×VR:=if(du p y).2.2.2.2=0∧(du p y).2.2.2.1=true then erP (Gt (du p y).2.1 (du p y).2.2.1 c f b er g j l (gk s)) (du p y).1 else((du p y).2.2.2.2,f,b,er,g,j,l,gk s,(du p y).1)
def Fq(y:Int)(f:Fl)(b er:ab)(g:Sg)(j:Jn)(l:List Rc)(s:Ss)(p:PP):Int×LtS:=ltP (anx (du p y).2.2.1 f b er g j l (gk s)) (du p y).1
structure mH (c:Cf) (f:Fl) (b er:ab) (g:Sg) (j:Jn) (l:List Rc) (s:Ss) (p:PP):Prop where
 ld:gA c b er g j l
 ss:aem s er
 sl:s.bK.2=c.2
 list:s.list.length=1024∧bL s.list
 ct:s.ct.length=4
 done:s.done=0
 block:s.block=0
 pr:PrB p
 part:p.part=1∨p.part=2∨p.part=3
 three:p.part=3→VP s er
theorem mH.pb{c:Cf}{f:Fl}{b er:ab}{g:Sg}{j:Jn}{l:List Rc}{s:Ss}{p:PP}(H:mH c f b er g j l s p):p.block=0:=by
 have h1:=H.pr.one;have h2:=H.pr.two;have h3:=H.pr.three;have h4:=H.part;by_cases c1:p.part=1
 ·exact(h1 c1).2
 by_cases c2:p.part=2
 ·exact(h2 c2).2.1
 exact(h3 (by omega)).2
theorem VP.lb{s:Ss}{er:ab}(H:VP s er):aIX s:=⟨H.ver,H.l1,H.l2,H.list,by have:=H.done;have:=H.len;omega⟩
theorem mH.pt{c:Cf}{f:Fl}{b er:ab}{g:Sg}{j:Jn}{l:List Rc}{s:Ss}{p:PP}(H:mH c f b er g j l s p){x:ab}(hx:bL x)(hl:(x.length:Int)=p.cS):aJq p.part x (gk s) er:=by
 have hp:=H.part;have h2:=H.pr.two;have h3:=H.pr.three;have h4:=H.pr.cS (by omega);have h5:=H.pr.bQ;refine⟨hp,hx,fun _=>⟨H.ss.rg,H.ss.three,H.ss.len,H.ss.by_⟩,fun e=>by have:=(h2 e).1;omega,fun e=>⟨(H.three e).off.lb,by have:=(h3 e).1;omega⟩⟩
abbrev erV(c:Cf)(V:VR):Prop:=mH c V.1 V.2.1 V.2.2.1 V.2.2.2.1 V.2.2.2.2.1 V.2.2.2.2.2.1 V.2.2.2.2.2.2.1 V.2.2.2.2.2.2.2
abbrev erD(c:Cf)(V:VR):Prop:=gA c V.2.1 V.2.2.1 V.2.2.2.1 V.2.2.2.2.1 V.2.2.2.2.2.1
theorem anB{ks:List ab}{fl rm:Int}{b:ab}(hb:bL b):bL (eI ks fl rm b).1.cU.list∧bL (eI ks fl rm b).1.cU.plain:=by
 have z:bL (List.replicate 64 0):=bL.rep _ ⟨by decide,by decide⟩;have h0:bL nH.cU.list∧bL nH.cU.plain:=⟨z,z⟩
 have h1:∀l,bL l→bL (mV l).1.list∧bL (mV l).1.plain:=fun l hl=>by
  unfold mV;split
  ·exact⟨(hl.drop _).take _,(hl.drop _).take _⟩
  ·exact⟨z,z⟩
 have h2:bL (tD ks b).1.cU.list∧bL (tD ks b).1.cU.plain:=by
  rw[← aip];unfold gh
  repeat' split
  all_goals first|exact h0|exact h1 _ ((hb.drop _).take _)
 unfold eI
 repeat' split
 all_goals first|exact h0|exact h2
theorem anD{r:Int×Int}{p:Int}{b er:ab}(h:dE b er)(hb:bL b)(hr:iO r er)(hp:0≤p∧p≤1024*r.2):AK (ry r p b) er:=by
 obtain⟨f1,f2,f3⟩:=h;obtain⟨r1,r2,r3⟩:=hr;have hl:(cO b (1024*r.1+(p-p%8)) (p%8)).length=p%8:=gg ⟨by omega,by omega,by omega⟩;refine⟨⟨⟨r1,r2,r3⟩,?_,?_,?_,?_,?_⟩,fun _=>?_⟩
 ·show(cO b (1024*r.1+(p-p%8)) (p%8)++List.replicate (8-(p%8).toNat) 0).length=8;rw[List.length_append,List.length_replicate];omega
 ·exact((hb.drop _).take _).append (bL.rep _ ⟨by decide,by decide⟩)
 ·show 0≤p%8∧p%8≤8;omega
 ·show p%8≤p∧p≤1024*r.2;omega
 ·show 0≤(p+1023)/1024∧(p+1023)/1024≤r.2;omega
 ·show p%8<8;omega
theorem anE{c:Cf}{f:Fl}{b er:ab}{g:Sg}{j:Jn}{l:List Rc}{s:Ss}{p:PP}(H:mH c f b er g j l s p){y:Int}(hy:By y):(rz y f b er s p=false→erD c (VS y c f b er g j l s p).2∧((VS y c f b er g j l s p).1=0→erV c (VS y c f b er g j l s p).2))∧(rz y f b er s p=true→ltD c (Fq y f b er g j l s p).2∧((Fq y f b er g j l s p).1=0→ltV c (Fq y f b er g j l s p).2)):=by
 have hp:=H.part;have hb0:=H.pb;obtain a|⟨a1,a2,a3,a4,a5,a6⟩|⟨a1,a2,a3,a4,a5,a6,q,b1,b2,b3,b4,b5,b6,b7,b8⟩:=yl H.pr hy
 ·unfold VS rz;rw[if_neg (fun e=>a e.1),decide_eq_false (fun e=>a e.1)];exact⟨fun _=>⟨H.ld,fun e=>absurd e a⟩,fun e=>by cases e⟩
 ·have d:¬ ((du p y).2.2.2.2=0∧(du p y).2.2.2.1=true):=fun e=>by rw[a2]at e;exact absurd e.2 (by decide)
  unfold VS rz;rw[if_neg d,decide_eq_false d];exact⟨fun _=>⟨H.ld,fun _=>⟨H.ld,⟨H.ss.rg,H.ss.three,H.ss.len,H.ss.by_⟩,H.sl,H.list,H.ct,H.done,H.block,a3,by show(du p y).1.part=1∨(du p y).1.part=2∨(du p y).1.part=3;rw[a4];exact H.part,fun e=>(H.three (a4▸e)).off⟩⟩,fun e=>by cases e⟩
 ·have n:=Rv H.pr a6 b2 b3 b4 b5 b6 b7 b8 a3;rw[← b1]at n;obtain⟨n0,n1,n2,n3,_,_⟩:=n;have pt:=H.pt a6 a5;have hw1:=H.pr.one;have hw2:=H.pr.two;have hw3:=H.pr.three;have hbl:=H.pr.bQ;unfold VS rz Fq;rw[if_pos ⟨a1,a2⟩,decide_eq_true ⟨a1,a2⟩,a4,Bool.true_and];generalize (du p y).2.2.1=x at a5 a6 pt;generalize (du p y).1=P at n0 n1 n2 n3;unfold Fp;refine⟨fun e=>?_,fun e=>?_⟩
  ·have e:=of_decide_eq_false e;unfold Gt;by_cases c1:p.part=1
   ·rw[if_pos c1];obtain⟨m1,m2⟩:=n1 c1;have hx:=(hw1 c1).1;show gA c b er g j l∧((Rp c x (gk s)).1=0→mH c f b er g j l (Rp c x (gk s)).2 P);refine⟨H.ld,fun e=>?_⟩;unfold Rp at e ⊢;split
    ·rename_i c5;rw[if_pos c5]at e;exact absurd (show(15:Int)=0 from e) (by decide)
    ·exact⟨H.ld,⟨H.ss.rg,H.ss.three,jI (k:=0) (n:=224) H.ss.len (by omega),m5 (k:=0) (n:=224) H.ss.by_ a6⟩,H.sl,H.list,H.ct,H.done,H.block,n0,by omega,fun e=>by omega⟩
   rw[if_neg c1];by_cases c2:p.part=2
   ·rw[if_pos c2];obtain⟨m1,m2⟩:=n2 c2;have hx:=(hw2 c2).1;show gA c (uh c g x (gk s) f b er).2.2.1 (uh c g x (gk s) f b er).2.2.2.1 g j l∧((uh c g x (gk s) f b er).1=0→mH c (uh c g x (gk s) f b er).2.1 (uh c g x (gk s) f b er).2.2.1 (uh c g x (gk s) f b er).2.2.2.1 g j l (uh c g x (gk s) f b er).2.2.2.2 P);unfold uh;have l0:(cP s.bytes 8 216 x).length=224:=jI (k:=8) (n:=224) H.ss.len (by omega);have b0:bL (cP s.bytes 8 216 x):=m5 (k:=8) (n:=216) H.ss.by_ a6;show gA c (Gs (eI c.1 g.1.2.2.1 (cR c) (cP s.bytes 8 216 x)) (cP s.bytes 8 216 x) (gk s) f b er).2.2.1 (Gs (eI c.1 g.1.2.2.1 (cR c) (cP s.bytes 8 216 x)) (cP s.bytes 8 216 x) (gk s) f b er).2.2.2.1 g j l∧((Gs (eI c.1 g.1.2.2.1 (cR c) (cP s.bytes 8 216 x)) (cP s.bytes 8 216 x) (gk s) f b er).1=0→mH c (Gs (eI c.1 g.1.2.2.1 (cR c) (cP s.bytes 8 216 x)) (cP s.bytes 8 216 x) (gk s) f b er).2.1 (Gs (eI c.1 g.1.2.2.1 (cR c) (cP s.bytes 8 216 x)) (cP s.bytes 8 216 x) (gk s) f b er).2.2.1 (Gs (eI c.1 g.1.2.2.1 (cR c) (cP s.bytes 8 216 x)) (cP s.bytes 8 216 x) (gk s) f b er).2.2.2.1 g j l (Gs (eI c.1 g.1.2.2.1 (cR c) (cP s.bytes 8 216 x)) (cP s.bytes 8 216 x) (gk s) f b er).2.2.2.2 P);have hf:=Ba (ks:=c.1) (fl:=g.1.2.2.1) (rm:=cR c) (b:=cP s.bytes 8 216 x);have hB:=anB (ks:=c.1) (fl:=g.1.2.2.1) (rm:=cR c) b0;generalize eI c.1 g.1.2.2.1 (cR c) (cP s.bytes 8 216 x)=Q at hf hB;generalize cP s.bytes 8 216 x=X at l0 b0 hf;have k1:=B8 (i:=0) (r:=s.bK) (f:=f) H.ld.fl b0;unfold Gs;split
    ·rename_i d;exact⟨H.ld,fun e=>absurd e d⟩
    ·rename_i d;have d:Q.2=0:=Decidable.not_not.1 d;obtain⟨e1,e2,e3,e4,e5,e6,e7⟩:=hf d;have hR:cR c=1024*(c.2-2):=(by unfold cR;rw[if_pos H.ld.fit.1]);have hn:=H.ld.next k1 (k1.rg' H.ld.jn) H.ld.st;have sl:=H.sl;have q1:Q.1=(tD c.1 X).1:=(by rw[e1]);refine⟨hn,fun _=>⟨hn,⟨k1.rg H.ss.rg,H.ss.three,l0,b0⟩,H.sl,H.list,H.ct,H.done,H.block,n0,by omega,fun _=>⟨⟨k1.rg H.ss.rg,H.ss.three,l0,b0⟩,by show uC Q.1.cU;rw[q1];exact e7,hB.1,hB.2,H.list,H.ct,?_,?_⟩⟩⟩
     ·show 0≤Q.1.cU.len∧Q.1.cU.len≤1024*(s.bK.2-2);rw[q1];omega
     ·show 0≤s.done∧s.done≤Q.1.cU.len;rw[q1,H.done];omega
   rw[if_neg c2];have c3:p.part=3:=(by omega);obtain⟨m1,m2⟩:=n3 c3;have k1:=B8 (i:=1) (r:=s.bK) (f:=f) H.ld.fl a6;split
   ·rename_i d;exact⟨H.ld.next k1 (k1.rg' H.ld.jn) H.ld.st,fun e1=>absurd ⟨c3,d,e1⟩ e⟩
   ·exact⟨H.ld,fun e1=>absurd (show(7:Int)=0 from e1) (by decide)⟩
  ·obtain⟨c3,e1,e2⟩:=of_decide_eq_true e;obtain⟨m1,m2⟩:=n3 c3;have la:=H.three c3;have hx:=(hw3 c3).1;have k1:=B8 (i:=1) (r:=s.bK) (f:=f) H.ld.fl a6;have hn:=H.ld.next k1 (k1.rg' H.ld.jn) H.ld.st;have hm:=PA s.cM.cU.ver s.cM.cU.lP s.cM.cU.len s.cM.cU.list s.cM.cU.plain;have hh:Fa (dk eX (m6 s.cM.cU)):=VC anj (aat la.l1 la.l2) (by show(0:Int)+((m6 s.cM.cU).length:Int)<_;unfold m6;omega);obtain⟨d1,d2,d3⟩:=B7 (s:=gG (gk s) x) hh;obtain⟨j1,j2,j3⟩:=Mp (c:=km (gG (gk s) x) (dk eX (m6 s.cM.cU))) (f:=(eC 1 x s.bK f b er).2.1) hn.fl hn.jn hn.st ⟨d1,d2,d3⟩;have hn2:=hn.next j1 j2 j3;have l0:(gG (gk s) x).list.length=1024:=jI (k:=0) (n:=1024) H.list.1 (by omega);have kz:=k1.trans j1;refine⟨hn2,fun _=>⟨hn2,⟨⟨kz.rg H.ss.rg,H.ss.three,H.ss.len,H.ss.by_⟩,la.ver,la.l1,la.l2,⟨l0,m5 (k:=0) (n:=1024) H.list.2 a6⟩,H.ct,la.len,la.done⟩,?_,?_,hh,?_,n0,by show P.part=0∨P.part=4∨P.part=5;omega,fun e=>by have e:P.part=5:=e;omega⟩⟩
   ·show s.block=P.block;rw[H.block,m2]
   ·have rg:=H.ss.rg;have three:=H.ss.three;have hl:=la.len;have hd:=la.done;have q:=anD (r:=AO s) (p:=s.done) (b:=(eC 1 x s.bK f b er).2.2.1) hn.fl hn.by_ (k1.rg (r:=AO s) ⟨by show 0≤s.bK.1+2;omega,by show 1≤s.bK.2-2;omega,by show s.bK.1+2+(s.bK.2-2)≤_;omega⟩) (by show 0≤s.done∧s.done≤1024*(s.bK.2-2);omega);exact⟨⟨j1.rg q.r,q.word,q.by_,q.n,q.pos,q.ready⟩,q.free⟩
   ·show(dk eX (m6 s.cM.cU)).n≤1152921504606848000+s.done;rw[js,H.done];show(0:Int)+((m6 s.cM.cU).length:Int)≤_;unfold m6;omega
abbrev fdA:cl (List LV) (ab×Unit):=bR (bO (cr 0 0)) (bD (bO (gx false false u8)) bG)
abbrev aJs(x:IK):LV:=LV.one (VV.sc (SV.bool (SB.lit true)))
def aJu(c:Cf)(f:Fl)(b er:ab)(g:Sg)(j:Jn)(l:List ah)(s:Ss)(p:PP)(h:HH) (u:Cu):Tr IK:=.ret ()
abbrev qd(c:Cf)(f:Fl)(b er:ab)(g:Sg)(j:Jn)(l:List Rc)(s:Ss)(p:PP)(h:HH)(u:Cu):Prop:=True
abbrev VT(c:Cf)(f:Fl)(b er:ab)(g:Sg)(j:Jn)(l:List Rc)(s:Ss)(p:PP)(h:HH)(u:Cu):IK:=()
def VU:bT:=cj [] gL s5 (zQ∘q0 qd) (zQ∘q0 VT) aJs aEQ
theorem anF:aeQ qd aJu VT:=by
 intro c f b er g j l s p h u h_;delta VT;exact bH.2 rfl
theorem qe:VU.Ok aA 68:=ay bU func68 call68 (ks:= [.bS,.ck]) (fun _=>aa9 @anF)
def aJx(c:Cf)(f:Fl)(b er:ab)(g:Sg)(j:Jn)(l:List ah)(s:Ss)(p:PP):Tr IK:=.ret ()
abbrev qf(c:Cf)(f:Fl)(b er:ab)(g:Sg)(j:Jn)(l:List Rc)(s:Ss)(p:PP):Prop:=True
abbrev VW(c:Cf)(f:Fl)(b er:ab)(g:Sg)(j:Jn)(l:List Rc)(s:Ss)(p:PP):IK:=()
def anG:bT:=cj [] gL nV (q9∘q0 qf) (q9∘q0 VW) aJs aEQ
theorem anH:aex qf aJx VW:=by
 intro c f b er g j l s p h_;delta VW;exact bH.2 rfl
theorem s8:anG.Ok aA 68:=ay bU func68 call68 (ks:= [.bS,.ck]) (fun _=>uo @anH)
def aCD(c:Cf)(f:Fl)(b er:ab)(g:Sg)(j:Jn)(l:List ah):Tr sk:=.need (oN c f b er g j l) (.ite (!false) (.ret (12)) (.ret (0)))
abbrev ym(c:Cf)(f:Fl)(b er:ab)(g:Sg)(j:Jn)(l:List Rc):Prop:=True
abbrev anI(c:Cf)(f:Fl)(b er:ab)(g:Sg)(j:Jn)(l:List Rc):sk:=12
def aT2:bT:=cj [] gL AN (q7∘q0 ym) (q7∘q0 anI) aED aEE
theorem axF:ac2 ym aCD anI:=by
 intro c f b er g j l h_;delta anI;simp only[aCD,bF,Bool.not_false,dH,bH];exact⟨trivial,trivial⟩
theorem Mz:aT2.Ok aA 46:=ay (bI B1 bU) func46 call46 (ks:=eU) (fun _=>bB @axF)
abbrev aaI:Type:=aj
abbrev aT3(x:aaI):LV:=LV.one (VV.sc (SV.int i64 (SI.lit 0)))
abbrev aT4(x:aaI):List ao:= [(0,ug.wr x)]
def aT5(c:Cf)(f:Fl)(b er:ab)(g:Sg)(j:Jn)(l:List ah)(s:Ss)(p:PP):Tr aaI:=.need (qf c f b er g j l s p) (.ret c)
abbrev yn(c:Cf)(f:Fl)(b er:ab)(g:Sg)(j:Jn)(l:List Rc)(s:Ss)(p:PP):Prop:=True
abbrev anJ(c:Cf)(f:Fl)(b er:ab)(g:Sg)(j:Jn)(l:List Rc)(s:Ss)(p:PP):aaI:=c
def aT6:bT:=cj [] gL nV (q9∘q0 yn) (q9∘q0 anJ) aT3 aT4
theorem axG:aex yn aT5 anJ:=by
 intro c f b er g j l s p h_;delta anJ;exact⟨trivial,rfl⟩
theorem MA:aT6.Ok aA 46:=ay (bI s8 bU) func46 call46 (ks:= [.bS,.ck]) (fun _=>uo @axG)
def aT9(c:Cf)(f:Fl)(b er:ab)(g:Sg)(j:Jn)(l:List ah)(s:Ss)(p:PP)(h:HH) (u:Cu):Tr aaI:=.need (qd c f b er g j l s p h u) (.ret c)
abbrev yp(c:Cf)(f:Fl)(b er:ab)(g:Sg)(j:Jn)(l:List Rc)(s:Ss)(p:PP)(h:HH)(u:Cu):Prop:=True
abbrev anK(c:Cf)(f:Fl)(b er:ab)(g:Sg)(j:Jn)(l:List Rc)(s:Ss)(p:PP)(h:HH)(u:Cu):aaI:=c
def aUa:bT:=cj [] gL s5 (zQ∘q0 yp) (zQ∘q0 anK) aT3 aT4
theorem axH:aeQ yp aT9 anK:=by
 intro c f b er g j l s p h u h_;delta anK;exact⟨trivial,rfl⟩
theorem MB:aUa.Ok aA 46:=ay (bI qe bU) func46 call46 (ks:= [.bS,.ck]) (fun _=>aa9 @axH)
def aJA(c:Cf)(f:Fl)(b er:ab)(g:Sg)(j:Jn)(l:List ah)(s:Ss)(p:PP)(h:HH) (u:Cu):Tr YD:=.need (qK g j f b er l) (.ret ((eP g).1,(eP g).2.1,(eP g).2.2.1,(eP g).2.2.2.1,(eP g).2.2.2.2.1,(eP g).2.2.2.2.2.1,(eP g).2.2.2.2.2.2.1,(eP g).2.2.2.2.2.2.2.1,(eP g).2.2.2.2.2.2.2.2.1,(eP g).2.2.2.2.2.2.2.2.2.1,(eP g).2.2.2.2.2.2.2.2.2.2.1,(eP g).2.2.2.2.2.2.2.2.2.2.2))
abbrev Fs(c:Cf)(f:Fl)(b er:ab)(g:Sg)(j:Jn)(l:List Rc)(s:Ss)(p:PP)(h:HH)(u:Cu):Prop:=g.2.2.2.2.2.2.2.length≤200
abbrev VX(c:Cf)(f:Fl)(b er:ab)(g:Sg)(j:Jn)(l:List Rc)(s:Ss)(p:PP)(h:HH)(u:Cu):YD:=eP g
def anL:bT:=cj [] gL s5 (zQ∘q0 Fs) (zQ∘q0 VX) aPP aPQ
theorem anM:aeQ Fs aJA VX:=by
 intro c f b er g j l s p h u h_;delta VX;exact⟨Nat.le_trans h_ (by decide),rfl⟩
theorem anN:anL.Ok aA 28:=ay (bI Bj bU) func28 call28 (ks:=eU) (fun _=>aa9 @anM)
def anO(x:ab)(c:Cf)(f:Fl)(b er:ab)(g:Sg)(j:Jn)(l:List ah):Tr sk:=.need (oN c f b er g j l) (.ite (!false) (.ret (12)) (.ite (decide (0<(↑x.length:Int))) (.need ((0:Int)≤0∧0<(↑x.length:Int)) .fail) (.ret (0))))
abbrev Ft(x:ab)(c:Cf)(f:Fl)(b er:ab)(g:Sg)(j:Jn)(l:List Rc):Prop:=True
abbrev VY(x:ab)(c:Cf)(f:Fl)(b er:ab)(g:Sg)(j:Jn)(l:List Rc):sk:=12
def aJD:bT:=cj [none,some u8] fdA AN (q7∘q1 Ft) (q7∘q1 VY) aED aEE
theorem anP:aeo Ft anO VY:=by
 intro x c f b er g j l h_;delta VY;simp only[anO,bF,Bool.not_false,dH,bH];exact⟨trivial,trivial⟩
theorem anQ:aJD.Ok aA 45:=ay (bI B1 bU) func45 call45 (ks:=eU) (fun x_=>bB (@anP x_.1))
def aCE(c:Cf)(f:Fl)(b er:ab)(g:Sg)(j:Jn)(l:List ah):Tr aar:=.need (ym c f b er g j l) (.ite ((12:Int)!=0) (.ret (12,f,b,er,g,j,l)) (.need (qU g j f b er l) (.ret ((ca g j f b er l).1,(ca g j f b er l).2.2.2.1,(ca g j f b er l).2.2.2.2.1,(ca g j f b er l).2.2.2.2.2.1,(ca g j f b er l).2.1,(ca g j f b er l).2.2.1,(ca g j f b er l).2.2.2.2.2.2))))
abbrev ME(c:Cf)(f:Fl)(b er:ab)(g:Sg)(j:Jn)(l:List Rc):Prop:=True
abbrev anR(c:Cf)(f:Fl)(b er:ab)(g:Sg)(j:Jn)(l:List Rc):aar:=(12,f,b,er,g,j,l)
def aUd:bT:=cj [] gL AN (q7∘q0 ME) (q7∘q0 anR) aTt aTu
theorem axI:ac2 ME aCE anR:=by
 intro c f b er g j l h_;delta anR;simp only[aCE,bF,b9,bH];exact⟨trivial,fun c=>absurd c (by decide),fun _=>trivial⟩
theorem axJ:aUd.Ok aA 48:=ay (bI Mz (bI BK bU)) func48 call48 (ks:= [.one 6,.fr [.sym],.cu,.bS,.ck]) (fun _=>bB @axI)
abbrev LdR:=Int×Cf×Fl×ab×ab×Sg×Jn×List Rc
def yS(k:Int×LG)(c:Cf):LdR:=(k.1,c,k.2.2.2.1,k.2.2.2.2.1,k.2.2.2.2.2.1,k.2.1,k.2.2.1,k.2.2.2.2.2.2)
def aUg(c:Cf)(f:Fl)(b er:ab)(g:Sg)(j:Jn)(l:List ah)(s:Ss)(p:PP):Tr B2:=.need (yn c f b er g j l s p) (.need (qU g j f b er l) (.ret ((ca g j f b er l).1,c,(ca g j f b er l).2.2.2.1,(ca g j f b er l).2.2.2.2.1,(ca g j f b er l).2.2.2.2.2.1,(ca g j f b er l).2.1,(ca g j f b er l).2.2.1,(ca g j f b er l).2.2.2.2.2.2)))
abbrev MF(c:Cf)(f:Fl)(b er:ab)(g:Sg)(j:Jn)(l:List Rc)(s:Ss)(p:PP):Prop:=gA c b er g j l
abbrev anS(c:Cf)(f:Fl)(b er:ab)(g:Sg)(j:Jn)(l:List Rc)(s:Ss)(p:PP):B2:=yS (ca g j f b er l) c
def aUh:bT:=cj [] gL nV (q9∘q0 MF) (q9∘q0 anS) awX awY
theorem axK:aex MF aUg anS:=by
 intro c f b er g j l s p h_;delta anS;exact⟨trivial,⟨h_.fl,h_.jn,h_.st⟩,rfl⟩
theorem axL:aUh.Ok aA 48:=ay (bI MA (bI BK bU)) func48 call48 (ks:= [.one 6,.fr [.sym],.cu,.bS,.ck]) (fun _=>uo @axK)
def aUk(c:Cf)(f:Fl)(b er:ab)(g:Sg)(j:Jn)(l:List ah)(s:Ss)(p:PP)(h:HH) (u:Cu):Tr B2:=.need (yp c f b er g j l s p h u) (.need (qU g j f b er l) (.ret ((ca g j f b er l).1,c,(ca g j f b er l).2.2.2.1,(ca g j f b er l).2.2.2.2.1,(ca g j f b er l).2.2.2.2.2.1,(ca g j f b er l).2.1,(ca g j f b er l).2.2.1,(ca g j f b er l).2.2.2.2.2.2)))
abbrev MG(c:Cf)(f:Fl)(b er:ab)(g:Sg)(j:Jn)(l:List Rc)(s:Ss)(p:PP)(h:HH)(u:Cu):Prop:=gA c b er g j l
abbrev anT(c:Cf)(f:Fl)(b er:ab)(g:Sg)(j:Jn)(l:List Rc)(s:Ss)(p:PP)(h:HH)(u:Cu):B2:=yS (ca g j f b er l) c
def aUl:bT:=cj [] gL s5 (zQ∘q0 MG) (zQ∘q0 anT) awX awY
theorem axM:aeQ MG aUk anT:=by
 intro c f b er g j l s p h u h_;delta anT;exact⟨trivial,⟨h_.fl,h_.jn,h_.st⟩,rfl⟩
theorem axN:aUl.Ok aA 48:=ay (bI MB (bI BK bU)) func48 call48 (ks:= [.one 6,.fr [.sym],.cu,.bS,.ck]) (fun _=>aa9 @axM)
abbrev aaN:Type:=Int×Jn×(List ah)
abbrev aUm(x:aaN):LV:=aw (ar x.1)
abbrev aUn(x:aaN):List ao:= [(5,fX.wr x.2.1),(6,bE.own 1 (ag.pair (ag.pair ae.sl)) x.2.2)]
def aCF(c:Cf)(f:Fl)(b er:ab)(g:Sg)(j:Jn)(l:List ah):Tr aaN:=.need (ym c f b er g j l) (.ite ((12:Int)!=0) (.ret (12,j,l)) .fail)
abbrev MH(c:Cf)(f:Fl)(b er:ab)(g:Sg)(j:Jn)(l:List Rc):Prop:=True
abbrev anU(c:Cf)(f:Fl)(b er:ab)(g:Sg)(j:Jn)(l:List Rc):aaN:=(12,j,l)
def aUo:bT:=cj [] gL AN (q7∘q0 MH) (q7∘q0 anU) aUm aUn
theorem axO:ac2 MH aCF anU:=by
 intro c f b er g j l h_;delta anU;simp only[aCF,bF,b9,bH];exact⟨trivial,fun c=>absurd c (by decide),fun _=>trivial⟩
theorem axP:aUo.Ok aA 49:=ay (bI Mz bU) func49 call49 (ks:= [.one 6,.fr [.sym],.cu,.bS,.ck]) (fun _=>bB @axO)
abbrev aaO:Type:=Int×Cf×Jn×(List ah)
abbrev aUp(x:aaO):LV:=aw (ar x.1)
abbrev aUq(x:aaO):List ao:= [(0,ug.wr x.2.1),(5,fX.wr x.2.2.1),(6,bE.own 1 (ag.pair (ag.pair ae.sl)) x.2.2.2)]
def aCG(c:Cf)(f:Fl)(b er:ab)(g:Sg)(j:Jn)(l:List ah)(s:Ss)(p:PP):Tr aaO:=.need (yn c f b er g j l s p) (.ite (!p.part==0) (.ret (16,c,j,l)) .fail)
abbrev MI(c:Cf)(f:Fl)(b er:ab)(g:Sg)(j:Jn)(l:List Rc)(s:Ss)(p:PP):Prop:=p.part≠0
abbrev anV(c:Cf)(f:Fl)(b er:ab)(g:Sg)(j:Jn)(l:List Rc)(s:Ss)(p:PP):aaO:=(16,c,j,l)
def aUr:bT:=cj [] gL nV (q9∘q0 MI) (q9∘q0 anV) aUp aUq
theorem axQ:aex MI aCG anV:=by
 intro c f b er g j l s p h_;delta anV;simp only[aCG,bF,cm,cd,bH];exact⟨trivial,fun e=>absurd (beq_iff_eq.1 e) h_,fun _=>trivial⟩
theorem axR:aUr.Ok aA 49:=ay (bI MA (bI Rl bU)) func49 call49 (ks:= [.one 6,.fr [.sym],.cu,.bS,.ck]) (fun _=>uo @axQ)
def ra(s:Ss)(h:HH):Int×Int×Int×Int×ab:=(s.target,s.cM.cU.ver,s.cM.cU.lP,s.cM.cU.len,AH h)
def aCH(c:Cf)(f:Fl)(b er:ab)(g:Sg)(j:Jn)(l:List ah)(s:Ss)(p:PP)(h:HH) (u:Cu):Tr B2:=.need (yp c f b er g j l s p h u) (.ite (!p.part==0) (.ret (16,c,f,b,er,g,j,l)) (.need (oA h∧h.n< 2305843009213693000) (.need (Ls (ra s h) g j f b er l) (.ret ((sW (ra s h) g j f b er l).1,c,(sW (ra s h) g j f b er l).2.2.2.1,(sW (ra s h) g j f b er l).2.2.2.2.1,(sW (ra s h) g j f b er l).2.2.2.2.2.1,(sW (ra s h) g j f b er l).2.1,(sW (ra s h) g j f b er l).2.2.1,(sW (ra s h) g j f b er l).2.2.2.2.2.2)))))
def yq(c:Cf)(f:Fl)(b er:ab)(g:Sg)(j:Jn)(l:List Rc)(s:Ss)(p:PP)(h:HH):LdR:=if p.part=0 then yS (sW (s.target,s.cM.cU.ver,s.cM.cU.lP,s.cM.cU.len,AH h) g j f b er l) c else(16,c,f,b,er,g,j,l)
abbrev MJ(c:Cf)(f:Fl)(b er:ab)(g:Sg)(j:Jn)(l:List Rc)(s:Ss)(p:PP)(h:HH)(u:Cu):Prop:=gA c b er g j l∧Fa h∧uC s.cM.cU
abbrev anY(c:Cf)(f:Fl)(b er:ab)(g:Sg)(j:Jn)(l:List Rc)(s:Ss)(p:PP)(h:HH)(u:Cu):B2:=yq c f b er g j l s p h
def aUu:bT:=cj [] gL s5 (zQ∘q0 MJ) (zQ∘q0 anY) awX awY
theorem axS:aeQ MJ aCH anY:=by
 intro c f b er g j l s p h u h_;delta anY;obtain⟨h1,h2,h3⟩:=h_;have hl:=h2.lim;have e:ra s h=(s.target,s.cM.cU.ver,s.cM.cU.lP,s.cM.cU.len,AH h):=rfl;simp only[aCH,e,bF,cm,cd,bH,yq];refine⟨trivial,fun d=>⟨⟨h2.ok,by omega⟩,⟨h1.fl,h1.jn,h1.st,⟨h3.1,h3.2.1⟩,⟨h3.2.2.1,h3.2.2.2⟩,Vz h⟩,?_⟩,fun d=>?_⟩
 ·rw[if_pos (beq_iff_eq.1 d)];rfl
 ·rw[if_neg (by simpa using d)]
theorem axT:aUu.Ok aA 49:=ay (bI MB (bI Rl (bI I6 (bI avV bU)))) func49 call49 (ks:= [.one 6,.fr [.sym],.cu,.bS,.ck]) (fun _=>aa9 @axS)
end Go.Proofs.YtliehnnljilacaaGreat
