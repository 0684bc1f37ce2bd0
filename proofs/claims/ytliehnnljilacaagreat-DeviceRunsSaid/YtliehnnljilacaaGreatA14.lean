/- What the laws lean on, part 14: a reader of code, plain facts, and what each function gives; no conditions. -/
import Derived.Test.YtliehnnljilacaaGreatA13
noncomputable section
open Go.IntKind (i64 signed u16 u32 u64 wrap wrap_u32)
set_option linter.unusedVariables false
set_option linter.unusedSimpArgs false
namespace Go.Proofs.YtliehnnljilacaaGreat
open Go Go.Ev Go.Proofs.Tryz
set_option maxRecDepth 1000000
structure Cu where
 r:Int×Int
 pos:Int
 n:Int
 word:ab
 ready:Int
 err:Int
abbrev cCu(k:Nat):cl (List SV) Cu:=(bR (cr k 0) (bD (bX .i64) (bD (bX .i64) (bD (bX .i64) (bD (bX .i64) (bD (oa u8 8) (bD (bX .i64) (bD (bX .i64) bG)))))))).jr (fun x=>⟨(x.1,x.2.1),x.2.2.1,x.2.2.2.1,x.2.2.2.2.1,x.2.2.2.2.2.1,x.2.2.2.2.2.2.1⟩) (fun y=>(y.r.1,y.r.2,y.pos,y.n,y.word,y.ready,y.err,())) (fun _=>rfl)
abbrev p6:cl bE Cu:=fe 275 (cCu 1)
abbrev hCu:cl Hp (Cu×Fl×ab×ab×Unit):=bD (cb p6) (bD (cb dA) (bD (dd 0 u8) (bD (dd 0 (.int .i64)) bG)))
def nP(f:Fl)(b er:ab)(r:Int×Int)(s:Int):Int×Fl×ab×ab:=if f.2.1=true then(5,f,b,er)else if ¬ (0≤s∧s<r.2)then(2,f,b,er)else if eS (cO b (1024*r.1+1024*s) 1024)=true then(0,f,b,er)else fH f b er r s
def sS:Nat→Int→Fl→ab→ab→Int×Int→Int×Int×Fl×ab×ab
 |0,k,f,b,er,_=>(0,k,f,b,er)
 |n+1,k,f,b,er,r=>if(nP f b er r k).1≠0 then((nP f b er r k).1,k,(nP f b er r k).2)else sS n (k+1) (nP f b er r k).2.1 (nP f b er r k).2.2.1 (nP f b er r k).2.2.2 r
abbrev EB:Type:=Int×Cu×ai×ab×ab
abbrev ak4:cl St EB:=(dy (bR (bO (cr (0) (0))) (bD (bO (bX i64)) (jk 57 bG))) (bD (cb p6) (bD (cb dA) (bD (dd (0) ae) (bD (dd (0) ag) bG))))).jr (fun y=>(y.1.1,y.2.1,y.2.2.1,y.2.2.2.1,y.2.2.2.2.1)) (fun x=>((x.1,()),(x.2.1,(x.2.2.1,(x.2.2.2.1,(x.2.2.2.2,())))))) (fun _=>rfl)
abbrev ak5:List Wk:= [.fr (eH 59 [(0,.bV),(1,.bV)]),.cu,.bS,.ck]
abbrev aHT:Exit→List Wk:=ua ak5 0 [.fr (eH 59 []),.cu,.bS,.ck] [.fr (eH 59 [(4,.bV)]),.cu,.bS,.ck]
def ji(f:ai):(Int×ab)×Bool×Bool×Int:=f
def lS(s:Int)(c:Cu)(f:ai)(b er:ab):Bool×Int:=if f.2.1=true then(false,5)else if ¬(0≤c.ready∧c.ready<c.r.2)then(false,2)else(eS (cO b (1024*c.r.1+1024*c.ready) 1024),0)
abbrev KW:Type:=Int×Cu×ai×ab×ab
abbrev au6(x:KW):Exit×St:=(Exit.ret,⟨(gE 4 (LV.one (VV.sc (SV.int i64 (SI.sym x.1)))::(gE 54 []))),[some (p6.wr x.2.1),some (dA.wr x.2.2.1),some (bE.own 0 ae x.2.2.2.1),some (bE.own 0 ag x.2.2.2.2)]⟩)
abbrev KX:Type:=Cu×ai×ab×ab
abbrev au7(x:KX):Exit×St:=(Exit.exit 0,⟨(gE 59 []),[some (p6.wr x.1),some (dA.wr x.2.1),some (bE.own 0 ae x.2.2.1),some (bE.own 0 ag x.2.2.2)]⟩)
def zE(s:Int)(c:Cu)(f:ai)(b er:ab):Tr (EB⊕(KW⊕KX)):=(.need (ga c.r (ji f) b er) (.ite (decide (c.ready≤if i64.wrap (i64.wrap (Int.tdiv (1024*c.r.2) 1024)-1)<i64.wrap (s+1)then i64.wrap (i64.wrap (Int.tdiv (1024*c.r.2) 1024)-1)else i64.wrap (s+1))) (.need (kN c.r c.ready (ji f) b er) (.ite (((lS s c f b er).2==0)==true) (.ite (!(lS s c f b er).1) (.need (kM c.r c.ready (ji f) b er) (.ite ((fH (ji f) b er c.r c.ready).1 !=0) (.ret (.inr (.inl ((fH (ji f) b er c.r c.ready).1,c,(fH (ji f) b er c.r c.ready).2.1,(fH (ji f) b er c.r c.ready).2.2.1,(fH (ji f) b er c.r c.ready).2.2.2)))) (.ret (.inl (s,{r:=c.r,pos:=c.pos,n:=c.n,word:=c.word,ready:=i64.wrap (c.ready+1),err:=c.err},(fH (ji f) b er c.r c.ready).2.1,(fH (ji f) b er c.r c.ready).2.2.1,(fH (ji f) b er c.r c.ready).2.2.2))))) (.ite ((lS s c f b er).2 !=0) (.ret (.inr (.inl ((lS s c f b er).2,c,f,b,er)))) (.ret (.inl (s,{r:=c.r,pos:=c.pos,n:=c.n,word:=c.word,ready:=i64.wrap (c.ready+1),err:=c.err},f,b,er))))) (.ite ((lS s c f b er).2 !=0) (.ret (.inr (.inl ((lS s c f b er).2,c,f,b,er)))) (.ret (.inl (s,{r:=c.r,pos:=c.pos,n:=c.n,word:=c.word,ready:=i64.wrap (c.ready+1),err:=c.err},f,b,er)))))) (.ret (.inr (.inr (c,f,b,er))))))
theorem EC{g:Nat→Int→Int}{k:Nat}{o:ab}(ho:bL o)(hg:∀i v,By v→By (g i v)):bL (lQ g k o):=by
 intro z hz;unfold lQ at hz;rw[List.mem_iff_getElem?]at hz;obtain⟨i,hi⟩:=hz;rw[List.getElem?_mapIdx]at hi;cases h:o[i]? with
 |none=>rw[h]at hi;cases hi
 |some v=>
  rw[h]at hi;simp only[Option.map_some,Option.some.injEq]at hi;subst hi;have hv:=ho v (List.mem_of_getElem? h);split
  ·exact hg i v hv
  ·exact hv
theorem au8{f:Fl}{b er:ab}{s:Int}(h:dE b er):dE (vh f b er s).2.2.1 (vh f b er s).2.2.2:=by
 obtain⟨h1,h2,h3⟩:=h;unfold vh;split
 ·exact⟨h1,h2,h3⟩
 ·split
  ·exact⟨h1,h2,h3⟩
  ·rename_i c1 c2;have c2:0≤s∧s<er.length:=(by simpa using c2);have hl:=gg (b:=b) (p:=1024*s) (m:=1024) ⟨by omega,by omega,by omega⟩;have l1:(xx (cO b (1024*s) 1024) (jw f).2.1.2).length=1024:=(by unfold xx En;rw[mm];omega);split
   ·refine⟨?_,by rw[List.length_set];exact h2,by rw[List.length_set];exact h3⟩;rw[List.length_set,p5 ⟨by omega,by omega,by omega⟩];exact h1
   ·refine⟨?_,by rw[List.length_set];exact h2,by rw[List.length_set];exact h3⟩;rw[List.length_set,p5 ⟨by omega,by omega,by rw[List.length_replicate];omega⟩];exact h1
theorem ak6{f:Fl}{b er:ab}{r:Int×Int}{s:Int}(h:dE b er):dE (fH f b er r s).2.2.1 (fH f b er r s).2.2.2:=by
 unfold fH;split
 ·exact h
 ·split
  ·exact h
  ·exact au8 h
theorem au9{f:Fl}{b er:ab}{s:Int}:(vh f b er s).2.2.2.length=er.length:=by
 unfold vh;split
 ·rfl
 ·split
  ·rfl
  ·split<;>exact List.length_set
theorem ava{f:Fl}{b er:ab}{r:Int×Int}{s:Int}:(fH f b er r s).2.2.2.length=er.length:=by
 unfold fH;split
 ·rfl
 ·split
  ·rfl
  ·exact au9
def sT(s:Int)(c:Cu):Nat:=((if c.r.2-1<s+1 then c.r.2-1 else s+1)+1-c.ready).toNat
def Cu.to(c:Cu)(k:Int):Cu:=⟨c.r,c.pos,c.n,c.word,k,c.err⟩
def jH(s:Int)(c:Cu)(f:Fl)(b er:ab):Int×Int×Fl×ab×ab:=sS (sT s c) c.ready f b er c.r
abbrev xJ(s:Int)(c:Cu)(f:ai)(b er:ab):Prop:=dE b er∧iO c.r er∧0≤c.ready∧c.ready<1099511627776∧0≤s∧s<1099511627776
abbrev UN(s:Int)(c:Cu)(f:ai)(b er:ab):Bool:=decide ((jH s c f b er).1≠0)
abbrev UO(s:Int)(c:Cu)(f:ai)(b er:ab):KW:=((jH s c f b er).1,c.to (jH s c f b er).2.1,(jH s c f b er).2.2)
abbrev UP(s:Int)(c:Cu)(f:ai)(b er:ab):KX:=(c.to (jH s c f b er).2.1,(jH s c f b er).2.2)
abbrev ak7:EB→cT:=oU (aE xJ) (aE UN) (aE UO) (aE UP) au6 au7
theorem ak8(s:Int)(c:Cu)(f:ai)(b er:ab)(h_:xJ s c f b er):eG (fun x_:EB=>zE x_.1 x_.2.1 x_.2.2.1 x_.2.2.2.1 x_.2.2.2.2) (s,c,f,b,er) (bif UN s c f b er then .inl (UO s c f b er)else .inr (UP s c f b er)):=by
 delta UN UO UP;obtain⟨h1,h2,h3,h4,h5,h6⟩:=h_;obtain⟨n,hn⟩:∃n,sT s c=n:=⟨_,rfl⟩;unfold jH;rw[hn];induction n generalizing c f b er with
 |zero=>
  refine .stop ?_;have t:Int.tdiv (1024*c.r.2) 1024=c.r.2:=by rw[Int.mul_comm];exact Int.mul_tdiv_cancel _ (by decide)
  obtain⟨a1,a2,a3⟩:=id h1;obtain⟨g1,g2,g3⟩:=h2;have w1:i64.wrap c.r.2=c.r.2:=bM (by omega) (by omega);have w2:i64.wrap (c.r.2-1)=c.r.2-1:=bM (by omega) (by omega);have w3:i64.wrap (s+1)=s+1:=bM (by omega) (by omega);have d:¬ (c.ready≤if c.r.2-1<s+1 then c.r.2-1 else s+1):=by unfold sT at hn;omega
  have e:ji f=f:=rfl;simp only[zE,t,w1,w2,w3,e,bW,bF,bH];exact⟨⟨by omega,by omega⟩,fun h=>absurd h d,fun _=>rfl⟩
 |succ n ih=>
  have t:Int.tdiv (1024*c.r.2) 1024=c.r.2:=by rw[Int.mul_comm];exact Int.mul_tdiv_cancel _ (by decide)
  obtain⟨a1,a2,a3⟩:=id h1;obtain⟨g1,g2,g3⟩:=id h2;have w1:i64.wrap c.r.2=c.r.2:=bM (by omega) (by omega);have w2:i64.wrap (c.r.2-1)=c.r.2-1:=bM (by omega) (by omega);have w3:i64.wrap (s+1)=s+1:=bM (by omega) (by omega);have w4:i64.wrap (c.ready+1)=c.ready+1:=bM (by omega) (by omega);have d:c.ready≤if c.r.2-1<s+1 then c.r.2-1 else s+1:=by unfold sT at hn;omega
  have d2:0≤c.ready∧c.ready<c.r.2:=by split at d<;>omega
  have e:ji f=f:=rfl;have p1:ga c.r f b er:=⟨by omega,by omega⟩;have p2:kN c.r c.ready f b er:=⟨h1,h2⟩;have p3:kM c.r c.ready f b er:=⟨h1,h2⟩;have hN:∀c':Cu,c'.r=c.r→c'.ready=c.ready+1→sT s c'=n:=fun c' q1 q2=>by unfold sT at hn ⊢;rw[q1,q2];omega
  rw[sS];cases ho:f.2.1 with
  |true=>
   have e3:lS s c f b er=(false,5):=(by unfold lS;rw[if_pos ho]);have ec:nP f b er c.r c.ready=(5,f,b,er):=(by unfold nP;rw[if_pos ho]);rw[ec,if_pos (fun h:(5:Int)=0=>by cases h)];refine .stop ?_;simp only[zE,t,w1,w2,w3,e,e3,bW,bF,bH];exact⟨p1,fun _=>⟨p2,⟨fun h=>by simp at h,fun _=>⟨fun _=>rfl,fun h=>by simp at h⟩⟩⟩,fun h=>absurd d h⟩
  |false=>
   have e3:lS s c f b er=(eS (cO b (1024*c.r.1+1024*c.ready) 1024),0):=(by unfold lS;rw[if_neg (by rw[ho];decide),if_neg (fun h=>h d2)]);cases hb:eS (cO b (1024*c.r.1+1024*c.ready) 1024)with
   |true=>
    have ec:nP f b er c.r c.ready=(0,f,b,er):=(by unfold nP;rw[if_neg (by rw[ho];decide),if_neg (fun h=>h d2),if_pos hb]);rw[ec,if_neg (fun h=>h rfl)];refine .go ?_ (ih (c.to (c.ready+1)) f b er h1 h2 (by show 0≤c.ready+1;omega) (by show c.ready+1<_;omega) (hN _ rfl rfl));simp only[zE,t,w1,w2,w3,w4,e,e3,hb,bW,bF,bH];exact⟨p1,fun _=>⟨p2,⟨fun _=>⟨fun h=>(by cases h),fun _=>⟨fun h=>(by simp at h),fun _=>rfl⟩⟩,fun h=>(by simp at h)⟩⟩,fun h=>absurd d h⟩
   |false=>
    have ec:nP f b er c.r c.ready=fH f b er c.r c.ready:=(by unfold nP;rw[if_neg (by rw[ho];decide),if_neg (fun h=>h d2),if_neg (by rw[hb];decide)]);rw[ec];by_cases d3:(fH f b er c.r c.ready).1=0
    ·rw[if_neg (fun h=>h d3)];have hl:=ak6 (r:=c.r) (f:=f) (s:=c.ready) h1;refine .go ?_ (ih (c.to (c.ready+1)) _ _ _ hl ?_ ?_ ?_ (hN _ rfl rfl))
     ·simp only[zE,t,w1,w2,w3,w4,e,e3,hb,bW,bF,bH];exact⟨p1,fun _=>⟨p2,⟨fun _=>⟨fun _=>⟨p3,⟨fun h=>by simp[d3]at h,fun _=>rfl⟩⟩,fun h=>(by cases h)⟩,fun h=>(by simp at h)⟩⟩,fun h=>absurd d h⟩
     ·show 0≤c.r.1∧1≤c.r.2∧c.r.1+c.r.2≤((fH f b er c.r c.ready).2.2.2.length:Int);rw[ava];exact h2
     ·show 0≤c.ready+1;omega
     ·show c.ready+1<_;omega
    ·rw[if_pos d3];refine .stop ?_;simp only[zE,t,w1,w2,w3,w4,e,e3,hb,bW,bF,bH];exact⟨p1,fun _=>⟨p2,⟨fun _=>⟨fun _=>⟨p3,⟨fun _=>by rw[decide_eq_true d3];rfl,fun h=>by simp[d3]at h⟩⟩,fun h=>(by cases h)⟩,fun h=>(by simp at h)⟩⟩,fun h=>absurd d h⟩
theorem adR(y_):∀x:EB,Ex aA (hCu.wr y_) (.loop (cG f231 0)) (ak4.wr x) (ak7 x):=ee bJ ((bI kg (bI sQ (bI sP bU)))) (ws:=aHT) (cn.nil _) (fun _=>by kernel_rfl) (fun z=>by cases z<;>(intro e;cases e)) qw (aT @ak8)
abbrev ak9:cl (List LV) (Int×Unit):=bR (bO (cr 0 0)) (bD (bO (bX .i64)) bG)
def jj(f:ai):(Int×ab)×Bool×Bool×Int:=f
abbrev aHU(x:KW):LV:=aw (ar x.1)
abbrev aHV(x:KW):List ao:= [(0,p6.wr x.2.1),(1,dA.wr x.2.2.1),(2,bE.own 0 ae x.2.2.2.1),(3,bE.own 0 ag x.2.2.2.2)]
def ala(s:Int)(c:Cu)(f:ai)(b er:ab):Tr KW:=(.need (xJ s c (jj f) b er) (.ite (decide ¬(jH s c (jj f) b er).1=0) (.ret ((jH s c (jj f) b er).1,{r:=c.r,pos:=c.pos,n:=c.n,word:=c.word,ready:=(jH s c (jj f) b er).2.1,err:=c.err},(jH s c (jj f) b er).2.2.1,(jH s c (jj f) b er).2.2.2.1,(jH s c (jj f) b er).2.2.2.2)) (.ret (0,{r:=c.r,pos:=c.pos,n:=c.n,word:=c.word,ready:=(jH s c (jj f) b er).2.1,err:=c.err},(jH s c (jj f) b er).2.2.1,(jH s c (jj f) b er).2.2.2.1,(jH s c (jj f) b er).2.2.2.2))))
abbrev CF:Type:=Cu×Fl×ab×ab
def kP(s:Int)(c:Cu)(f:Fl)(b er:ab):Int×CF:=((jH s c f b er).1,c.to (jH s c f b er).2.1,(jH s c f b er).2.2)
structure rJ (c:Cu) (er:ab):Prop where
 r:iO c.r er
 word:c.word.length=8
 by_:bL c.word
 n:0≤c.n∧c.n≤8
 pos:c.n≤c.pos∧c.pos≤1024*c.r.2
 ready:0≤c.ready∧c.ready≤c.r.2
abbrev xK(s:Int)(c:Cu)(f:Fl)(b er:ab):Prop:=dE b er∧rJ c er∧0≤s∧s<549755813888
abbrev UQ(s:Int)(c:Cu)(f:Fl)(b er:ab):KW:=kP s c f b er
def aHW:bT:=cj [] ak9 hCu (q4∘q1 xK) (q4∘q1 UQ) aHU aHV
theorem alb:acf xK ala UQ:=by
 intro s c f b er h_;delta UQ;obtain⟨h1,h2,h3⟩:=h_;have hp:xJ s c (jj f) b er:=⟨h1,h2.r,h2.ready.1,by have:=h2.ready.2;have:=h2.r.2.2;have:=h2.r.1;have:=h1.2.2;omega,by omega,by omega⟩;have e:jj f=f:=rfl;rw[e]at hp;simp only[ala,e,bF,bW,bH,kP];refine⟨hp,fun c1=>rfl,fun c1=>?_⟩;have c1:(jH s c f b er).1=0:=by omega
 rw[c1];rfl
theorem alc:aHW.Ok aA 231:=az (bI kg (bI sQ (bI sP bU))) func231 call231 (ks:=eU) ak4 ak5 ak7 adR (fun x_=>bw (@alb x_.1))
structure Kp (b er b' Bl:ab):Prop where
 l1:b'.length=b.length
 l2:Bl.length=er.length
 by_:bL b→bL b'
theorem Kp.rfl{b er:ab}:Kp b er b er:=⟨Eq.refl _,Eq.refl _,id⟩
theorem Kp.trans{a b c x y z:ab}(h:Kp a x b y)(g:Kp b y c z):Kp a x c z:=⟨g.l1.trans h.l1,g.l2.trans h.l2,fun k=>g.by_ (h.by_ k)⟩
theorem Kp.fl{b er b' Bl:ab}(h:Kp b er b' Bl)(g:dE b er):dE b' Bl:=by
 obtain⟨h1,h2,_⟩:=h;obtain⟨g1,g2,g3⟩:=g;exact⟨by omega,by omega,by omega⟩
theorem Kp.rg{b er b' Bl:ab}(h:Kp b er b' Bl){r:Int×Int}(g:iO r er):iO r Bl:=by
 obtain⟨_,h2,_⟩:=h;obtain⟨g1,g2,g3⟩:=g;exact⟨by omega,by omega,by omega⟩
theorem lT(z:Int):By (IntKind.u8.wrap z):=by rw[wrap_u8];exact⟨by omega,by omega⟩
theorem UR{b x:ab}{p:Int}(hb:bL b)(hx:bL x):bL (rH b p x):=(hb.take _).append (hx.append (hb.drop _))
theorem US{b er x:ab}{p:Int}(h:uT b p x.length)(hx:bL x):Kp b er (rH b p x) er:=⟨p5 h,rfl,fun hb=>UR hb hx⟩
theorem avb{x y p:ab}(hy:bL y):bL (Az x y p):=EC hy fun _ _ _=>lT _
theorem avc{x p:ab}(hx:bL x):bL (xx x p):=EC hx fun _ _ _=>lT _
theorem ald{x y p:ab}:(Az x y p).length=y.length:=mm _ _ _
theorem ale{x p:ab}:(xx x p).length=x.length:=mm _ _ _
theorem alf:∀ (n:Nat) (f:Fl) (b:ab) (p:Int) (x er:ab),bL x→0≤p→x.length=8*n→p+x.length≤b.length→Kp b er (wrF n f b p x).2.2 er
 |0,f,b,p,x,er,_,_,_,_=>.rfl
 |n+1,f,b,p,x,er,hx,hp,hl,hb=>by
  have l8:(x.take 8).length=8:=by rw[List.length_take];omega
  have hr:uT b p (x.take 8).length:=by rw[l8];exact⟨hp,by omega,by omega⟩
  rw[wrF];split
  ·exact US (by rw[ald];exact hr) (avb (hx.take 8))
  ·have k1:=US (er:=er) hr (hx.take 8);refine k1.trans (alf n _ _ _ _ _ (hx.drop 8) (by omega) (by rw[List.length_drop];omega) ?_);rw[k1.l1,List.length_drop];omega
theorem avd{f:Fl}{b x er:ab}{p:Int}(hx:bL x):Kp b er (Kw f b p x).2.2 er:=by
 unfold Kw;split
 ·exact .rfl
 ·split
  ·exact .rfl
  ·split
   ·exact .rfl
   ·split
    ·exact .rfl
    ·rename_i c1 c2 c3;have c1:=Decidable.not_not.1 c1;have c2:=Decidable.not_not.1 c2;exact alf _ _ _ _ _ _ hx c1.1 (by omega) c1.2.2
theorem qQ{f:Fl}{b x er:ab}{r:Int×Int}{p:Int}(hx:bL x):Kp b er (gM f b r p x).2.2 er:=by
 unfold gM;split
 ·exact .rfl
 ·split
  ·exact .rfl
  ·exact avd hx
theorem ave{f:Fl}{b er:ab}{s:Int}(h:dE b er):Kp b er (vh f b er s).2.2.1 (vh f b er s).2.2.2:=by
 obtain⟨h1,h2,h3⟩:=h;unfold vh;split
 ·exact .rfl
 ·split
  ·exact .rfl
  ·rename_i c1 c2;have c2:0≤s∧s<er.length:=(by simpa using c2);have hl:=gg (b:=b) (p:=1024*s) (m:=1024) ⟨by omega,by omega,by omega⟩;split
   ·exact⟨p5 ⟨by omega,by omega,by rw[ale];omega⟩,List.length_set,fun hb=>UR hb (avc (wB hb _ _))⟩
   ·exact⟨p5 ⟨by omega,by omega,by rw[List.length_replicate];omega⟩,List.length_set,fun hb=>UR hb (bL.rep _ ⟨by decide,by decide⟩)⟩
theorem KZ{f:Fl}{b er:ab}{r:Int×Int}{s:Int}(h:dE b er):Kp b er (fH f b er r s).2.2.1 (fH f b er r s).2.2.2:=by
 unfold fH;split
 ·exact .rfl
 ·split
  ·exact .rfl
  ·exact ave h
theorem BB{f:Fl}{b er:ab}{r:Int×Int}{s:Int}(h:dE b er):Kp b er (nP f b er r s).2.2.1 (nP f b er r s).2.2.2:=by
 unfold nP;split
 ·exact .rfl
 ·split
  ·exact .rfl
  ·split
   ·exact .rfl
   ·exact KZ h
theorem Q1:∀ (n:Nat) {k:Int} {f:Fl} {b er:ab} {r:Int×Int},dE b er→Kp b er (sS n k f b er r).2.2.2.1 (sS n k f b er r).2.2.2.2∧k≤(sS n k f b er r).2.1∧(sS n k f b er r).2.1≤k+n
 |0,_,_,_,_,_,_=>⟨.rfl,Int.le_refl _,by simp[sS]⟩
 |n+1,k,f,b,er,r,h=>by
  rw[sS];split
  ·exact⟨BB h,Int.le_refl _,by simp only;omega⟩
  ·have k1:=BB (f:=f) (r:=r) (s:=k) h;obtain⟨i1,i2,i3⟩:=Q1 n (k:=k+1) (f:=(nP f b er r k).2.1) (r:=r) (k1.fl h);exact⟨k1.trans i1,by omega,by omega⟩
theorem Q2{s:Int}{c:Cu}{f:Fl}{b er:ab}(h:dE b er)(hc:rJ c er):Kp b er (kP s c f b er).2.2.2.1 (kP s c f b er).2.2.2.2∧rJ (kP s c f b er).2.1 (kP s c f b er).2.2.2.2:=by
 obtain⟨i1,i2,i3⟩:=Q1 (sT s c) (k:=c.ready) (f:=f) (r:=c.r) h;refine⟨i1,i1.rg hc.r,hc.word,hc.by_,hc.n,hc.pos,?_⟩;have h1:=hc.ready;show 0≤(sS (sT s c) c.ready f b er c.r).2.1∧(sS (sT s c) c.ready f b er c.r).2.1≤c.r.2;have hn:c.ready+(sT s c:Int)≤c.r.2:=by
  unfold sT;split<;>omega
 omega
def Cu.er(c:Cu)(e:Int):Cu:=⟨c.r,c.pos,c.n,c.word,c.ready,e⟩
def Cu.bytes(c:Cu):ab:=c.word.take c.n.toNat++List.replicate (8-c.n.toNat) 255
def aHX(e:Int)(c:Cu)(f:Fl)(b er:ab):Int×CF:=if e≠0 then(e,c.er e,f,b,er)else((gM f b c.r (c.pos-c.n) c.bytes).1,c.er (gM f b c.r (c.pos-c.n) c.bytes).1,(gM f b c.r (c.pos-c.n) c.bytes).2.1,(gM f b c.r (c.pos-c.n) c.bytes).2.2,er)
def iH(c:Cu)(f:Fl)(b er:ab):Int×CF:=aHX (kP ((c.pos-c.n)/1024) c f b er).1 (kP ((c.pos-c.n)/1024) c f b er).2.1 (kP ((c.pos-c.n)/1024) c f b er).2.2.1 (kP ((c.pos-c.n)/1024) c f b er).2.2.2.1 (kP ((c.pos-c.n)/1024) c f b er).2.2.2.2
def ED(c:Cu):Int:=i64.wrap (c.pos-c.n)
def fg(c:Cu)(f:Fl)(b er:ab):Int×Cu×Fl×ab×ab:=kP (i64.wrap ((ED c).tdiv 1024)) c f b er
def UT(c:Cu)(f:Fl)(b er:ab):ab:=cP (List.replicate 8 (255:Int)) 0 8 (List.take ((fg c f b er).2.1.n-0).toNat (List.drop 0 (fg c f b er).2.1.word))
def EE(c:Cu)(f:Fl)(b er:ab):Int×Fl×ab:=gM (fg c f b er).2.2.1 (fg c f b er).2.2.2.1 (fg c f b er).2.1.r (ED c) (UT c f b er)
abbrev Ze:Type:=Int×Cu×Fl×ab×ab
abbrev aQT(x:Ze):LV:=aw (ar x.1)
abbrev aQU(x:Ze):List ao:= [(0,p6.wr x.2.1),(1,dA.wr x.2.2.1),(2,bE.own 0 ae x.2.2.2.1),(3,bE.own 0 ag x.2.2.2.2)]
def aBC(c:Cu)(f:Fl)(b er:ab):Tr Ze:=.need (xK (i64.wrap ((ED c).tdiv 1024)) c f b er) (.ite ((fg c f b er).1 !=0) (.ret ((fg c f b er).1,{r:=(fg c f b er).2.1.r,pos:=(fg c f b er).2.1.pos,n:=(fg c f b er).2.1.n,word:=(fg c f b er).2.1.word,ready:=(fg c f b er).2.1.ready,err:=(fg c f b er).1},(fg c f b er).2.2.1,(fg c f b er).2.2.2.1,(fg c f b er).2.2.2.2)) (.need (Dy 8) (.need ((0:Int)≤0∧0≤ (fg c f b er).2.1.n∧(fg c f b er).2.1.n≤8) (.need (eB (fg c f b er).2.1.r (ED c) (UT c f b er) (fg c f b er).2.2.1 (fg c f b er).2.2.2.1 (fg c f b er).2.2.2.2) (.ret ((EE c f b er).1,{r:=(fg c f b er).2.1.r,pos:=(fg c f b er).2.1.pos,n:=(fg c f b er).2.1.n,word:=(fg c f b er).2.1.word,ready:=(fg c f b er).2.1.ready,err:=(EE c f b er).1},(EE c f b er).2.1,(EE c f b er).2.2,(fg c f b er).2.2.2.2))))))
theorem alg{w:ab}{n:Int}(h:w.length=8)(h2:0≤n∧n≤8):cP (List.replicate 8 255) 0 8 (List.take (n-0).toNat (List.drop 0 w))=w.take n.toNat++List.replicate (8-n.toNat) 255:=by
 have hl:(w.take n.toNat).length=n.toNat:=by rw[List.length_take];omega
 unfold cP;rw[List.drop_zero,Int.sub_zero,List.take_zero,List.nil_append,List.take_of_length_le (by omega),hl,List.drop_replicate,Nat.zero_add,Nat.min_eq_right (by omega)]
theorem adS{c:Cu}(h:c.word.length=8)(h2:0≤c.n∧c.n≤8):c.bytes.length=8:=by
 unfold Cu.bytes;rw[List.length_append,List.length_take,List.length_replicate];omega
abbrev xL(c:Cu)(f:Fl)(b er:ab):Prop:=dE b er∧rJ c er
abbrev alh(c:Cu)(f:Fl)(b er:ab):Ze:=iH c f b er
def aQV:bT:=cj [] gL hCu (q4∘q0 xL) (q4∘q0 alh) aQT aQU
theorem avf:acb xL aBC alh:=by
 intro c f b er h_;delta alh;obtain⟨h1,h2⟩:=h_;have g1:=h2.pos;have g2:=h2.n;have g3:=h2.r;have g4:=h1.2.2;have w1:i64.wrap (c.pos-c.n)=c.pos-c.n:=bM (by omega) (by omega);have w2:i64.wrap ((c.pos-c.n).tdiv 1024)=(c.pos-c.n)/1024:=by rw[Int.tdiv_eq_ediv_of_nonneg (by omega),bM (by omega) (by omega)]
 have e0:ED c=c.pos-c.n:=w1;have hp:xK ((c.pos-c.n)/1024) c f b er:=⟨h1,h2,by omega,by omega⟩;obtain⟨k1,k2⟩:=Q2 (s:=(c.pos-c.n)/1024) (f:=f) h1 h2;have q1:(kP ((c.pos-c.n)/1024) c f b er).2.1.pos=c.pos:=rfl;have q2:(kP ((c.pos-c.n)/1024) c f b er).2.1.n=c.n:=rfl;simp only[aBC,EE,UT,fg,e0,w2,bF,b9,bH];unfold iH aHX;generalize kP ((c.pos-c.n)/1024) c f b er=x at*;have hf:=k1.fl h1;have hl:=adS k2.word k2.n;rw[alg k2.word k2.n];unfold Cu.bytes at hl ⊢;have g5:=k2.n;rw[show c.pos-c.n=x.2.1.pos-x.2.1.n by rw[q1,q2]];refine⟨by rw[q1,q2];exact hp,fun c1=>?_,fun c1=>?_⟩
 ·rw[if_neg (fun h=>h c1)];refine⟨⟨by decide,by decide⟩,⟨by decide,by omega,by omega⟩,⟨hf,k2.r,by omega⟩,rfl⟩
 ·rw[if_pos c1];rfl
theorem Zf:aQV.Ok aA 201:=ay (bI alc (bI SN (bI sO bU))) func201 call201 (ks:=eU) (fun _=>bw @avf)
def Cu.put(c:Cu)(x:Int):Cu:=⟨c.r,c.pos+1,c.n+1,c.word.set c.n.toNat x,c.ready,c.err⟩
def Cu.none_(c:Cu):Cu:=⟨c.r,c.pos,0,c.word,c.ready,c.err⟩
def gT(x:Int)(c:Cu)(f:Fl)(b er:ab):Int×CF:=if c.n+1<8 then(0,c.put x,f,b,er)else if(iH (c.put x) f b er).1≠0 then iH (c.put x) f b er else(0,(iH (c.put x) f b er).2.1.none_,(iH (c.put x) f b er).2.2)
abbrev aQW:cl (List LV) (Int×Unit):=bR (bO (cr 0 0)) (bD (bO (bX .u8)) bG)
def K0(c:Cu):Int:=i64.wrap (c.pos+1)
def EF(c:Cu):Int:=i64.wrap (c.n+1)
def K1(x:Int)(c:Cu):ab:=c.word.set (0+c.n.toNat) x
def iQ(x:Int)(c:Cu):Cu:= {r:=c.r,pos:=K0 c,n:=EF c,word:=K1 x c,ready:=c.ready,err:=c.err}
def aBD(x:Int)(c:Cu)(f:Fl)(b er:ab):Tr Ze:=(.need (0≤c.n∧c.n<8) (.ite (decide (EF c< 8)) (.ret (0,{r:=c.r,pos:=K0 c,n:=EF c,word:=K1 x c,ready:=c.ready,err:=c.err},f,b,er)) (.need (xL (iQ x c) f b er) (.ite ((iH (iQ x c) f b er).1==0) (.ret ((iH (iQ x c) f b er).1,{r:=(iH (iQ x c) f b er).2.1.r,pos:=(iH (iQ x c) f b er).2.1.pos,n:=0,word:=(iH (iQ x c) f b er).2.1.word,ready:=(iH (iQ x c) f b er).2.1.ready,err:=(iH (iQ x c) f b er).2.1.err},(iH (iQ x c) f b er).2.2.1,(iH (iQ x c) f b er).2.2.2.1,(iH (iQ x c) f b er).2.2.2.2)) (.ret ((iH (iQ x c) f b er).1,(iH (iQ x c) f b er).2.1,(iH (iQ x c) f b er).2.2.1,(iH (iQ x c) f b er).2.2.2.1,(iH (iQ x c) f b er).2.2.2.2))))))
theorem ali{c:Cu}(h:bL c.word):bL c.bytes:=(h.take _).append (bL.rep _ ⟨by decide,by decide⟩)
theorem BC{c:Cu}{f:Fl}{b er:ab}(h:dE b er)(hc:rJ c er):Kp b er (iH c f b er).2.2.2.1 (iH c f b er).2.2.2.2∧rJ (iH c f b er).2.1 (iH c f b er).2.2.2.2∧(iH c f b er).2.1.pos=c.pos∧(iH c f b er).2.1.n=c.n∧(iH c f b er).2.1.r=c.r∧(iH c f b er).2.1.err=(iH c f b er).1:=by
 obtain⟨k1,k2⟩:=Q2 (s:=(c.pos-c.n)/1024) (f:=f) h hc;unfold iH aHX;have q1:(kP ((c.pos-c.n)/1024) c f b er).2.1.pos=c.pos:=rfl;have q2:(kP ((c.pos-c.n)/1024) c f b er).2.1.n=c.n:=rfl;have q3:(kP ((c.pos-c.n)/1024) c f b er).2.1.r=c.r:=rfl;generalize kP ((c.pos-c.n)/1024) c f b er=x at*;split
 ·exact⟨k1,⟨k2.r,k2.word,k2.by_,k2.n,k2.pos,k2.ready⟩,q1,q2,q3,rfl⟩
 ·have k3:=qQ (f:=x.2.2.1) (b:=x.2.2.2.1) (er:=x.2.2.2.2) (r:=x.2.1.r) (p:=x.2.1.pos-x.2.1.n) (ali k2.by_);exact⟨k1.trans k3,⟨k2.r,k2.word,k2.by_,k2.n,k2.pos,k2.ready⟩,q1,q2,q3,rfl⟩
theorem UU{c:Cu}{er:ab}{x:Int}(hc:rJ c er)(h1:c.n<8)(h2:c.pos+1≤1024*c.r.2)(hx:By x):rJ (c.put x) er:=by
 have h3:=hc.n;have h4:=hc.pos;exact⟨hc.r,by show(c.word.set _ _).length=8;rw[List.length_set];exact hc.word,hc.by_.set _ hx,⟨by show 0≤c.n+1;omega,by show c.n+1≤8;omega⟩,⟨by show c.n+1≤c.pos+1;omega,h2⟩,hc.ready⟩
theorem Q3{x:Int}{c:Cu}{f:Fl}{b er:ab}(h:dE b er)(hc:rJ c er)(h1:c.n<8)(h2:c.pos+1≤1024*c.r.2)(hx:By x):Kp b er (gT x c f b er).2.2.2.1 (gT x c f b er).2.2.2.2∧rJ (gT x c f b er).2.1 (gT x c f b er).2.2.2.2∧(gT x c f b er).2.1.pos=c.pos+1∧(gT x c f b er).2.1.r=c.r∧((gT x c f b er).1=0→(gT x c f b er).2.1.n<8∧(c.err=0→(gT x c f b er).2.1.err=0)):=by
 have hp:=UU hc h1 h2 hx;have h3:=hc.n;unfold gT;split
 ·rename_i c1;exact⟨.rfl,hp,rfl,rfl,fun _=>⟨c1,id⟩⟩
 ·obtain⟨k1,k2,k3,k4,k5,k6⟩:=BC (f:=f) h hp;split
  ·rename_i c1 c2;exact⟨k1,k2,k3,k5,fun h=>absurd h c2⟩
  ·rename_i c1 c2;have c2:=Decidable.not_not.1 c2;refine⟨k1,⟨k2.r,k2.word,k2.by_,⟨by show(0:Int)≤0;decide,by show(0:Int)≤8;decide⟩,⟨?_,k2.pos.2⟩,k2.ready⟩,k3,k5,fun _=>⟨by show(0:Int)<8;decide,fun _=>k6.trans c2⟩⟩;show 0≤(iH (c.put x) f b er).2.1.pos;rw[k3];have:=hc.pos;show 0≤c.pos+1;omega
abbrev aZA:cl bE Cu:=fe 275 (cCu 0)
abbrev BD(x:Int)(c:Cu)(f:Fl)(b er:ab):Prop:=dE b er∧rJ c er∧c.n<8∧c.pos+1≤1024*c.r.2∧By x
abbrev alj(x:Int)(c:Cu)(f:Fl)(b er:ab):Ze:=gT x c f b er
def aQZ:bT:=cj [] aQW hCu (q4∘q1 BD) (q4∘q1 alj) aQT aQU
theorem avg:acf BD aBD alj:=by
 intro x c f b er h_;delta alj;obtain⟨h1,h2,h3,h4,h5⟩:=h_;have g1:=h2.pos;have g2:=h2.n;have g3:=h2.r;have g4:=h1.2.2;have w1:i64.wrap (c.pos+1)=c.pos+1:=bM (by omega) (by omega);have w2:i64.wrap (c.n+1)=c.n+1:=bM (by omega) (by omega);have e0:iQ x c=c.put x:=by unfold iQ K1 EF K0 Cu.put;rw[w1,w2,Nat.zero_add]
 have hp:xL (c.put x) f b er:=⟨h1,UU h2 h3 h4 h5⟩;simp only[aBD,e0,K0,EF,K1,w1,w2,bF,bW,cd,bH,gT];refine⟨⟨g2.1,h3⟩,fun c1=>?_,fun c1=>⟨hp,fun c2=>?_,fun c2=>?_⟩⟩
 ·rw[if_pos c1,Nat.zero_add];rfl
 ·rw[if_neg c1,if_neg (fun h=>h c2),c2];rfl
 ·rw[if_neg c1,if_pos c2]
theorem Zh:aQZ.Ok aA 200:=ay (bI Zf bU) func200 call200 (ks:=eU) (fun x_=>bw (@avg x_.1))
def o8:ab→Cu→Fl→ab→ab→Int×CF
 | [],c,f,b,er=>(0,c,f,b,er)
 |x::l,c,f,b,er=>if(gT x c f b er).1≠0 then gT x c f b er else o8 l (gT x c f b er).2.1 (gT x c f b er).2.2.1 (gT x c f b er).2.2.2.1 (gT x c f b er).2.2.2.2
abbrev EG:Type:=ab×Int×Int×Cu×Fl×ab×ab
abbrev alk:cl St EG:=(dy (bR (bO (cr (0) (0))) (jk 34 (bD (bO (gx false false ae)) (bD (bO (bX i64)) (bD (bO (bX i64)) (jk 10 bG)))))) (bD (cb p6) (bD (cb dA) (bD (dd (0) ae) (bD (dd (0) ag) bG))))).jr (fun y=>(y.1.1,y.1.2.1,y.1.2.2.1,y.2.1,y.2.2.1,y.2.2.2.1,y.2.2.2.2.1)) (fun x=>((x.1,(x.2.1,(x.2.2.1,()))),(x.2.2.2.1,(x.2.2.2.2.1,(x.2.2.2.2.2.1,(x.2.2.2.2.2.2,())))))) (fun _=>rfl)
abbrev alm:List Wk:= [.fr (eH 48 [(0,.bV),(35,.bV),(36,.bV),(37,.bV)]),.cu,.bS,.ck]
abbrev aHY:Exit→List Wk:=ua alm 1 [.fr (eH 48 []),.cu,.bS,.ck] [.fr (eH 48 [(4,.bV)]),.cu,.bS,.ck]
def jQ(x:ab)(i:Int)(c:Cu)(f:Fl)(b er:ab):Int×Cu×Fl×ab×ab:=gT (x.getD i.toNat 0) c f b er
abbrev avh(x:Ze):Exit×St:=(Exit.ret,⟨(gE 4 (LV.one (VV.sc (SV.int i64 (SI.sym x.1)))::(gE 43 []))),[some (p6.wr x.2.1),some (dA.wr x.2.2.1),some (bE.own 0 ae x.2.2.2.1),some (bE.own 0 ag x.2.2.2.2)]⟩)
abbrev K3:Type:=Cu×Fl×ab×ab
abbrev avi(x:K3):Exit×St:=(Exit.exit 1,⟨(gE 48 []),[some (p6.wr x.1),some (dA.wr x.2.1),some (bE.own 0 ae x.2.2.1),some (bE.own 0 ag x.2.2.2)]⟩)
def K4(x:ab)(n i:Int)(c:Cu)(f:Fl)(b er:ab):Tr (EG⊕(Ze⊕K3)):=.ite (decide (i<n)) (.need (0≤i∧i<(↑x.length:Int)) (.need (BD (x.getD i.toNat 0) c f b er) (.ite ((jQ x i c f b er).1 !=0) (.ret (.inr (.inl ((jQ x i c f b er).1,(jQ x i c f b er).2.1,(jQ x i c f b er).2.2.1,(jQ x i c f b er).2.2.2.1,(jQ x i c f b er).2.2.2.2)))) (.ret (.inl (x,n,i64.wrap (i+1),(jQ x i c f b er).2.1,(jQ x i c f b er).2.2.1,(jQ x i c f b er).2.2.2.1,(jQ x i c f b er).2.2.2.2)))))) (.ret (.inr (.inr (c,f,b,er))))
abbrev EH(x:ab)(n i:Int)(c:Cu)(f:ai)(b er:ab):Prop:=dE b er∧rJ c er∧c.n<8∧n=x.length∧0≤i∧i≤n∧c.pos+(n-i)≤1024*c.r.2∧bL x∧n<1099511627776
abbrev UW(x:ab)(n i:Int)(c:Cu)(f:ai)(b er:ab):Bool:=decide ((o8 (x.drop i.toNat) c f b er).1≠0)
abbrev UX(x:ab)(n i:Int)(c:Cu)(f:ai)(b er:ab):Ze:=o8 (x.drop i.toNat) c f b er
abbrev UY(x:ab)(n i:Int)(c:Cu)(f:ai)(b er:ab):K3:=(o8 (x.drop i.toNat) c f b er).2
abbrev aln:EG→cT:=oU (aG EH) (aG UW) (aG UX) (aG UY) avh avi
theorem alo(x:ab)(n i:Int)(c:Cu)(f:ai)(b er:ab)(h_:EH x n i c f b er):eG (fun x_:EG=>K4 x_.1 x_.2.1 x_.2.2.1 x_.2.2.2.1 x_.2.2.2.2.1 x_.2.2.2.2.2.1 x_.2.2.2.2.2.2) (x,n,i,c,f,b,er) (bif UW x n i c f b er then .inl (UX x n i c f b er)else .inr (UY x n i c f b er)):=by
 delta UW UX UY;obtain⟨h1,h2,h3,rfl,h5,h6,h7,h8,h9⟩:=h_;obtain⟨k,rfl⟩:∃m:Nat,i=m:=⟨i.toNat,by omega⟩;obtain⟨j,hj⟩:∃j,x.length-k=j:=⟨_,rfl⟩;rw[Int.toNat_natCast];induction j generalizing k c f b er with
 |zero=>
  refine .stop ?_;have d:¬ (k:Int)<x.length:=by omega
  rw[List.drop_of_length_le (by omega),o8];simp[K4,d,bY,bH]
 |succ j ih=>
  have d:(k:Int)<x.length:=by omega
  have hw:i64.wrap ((k:Int)+1)=((k+1:Nat):Int):=by rw[bM (by omega) (by omega)];rfl
  have hx:=h8.getD k;have hp:BD (x.getD k 0) c f b er:=⟨h1,h2,h3,by omega,hx⟩;obtain⟨k1,k2,k3,k4,k5⟩:=Q3 (x:=x.getD k 0) (f:=f) h1 h2 h3 (by omega) hx;rw[gU 0 (by omega),o8];by_cases c1:(gT (x.getD k 0) c f b er).1=0
  ·rw[if_neg (fun h=>h c1)];have k5:=k5 c1;have w:=ih (gT (x.getD k 0) c f b er).2.1 (gT (x.getD k 0) c f b er).2.2.1 (gT (x.getD k 0) c f b er).2.2.2.1 (gT (x.getD k 0) c f b er).2.2.2.2 (k1.fl h1) k2 k5.1 (k+1) (by omega) (by omega) (by rw[k3,k4];omega) (by omega);refine .go ?_ w;simp only[K4,jQ,hw,bW,bF,b9,bH,Int.toNat_natCast];exact⟨fun _=>⟨⟨by omega,d⟩,hp,fun _=>by trivial,fun h=>absurd c1 h⟩,fun h=>absurd d h⟩
  ·rw[if_pos c1];refine .stop ?_;simp only[K4,jQ,hw,bW,bF,b9,bH,Int.toNat_natCast];exact⟨fun _=>⟨⟨by omega,d⟩,hp,fun h=>absurd h c1,fun _=>by rw[decide_eq_true c1];rfl⟩,fun h=>absurd d h⟩
theorem adT(y_):∀x:EG,Ex aA (hCu.wr y_) (.loop (cG f155 1)) (alk.wr x) (aln x):=ee bJ ((bI kg (bI Zh bU))) (ws:=aHY) (cn.nil _) (fun _=>by kernel_rfl) (fun z=>by cases z<;>(intro e;cases e)) qw (aV @alo)
def nQ(x:ab)(c:Cu)(f:Fl)(b er:ab):Int×Cu×Fl×ab×ab:=o8 (List.drop 0 x) c f b er
def UZ(x:ab):Int:=(↑x.length:Int)
def aBE(x:ab)(c:Cu)(f:Fl)(b er:ab):Tr Ze:=.ite (c.err !=0) (.ret (c.err,c,f,b,er)) (.need (ga c.r f b er) (.ite (decide (i64.wrap (1024*c.r.2-c.pos)<UZ x)) (.ret (2,c,f,b,er)) (.need (EH x (UZ x) 0 c f b er) (.ite (decide ¬(nQ x c f b er).1=0) (.ret ((nQ x c f b er).1,(nQ x c f b er).2.1,(nQ x c f b er).2.2.1,(nQ x c f b er).2.2.2.1,(nQ x c f b er).2.2.2.2)) (.ret (0,(nQ x c f b er).2.1,(nQ x c f b er).2.2.1,(nQ x c f b er).2.2.2.1,(nQ x c f b er).2.2.2.2))))))
structure AK (c:Cu) (er:ab):Prop extends rJ c er where
 free:c.err=0→c.n<8
def k8(x:ab)(c:Cu)(f:Fl)(b er:ab):Int×CF:=if c.err≠0 then(c.err,c,f,b,er)else if 1024*c.r.2-c.pos<x.length then(2,c,f,b,er)else o8 x c f b er
abbrev K5(x:ab)(c:Cu)(f:Fl)(b er:ab):Prop:=dE b er∧AK c er∧bL x∧x.length<1099511627776
abbrev alp(x:ab)(c:Cu)(f:Fl)(b er:ab):Ze:=k8 x c f b er
def aQ2:bT:=cj [none,some u8] ((bR (bO (cr 0 0)) (bD (bO (gx false false u8)) bG))) hCu (q4∘q1 K5) (q4∘q1 alp) aQT aQU
theorem avj:acf K5 aBE alp:=by
 intro x c f b er h_;delta alp;obtain⟨h1,h2,h3,h4⟩:=h_;have g1:=h2.pos;have g2:=h2.n;have g3:=h2.r;have g4:=h1.2.2;have w1:i64.wrap (1024*c.r.2-c.pos)=1024*c.r.2-c.pos:=bM (by omega) (by omega);have hs:ga c.r f b er:=⟨by omega,by omega⟩;simp only[aBE,nQ,UZ,w1,List.drop_zero,bF,b9,bW,bH,k8];refine⟨fun c1=>⟨hs,fun c2=>?_,fun c2=>⟨⟨h1,h2.torJ,h2.free c1,rfl,by omega,by omega,by omega,h3,by omega⟩,fun c3=>?_,fun c3=>?_⟩⟩,fun c1=>?_⟩
 ·rw[if_neg (fun h=>h c1),if_pos c2]
 ·rw[if_neg (fun h=>h c1),if_neg c2]
 ·rw[if_neg (fun h=>h c1),if_neg c2];have c3:(o8 x c f b er).1=0:=by omega
  exact Prod.ext c3.symm rfl
 ·rw[if_pos c1]
theorem avk:aQ2.Ok aA 155:=az (bI kg (bI Zh bU)) func155 call155 (ks:=eU) alk alm aln adT (fun x_=>bw (@avj x_.1))
def aBF(c:Cu)(f:Fl)(b er:ab):Tr Ze:=.ite ((c.err !=0)==false) (.ite (c.n==0) (.ret (c.err,c,f,b,er)) (.need (xL c f b er) (.ret ((iH c f b er).1,(iH c f b er).2.1,(iH c f b er).2.2.1,(iH c f b er).2.2.2.1,(iH c f b er).2.2.2.2)))) (.ret (c.err,c,f,b,er))
def AL(c:Cu)(f:Fl)(b er:ab):Int×CF:=if c.err≠0∨c.n=0 then(c.err,c,f,b,er)else iH c f b er
abbrev BE(c:Cu)(f:Fl)(b er:ab):Prop:=dE b er∧rJ c er
abbrev alq(c:Cu)(f:Fl)(b er:ab):Ze:=AL c f b er
def aQ5:bT:=cj [] gL hCu (q4∘q0 BE) (q4∘q0 alq) aQT aQU
theorem avl:acb BE aBF alq:=by
 intro c f b er h_;delta alq;simp only[aBF,cy,cd,bF,bH,AL];refine⟨fun c1=>⟨fun c2=>?_,fun c2=>⟨h_,?_⟩⟩,fun c1=>?_⟩
 ·rw[if_pos (.inr c2)]
 ·rw[if_neg (fun h=>h.elim (fun h=>h c1) c2)]
 ·rw[if_pos (.inl c1)]
theorem avm:aQ5.Ok aA 156:=ay (bI Zf bU) func156 call156 (ks:=eU) (fun _=>bw @avl)
def tM(p:Int):Int:=i64.wrap (p-p.tmod 8)
def oK(r:Int×Int)(p:Int)(f:Fl)(b er:ab):ab×Int:=if f.2.1=true then([],5)else if 0≤tM p∧0≤p.tmod 8∧tM p+p.tmod (8:Int)≤1024*r.2 then(cO b (1024*r.1+tM p) (p.tmod 8),0)else([],2)
def kQ(r:Int×Int)(p:Int)(f:Fl)(b er:ab):ab:=cP [0,0,0,0,0,0,0,0] 0 8 (oK r p f b er).1
abbrev xM:Type:=Cu
abbrev Zk(x:xM):LV:=LV.dB [VV.sc (SV.ptr 3 0),VV.sc (SV.int i64 (SI.lit 0))]
abbrev Zl(x:xM):List ao:= [(3,aZA.wr x)]
abbrev BH:Type:=IK⊕sk⊕xM
abbrev avr:BH→LV:=Sum.elim aPm (Sum.elim aPo Zk)
abbrev avs:BH→List ao:=Sum.elim aEQ (Sum.elim aEE Zl)
def U0(r:Int×Int)(p:Int)(f:Fl)(b er:ab):Tr (IK⊕sk⊕xM):=(.ite (decide (p<0)==false) (.need (ga r f b er) (.ite (decide (1024*r.2<p)) (.ret (.inl ())) (.need (fO r (tM p) (p.tmod 8) f b er) (.ite ((oK r p f b er).2 !=0) (.ret (.inr (.inl ((oK r p f b er).2)))) (.ret (.inr (.inr ({r:=r,pos:=p,n:=p.tmod 8,word:= [(kQ r p f b er).getD (nat_lit 0) 0,(kQ r p f b er).getD (nat_lit 1) 0,(kQ r p f b er).getD (nat_lit 2) 0,(kQ r p f b er).getD (nat_lit 3) 0,(kQ r p f b er).getD (nat_lit 4) 0,(kQ r p f b er).getD (nat_lit 5) 0,(kQ r p f b er).getD (nat_lit 6) 0,(kQ r p f b er).getD (nat_lit 7) 0],ready:=i64.wrap ((i64.wrap (i64.wrap (p+1024)-1)).tdiv 1024),err:=0})))))))) (.ret (.inl ())))
theorem aQ6{w:ab}(h:w.length=8): [w.getD 0 0,w.getD 1 0,w.getD 2 0,w.getD 3 0,w.getD 4 0,w.getD 5 0,w.getD 6 0,w.getD 7 0]=w:=by
 match w,h with
 | [a,b,c,d,e,f,g,i],_=>rfl
def ry(r:Int×Int)(p:Int)(b:ab):Cu:=⟨r,p,p%8,cO b (1024*r.1+(p-p%8)) (p%8)++List.replicate (8-(p%8).toNat) 0,(p+1023)/1024,0⟩
abbrev Q4(r:Int×Int)(p:Int)(f:Fl)(b er:ab):Prop:=dE b er∧iO r er
abbrev U1(r:Int×Int)(p:Int)(f:Fl)(b er:ab):Tr BH:=.ite (!decide (0≤p∧p≤1024*r.2)) (.ret (.inl ())) (.ite f.2.1 (.ret (.inr (.inl 5))) (.ret (.inr (.inr (ry r p b)))))
def aHZ:bT:=sR [] ((bD (jf cRg) (bD (bO (bX .i64)) bG))) ow (q3∘q2 Q4) (q3∘q2 U1) avr avs
theorem alr(r:Int×Int)(p:Int)(f:Fl)(b er:ab)(h_:Q4 r p f b er)(z_:BH)(fS:(U1 r p f b er).Is z_):(U0 r p f b er).Is z_:=by
 delta U1 at fS;obtain⟨h1,h2⟩:=h_;have fS:=cD.1 fS;have hs:ga r f b er:=⟨by omega,by omega⟩;have hr:∀x y,fO r x y f b er:=fun _ _=>⟨h1,h2⟩;by_cases c1:0≤p∧p≤1024*r.2
 ·have hz:=bY.1 (fS.2 c1);have t8:p.tmod 8=p%8:=Int.tmod_eq_emod_of_nonneg c1.1;have a0:tM p=p-p%8:=by unfold tM;rw[t8,bM (by omega) (by omega)]
  have d1:(decide (p<0)==false)=true:=by simp;omega
  have d2:decide (1024*r.2<p)=false:=decide_eq_false (by omega);have hin:0≤p-p%8∧0≤p%8∧p-p%8+p%8≤1024*r.2:=⟨by omega,by omega,by omega⟩;simp only[U0,d1,d2,dH,dV,bF];refine⟨hs,hr _ _,?_⟩;cases ho:f.2.1 with
  |true=>
   obtain rfl:=hz.1 ho;have e:(oK r p f b er).2=5:=(by unfold oK;rw[if_pos ho]);simp only[e];exact⟨fun _=>rfl,fun h=>by cases h⟩
  |false=>
   obtain rfl:=hz.2 ho;have e:oK r p f b er=(cO b (1024*r.1+(p-p%8)) (p%8),0):=(by unfold oK;rw[a0,t8,if_neg (by rw[ho];decide),if_pos hin]);have hl:=gg (b:=b) (p:=1024*r.1+(p-p%8)) (m:=p%8) ⟨by omega,by omega,by omega⟩;have e4:kQ r p f b er=cO b (1024*r.1+(p-p%8)) (p%8)++List.replicate (8-(p%8).toNat) 0:=by
    unfold kQ;rw[e];show cP (List.replicate 8 0) 0 8 (cO b (1024*r.1+(p-p%8)) (p%8))=_;unfold cP;rw[List.take_zero,List.nil_append,List.take_of_length_le (by omega),List.drop_replicate,Nat.zero_add,Nat.min_eq_right (by omega)];congr 2;omega
   have l8:(kQ r p f b er).length=8:=(by rw[e4,List.length_append,List.length_replicate];omega);have e5:(oK r p f b er).2=0:=(by rw[e]);simp only[e5,bne_self_eq_false,dV,bH];have wr:i64.wrap ((i64.wrap (i64.wrap (p+1024)-1)).tdiv 1024)=(p+1023)/1024:=by
    rw[bM (n:=p+1024) (by omega) (by omega),bM (n:=p+1024-1) (by omega) (by omega),Int.tdiv_eq_ediv_of_nonneg (by omega),bM (by omega) (by omega)];omega
   rw[wr,t8];unfold ry;rw[← e4];exact congrArg (fun w=>Sum.inr (Sum.inr (Cu.mk r p (p%8) w ((p+1023)/1024) 0))) (aQ6 l8)
 ·obtain rfl:=fS.1 c1;simp only[U0,cv,bF,bW];refine⟨fun c2=>⟨hs,fun c3=>rfl,fun c3=>absurd ⟨by omega,by omega⟩ c1⟩,fun _=>rfl⟩
theorem als:aHZ.Ok aA 159:=kO bJ ((bI kg (bI lE bU))) func159 (by kernel_rfl) call159 (ks:= [.bS,.ck,.iN 3 5 8 .u8,.cK 3 [.bV,.bV,.bV,.sym,.sym,.bV,.sym,.sym]]) (fun _ _=>cn.nil _) (fun _ _=>by kernel_rfl) fun x_ y_ h=>alr x_.1 x_.2.1 y_.1 y_.2.1 y_.2.2.1 h
abbrev Rc:Type:=ah
def aBG(j:Jn)(f:Fl)(b er:ab)(l:List ah):Tr sk:=.ite (j.2.2.2.2.1==false) (.ite (j.2.2.1==(-1)) (.ret (0)) (.ret (i64.wrap (1024-j.2.2.2.1)))) (.ret (0))
def Q5(j:Jn):Int:=if j.2.2.2.2.1=true∨j.2.2.1= -1 then 0 else 1024-j.2.2.2.1
abbrev K6(j:Jn)(f:Fl)(b er:ab)(l:List Rc):Prop:=0≤j.2.2.2.1∧j.2.2.2.1≤1024
abbrev alu(j:Jn)(f:Fl)(b er:ab)(l:List Rc):sk:=Q5 j
def aQ9:bT:=cj [] gL ajT (q5∘q0 K6) (q5∘q0 alu) aED aEE
theorem avt:acf K6 aBG alu:=by
 intro j f b er l h_;delta alu;simp only[aBG,Q5,bF,cv,cA,cD,cz,bW,b9,cC,cy,cx,cZ,cQ,cd,cm,bH];try simp only[bY,bF,cv,cA,cD,cz,bW,b9,cC,cy,cx,cZ,cQ,cd,cm,bH]
 grind [bM]
theorem avu:aQ9.Ok aA 188:=ay bU func188 call188 (ks:=eU) (fun _=>bx @avt)
def aH0(j:Jn)(e:Int):Jn:=(j.1,j.2.1,j.2.2.1,j.2.2.2.1,j.2.2.2.2.1,e)
abbrev Zn:Type:=Bool×Jn
abbrev aRa(x:Zn):LV:=aw (au x.1)
abbrev aRb(x:Zn):List ao:= [(0,adG.wr x.2)]
def aRc(e:Int)(j:Jn)(f:Fl)(b er:ab)(l:List ah):Tr Zn:=.ret (e !=0,(j.1,j.2.1,j.2.2.1,j.2.2.2.1,j.2.2.2.2.1,e))
abbrev xN(e:Int)(j:Jn)(f:Fl)(b er:ab)(l:List Rc):Prop:=True
abbrev alv(e:Int)(j:Jn)(f:Fl)(b er:ab)(l:List Rc):Zn:=(e !=0,aH0 j e)
def aRd:bT:=cj [] ak9 ajT (q5∘q1 xN) (q5∘q1 alv) aRa aRb
theorem avv:ac1 xN aRc alv:=by
 intro e j f b er l h_;delta alv;exact rfl
theorem Zo:aRd.Ok aA 189:=ay bU func189 call189 (ks:=eU) (fun x_=>bx (@avv x_.1))
def K7(j:Jn):Int:=i64.wrap (i64.wrap (j.2.2.1*1024)+j.2.2.2.1)
def U2(j:Jn)(f:Fl)(b er:ab)(l:List ah):Int:=i64.wrap ((↑l.length:Int)+1)
def zF(k:Int)(x:ab)(j:Jn)(f:Fl)(b er:ab)(l:List ah):Int×Int×ab:=(k,U2 j f b er l,x)
def mA(k:Int)(x:ab)(j:Jn)(f:Fl)(b er:ab)(l:List ah):Int×Fl×ab:=gM f b j.1 (K7 j) (fD (zF k x j f b er l))
def EJ(k:Int)(x:ab)(j:Jn)(f:Fl)(b er:ab)(l:List ah):Int:=(↑(fD (zF k x j f b er l)).length:Int)
abbrev Zp:Type:=Int×Jn×Fl×ab×(List ah)
abbrev aRe(x:Zp):LV:=aw (ar x.1)
abbrev aRf(x:Zp):List ao:= [(0,aPi.wr x.2.1),(1,dA.wr x.2.2.1),(2,bE.own 0 ae x.2.2.2.1),(4,bE.own 1 (ag.pair (ag.pair ae.sl)) x.2.2.2.2)]
def aBH(k:Int)(x:ab)(j:Jn)(f:Fl)(b er:ab)(l:List ah):Tr Zp:=.need (x.length≤70368744177664) (.need (kH (zF k x j f b er l)) (.ite (j.2.2.2.2.2 !=0) (.ret (j.2.2.2.2.2,j,f,b,l)) (.ite ((k==1)==false) (.ite (EJ k x j f b er l==0) (.ret (1,j,f,b,l)) (.need (K6 j f b er l) (.ite (decide (Q5 j<EJ k x j f b er l)) (.ret (14,j,f,b,l)) (.need (eB j.1 (K7 j) (fD (zF k x j f b er l)) f b er) (.need (xN (mA k x j f b er l).1 j (mA k x j f b er l).2.1 (mA k x j f b er l).2.2 er l) (.ite ((mA k x j f b er l).1 !=0) (.ret ((mA k x j f b er l).1,(j.1,j.2.1,j.2.2.1,j.2.2.2.1,j.2.2.2.2.1,(mA k x j f b er l).1),(mA k x j f b er l).2.1,(mA k x j f b er l).2.2,l)) (.need ((l.length+1)*40≤70368744177664∧l.length+1≤70368744177664) (.ret (0,(j.1,j.2.1,j.2.2.1,i64.wrap (j.2.2.2.1+EJ k x j f b er l),j.2.2.2.2.1,(mA k x j f b er l).1),(mA k x j f b er l).2.1,(mA k x j f b er l).2.2,l++ [(k,U2 j f b er l,x)]))))))))) (.ret (1,j,f,b,l)))))
structure mY (j:Jn) (l:List Rc) (er:ab):Prop where
 rg:iO j.1 er
 two:j.1.2=2
 ep:0≤j.2.1∧j.2.1≤4294967295
 cur: -1≤j.2.2.1∧j.2.2.1≤1
 used:0≤j.2.2.2.1∧j.2.2.2.1≤1024
 len:16*(l.length:Int)≤j.2.2.2.1
 avw:gK l
theorem sU{r:Rc}(h:fD r≠ []):16≤(fD r).length∧(fD r).length≤535∧aiW r:=by
 unfold fD at h ⊢;split at h
 ·rename_i c;rw[if_pos c];have:=adF c.2.2.2.2;refine⟨?_,?_,c⟩<;>(simp only[List.length_append,mg,List.length_cons,List.length_nil];omega)
 ·exact absurd rfl h
theorem K8(x:Int):bL (mg x):=.cons (lT _) (.cons (lT _) (.cons (lT _) (.cons (lT _) .nil)))
def vn(k:Int)(l:List Rc)(x:ab):Rc:=(k,(l.length:Int)+1,x)
def alw(q:Int×Fl×ab)(k:Int)(x:ab)(j:Jn)(l:List Rc):Int×Jn×Fl×ab×List Rc:=if q.1≠0 then(q.1,aH0 j q.1,q.2.1,q.2.2,l)else(0,(j.1,j.2.1,j.2.2.1,j.2.2.2.1+(fD (vn k l x)).length,j.2.2.2.2.1,q.1),q.2.1,q.2.2,l++ [vn k l x])
def eZ(k:Int)(x:ab)(j:Jn)(f:Fl)(b er:ab)(l:List Rc):Int×Jn×Fl×ab×List Rc:=if j.2.2.2.2.2≠0 then(j.2.2.2.2.2,j,f,b,l)else if k=1∨fD (vn k l x)= []then(1,j,f,b,l)else if Q5 j<(fD (vn k l x)).length then(14,j,f,b,l) else alw (gM f b j.1 (1024*j.2.2.1+j.2.2.2.1) (fD (vn k l x))) k x j l
abbrev xO(k:Int)(x:ab)(j:Jn)(f:Fl)(b er:ab)(l:List Rc):Prop:=dE b er∧mY j l er∧bL x∧x.length<1099511627776
abbrev alx(k:Int)(x:ab)(j:Jn)(f:Fl)(b er:ab)(l:List Rc):Zp:=eZ k x j f b er l
def aRg:bT:=cj [none,none,some u8] QW ajT (q5∘q2 xO) (q5∘q2 alx) aRe aRf
theorem avx:ac2 xO aBH alx:=by
 intro k x j f b er l h_;delta alx;obtain⟨h1,h2,h3,h4⟩:=h_;have g1:=h2.used;have g2:=h2.len;have g3:=h2.cur;have w2:U2 j f b er l=(l.length:Int)+1:=bM (by omega) (by omega);have w3:zF k x j f b er l=vn k l x:=by unfold zF;rw[w2];rfl
 have e5:EJ k x j f b er l=(fD (vn k l x)).length:=by unfold EJ;rw[w3]
 have w0:K7 j=1024*j.2.2.1+j.2.2.2.1:=by unfold K7;rw[bM (n:=j.2.2.1*1024) (by omega) (by omega),bM (by omega) (by omega),Int.mul_comm]
 have hz:fD (vn k l x)= []↔((fD (vn k l x)).length:Int)=0:=by rw[← List.length_eq_zero_iff];omega
 simp only[aBH,mA,e5,w0,w2,w3,bF,b9,cx,cd,bW,bH,eZ];refine⟨by omega,trivial,fun c1=>⟨fun c2=>?_,fun c2=>⟨fun c3=>?_,fun c3=>?_⟩⟩,fun c1=>?_⟩
 ·rw[if_neg (fun h=>h c1),if_pos (.inl c2)]
 ·rw[if_neg (fun h=>h c1),if_pos (.inr (hz.2 c3))]
 ·have hn:¬ (k=1∨fD (vn k l x)= []):=fun h=>h.elim c2 fun h=>c3 (hz.1 h);have hl:=sU fun h=>c3 (hz.1 h);rw[if_neg (fun h=>h c1),if_neg hn];refine⟨g1,fun c4=>by rw[if_pos c4],fun c4=>?_⟩;rw[if_neg c4];unfold alw;refine⟨⟨h1,h2.rg,by omega⟩,trivial,fun c5=>⟨by omega,?_⟩,fun c5=>by rw[if_pos c5];rfl⟩;have hr:Q5 j≤1024-j.2.2.2.1:=by unfold Q5;split<;>omega
  rw[if_neg (fun h=>h c5),bM (by omega) (by omega)];rfl
 ·rw[if_pos c1]
theorem Zq:aRg.Ok aA 144:=ay (bI jA (bI w9 (bI avu (bI Zo (bI sO bU))))) func144 call144 (ks:= [.one 4,.fr [.sym],.cu,.bS,.ck]) (fun x_=>bx (@avx x_.1 x_.2.1))
def iu:Nat→List Rc→List Rc
 |_,[]=> []
 |k,x::l=>(x.1,(k:Int)+1,x.2.2)::iu (k+1) l
theorem Q6:∀ (k:Nat) (l:List Rc),(iu k l).length=l.length
 |_,[]=>rfl
 |k,x::l=>by rw[iu,List.length_cons,List.length_cons,Q6]
theorem tN:∀ (k:Nat) (l:List Rc),gK l→gK (iu k l)
 |_,[],_=>fun k h=>by simp[iu]at h
 |k,x::l,h=>fun i hi=>by
  cases i with
  |zero=>exact h 0 (by simp)
  |succ i=>
   rw[iu,List.getD_cons_succ];exact tN (k+1) l (fun i hi=>by have:=h (i+1) (by simp;omega);rwa [List.getD_cons_succ]at this) i (by rw[iu,List.length_cons]at hi;omega)
abbrev EK:Type:=Int×Int×(List ah)×(List ah)
abbrev aly:cl St EK:=(dy (bR (bO (pk (1) (0))) (jk 6 (bD (bO (bX i64)) (bD (bO (bX i64)) (jk 10 bG))))) (bD (dd (0) (ag.pair (ag.pair ae.sl))) (bD (dd (0) (ag.pair (ag.pair ae.sl))) bG))).jr (fun y=>(y.1.1,y.1.2.1,y.2.1,y.2.2.1)) (fun x=>((x.1,(x.2.1,())),(x.2.2.1,(x.2.2.2,())))) (fun _=>rfl)
abbrev alz:List Wk:= [.fr (eH 19 [(0,.bV),(7,.bV),(8,.bV)]),.cu,.bS,.ck]
abbrev aH1:Exit→List Wk:=ua alz 0 [.fr (eH 19 [(0,.bV)]),.cu,.bS,.ck] [.fr (eH 19 [(2,.bV)]),.cu,.bS,.ck]
def K9(i:Int):Int:=i64.wrap (i+1)
def La(i:Int)(l:List ah):Int×Int×ab:=l.getD i.toNat (0,0,[])
abbrev aH2(x:ajO):Exit×St:=(Exit.exit 0,⟨(LV.one (VV.sc (SV.sl 1 0))::(gE 18 [])),[some (bE.own 0 (ag.pair (ag.pair ae.sl)) x.1),some (bE.own 0 (ag.pair (ag.pair ae.sl)) x.2)]⟩)
def U4(n i:Int)(k l:List ah):Tr (EK⊕(ajO)):=.ite (decide (i<n)) (.need (0≤i∧i<(↑l.length:Int)) (.ret (.inl (n,K9 i,k,l.set i.toNat ((La i l).1,K9 i,(La i l).2.2))))) (.ret (.inr (k,l)))
theorem avy{α:Type}(l:List α)(k:Nat)(y z:α)(h:k<l.length):(l.set k y).take (k+1)=l.take k++ [y]∧(l.set k y).drop (k+1)=l.drop (k+1):=by
 constructor
 ·rw[List.take_add_one,List.take_set_of_le (Nat.le_refl _),List.getElem?_set_self h];rfl
 ·rw[List.drop_set_of_lt (by omega)]
abbrev EL(n i:Int)(k l:List ah):Prop:=0≤i∧i≤n∧n=l.length∧n<1099511627776
abbrev U5(n i:Int)(k l:List ah):ajO:=(k,l.take i.toNat++iu i.toNat (l.drop i.toNat))
abbrev alA:EK→cT:=gX (aD EL) (aD U5) aH2
theorem alB:aeW EL U4 U5:=by
 intro n i k l h_;delta U5;obtain⟨h1,h2,rfl,h4⟩:=h_;obtain⟨m,rfl⟩:∃m:Nat,i=m:=⟨i.toNat,by omega⟩;obtain⟨j,hj⟩:∃j,l.length-m=j:=⟨_,rfl⟩;rw[Int.toNat_natCast];induction j generalizing m l with
 |zero=>
  refine .stop ?_;have d:¬ (m:Int)<l.length:=by omega
  rw[List.drop_of_length_le (by omega),List.take_of_length_le (by omega)];simp[U4,d,bY,bH,iu]
 |succ j ih=>
  have d:(m:Int)<l.length:=by omega
  have hw:i64.wrap ((m:Int)+1)=((m+1:Nat):Int):=by rw[bM (by omega) (by omega)];rfl
  have hl:(l.set m ((l.getD m (0,0,[])).1,((m+1:Nat):Int),(l.getD m (0,0,[])).2.2)).length=l.length:=List.length_set;have w:=ih (l.set m ((l.getD m (0,0,[])).1,((m+1:Nat):Int),(l.getD m (0,0,[])).2.2)) (by rw[hl];omega) (m+1) (by omega) (by rw[hl];omega) (by rw[hl];omega);obtain⟨e1,e2⟩:=avy l m ((l.getD m (0,0,[])).1,((m+1:Nat):Int),(l.getD m (0,0,[])).2.2) (0,0,[]) (by omega);rw[e1,e2,hl,List.append_assoc,List.singleton_append]at w;rw[gU (0,0,[]) (by omega),iu];refine .go ?_ w;simp only[U4,K9,La,hw,bW,bF,bH,Int.toNat_natCast];exact⟨fun _=>⟨by omega,trivial⟩,fun h=>absurd d h⟩
theorem adU(y_):∀x:EK,Ex aA (zB.wr y_) (.loop (cG f191 0)) (aly.wr x) (alA x):=ee bJ ((bI Um bU)) (ws:=aH1) (cn.nil _) (fun _=>by kernel_rfl) (fun z e=>by cases e) im (aS @alB)
def aBI(l:List ah):Tr aul:=.need (Kb l) (.need (EL (↑l.length:Int) 0 l l) (.ret (List.take 0 l++iu 0 (List.drop 0 l))))
abbrev Lb(l:List Rc):Prop:=gK l∧l.length≤1000000
abbrev alC(l:List Rc):aul:=iu 0 l
def aRj:bT:=cj [] auj zB (q1∘q0 Lb) (q1∘q0 alC) aZh aZi
theorem avz:abY Lb aBI alC:=by
 intro l h_;delta alC;simp only[aBI,bF,bH,List.take_zero,List.drop_zero,List.nil_append];exact⟨h_,⟨by decide,by omega,rfl,by have:=h_.2;omega⟩,trivial⟩
theorem avA:aRj.Ok aA 191:=az (bI Um bU) func191 call191 (ks:=eU) aly alz alA adU (fun _=>bq @avz)
abbrev aRk(x:Rc)(out:ab):Prop:=x.1=1∨fD x= []∨1008-(out.length:Int)<(fD x).length
def iR:List Rc→ab→ab×Bool
 | [],out=>(out,true)
 |x::l,out=>if aRk x out then([],false)else iR l (out++fD x)
theorem Zs:∀ {l:List Rc} {out:ab},(iR l out).2=false→(iR l out).1= []
 | [],_,h=>by cases h
 |x::l,out,h=>by
  rw[iR]at h ⊢;split at h
  ·rename_i c;rw[if_pos c]
  ·rename_i c;rw[if_neg c];exact Zs h
theorem EM:∀ {l:List Rc} {out:ab},out.length≤1008→(iR l out).1.length≤1008
 | [],_,h=>h
 |x::l,out,h=>by
  rw[iR];split
  ·simp
  ·rename_i c;have:¬ 1008-(out.length:Int)<(fD x).length:=fun h=>c (.inr (.inr h));exact EM (by rw[List.length_append];omega)
abbrev EN:Type:=Int×Int×(List ah)×ab
abbrev alD:cl St EN:=(dy (jk 4 (bR (bO (pk (1) (0))) (jk 3 (bR (bO (pk (0) (0))) (bD (bO (bX i64)) (bD (bO (bX i64)) (jk 26 bG))))))) (bD (dd (0) (ag.pair (ag.pair ae.sl))) (bD (dd (0) ae) bG))).jr (fun y=>(y.1.1,y.1.2.1,y.2.1,y.2.2.1)) (fun x=>((x.1,(x.2.1,())),(x.2.2.1,(x.2.2.2,())))) (fun _=>rfl)
abbrev alE:List Wk:= [.kA 4 u8,.fr (eH 37 [(4,.bV),(8,.bV),(9,.bV),(10,.bV)]),.cu,.bS,.ck]
abbrev aH3:Exit→List Wk:=ua alE 0 [.kA 4 u8,.fr (eH 37 [(4,.bV)]),.cu,.bS,.ck] [.kA 4 u8,.fr (eH 37 [(2,.bV),(3,.bV)]),.cu,.bS,.ck]
def oL(i:Int)(l:List ah):Int×Int×ab:=l.getD i.toNat (0,0,[])
def Lc(n i:Int)(l:List ah)(out:ab):Int:=(↑(fD (oL i l)).length:Int)
abbrev Ld:Type:=Bool×(List ah)
abbrev avB(x:Ld):Exit×St:=(Exit.ret,⟨(gE 2 (LV.one (VV.sc (SV.gm (Value.slice none 0 0)))::(LV.one (VV.sc (SV.bool (SB.sym x.1)))::(gE 33 [])))),[some (bE.own 0 (ag.pair (ag.pair ae.sl)) x.2)]⟩)
abbrev Le:Type:=(List ah)×ab
abbrev avC(x:Le):Exit×St:=(Exit.exit 0,⟨(gE 4 (LV.one (VV.sc (SV.sl 1 0))::(gE 32 []))),[some (bE.own 0 (ag.pair (ag.pair ae.sl)) x.1),some (bE.own 0 ae x.2)]⟩)
def Lf(n i:Int)(l:List ah)(out:ab):Tr (EN⊕(Ld⊕Le)):=.ite (decide (i <n)) (.need (0≤i∧i<(↑l.length:Int)) (.need (kH (oL i l)) (.ite (((oL i l).1==1)==false) (.ite ((Lc n i l out==0)==false) (.ite (decide (i64.wrap (1008-(↑out.length:Int))<Lc n i l out)) (.ret (.inr (.inl (false,l)))) (.need ((out.length+(fD (oL i l)).length)*1≤70368744177664∧out.length+(fD (oL i l)).length≤70368744177664) (.ret (.inl (n,i64.wrap (i+1),l,out++fD (oL i l)))))) (.ret (.inr (.inl (false,l))))) (.ret (.inr (.inl (false,l))))))) (.ret (.inr (.inr (l,out))))
abbrev EO(n i:Int)(l:List ah)(out:ab):Prop:=0≤i∧i≤n∧n=l.length∧n<1099511627776∧out.length≤1008
abbrev U6(n i:Int)(l:List ah)(out:ab):Bool:= !(iR (l.drop i.toNat) out).2
abbrev U7(n i:Int)(l:List ah)(out:ab):Ld:=(false,l)
abbrev U8(n i:Int)(l:List ah)(out:ab):Le:=(l,(iR (l.drop i.toNat) out).1)
abbrev alF:EN→cT:=oU (aD EO) (aD U6) (aD U7) (aD U8) avB avC
theorem alG(n i:Int)(l:List ah)(out:ab)(h_:EO n i l out):eG (fun x_:EN=>Lf x_.1 x_.2.1 x_.2.2.1 x_.2.2.2) (n,i,l,out) (bif U6 n i l out then .inl (U7 n i l out)else .inr (U8 n i l out)):=by
 delta U6 U7 U8;obtain⟨h1,h2,rfl,h4,h5⟩:=h_;obtain⟨m,rfl⟩:∃m:Nat,i=m:=⟨i.toNat,by omega⟩;obtain⟨j,hj⟩:∃j,l.length-m=j:=⟨_,rfl⟩;rw[Int.toNat_natCast];induction j generalizing m out with
 |zero=>
  refine .stop ?_;have d:¬ (m:Int)<l.length:=by omega
  rw[List.drop_of_length_le (by omega)];simp[Lf,d,bY,bH,iR]
 |succ j ih=>
  have d:(m:Int)<l.length:=by omega
  have hw:i64.wrap ((m:Int)+1)=((m+1:Nat):Int):=by rw[bM (by omega) (by omega)];rfl
  have w2:i64.wrap (1008-(out.length:Int))=1008-out.length:=bM (by omega) (by omega);have e4:Lc (l.length:Int) (m:Int) l out=((fD (l.getD m (0,0,[]))).length:Int):=rfl;have hz:fD (l.getD m (0,0,[]))= []↔((fD (l.getD m (0,0,[]))).length:Int)=0:=by rw[← List.length_eq_zero_iff];omega
  rw[gU (0,0,[]) (by omega),iR];by_cases c:aRk (l.getD m (0,0,[])) out
  ·rw[if_pos c];refine .stop ?_;simp only[Lf,oL,e4,hw,w2,bW,bF,cx,bH,Int.toNat_natCast];refine⟨fun _=>⟨⟨by omega,d⟩,trivial,fun c1=>(by first|exact True.intro|rfl),fun c1=>⟨fun c2=>(by first|exact True.intro|rfl),fun c2=>⟨fun c3=>(by first|exact True.intro|rfl),fun c3=>?_⟩⟩⟩,fun h=>absurd d h⟩;exact absurd c (fun h=>h.elim c1 fun h=>h.elim (fun h=>c2 (hz.1 h)) c3)
  ·rw[if_neg c];have hl:(fD (l.getD m (0,0,[]))).length≤1008-out.length:=by
    have:=fun h=>c (.inr (.inr h));omega
   refine .go ?_ (ih (out++fD (l.getD m (0,0,[]))) (by rw[List.length_append];omega) (m+1) (by omega) (by omega) (by omega));simp only[Lf,oL,e4,hw,w2,bW,bF,cx,bH,Int.toNat_natCast];exact⟨fun _=>⟨⟨by omega,d⟩,trivial,fun c1=>absurd (.inl c1) c,fun c1=>⟨fun c2=>absurd (.inr (.inl (hz.2 c2))) c,fun c2=>⟨fun c3=>absurd (.inr (.inr c3)) c,fun c3=>⟨by omega,trivial⟩⟩⟩⟩,fun h=>absurd d h⟩
theorem adV(y_):∀x:EN,Ex aA (zB.wr y_) (.loop (cG f192 0)) (alD.wr x) (alF x):=ee bJ ((bI w9 bU)) (ws:=aH3) (cn.nil _) (fun _=>by kernel_rfl) (fun z=>by cases z<;>(intro e;cases e)) qw (aS @alG)
abbrev Zt:Type:=ab×Bool
abbrev aRl(x:Zt):LV:=LV.dB [VV.sc (SV.rd true false ae x.1),VV.sc (au x.2)]
abbrev aRm(x:Zt):List ao:= []
def aBJ(l:List ah):Tr Zt:=.need (EO (↑l.length:Int) 0 l []) (.ite (!(iR (List.drop 0 l) []).2) (.ret ([],false)) (.ret ((iR (List.drop 0 l) []).1,true)))
abbrev Lg(l:List Rc):Prop:=l.length≤1000000
abbrev alH(l:List Rc):Zt:=iR l []
def aRn:bT:=cj [] auj zB (q1∘q0 Lg) (q1∘q0 alH) aRl aRm
theorem avD:abY Lg aBJ alH:=by
 intro l h_;delta alH;have h:l.length≤1000000:=h_;simp only[aBJ,List.drop_zero,bF,cm,bH];refine⟨⟨by decide,by omega,rfl,by omega,by decide⟩,fun c=>Prod.ext rfl c.symm,fun c=>Prod.ext (Zs c).symm c.symm⟩
theorem avE:aRn.Ok aA 192:=az (bI w9 bU) func192 call192 (ks:= [.kA 2 u8,.pN,.fr [.rd true u8],.fr [.sym],.cu,.bS,.ck]) alD alE alF adV (fun _=>bq @avD)
def lG(s:Int):Int:=i64.wrap (s*1024)
def gN(s:Int)(j:Jn)(f:Fl)(b er:ab):Int×Fl×ab×ab:=fH f b er j.1 s
def vo(s:Int):Int:=i64.wrap (lG s+16)
def jY(s:Int)(x:ab)(j:Jn)(f:Fl)(b:ab):Int×Fl×ab:=gM f b j.1 (vo s) x
def iS(j:Jn):Int×Int×ab:=(1,i64.wrap (j.2.1+1),[])
def vp(s:Int)(j:Jn)(f:Fl)(b:ab):Int×Fl×ab:=gM f b j.1 (lG s) (fD (iS j))
def qR(s:Int)(x:ab)(j:Jn)(f:Fl)(b er:ab):Int×Fl×ab:=gM (gN s j f b er).2.1 (gN s j f b er).2.2.1 j.1 (vo s) x
def Lh(s:Int)(j:Jn)(f:Fl)(b er:ab):Int×Fl×ab:=gM (gN s j f b er).2.1 (gN s j f b er).2.2.1 j.1 (lG s) (fD (iS j))
def vq(s:Int)(x:ab)(j:Jn)(f:Fl)(b:ab):Int×Fl×ab:=gM (jY s x j f b).2.1 (jY s x j f b).2.2 j.1 (lG s) (fD (iS j))
def Li(s:Int)(x:ab)(j:Jn)(f:Fl)(b er:ab):Int×Fl×ab:=gM (qR s x j f b er).2.1 (qR s x j f b er).2.2 j.1 (lG s) (fD (iS j))
def jR(s:Int)(x:ab)(j:Jn)(f:Fl)(b er:ab)(l:List ah):Bool×Int:=if f.2.1=true then(false,5)else if ¬(0≤s∧s<j.1.2)then(false,2)else(eS (cO b (1024*j.1.1+1024*s) 1024),0)
abbrev Zu:Type:=Int×Fl×ab×ab
abbrev aRo(x:Zu):LV:=aw (ar x.1)
abbrev aRp(x:Zu):List ao:= [(1,dA.wr x.2.1),(2,bE.own 0 ae x.2.2.1),(3,bE.own 0 ag x.2.2.2)]
def aBK(s:Int)(x:ab)(j:Jn)(f:Fl)(b er:ab)(l:List ah):Tr Zu:=.need (kN j.1 s f b er) (.ite (((jR s x j f b er l).2==0)==true) (.ite (!(jR s x j f b er l).1) (.need (kM j.1 s f b er) (.ite ((gN s j f b er).1==0) (.need (eB j.1 (vo s) x (gN s j f b er).2.1 (gN s j f b er).2.2.1 (gN s j f b er).2.2.2) (.ite ((qR s x j f b er).1==0) (.need (kH (iS j)) (.need (eB j.1 (lG s) (fD (iS j)) (qR s x j f b er).2.1 (qR s x j f b er).2.2 (gN s j f b er).2.2.2) (.ret ((Li s x j f b er).1,(Li s x j f b er).2.1,(Li s x j f b er).2.2,(gN s j f b er).2.2.2)))) (.ret ((qR s x j f b er).1,(qR s x j f b er).2.1,(qR s x j f b er).2.2,(gN s j f b er).2.2.2)))) (.ite ((gN s j f b er).1==0) (.need (kH (iS j)) (.need (eB j.1 (lG s) (fD (iS j)) (gN s j f b er).2.1 (gN s j f b er).2.2.1 (gN s j f b er).2.2.2) (.ret ((Lh s j f b er).1,(Lh s j f b er).2.1,(Lh s j f b er).2.2,(gN s j f b er).2.2.2)))) (.ret ((gN s j f b er).1,(gN s j f b er).2.1,(gN s j f b er).2.2.1,(gN s j f b er).2.2.2))))) (.ite ((jR s x j f b er l).2==0) (.need (eB j.1 (vo s) x f b er) (.ite ((jY s x j f b).1==0) (.need (kH (iS j)) (.need (eB j.1 (lG s) (fD (iS j)) (jY s x j f b).2.1 (jY s x j f b).2.2 er) (.ret ((vq s x j f b).1,(vq s x j f b).2.1,(vq s x j f b).2.2,er)))) (.ret ((jY s x j f b).1,(jY s x j f b).2.1,(jY s x j f b).2.2,er)))) (.ite ((jR s x j f b er l).2==0) (.need (kH (iS j)) (.need (eB j.1 (lG s) (fD (iS j)) f b er) (.ret ((vp s j f b).1,(vp s j f b).2.1,(vp s j f b).2.2,er)))) (.ret ((jR s x j f b er l).2,f,b,er))))) (.ite ((jR s x j f b er l).2==0) (.need (eB j.1 (vo s) x f b er) (.ite ((jY s x j f b).1==0) (.need (kH (iS j)) (.need (eB j.1 (lG s) (fD (iS j)) (jY s x j f b).2.1 (jY s x j f b).2.2 er) (.ret ((vq s x j f b).1,(vq s x j f b).2.1,(vq s x j f b).2.2,er)))) (.ret ((jY s x j f b).1,(jY s x j f b).2.1,(jY s x j f b).2.2,er)))) (.ite ((jR s x j f b er l).2==0) (.need (kH (iS j)) (.need (eB j.1 (lG s) (fD (iS j)) f b er) (.ret ((vp s j f b).1,(vp s j f b).2.1,(vp s j f b).2.2,er)))) (.ret ((jR s x j f b er l).2,f,b,er)))))
def Lj(j:Jn):Rc:=(1,j.2.1+1,[])
def adW(s:Int)(j:Jn)(p:Int×Fl×ab)(er:ab):Int×Fl×ab×ab:=if p.1≠0 then(p.1,p.2.1,p.2.2,er)else((gM p.2.1 p.2.2 j.1 (1024*s) (fD (Lj j))).1,(gM p.2.1 p.2.2 j.1 (1024*s) (fD (Lj j))).2.1,(gM p.2.1 p.2.2 j.1 (1024*s) (fD (Lj j))).2.2,er)
def adX(s:Int)(x:ab)(j:Jn)(c:Int×Fl×ab×ab):Int×Fl×ab×ab:=if c.1≠0 then c else adW s j (gM c.2.1 c.2.2.1 j.1 (1024*s+16) x) c.2.2.2
def Q7(s:Int)(x:ab)(j:Jn)(f:Fl)(b er:ab):Int×Fl×ab×ab:=adX s x j (nP f b er j.1 s)
theorem avF(r:Rc):(fD r).length≤535:=by
 by_cases h:fD r= []
 ·rw[h];decide
 ·exact(sU h).2.1
abbrev xP(s:Int)(x:ab)(j:Jn)(f:Fl)(b er:ab)(l:List Rc):Prop:=dE b er∧iO j.1 er∧0≤s∧s<j.1.2∧0≤j.2.1∧j.2.1≤4294967295∧bL x∧x.length<1099511627776
abbrev alI(s:Int)(x:ab)(j:Jn)(f:Fl)(b er:ab)(l:List Rc):Zu:=Q7 s x j f b er
def aRq:bT:=cj [none,none,some u8] ((bR (bO (cr 0 0)) (bD (bO (bX .i64)) (bD (bO (gx false false u8)) bG)))) ajT (q5∘q2 xP) (q5∘q2 alI) aRo aRp
theorem avG:ac2 xP aBK alI:=by
 intro s x j f b er l h_;delta alI;obtain⟨h1,h2,h3,h4,h5,h6,h7,h8⟩:=h_;have g4:=h1.2.2;have w0:lG s=1024*s:=by unfold lG;rw[bM (by omega) (by omega),Int.mul_comm]
 have w2:vo s=1024*s+16:=by unfold vo;rw[w0,bM (by omega) (by omega)]
 have w4:iS j=Lj j:=by unfold iS Lj;rw[bM (by omega) (by omega)]
 have hb:kN j.1 s f b er:=⟨h1,h2⟩;have he:kM j.1 s f b er:=⟨h1,h2⟩;have hu:(fD (Lj j)).length<1099511627776:=by have:=avF (Lj j);omega
 have fin:∀ (f:Fl) (b er:ab),dE b er→iO j.1 er→eB j.1 (1024*s+16) x f b er∧∀f' b',dE b' er→eB j.1 (1024*s) (fD (Lj j)) f' b' er:=fun f b er k1 k2=>⟨⟨k1,k2,h8⟩,fun _ _ k3=>⟨k3,k2,hu⟩⟩;obtain⟨q1,q2⟩:=fin f b er h1 h2;have k1:=KZ (f:=f) (r:=j.1) (s:=s) h1;obtain⟨q3,q4⟩:=fin (fH f b er j.1 s).2.1 _ _ (k1.fl h1) (k1.rg h2);have k2:=qQ (f:=f) (b:=b) (er:=er) (r:=j.1) (p:=1024*s+16) h7;have k3:=qQ (f:=(fH f b er j.1 s).2.1) (b:=(fH f b er j.1 s).2.2.1) (er:=(fH f b er j.1 s).2.2.2) (r:=j.1) (p:=1024*s+16) h7;have q5:=q2 (gM f b j.1 (1024*s+16) x).2.1 _ (k2.fl h1);have q6:=q4 (gM (fH f b er j.1 s).2.1 (fH f b er j.1 s).2.2.1 j.1 (1024*s+16) x).2.1 _ (k3.fl (k1.fl h1));simp only[aBK,Li,vq,Lh,qR,vp,jY,gN,w0,w2,w4,bF];refine⟨hb,?_⟩;unfold Q7 nP;cases ho:f.2.1 with
 |true=>
  have e:jR s x j f b er l=(false,5):=by unfold jR;rw[if_pos ho]
  rw[e,if_pos rfl];exact⟨fun h=>(by cases h),fun _=>cd.2 ⟨fun h=>(by cases h),fun _=>cd.2 ⟨fun h=>(by cases h),fun _=>bH.2 rfl⟩⟩⟩
 |false=>
  have e:jR s x j f b er l=(eS (cO b (1024*j.1.1+1024*s) 1024),0):=by unfold jR;rw[if_neg (by rw[ho];decide),if_neg (fun h=>h ⟨h3,h4⟩)]
  rw[e,if_neg (by decide),if_neg (fun h=>h ⟨h3,h4⟩)];cases hk:eS (cO b (1024*j.1.1+1024*s) 1024)with
  |true=>
   rw[if_pos rfl];unfold adX;rw[if_neg (fun h=>h rfl)];refine⟨fun _=>⟨fun h=>(by cases h),fun _=>cd.2 ⟨fun _=>⟨q1,cd.2 ⟨fun c=>⟨trivial,q5,?_⟩,fun c=>?_⟩⟩,fun h=>absurd rfl h⟩⟩,fun h=>by cases h⟩
   ·unfold adW;rw[if_neg (fun h=>h c)];rfl
   ·unfold adW;rw[if_pos c];rfl
  |false=>
   rw[if_neg (by decide)];refine⟨fun _=>⟨fun _=>⟨he,cd.2 ⟨fun c=>⟨q3,cd.2 ⟨fun c2=>⟨trivial,q6,?_⟩,fun c2=>?_⟩⟩,fun c=>cd.2 ⟨fun h=>absurd h c,fun _=>?_⟩⟩⟩,fun h=>by cases h⟩,fun h=>by cases h⟩
   ·unfold adX adW;rw[if_neg (fun h=>h c),if_neg (fun h=>h c2)];rfl
   ·unfold adX adW;rw[if_neg (fun h=>h c),if_pos c2];rfl
   ·unfold adX;rw[if_pos c];rfl
theorem avH:aRq.Ok aA 193:=ay (bI sQ (bI sP (bI sO (bI w9 bU)))) func193 call193 (ks:=eU) (fun x_=>bx (@avG x_.1 x_.2.1))
abbrev aZB:cl Hp (Jn×Fl×ab×ab×List cH.D×List cH.D×Unit):=bD (cb adG) (bD (cb dA) (bD (dd 0 u8) (bD (dd 0 (.int .i64)) (bD (dd 0 cH) (bD (dd 0 cH) bG)))))
def jZ(j:Jn)(f:Fl)(b er:ab)(m:List ah):Int×Fl×ab×ab:=Q7 1 (iR (iu 0 m) []).1 j f b er
def j0(j:Jn)(f:Fl)(b er:ab)(m:List ah):Int×Fl×ab×ab:=Q7 0 (iR (iu 0 m) []).1 j f b er
abbrev Zv:Type:=Int×Jn×Fl×ab×ab×(List ah)
abbrev aRr(x:Zv):LV:=aw (ar x.1)
abbrev aRs(x:Zv):List ao:= [(0,aPi.wr x.2.1),(1,dA.wr x.2.2.1),(2,bE.own 0 ae x.2.2.2.1),(3,bE.own 0 ag x.2.2.2.2.1),(4,bE.own 1 (ag.pair (ag.pair ae.sl)) x.2.2.2.2.2)]
def aBL(j:Jn)(f:Fl)(b er:ab)(l m:List ah):Tr Zv:=(.need (Lb m) (.need (Lg (iu 0 m)) (.ite (j.2.2.1==0) (.ite (j.2.2.2.2.2 !=0) (.ret (j.2.2.2.2.2,j,f,b,er,l)) (.ite (decide (4294967295≤j.2.1)) (.ret (14,j,f,b,er,l)) (.ite (!(iR (iu 0 m) []).2) (.ret (1,j,f,b,er,l)) (.need (xP 1 (iR (iu 0 m) []).1 j f b er l) (.need (xN (jZ j f b er m).1 j (jZ j f b er m).2.1 (jZ j f b er m).2.2.1 (jZ j f b er m).2.2.2 l) (.ite ((jZ j f b er m).1 !=0) (.ret ((jZ j f b er m).1,(j.1,j.2.1,j.2.2.1,j.2.2.2.1,j.2.2.2.2.1,(jZ j f b er m).1),(jZ j f b er m).2.1,(jZ j f b er m).2.2.1,(jZ j f b er m).2.2.2,l)) (.ret (0,(j.1,i64.wrap (j.2.1+1),1,i64.wrap (16+(↑(iR (iu 0 m) []).1.length:Int)),false,(jZ j f b er m).1),(jZ j f b er m).2.1,(jZ j f b er m).2.2.1,(jZ j f b er m).2.2.2,iu 0 m)))))))) (.ite (j.2.2.2.2.2 !=0) (.ret (j.2.2.2.2.2,j,f,b,er,l)) (.ite (decide (4294967295≤j.2.1)) (.ret (14,j,f,b,er,l)) (.ite (!(iR (iu 0 m) []).2) (.ret (1,j,f,b,er,l)) (.need (xP 0 (iR (iu 0 m) []).1 j f b er l) (.need (xN (j0 j f b er m).1 j (j0 j f b er m).2.1 (j0 j f b er m).2.2.1 (j0 j f b er m).2.2.2 l) (.ite ((j0 j f b er m).1 !=0) (.ret ((j0 j f b er m).1,(j.1,j.2.1,j.2.2.1,j.2.2.2.1,j.2.2.2.2.1,(j0 j f b er m).1),(j0 j f b er m).2.1,(j0 j f b er m).2.2.1,(j0 j f b er m).2.2.2,l)) (.ret (0,(j.1,i64.wrap (j.2.1+1),0,i64.wrap (16+(↑(iR (iu 0 m) []).1.length:Int)),false,(j0 j f b er m).1),(j0 j f b er m).2.1,(j0 j f b er m).2.2.1,(j0 j f b er m).2.2.2,iu 0 m)))))))))))
theorem avI{l:ab}(h:bL l):bL (o5 l):=h.append (bL.rep _ ⟨by decide,by decide⟩)
theorem Lk{r:Rc}(h:bL r.2.2):bL (fD r):=by
 unfold fD;split
 ·exact(avI (bL.append (.cons (lT _) (.cons ⟨by decide,by decide⟩ (.cons (lT _) (.cons (lT _) .nil)))) ((K8 _).append h))).append ((K8 _).append (K8 _))
 ·exact .nil
theorem Ll:∀ {l:List Rc} {out:ab},gK l→bL out→bL (iR l out).1
 | [],_,_,h=>h
 |x::l,out,hl,h=>by
  rw[iR];split
  ·exact .nil
  ·exact Ll (fun k hk=>by have:=hl (k+1) (by simp;omega);rwa [List.getD_cons_succ]at this) (h.append (Lk (hl 0 (by simp)).1))
def Gq(j:Jn):Int:=if j.2.2.1=0 then 1 else 0
def avJ(c:Int×Fl×ab×ab)(j:Jn)(l m:List Rc):Int×Jn×Fl×ab×ab×List Rc:=if c.1≠0 then(c.1,aH0 j c.1,c.2.1,c.2.2.1,c.2.2.2,l)else(0,(j.1,j.2.1+1,Gq j,16+(iR (iu 0 m) []).1.length,false,c.1),c.2.1,c.2.2.1,c.2.2.2,iu 0 m)
def EP(m:List Rc)(j:Jn)(f:Fl)(b er:ab)(l:List Rc):Int×Jn×Fl×ab×ab×List Rc:=if j.2.2.2.2.2≠0 then(j.2.2.2.2.2,j,f,b,er,l)else if 4294967295≤j.2.1 then(14,j,f,b,er,l)else if(iR (iu 0 m) []).2=false then(1,j,f,b,er,l) else avJ (Q7 (Gq j) (iR (iu 0 m) []).1 j f b er) j l m
abbrev xQ(j:Jn)(f:Fl)(b er:ab)(l m:List Rc):Prop:=dE b er∧mY j l er∧gK m∧m.length≤1000000
abbrev alJ(j:Jn)(f:Fl)(b er:ab)(l m:List Rc):Zv:=EP m j f b er l
def aRt:bT:=cj [] ((bR (bO (cr 0 0)) (bR (bO (pk 5 0)) bG))) aZB (q6∘q0 xQ) (q6∘q0 alJ) aRr aRs
theorem avK:ac1 xQ aBL alJ:=by
 intro j f b er l m h_;delta alJ;obtain⟨h1,h2,h3,h4⟩:=h_;have g1:=h2.ep;have hl:=EM (l:=iu 0 m) (out:= []) (by decide);have hb:=Ll (tN 0 m h3) .nil;have hn:(iu 0 m).length≤1000000:=by rw[Q6];exact h4
 have two:=h2.two;have hp:∀s:Int,0≤s→s<2→xP s (iR (iu 0 m) []).1 j f b er l:=fun s q1 q2=>⟨h1,h2.rg,q1,by omega,g1.1,g1.2,hb,by omega⟩;have w2:i64.wrap (16+((iR (iu 0 m) []).1.length:Int))=16+(iR (iu 0 m) []).1.length:=bM (by omega) (by omega);have w1:i64.wrap (j.2.1+1)=j.2.1+1:=bM (by omega) (by omega);simp only[aBL,jZ,j0,w1,w2,bF,cd,b9,bW,cm,bH,EP];refine⟨⟨h3,h4⟩,hn,fun c0=>⟨fun c1=>⟨fun c2=>?_,fun c2=>⟨fun c3=>?_,fun c3=>?_⟩⟩,fun c1=>?_⟩,fun c0=>⟨fun c1=>⟨fun c2=>?_,fun c2=>⟨fun c3=>?_,fun c3=>?_⟩⟩,fun c1=>?_⟩⟩
 ·rw[if_neg (fun h=>h c1),if_pos c2]
 ·rw[if_neg (fun h=>h c1),if_neg c2,if_neg (by rw[c3];decide),show Gq j=1 from if_pos c0];unfold avJ;rw[show Gq j=1 from if_pos c0];exact⟨hp 1 (by decide) (by decide),trivial,fun c4=>by rw[if_neg (fun h=>h c4)],fun c4=>by rw[if_pos c4];rfl⟩
 ·rw[if_neg (fun h=>h c1),if_neg c2,if_pos c3]
 ·rw[if_pos c1]
 ·rw[if_neg (fun h=>h c1),if_pos c2]
 ·rw[if_neg (fun h=>h c1),if_neg c2,if_neg (by rw[c3];decide),show Gq j=0 from if_neg c0];unfold avJ;rw[show Gq j=0 from if_neg c0];exact⟨hp 0 (by decide) (by decide),trivial,fun c4=>by rw[if_neg (fun h=>h c4)],fun c4=>by rw[if_pos c4];rfl⟩
 ·rw[if_neg (fun h=>h c1),if_neg c2,if_pos c3]
 ·rw[if_pos c1]
theorem Zw:aRt.Ok aA 145:=ay (bI avA (bI avE (bI avH (bI Zo bU)))) func145 call145 (ks:= [.bK 0 3 4 cH,.fr [.sym],.cu,.bS,.ck]) (fun _=>bz @avK)
end Go.Proofs.YtliehnnljilacaaGreat
