/- What the laws lean on, part 15: a reader of code, plain facts, and what each function gives; no conditions. -/
import Derived.Test.YtliehnnljilacaaGreatA14
noncomputable section
open Go.IntKind (i64 signed u16 u32 u64 wrap wrap_u32)
set_option linter.unusedVariables false
set_option linter.unusedSimpArgs false
namespace Go.Proofs.YtliehnnljilacaaGreat
open Go Go.Ev Go.Proofs.Tryz
set_option maxRecDepth 1000000
abbrev aRu(x:aul):LV:=aw (SV.sl 0 0)
abbrev aRv(x:aul):List ao:= [(0,bE.own 0 (ag.pair (ag.pair ae.sl)) x)]
def aBM(s:Sg):Tr aul:=.need (nK s.1) (.ite (decide (0<(↑(nJ s.1).length:Int))) (.need (40≤70368744177664∧1≤70368744177664) (.need (mj s.2.2) (.ite (s.2.1==true) (.ite (decide (0<(↑(nL s.2.2).length:Int))) (.need (80≤ 70368744177664∧2≤70368744177664) (.ret ([(2,0,nJ s.1),(3,0,nL s.2.2)]))) (.ret ([(2,0,nJ s.1)]))) (.ret ([(2,0,nJ s.1)]))))) (.need (mj s.2.2) (.ite (s.2.1==true) (.ite (decide (0<(↑(nL s.2.2).length:Int))) (.need (40≤70368744177664∧1≤70368744177664) (.ret ([(3,0,nL s.2.2)]))) (.ret ([]))) (.ret ([])))))
def jo(s:Sg):List Rc:=(if nJ s.1= []then []else [(2,0,nJ s.1)])++(if s.2.1=true∧nL s.2.2≠ []then [(3,0,nL s.2.2)]else [])
structure mB (s:Sg):Prop where
 ver:vg s.1.2.1
 lP:vg s.1.2.2.1
 by_:bL s.2.2.2.2.2.2.2
 mid:s.2.2.2.2.2.2.2.length≤200
 aH4:bL s.1.2.2.2.2
 id:bL s.2.2.2.2.2.2.1
 C7:s.2.1=true→J4 s.2.2
theorem o9:∀ (n:Nat) (x:Int),bL (gF n x):=fun n x=>by
 rw[wI];intro z hz;obtain⟨i,_,rfl⟩:=List.mem_map.1 hz;exact⟨Int.emod_nonneg _ (by decide),Int.emod_lt_of_pos _ (by decide)⟩
theorem Lm{c:Cm}(h:bL c.2.2.2.2):bL (nJ c)∧(nJ c).length≤96:=by
 unfold nJ;split
 ·refine⟨(o9 _ _).append ((o9 _ _).append ((o9 _ _).append ((o9 _ _).append (h.take 64)))),?_⟩;simp only[List.length_append,ib,List.length_take];omega
 ·exact⟨.nil,by decide⟩
theorem Ln{c:Ck}(h1:bL c.2.2.2.2.1)(h2:bL c.2.2.2.2.2)(h3:c.2.2.2.2.2.length≤200):bL (nL c)∧(nL c).length≤232:=by
 unfold nL;split
 ·refine⟨(o9 _ _).append ((o9 _ _).append ((o9 _ _).append ((h1.take 8).append h2))),?_⟩;simp only[List.length_append,ib,List.length_take];omega
 ·exact⟨.nil,by decide⟩
theorem avL{l:ab}:0<(l.length:Int)↔l≠ []:=by
 rw[← List.length_pos_iff];omega
abbrev tO(s:Sg):Prop:=mB s
abbrev alK(s:Sg):aul:=jo s
def aRw:bT:=cj [] ((bD (jf cSg) bG)) bG (q0∘q1 tO) (q0∘q1 alK) aRu aRv
theorem avM:abY tO aBM alK:=by
 intro s h_;delta alK;obtain⟨h1,h2,h3,h4,h5,h6,_⟩:=h_;have hc:nK s.1:=⟨h1,h2⟩;have hk:mj s.2.2:=⟨h3,by omega⟩;simp only[aBM,bF,bW,bH,jo,avL];refine⟨hc,fun c1=>⟨by decide,hk,cQ.2 ⟨fun c2=>bW.2 ⟨fun c3=>⟨by decide,?_⟩,fun c3=>?_⟩,fun c2=>?_⟩⟩,fun c1=>⟨hk,cQ.2 ⟨fun c2=>bW.2 ⟨fun c3=>⟨by decide,?_⟩,fun c3=>?_⟩,fun c2=>?_⟩⟩⟩
 ·rw[if_neg c1,if_pos ⟨c2,c3⟩];rfl
 ·rw[if_neg c1,if_neg (fun h=>c3 h.2)];rfl
 ·rw[if_neg c1,if_neg (fun h=>by rw[c2]at h;cases h.1)];rfl
 ·rw[if_pos (Decidable.not_not.1 c1),if_pos ⟨c2,c3⟩];rfl
 ·rw[if_pos (Decidable.not_not.1 c1),if_neg (fun h=>c3 h.2)];rfl
 ·rw[if_pos (Decidable.not_not.1 c1),if_neg (fun h=>by rw[c2]at h;cases h.1)];rfl
theorem Zy:aRw.Ok aA 143:=ay (bI Eh (bI Ej bU)) func143 call143 (ks:= [.kA 0 cH,.fr [.sym],.cu,.bS,.ck]) (fun x_ _=>@avM x_.1)
theorem avN{b:ab}(h:bL b):bL (mh b).1.2.2.2.2:=by
 unfold mh;split
 ·exact(h.drop 32).take 64
 ·exact bL.rep _ ⟨by decide,by decide⟩
theorem avO{b:ab}(h:bL b):bL (o6 b).1.2.2.2.2.1∧bL (o6 b).1.2.2.2.2.2∧(o6 b).1.2.2.2.2.2.length≤200:=by
 unfold o6;split
 ·rename_i c;exact⟨(h.drop 24).take 8,h.drop 32,by show(b.drop 32).length≤200;rw[List.length_drop];omega⟩
 ·exact⟨bL.rep _ ⟨by decide,by decide⟩,.nil,by decide⟩
theorem avP{b:ab}(h:(o6 b).2=true):J4 (o6 b).1:=by
 unfold o6 at h ⊢;split at h
 ·rename_i c;rw[if_pos c];have hlen:=pS c.2;rw[c.1]at hlen;unfold nL at hlen;split at hlen
  ·assumption
  ·simp at hlen
 ·cases h
theorem alL{s:Sg}(h:mB s){x:Rc}(hx:bL x.2.2):mB (xi s x):=by
 have k0:bL Gp.2.2.2.2.1:=bL.rep _ ⟨by decide,by decide⟩;unfold xi;by_cases c1:x.1=2
 ·rw[if_pos c1];by_cases c:(mh x.2.2).2=true
  ·rw[if_pos c];have hc:=YH c;refine⟨hc.2.1,?_,.nil,Nat.zero_le _,avN hx,k0,fun e=>by cases e⟩;show vg (if _ then _ else _);split
   ·exact h.lP
   ·exact hc.2.2
  ·rw[if_neg c];exact h
 ·rw[if_neg c1];by_cases c2:x.1=3
  ·rw[if_pos c2];by_cases c:(o6 x.2.2).2=true
   ·rw[if_pos c];have hk:=avO hx;exact⟨h.ver,h.lP,hk.2.1,hk.2.2,h.aH4,hk.1,fun _=>avP c⟩
   ·rw[if_neg c];exact h
  ·rw[if_neg c2];by_cases c3:x.1=4
   ·rw[if_pos c3];exact⟨h.ver,h.lP,.nil,Nat.zero_le _,h.aH4,k0,fun e=>by cases e⟩
   ·rw[if_neg c3];exact h
theorem xR:∀ (l:List Rc) {s:Sg},gK l→mB s→mB (eA s l)
 | [],_,_,h=>h
 |x::l,s,hl,h=>xR l (fun k hk=>by have:=hl (k+1) (by simp;omega);rwa [List.getD_cons_succ]at this) (alL h (hl 0 (by simp)).1)
theorem Lo:mB jd:=⟨⟨by decide,by decide⟩,⟨by decide,by decide⟩,.nil,by decide,bL.rep _ ⟨by decide,by decide⟩,bL.rep _ ⟨by decide,by decide⟩,fun e=>by cases e⟩
theorem qS{l m:List Rc}(h:gK l)(g:gK m):gK (l++m):=fun k hk=>by
 by_cases c:k<l.length
 ·rw[List.getD_eq_getElem?_getD,List.getElem?_append_left c,← List.getD_eq_getElem?_getD];exact h k c
 ·rw[List.getD_eq_getElem?_getD,List.getElem?_append_right (by omega),← List.getD_eq_getElem?_getD];exact g _ (by rw[List.length_append]at hk;omega)
theorem nR{x:Rc}(h:bL x.2.2)(g:x.2.2.length<1099511627776):gK [x]:=fun k hk=>by
 obtain rfl:k=0:=by simpa using hk
 exact⟨h,g⟩
theorem qT:gK []:=fun k hk=>by simp at hk
theorem sV{s:Sg}(h:mB s):gK (jo s)∧(jo s).length≤2:=by
 obtain⟨c1,c2⟩:=Lm h.aH4;obtain⟨k1,k2⟩:=Ln h.id h.by_ h.mid;unfold jo;refine⟨qS ?_ ?_,?_⟩
 ·split
  ·exact qT
  ·exact nR c1 (by show(nJ s.1).length<_;omega)
 ·split
  ·exact nR k1 (by show(nL s.2.2).length<_;omega)
  ·exact qT
 ·rw[List.length_append];split<;>split<;>simp
theorem Zz{k:Int}{x:ab}{j:Jn}{f:Fl}{b er:ab}{l:List Rc}(h2:mY j l er)(hx:bL x):Kp b er (eZ k x j f b er l).2.2.2.1 er∧mY (eZ k x j f b er l).2.1 (eZ k x j f b er l).2.2.2.2 er:=by
 unfold eZ;split
 ·exact⟨.rfl,h2⟩
 ·split
  ·exact⟨.rfl,h2⟩
  ·rename_i c1 c2;split
   ·exact⟨.rfl,h2⟩
   ·rename_i c3;have hl:=sU fun h=>c2 (.inr h);have k1:=qQ (f:=f) (b:=b) (er:=er) (r:=j.1) (p:=1024*j.2.2.1+j.2.2.2.1) (Lk (r:=vn k l x) hx);have hr:Q5 j≤1024-j.2.2.2.1:=(by unfold Q5;have:=h2.used;split<;>omega);unfold alw;split
    ·exact⟨k1,⟨h2.rg,h2.two,h2.ep,h2.cur,h2.used,h2.len,h2.avw⟩⟩
    ·refine⟨k1,⟨h2.rg,h2.two,h2.ep,h2.cur,⟨?_,?_⟩,?_,qS h2.avw (nR hx ?_)⟩⟩
     ·show 0≤j.2.2.2.1+((fD (vn k l x)).length:Int);have:=h2.used;omega
     ·show j.2.2.2.1+((fD (vn k l x)).length:Int)≤1024;omega
     ·show 16*((l++ [vn k l x]).length:Int)≤j.2.2.2.1+((fD (vn k l x)).length:Int);have:=h2.len;rw[List.length_append,List.length_singleton];omega
     ·have:=hl.2.2.2.2.2.2;show x.length<_;have h3:x.length≤512:=this;omega
theorem Q8:∀ {l:List Rc} {out:ab},(iR l out).2=true→16*l.length+out.length≤(iR l out).1.length
 | [],_,_=>by simp[iR]
 |x::l,out,h=>by
  rw[iR]at h ⊢;split at h
  ·cases h
  ·rename_i c;rw[if_neg c];have:=Q8 h;have hl:=sU fun h=>c (.inr (.inl h));rw[List.length_append]at this;rw[List.length_cons];omega
theorem avQ{s:Int}{x:ab}{j:Jn}{f:Fl}{b er:ab}(h:dE b er)(hx:bL x):Kp b er (Q7 s x j f b er).2.2.1 (Q7 s x j f b er).2.2.2:=by
 have k1:=BB (f:=f) (r:=j.1) (s:=s) h;unfold Q7 adX;split
 ·exact k1
 ·have k2:=qQ (f:=(nP f b er j.1 s).2.1) (b:=(nP f b er j.1 s).2.2.1) (er:=(nP f b er j.1 s).2.2.2) (r:=j.1) (p:=1024*s+16) hx;unfold adW;split
  ·exact k1.trans k2
  ·exact k1.trans (k2.trans (qQ (Lk (r:=Lj j) .nil)))
theorem ZA{m:List Rc}{j:Jn}{f:Fl}{b er:ab}{l:List Rc}(h:dE b er)(h2:mY j l er)(hm:gK m):Kp b er (EP m j f b er l).2.2.2.1 (EP m j f b er l).2.2.2.2.1∧mY (EP m j f b er l).2.1 (EP m j f b er l).2.2.2.2.2 (EP m j f b er l).2.2.2.2.1:=by
 unfold EP;split
 ·exact⟨.rfl,h2⟩
 ·split
  ·exact⟨.rfl,h2⟩
  ·split
   ·exact⟨.rfl,h2⟩
   ·rename_i c1 c2 c3;have k1:=avQ (s:=Gq j) (x:=(iR (iu 0 m) []).1) (j:=j) (f:=f) h (Ll (tN 0 m hm) .nil);have hl:=EM (l:=iu 0 m) (out:= []) (by decide);have hc:=Q8 (l:=iu 0 m) (out:= []) (by simpa using c3);unfold avJ;split
    ·exact⟨k1,⟨k1.rg h2.rg,h2.two,h2.ep,h2.cur,h2.used,h2.len,h2.avw⟩⟩
    ·refine⟨k1,⟨k1.rg h2.rg,h2.two,⟨?_,?_⟩,?_,⟨?_,?_⟩,?_,tN 0 m hm⟩⟩
     ·show 0≤j.2.1+1;have:=h2.ep;omega
     ·show j.2.1+1≤4294967295;omega
     ·show-1≤Gq j∧Gq j≤1;unfold Gq;split<;>exact⟨by decide,by decide⟩
     ·show 0≤16+((iR (iu 0 m) []).1.length:Int);omega
     ·show 16+((iR (iu 0 m) []).1.length:Int)≤1024;omega
     ·show 16*((iu 0 m).length:Int)≤16+((iR (iu 0 m) []).1.length:Int);omega
def Q9(k:Int)(x:ab)(s:Sg):Sg:=eA jd (jo s++ [(k,0,x)])
def avR(m:List Rc)(k:Int)(x:ab)(j:Jn)(f:Fl)(b er:ab)(l:List Rc):Int×Jn×Fl×ab×ab×List Rc:=if(eZ k x j f b er l).1=14 then EP m (eZ k x j f b er l).2.1 (eZ k x j f b er l).2.2.1 (eZ k x j f b er l).2.2.2.1 er (eZ k x j f b er l).2.2.2.2 else((eZ k x j f b er l).1,(eZ k x j f b er l).2.1,(eZ k x j f b er l).2.2.1,(eZ k x j f b er l).2.2.2.1,er,(eZ k x j f b er l).2.2.2.2)
abbrev LG:Type:=Sg×Jn×Fl×ab×ab×List Rc
def aH5(q:Int×Jn×Fl×ab×ab×List Rc)(s n:Sg):Int×LG:=(q.1,(if q.1=0 then n else s),q.2.1,q.2.2.1,q.2.2.2.1,q.2.2.2.2.1,q.2.2.2.2.2)
def uf(k:Int)(x:ab)(s:Sg)(j:Jn)(f:Fl)(b er:ab)(l:List Rc):Int×LG:=aH5 (avR (jo (Q9 k x s)) k x j f b er l) s (Q9 k x s)
abbrev aH6:cl (List LV) (Int×ab×Unit):=bR (bO (cr 0 0)) (bD (bO (bX .i64)) (bD (bO (gx true false u8)) bG))
abbrev aRx:cl (List LV) (Int×Unit):=bR (bO (cr 0 0)) (bD (bO (bX .i64)) (bR (bO aEr) bG))
abbrev Ra:cl bE Jn:=fe 206 (zy 2 (pk 5 1))
abbrev alM:cl bE Sg:=jLg 1
def iT(k:Int)(x:ab)(s:Sg):Int×Int×Int×Int×ab×Bool×Int×Int×Int×Int×ab×ab:=eP (eA jd (jo s++ [(k,0,x)]))
def Lp(k:Int)(x:ab)(s:Sg):Sg:=(((iT k x s).1,(iT k x s).2.1,(iT k x s).2.2.1,(iT k x s).2.2.2.1,(iT k x s).2.2.2.2.1),(iT k x s).2.2.2.2.2)
def kS(k:Int)(x:ab)(s:Sg)(j:Jn)(f:Fl)(b er:ab)(l:List ah):Int×Jn×Fl×ab×ab×List ah:=EP (jo (Lp k x s)) (eZ k x j f b er l).2.1 (eZ k x j f b er l).2.2.1 (eZ k x j f b er l).2.2.2.1 er (eZ k x j f b er l).2.2.2.2
abbrev ZB:Type:=Int×Sg×Jn×Fl×ab×ab×(List ah)
abbrev aRy(x:ZB):LV:=aw (ar x.1)
abbrev aRz(x:ZB):List ao:= [(0,alM.wr x.2.1),(1,Ra.wr x.2.2.1),(2,qI.wr x.2.2.2.1),(3,bE.own 0 ae x.2.2.2.2.1),(4,bE.own 0 ag x.2.2.2.2.2.1),(5,bE.own 1 (ag.pair (ag.pair ae.sl)) x.2.2.2.2.2.2)]
def aBN(k:Int)(x:ab)(s:Sg)(j:Jn)(f:Fl)(b er:ab)(l:List ah):Tr ZB:=.need (tO s) (.need (((jo s).length+1)*40≤70368744177664∧(jo s).length+1≤70368744177664) (.need (qJ (jo s++[(k,0,x)])) (.need (xO k x j f b er l) (.ite ((eZ k x j f b er l).1==14) (.need (tO (Lp k x s)) (.need (xQ (eZ k x j f b er l).2.1 (eZ k x j f b er l).2.2.1 (eZ k x j f b er l).2.2.2.1 er (eZ k x j f b er l).2.2.2.2 (jo (Lp k x s))) (.ite ((kS k x s j f b er l).1==0) (.ret ((kS k x s j f b er l).1,(((iT k x s).1,(iT k x s).2.1,(iT k x s).2.2.1,(iT k x s).2.2.2.1,(iT k x s).2.2.2.2.1),(iT k x s).2.2.2.2.2),(kS k x s j f b er l).2.1,(kS k x s j f b er l).2.2.1,(kS k x s j f b er l).2.2.2.1,(kS k x s j f b er l).2.2.2.2.1,(kS k x s j f b er l).2.2.2.2.2)) (.ret ((kS k x s j f b er l).1,s,(kS k x s j f b er l).2.1,(kS k x s j f b er l).2.2.1,(kS k x s j f b er l).2.2.2.1,(kS k x s j f b er l).2.2.2.2.1,(kS k x s j f b er l).2.2.2.2.2))))) (.ite ((eZ k x j f b er l).1==0) (.ret ((eZ k x j f b er l).1,(((iT k x s).1,(iT k x s).2.1,(iT k x s).2.2.1,(iT k x s).2.2.2.1,(iT k x s).2.2.2.2.1),(iT k x s).2.2.2.2.2),(eZ k x j f b er l).2.1,(eZ k x j f b er l).2.2.1,(eZ k x j f b er l).2.2.2.1,er,(eZ k x j f b er l).2.2.2.2)) (.ret ((eZ k x j f b er l).1,s,(eZ k x j f b er l).2.1,(eZ k x j f b er l).2.2.1,(eZ k x j f b er l).2.2.2.1,er,(eZ k x j f b er l).2.2.2.2)))))))
abbrev BI(k:Int)(x:ab)(s:Sg)(j:Jn)(f:Fl)(b er:ab)(l:List Rc):Prop:=dE b er∧mY j l er∧mB s∧bL x∧x.length<1099511627776
abbrev alN(k:Int)(x:ab)(s:Sg)(j:Jn)(f:Fl)(b er:ab)(l:List Rc):ZB:=uf k x s j f b er l
def aRA:bT:=cj [] aH6 adI (q6∘q2 BI) (q6∘q2 alN) aRy aRz
theorem ZC(k:Int)(x:ab)(s:Sg)(j:Jn)(f:Fl)(b er:ab)(l:List Rc)(h_:BI k x s j f b er l):(aBN k x s j f b er l).Is (alN k x s j f b er l):=by
 delta alN;obtain⟨h1,h2,h3,h4,h5⟩:=h_;have en:Lp k x s=Q9 k x s:=rfl;obtain⟨r1,r2⟩:=sV h3;have ro:=qS r1 (nR (x:=(k,0,x)) h4 h5);have hn:mB (Q9 k x s):=xR _ ro Lo;obtain⟨a1,a2⟩:=Zz (k:=k) (x:=x) (f:=f) (b:=b) h2 h4;have hl:qJ (jo s++ [(k,0,x)]):=⟨ro,by rw[List.length_append,List.length_singleton];omega⟩;have ha:xO k x j f b er l:=⟨h1,h2,h4,h5⟩;obtain⟨n1,n2⟩:=sV hn;have hc:xQ (eZ k x j f b er l).2.1 (eZ k x j f b er l).2.2.1 (eZ k x j f b er l).2.2.2.1 er (eZ k x j f b er l).2.2.2.2 (jo (Q9 k x s)):=⟨a1.fl h1,a2,n1,by omega⟩;unfold uf aH5 avR;simp only[aBN,kS,en,bF,cd,bH];refine⟨h3,by omega,hl,ha,fun c1=>⟨hn,hc,fun c2=>?_,fun c2=>?_⟩,fun c1=>⟨fun c2=>?_,fun c2=>?_⟩⟩
 ·rw[if_pos c1,if_pos c2];rfl
 ·rw[if_pos c1,if_neg c2]
 ·rw[if_neg c1,if_pos c2];rfl
 ·rw[if_neg c1,if_neg c2]
theorem ZD:aRA.Ok aA 103:=ay (bI Zy (bI J9 (bI Zq (bI Zw bU)))) func103 call103 (ks:= [.one 5,.fr [.sym],.cu,.bS,.ck]) (fun x_ y_ h=>ZC x_.1 x_.2.1 y_.1 y_.2.1 y_.2.2.1 y_.2.2.2.1 y_.2.2.2.2.1 y_.2.2.2.2.2.1 h)
theorem Lq{k:Int}{x:ab}{s:Sg}{j:Jn}{f:Fl}{b er:ab}{l:List Rc}(h1:dE b er)(h2:mY j l er)(h3:mB s)(h4:bL x)(h5:x.length<1099511627776):Kp b er (uf k x s j f b er l).2.2.2.2.1 (uf k x s j f b er l).2.2.2.2.2.1∧mY (uf k x s j f b er l).2.2.1 (uf k x s j f b er l).2.2.2.2.2.2 (uf k x s j f b er l).2.2.2.2.2.1∧mB (uf k x s j f b er l).2.1:=by
 have r1:=(sV h3).1;have hn:mB (Q9 k x s):=xR _ (qS r1 (nR (x:=(k,0,x)) h4 h5)) Lo;obtain⟨a1,a2⟩:=Zz (k:=k) (x:=x) (f:=f) (b:=b) h2 h4;have hs:mB (if(avR (jo (Q9 k x s)) k x j f b er l).1=0 then Q9 k x s else s):=by split<;>assumption
 unfold uf aH5;refine⟨?_,?_,hs⟩<;>unfold avR<;>split
 ·exact a1.trans (ZA (a1.fl h1) a2 (sV hn).1).1
 ·exact a1
 ·exact(ZA (a1.fl h1) a2 (sV hn).1).2
 ·exact a2
def iU(k:Int)(s:Sg):Int×Int×Int×Int×ab×Bool×Int×Int×Int×Int×ab×ab:=eP (eA jd (jo s++ [(k,0,[])]))
def U9(k:Int)(s:Sg):Sg:=(((iU k s).1,(iU k s).2.1,(iU k s).2.2.1,(iU k s).2.2.2.1,(iU k s).2.2.2.2.1),(iU k s).2.2.2.2.2)
def lH(k:Int)(s:Sg)(j:Jn)(f:Fl)(b er:ab)(l:List ah):Int×Jn×Fl×ab×ab×List ah:=EP (jo (U9 k s)) (eZ k [] j f b er l).2.1 (eZ k [] j f b er l).2.2.1 (eZ k [] j f b er l).2.2.2.1 er (eZ k [] j f b er l).2.2.2.2
def aRD(k:Int)(s:Sg)(j:Jn)(f:Fl)(b er:ab)(l:List ah):Tr ZB:=.need (tO s) (.need (((jo s).length+1)*40≤70368744177664∧(jo s).length+1≤70368744177664) (.need (qJ (jo s++ [(k,0,[])])) (.need (xO k [] j f b er l) (.ite ((eZ k [] j f b er l).1==14) (.need (tO (U9 k s)) (.need (xQ (eZ k [] j f b er l).2.1 (eZ k [] j f b er l).2.2.1 (eZ k [] j f b er l).2.2.2.1 er (eZ k [] j f b er l).2.2.2.2 (jo (U9 k s))) (.ite ((lH k s j f b er l).1==0) (.ret ((lH k s j f b er l).1,(((iU k s).1,(iU k s).2.1,(iU k s).2.2.1,(iU k s).2.2.2.1,(iU k s).2.2.2.2.1),(iU k s).2.2.2.2.2),(lH k s j f b er l).2.1,(lH k s j f b er l).2.2.1,(lH k s j f b er l).2.2.2.1,(lH k s j f b er l).2.2.2.2.1,(lH k s j f b er l).2.2.2.2.2)) (.ret ((lH k s j f b er l).1,s,(lH k s j f b er l).2.1,(lH k s j f b er l).2.2.1,(lH k s j f b er l).2.2.2.1,(lH k s j f b er l).2.2.2.2.1,(lH k s j f b er l).2.2.2.2.2))))) (.ite ((eZ k [] j f b er l).1==0) (.ret ((eZ k [] j f b er l).1,(((iU k s).1,(iU k s).2.1,(iU k s).2.2.1,(iU k s).2.2.2.1,(iU k s).2.2.2.2.1),(iU k s).2.2.2.2.2),(eZ k [] j f b er l).2.1,(eZ k [] j f b er l).2.2.1,(eZ k [] j f b er l).2.2.2.1,er,(eZ k [] j f b er l).2.2.2.2)) (.ret ((eZ k [] j f b er l).1,s,(eZ k [] j f b er l).2.1,(eZ k [] j f b er l).2.2.1,(eZ k [] j f b er l).2.2.2.1,er,(eZ k [] j f b er l).2.2.2.2)))))))
abbrev Lr(k:Int)(s:Sg)(j:Jn)(f:Fl)(b er:ab)(l:List Rc):Prop:=dE b er∧mY j l er∧mB s
abbrev alO(k:Int)(s:Sg)(j:Jn)(f:Fl)(b er:ab)(l:List Rc):ZB:=uf k [] s j f b er l
def aRE:bT:=cj [] aRx adI (q6∘q1 Lr) (q6∘q1 alO) aRy aRz
theorem avS:ac2 Lr aRD alO:=by
 intro k s j f b er l h_;delta alO;exact ZC k [] s j f b er l ⟨h_.1,h_.2.1,h_.2.2,.nil,by decide⟩
theorem avT:aRE.Ok aA 103:=ay (bI Zy (bI J9 (bI Zq (bI Zw bU)))) func103 call103 (ks:= [.one 5,.fr [.sym],.cu,.bS,.ck]) (fun x_=>bz (@avS x_.1))
def sW(c:Cm)(s:Sg)(j:Jn)(f:Fl)(b er:ab)(l:List Rc):Int×LG:=if nJ c= []then(1,s,j,f,b,er,l)else uf 2 (nJ c) s j f b er l
def hY(c:Ck)(s:Sg)(j:Jn)(f:Fl)(b er:ab)(l:List Rc):Int×LG:=if nL c= []then(1,s,j,f,b,er,l)else uf 3 (nL c) s j f b er l
def ca(s:Sg)(j:Jn)(f:Fl)(b er:ab)(l:List Rc):Int×LG:=if s.2.1=false then(0,s,j,f,b,er,l)else uf 4 [] s j f b er l
def sX(c:Int×Int×Int×Int×ab)(s:Sg)(j:Jn)(f:Fl)(b er:ab)(l:List ah):Int×Sg×Jn×Fl×ab×ab×List ah:=uf 2 (nJ c) s j f b er l
def aBO(c:Int×Int×Int×Int×ab)(s:Sg)(j:Jn)(f:Fl)(b er:ab)(l:List ah):Tr ZB:=.need (nK c) (.ite ((↑(nJ c).length:Int)==0) (.ret (1,s,j,f,b,er,l)) (.need (BI 2 (nJ c) s j f b er l) (.ret ((sX c s j f b er l).1,(sX c s j f b er l).2.1,(sX c s j f b er l).2.2.1,(sX c s j f b er l).2.2.2.1,(sX c s j f b er l).2.2.2.2.1,(sX c s j f b er l).2.2.2.2.2.1,(sX c s j f b er l).2.2.2.2.2.2))))
abbrev Ls(c:Cm)(s:Sg)(j:Jn)(f:Fl)(b er:ab)(l:List Rc):Prop:=dE b er∧mY j l er∧mB s∧vg c.2.1∧vg c.2.2.1∧bL c.2.2.2.2
abbrev alP(c:Cm)(s:Sg)(j:Jn)(f:Fl)(b er:ab)(l:List Rc):ZB:=sW c s j f b er l
def aRH:bT:=cj [] ((bR (bO (cr 0 0)) (bD (jf ((cCm bG).jr (fun x=>(x.1,x.2.1,x.2.2.1,x.2.2.2.1,x.2.2.2.2.1)) (fun y=>(y.1,y.2.1,y.2.2.1,y.2.2.2.1,y.2.2.2.2,())) (fun _=>rfl))) bG))) adI (q6∘q1 Ls) (q6∘q1 alP) aRy aRz
theorem avU:ac2 Ls aBO alP:=by
 intro c s j f b er l h_;delta alP;obtain⟨h1,h2,h3,h4,h5,h6⟩:=h_;obtain⟨k1,k2⟩:=Lm h6;have hz:nJ c= []↔((nJ c).length:Int)=0:=by rw[← List.length_eq_zero_iff];omega
 simp only[aBO,sX,bF,cx,cd,bH,sW];refine⟨⟨h4,h5⟩,fun c1=>?_,fun c1=>⟨⟨h1,h2,h3,k1,by omega⟩,?_⟩⟩
 ·rw[if_pos (hz.2 c1)]
 ·rw[if_neg (fun h=>c1 (hz.1 h))]
theorem avV:aRH.Ok aA 75:=ay (bI Eh (bI ZD bU)) func75 call75 (ks:= [.one 5,.fr [.sym],.cu,.bS,.ck]) (fun x_=>bz (@avU x_.1))
def sY(c:Int×Int×Int×Int×ab×ab)(s:Sg)(j:Jn)(f:Fl)(b er:ab)(l:List ah):Int×Sg×Jn×Fl×ab×ab×List ah:=uf 3 (nL c) s j f b er l
def aBP(c:Int×Int×Int×Int×ab×ab)(s:Sg)(j:Jn)(f:Fl)(b er:ab)(l:List ah):Tr ZB:=.need (mj c) (.ite ((↑(nL c).length:Int)==0) (.ret (1,s,j,f,b,er,l)) (.need (BI 3 (nL c) s j f b er l) (.ret ((sY c s j f b er l).1,(sY c s j f b er l).2.1,(sY c s j f b er l).2.2.1,(sY c s j f b er l).2.2.2.1,(sY c s j f b er l).2.2.2.2.1,(sY c s j f b er l).2.2.2.2.2.1,(sY c s j f b er l).2.2.2.2.2.2))))
abbrev Lt(c:Ck)(s:Sg)(j:Jn)(f:Fl)(b er:ab)(l:List Rc):Prop:=dE b er∧mY j l er∧mB s∧bL c.2.2.2.2.1∧bL c.2.2.2.2.2∧c.2.2.2.2.2.length≤200
abbrev alQ(c:Ck)(s:Sg)(j:Jn)(f:Fl)(b er:ab)(l:List Rc):ZB:=hY c s j f b er l
def aRK:bT:=cj [none,some u8] ((bR (bO (cr 0 0)) (bD (jf ((cCk (gx false false u8) bG).jr (fun x=>(x.1,x.2.1,x.2.2.1,x.2.2.2.1,x.2.2.2.2.1,x.2.2.2.2.2.1)) (fun y=>(y.1,y.2.1,y.2.2.1,y.2.2.2.1,y.2.2.2.2.1,y.2.2.2.2.2,())) (fun _=>rfl))) bG))) adI (q6∘q1 Lt) (q6∘q1 alQ) aRy aRz
theorem avW:ac2 Lt aBP alQ:=by
 intro c s j f b er l h_;delta alQ;obtain⟨h1,h2,h3,h4,h5,h6⟩:=h_;obtain⟨k1,k2⟩:=Ln h4 h5 h6;have hz:nL c= []↔((nL c).length:Int)=0:=by rw[← List.length_eq_zero_iff];omega
 simp only[aBP,sY,bF,cx,cd,bH,hY];refine⟨⟨h5,by omega⟩,fun c1=>?_,fun c1=>⟨⟨h1,h2,h3,k1,by omega⟩,?_⟩⟩
 ·rw[if_pos (hz.2 c1)]
 ·rw[if_neg (fun h=>c1 (hz.1 h))]
theorem avX:aRK.Ok aA 196:=ay (bI Ej (bI ZD bU)) func196 call196 (ks:= [.one 5,.fr [.sym],.cu,.bS,.ck]) (fun x_=>bz (@avW x_.1))
def sZ(s:Sg)(j:Jn)(f:Fl)(b er:ab)(l:List ah):Int×Sg×Jn×Fl×ab×ab×List ah:=uf 4 [] s j f b er l
def aBQ(s:Sg)(j:Jn)(f:Fl)(b er:ab)(l:List ah):Tr ZB:=.ite (!s.2.1) (.ret (0,s,j,f,b,er,l)) (.need (Lr 4 s j f b er l) (.ret ((sZ s j f b er l).1,(sZ s j f b er l).2.1,(sZ s j f b er l).2.2.1,(sZ s j f b er l).2.2.2.1,(sZ s j f b er l).2.2.2.2.1,(sZ s j f b er l).2.2.2.2.2.1,(sZ s j f b er l).2.2.2.2.2.2)))
abbrev qU(s:Sg)(j:Jn)(f:Fl)(b er:ab)(l:List Rc):Prop:=dE b er∧mY j l er∧mB s
abbrev alR(s:Sg)(j:Jn)(f:Fl)(b er:ab)(l:List Rc):ZB:=ca s j f b er l
def aRN:bT:=cj [] gL adI (q6∘q0 qU) (q6∘q0 alR) aRy aRz
theorem avY:ac1 qU aBQ alR:=by
 intro s j f b er l h_;delta alR;simp only[aBQ,sZ,bF,cm,bH,ca];refine⟨fun c1=>⟨h_,?_⟩,fun c1=>?_⟩
 ·rw[if_neg (by rw[c1];decide)]
 ·rw[if_pos c1]
theorem BK:aRN.Ok aA 69:=ay (bI avT bU) func69 call69 (ks:= [.one 5,.fr [.sym],.cu,.bS,.ck]) (fun _=>bz @avY)
abbrev Va:cl (List LV) Unit:=bR (bO (cr 0 0)) bG
theorem AA{w:Int}(p:Int)(h:16777216≤w)(h':w<4294967296):253952≤w/2048*eu p∧w/2048*eu p<4294967296∧253952≤w-w/2048*eu p:=by
 have h1:=nx p;generalize eu p=q at*;have h2:8192≤w/2048:=by omega
 have h3:w/2048*2048≤w:=by omega
 generalize w/2048=u at*;obtain⟨q1,q2⟩:=h1;have a1:u*31≤u*q:=Int.mul_le_mul_of_nonneg_left q1 (by omega);have a2:u*q≤u*2017:=Int.mul_le_mul_of_nonneg_left q2 (by omega);generalize u*q=z at*;omega
def lg(p:ab):Nat:=p.length.log2
def TOk(p:ab):Prop:=lg p≤8∧p.length=2 ^ lg p∧jB p∧∀i:Nat,1≤i→i<2 ^ lg p→1≤p.getD i 0
theorem BL(n:Nat)(h:n≤8):shl .i64 1 n=((2 ^ n:Nat):Int):=by
 rw[mU .i64 1 n (by simp[IntKind.bits];omega),Int.one_mul];have h1:(2:Nat) ^ n≤256:=Nat.le_trans (Nat.pow_le_pow_right (by omega) h) (by decide);generalize (2:Nat) ^ n=m at*;exact bM (by omega) (by omega)
theorem adY(l:ab)(i j:Nat)(x:Int):(l.set i x).getD j 0=if i=j∧j<l.length then x else l.getD j 0:=by
 simp only[List.getD_eq_getElem?_getD,List.getElem?_set];by_cases h:i=j
 ·subst h;by_cases h2:i<l.length
  ·simp[h2]
  ·simp[h2,List.getElem?_eq_none (Nat.le_of_not_lt h2)]
 ·simp[h]
abbrev RY:Type:=Int×Int×Int
abbrev aRO:cl LV RY:=(jf (bD (bX .i64) (bD (bX .i64) (bD (bX .u8) bG)))).jr (fun x=>(x.1,x.2.1,x.2.2.1)) (fun y=>(y.1,y.2.1,y.2.2,())) (fun _=>rfl)
def uE(t:RY):Int:=if t.1=0 then 1 else t.1
def adZ(t:RY)(made:Int):Bool:=if t.1=0 then decide (t.2.1=0)else decide (t.2.2=0∧2≤t.1∧t.1≤257∧1≤t.2.1∧t.2.1≤4096∧t.2.1≤made)
def alS(t:Int×Int×Int):Tr sk:=.ite (t.1==0) (.ret (1)) (.ret t.1)
abbrev ER(t:RY):Prop:=True
abbrev Vb(t:RY):sk:=uE t
def aH9:bT:=cj [] ((bD aRO bG)) bG (q0∘q1 ER) (q0∘q1 Vb) aED aEE
theorem alT:abY ER alS Vb:=by
 intro t h_;delta Vb;simp only[alS,uE,cd,bH];exact⟨fun h=>by rw[if_pos h],fun h=>by rw[if_neg h]⟩
theorem alU:aH9.Ok aA 247:=ay bU func247 call247 (ks:=eU) (fun x_ _=>@alT x_.1)
def aBR(t:Int×Int×Int)(made:Int):Tr IE:=.ite (t.1==0) (.ret (t.2.1==0)) (.ite ((t.2.2==0)==true) (.ite (decide (2≤t.1)==true) (.ite (decide (t.1≤257)==true) (.ite (decide (1≤t.2.1)==true) (.ret (decide (t.2.1≤if made< 4096 then made else 4096))) (.ret false)) (.ret false)) (.ret false)) (.ret false))
abbrev Lv(t:RY)(made:Int):Prop:=True
abbrev alV(t:RY)(made:Int):IE:=adZ t made
def aRR:bT:=cj [] ((bD aRO (bD (bO (bX .i64)) bG))) bG (q0∘q2 Lv) (q0∘q2 alV) aEH aEI
theorem avZ:ab1 Lv aBR alV:=by
 intro t made h_;delta alV;have e:(t.2.1≤if made<4096 then made else 4096)↔(t.2.1≤4096∧t.2.1≤made):=by split<;>omega
 simp only[aBR,adZ,cd,bH,SJ,bY,beq_iff_eq,beq_eq_false_iff_ne,decide_eq_true_eq,decide_eq_false_iff_not,e];refine⟨fun h=>by rw[if_pos h];exact(Bool.eq_iff_iff.2 (by simp)),fun h=>?_⟩;rw[if_neg h];refine⟨fun h1=>⟨fun h2=>⟨fun h3=>⟨fun h4=>decide_eq_decide.2 ⟨fun h5=>⟨h1,h2,h3,h4,h5⟩,fun h=>h.2.2.2.2⟩,fun h4=>?_⟩,fun h3=>?_⟩,fun h2=>?_⟩,fun h1=>?_⟩
 ·exact(decide_eq_false fun h=>h4 h.2.2.2.1).symm
 ·exact(decide_eq_false fun h=>h3 h.2.2.1).symm
 ·exact(decide_eq_false fun h=>h2 h.2.1).symm
 ·exact(decide_eq_false fun h=>h1 h.1).symm
theorem av0:aRR.Ok aA 248:=ay bU func248 call248 (ks:=eU) (fun x_ _=>@avZ x_.1 x_.2.1)
theorem alW{t:RY}{made:Int}(h:adZ t made=true):1≤uE t∧uE t≤257:=by
 unfold adZ at h;unfold uE;split at h
 ·rename_i e;rw[if_pos e];omega
 ·rename_i e;rw[if_neg e];have:=of_decide_eq_true h;omega
abbrev zG:Type:=ah
abbrev alX:cl St zG:=(dy (jk 3 (bR (bO (cr (0) (0))) (jk 12 (bD (bO (bX i64)) (bD (bO (bX i64)) (jk 10 bG)))))) (bR (ob (336) ((bR (pk (1) (0)) bG))) (bD (dd (0) (Ty.int u16)) bG))).jr (fun y=>(y.1.1,y.1.2.1,y.2.1)) (fun x=>((x.1,(x.2.1,())),(x.2.2,()))) (fun _=>rfl)
abbrev alY:List Wk:= [.fr (eH 28 [(3,.bV),(16,.bV),(17,.bV)]),.cu,.bS,.ck]
abbrev aIa:Exit→List Wk:=ua alY 0 [.fr (eH 28 [(3,.bV)]),.cu,.bS,.ck] [.fr (eH 28 [(2,.bV)]),.cu,.bS,.ck]
abbrev aIb(x:af4):Exit×St:=(Exit.exit 0,⟨(gE 3 (LV.one (VV.sc (SV.ptr 0 0))::(gE 24 []))),[some (bE.cK [SV.sl 1 0] 336),some (bE.own 0 (Ty.int u16) x)]⟩)
def Lw(n i:Int)(p:ab):Tr (zG⊕(af4)):=.ite (decide (i<n)) (.need (0≤i∧i<(↑p.length:Int)) (.ret (.inl (n,i64.wrap (i+1),p.set i.toNat 1024)))) (.ret (.inr p))
abbrev ES(n i:Int)(p:ab):Prop:=i=0∧p=List.replicate p.length 0∧p.length<1000000∧n=p.length
abbrev Vd(n i:Int)(p:ab):af4:=List.replicate p.length 1024
abbrev alZ:zG→cT:=gX (aC ES) (aC Vd) aIb
theorem al0:aeV ES Lw Vd:=by
 intro n i p h_;delta Vd;obtain⟨rfl,h1,h2,rfl⟩:=h_;generalize hm:p.length=m at*;subst h1;have hl:∀k,k≤m→(List.replicate k (1024:Int)++List.replicate (m-k) 0).length=m:=fun k hk=>by simp;omega
 have key:=eG.iter (L:=fun x_:zG=>Lw x_.1 x_.2.1 x_.2.2) (z:=List.replicate m 1024) (fun k=>((m:Int),(k:Int),List.replicate k 1024++List.replicate (m-k) 0)) m (fun k hk=>?_) ?_
 ·exact key
 ·simp only[Lw,bW,bF,bH,hl k (by omega)];refine⟨fun _=>⟨by omega,?_⟩,fun h=>by omega⟩;rw[bM (by omega) (by omega),Int.toNat_natCast,List.set_append_right _ _ (by simp),List.length_replicate,Nat.sub_self,show m-k=(m-(k+1))+1 from by omega,List.replicate_succ,List.set_cons_zero,List.replicate_succ' (n:=k),List.append_assoc];rfl
 ·simp only[Lw,bW,bF,bH,hl m (by omega),Nat.sub_self,List.replicate_zero,List.append_nil];exact⟨fun h=>by omega,fun _=>trivial⟩
theorem ad0(y_):∀x:zG,Ex aA (bG.wr y_) (.loop (cG f255 0)) (alX.wr x) (alZ x):=ee bJ bU (ws:=aIa) (cn.nil _) (fun _=>by kernel_rfl) (fun z e=>by cases e) im (aR @al0)
def ia(k:Nat):ab:=List.replicate (2 ^ k) 1024
def pc(b:Int):Int:=if 1<if 8<b then 8 else b then if 8<b then 8 else b else 1
abbrev aRS(x:af4):LV:=aw (SV.ptr 0 0)
abbrev aRT(x:af4):List ao:= [(0,bE.cK [SV.sl 1 0] 336),(1,bE.own 0 (Ty.int u16) x)]
def aBS(b:Int):Tr af4:=(.need (0≤pc b) (.need (shl i64 1 (pc b)=shl i64 1 (pc b)∧0≤shl i64 1 (pc b)∧2*shl i64 1 (pc b)≤70368744177664∧shl i64 1 (pc b)≤70368744177664) (.need (ES (↑(List.replicate (shl i64 1 (pc b)).toNat (0:Int)).length:Int) 0 (List.replicate (shl i64 1 (pc b)).toNat (0:Int))) (.ret (List.replicate (List.replicate (shl i64 1 (pc b)).toNat (0:Int)).length (1024:Int))))))
abbrev xS(b:Int):Prop:=1≤b∧b≤8
abbrev al1(b:Int):af4:=ia b.toNat
def aRU:bT:=cj [] inA bG (q0∘q1 xS) (q0∘q1 al1) aRS aRT
theorem av1:abY xS aBS al1:=by
 intro b h_;delta al1;obtain⟨h1,h2⟩:=h_;have e0:(if 1<if 8<b then 8 else b then if 8<b then 8 else b else 1)=b:=by
  rw[if_neg (by omega:¬ 8<b)];split<;>omega
 obtain⟨k,rfl⟩:∃k:Nat,b=k:=⟨b.toNat,by omega⟩;have h3:(2:Nat) ^ k≤256:=Nat.le_trans (Nat.pow_le_pow_right (by omega) (show k≤8 by omega)) (by decide);have e3:shl .i64 1 (k:Int)=((2 ^ k:Nat):Int):=BL k (by omega);simp only[aBS,pc,bF,bH,e0,e3,ia,Int.toNat_natCast,List.length_replicate];generalize (2:Nat) ^ k=m at*;exact⟨by omega,⟨trivial,by omega,by omega,by omega⟩,⟨rfl,by rw[List.length_replicate],by rw[List.length_replicate];omega,by rw[List.length_replicate]⟩,trivial⟩
theorem av2:aRU.Ok aA 255:=az bU func255 call255 (ks:=eU) alX alY alZ ad0 (fun x_ _=>@av1 x_.1)
abbrev jT(i:Nat):cl bE Unit:=fe 336 (bR (pk i 0) bG)
abbrev BM:Type:=ab×Int×ab×ab×ab
abbrev av3(x:BM):LV:=LV.one (VV.agg [SV.arr ag 2 x.1,ar x.2.1,SV.ptr 0 0,SV.ptr 2 0,SV.ptr 4 0])
abbrev av4(x:BM):List ao:= [(0,bE.cK [SV.sl 1 0] 336),(1,bE.own 0 (Ty.int u16) x.2.2.1),(2,bE.cK [SV.sl 3 0] 336),(3,bE.own 0 (Ty.int u16) x.2.2.2.1),(4,bE.cK [SV.sl 5 0] 336),(5,bE.own 0 (Ty.int u16) x.2.2.2.2)]
def av5:Tr BM:=.need (xS 8) (.need (xS 8) (.need (xS 6) (.ret ([1024,1024],0,ia 8,ia 8,ia 6))))
abbrev zH:Prop:=True
abbrev Lx:BM:=([1024,1024],0,ia 8,ia 8,ia 6)
def av6:bT:=cj [] bG bG (q0∘q0 zH) (q0∘q0 Lx) av3 av4
theorem ad1(h_:zH):(av5).Is (Lx):=by
 delta Lx;exact⟨⟨by decide,by decide⟩,⟨by decide,by decide⟩,⟨by decide,by decide⟩,rfl⟩
theorem ad2:av6.Ok aA 242:=ay (bI av2 bU) func242 call242 (ks:= [.fr [.sym],.cu,.bS,.ck,.mS 0 0 2 .i64]) (fun x_ y_ h=>ad1 h)
abbrev jT2:=jT 2
abbrev jT4:=jT 4
abbrev jT6:=jT 6
theorem al2(k:Nat)(h:k≤8):TOk (ia k)∧lg (ia k)=k:=by
 have hl:(ia k).length=2 ^ k:=by simp[ia]
 have e:lg (ia k)=k:=by unfold lg;rw[hl,Nat.log2_two_pow]
 refine⟨⟨by rw[e];exact h,by rw[e,hl],fun i=>?_,fun i _ hi=>?_⟩,e⟩
 ·unfold ia;rw[List.getD_eq_getElem?_getD,List.getElem?_replicate];split<;>simp
 ·rw[e]at hi;unfold ia;rw[List.getD_eq_getElem?_getD,List.getElem?_replicate,if_pos hi];simp
abbrev Dc:Type:=Int×Int×Int
abbrev cDc:cl (List SV) Dc:=(bD (bX .u64) (bD (bX .u64) (bD (bX .i64) bG))).jr (fun x=>(x.1,x.2.1,x.2.2.1)) (fun y=>(y.1,y.2.1,y.2.2,())) (fun _=>rfl)
abbrev Oe:cl bE Dc:=fe 311 cDc
abbrev hDe:cl Hp (Dc×Unit):=bD (cb Oe) bG
abbrev aZD:cl (List LV) (Int×Unit):=bR (bO (cr 0 0)) (bD (bO (bX .u8)) bG)
abbrev aRX:cl (List LV) (Int×Int×Unit):=bR (bO (cr 0 0)) (bD (bO (bX .u64)) (bD (bO (bX .u64)) bG))
def Hw(d:Dc):Prop:=0≤d.1∧16777216≤d.2.1∧d.2.1<4294967296∧((d.2.2=0∧d.1<4294967296)∨(d.2.2=1∧d.1<16777216)∨(d.2.2=2∧d.1<65536)∨(d.2.2=3∧d.1<256)∨(d.2.2=4∧d.1=0))
def Hx(d:Dc)(b:Int):Dc:=if d.2.2=0 then d else(d.1*256+b,d.2.1,d.2.2-1)
def ET(d:Dc):Bool:=decide (d.2.2=0∧d.2.1≤d.1)
def Rb(d:Dc):Bool:=decide (d.2.2=0∧d.1<d.2.1)
def Rd(c w:Int):Dc:=if w<16777216 then(c,w*256,1)else(c,w,0)
def mC(d:Dc)(bound p7:Int):Int×Dc:=if d.1<bound then(0,Rd d.1 bound)else(1,Rd (d.1-bound) p7)
def jq(p:Int)(d:Dc):Int×Int×Dc:=if Rb d=true then
  let r:=mC d (d.2.1/2048*eu p) (d.2.1-d.2.1/2048*eu p)
  (r.1,kC p r.1,r.2)
 else(0,eu p,d)
def nS(d:Dc):Int×Dc:=if Rb d=true then mC d (d.2.1/2) (d.2.1/2)else(0,d)
abbrev ZK:Type:=Int×Int×Int
abbrev aRY(x:ZK):LV:=aw (SV.ptr 0 0)
abbrev aRZ(x:ZK):List ao:= [(0,Oe.wr x)]
def aR0:Tr ZK:=.ret ((0,4294967295,4))
abbrev Ly:Prop:=True
abbrev al3:ZK:=(0,4294967295,4)
def aR1:bT:=cj [] bG bG (q0∘q0 Ly) (q0∘q0 al3) aRY aRZ
theorem av8(h_:Ly):(aR0).Is (al3):=by
 delta al3;exact rfl
theorem av9:aR1.Ok aA 222:=ay bU func222 call222 (ks:=eU) (fun x_ y_ h=>av8 h)
def aIe(d:Int×Int×Int):Tr IE:=.ret (decide (0<d.2.2))
abbrev p8(d:Dc):Prop:=True
abbrev Ve(d:Dc):IE:=decide (0<d.2.2)
def aIf:bT:=cj [] Va hDe (q1∘q0 p8) (q1∘q0 Ve) aEH aEI
theorem al4:abY p8 aIe Ve:=by
 intro d h_;delta Ve;exact rfl
theorem EU:aIf.Ok aA 225:=ay bU func225 call225 (ks:=eU) (fun _=>bq @al4)
abbrev LB:Type:=Bool×(Int×Int×Int)
abbrev aIg(x:LB):LV:=aw (au x.1)
abbrev aIh(x:LB):List ao:= [(0,Oe.wr x.2)]
def al5(b:Int)(d:Int×Int×Int):Tr LB:=.need (p8 d) (.ite (!decide (0<d.2.2)) (.ret (false,d)) (.ret (true,(cV u64 (shl u64 d.1 8) (u64.wrap b),d.2.1,i64.wrap (d.2.2-1)))))
abbrev xT(b:Int)(d:Dc):Prop:=Hw d∧By b
abbrev Vf(b:Int)(d:Dc):LB:=(decide (0<d.2.2),Hx d b)
def aIi:bT:=cj [] aZD hDe (q1∘q1 xT) (q1∘q1 Vf) aIg aIh
theorem al6:ab1 xT al5 Vf:=by
 intro b d h_;delta Vf;obtain⟨⟨h1,h2,h3,h4⟩,h5,h6⟩:=h_;have e0:u64.wrap b=b:=wrap_u64 h5 (by omega);have e1:shl .u64 d.1 8=d.1*256:=by
  have:=mU .u64 d.1 8 (by decide);rw[show((8:Nat):Int)=8 from rfl]at this;rw[this,wrap_u64]<;>omega
 have e2:cV .u64 (d.1*256) b=d.1*256+b:=Ds (m:=8) (by omega) (by omega) h5 (by omega) (by omega);have e3:i64.wrap (d.2.2-1)=d.2.2-1:=bM (by omega) (by omega);simp only[al5,Hx,bF,cm,bH,e0,e1,e2,e3,decide_eq_true_eq,decide_eq_false_iff_not];refine⟨trivial,fun h=>?_,fun h=>?_⟩
 ·rw[if_neg (by omega),decide_eq_true h]
 ·rw[if_pos (by omega),decide_eq_false h]
theorem Re:aIi.Ok aA 226:=ay (bI EU bU) func226 call226 (ks:=eU) (fun x_=>bq (@al6 x_.1))
def al7(d:Int×Int×Int):Tr IE:=.ite ((d.2.2==0)==true) (.ret (decide (d.2.1≤d.1))) (.ret false)
abbrev xU(d:Dc):Prop:=True
abbrev Vg(d:Dc):IE:=ET d
def aIl:bT:=cj [] Va hDe (q1∘q0 xU) (q1∘q0 Vg) aEH aEI
theorem al8:abY xU al7 Vg:=by
 intro d h_;delta Vg;simp only[al7,ET,bY,bH,SJ,beq_iff_eq,beq_eq_false_iff_ne];exact⟨fun h=>decide_eq_decide.2 (by omega),fun h=>(decide_eq_false (by omega)).symm⟩
theorem Rf:aIl.Ok aA 227:=ay bU func227 call227 (ks:=eU) (fun _=>bq @al8)
def aBT(d:Int×Int×Int):Tr IE:=.ite ((d.2.2==0)==true) (.ret (decide (d.1<d.2.1))) (.ret false)
abbrev BN(d:Dc):Prop:=True
abbrev al9(d:Dc):IE:=Rb d
def aR4:bT:=cj [] Va hDe (q1∘q0 BN) (q1∘q0 al9) aEH aEI
theorem awa:abY BN aBT al9:=by
 intro d h_;delta al9;simp only[aBT,Rb,bY,bH,SJ,beq_iff_eq,beq_eq_false_iff_ne];exact⟨fun h=>decide_eq_decide.2 (by omega),fun h=>(decide_eq_false (by omega)).symm⟩
theorem ZM:aR4.Ok aA 267:=ay bU func267 call267 (ks:=eU) (fun _=>bq @awa)
abbrev aR5(x:ZK):LV:=LV.dB []
def aBU(d:Int×Int×Int):Tr ZK:=.ite (decide (d.2.1<16777216)) (.ret ((d.1,shl u64 d.2.1 8,1))) (.ret d)
abbrev BO(d:Dc):Prop:=0≤d.2.1∧d.2.1<4294967296∧d.2.2=0
abbrev ama(d:Dc):ZK:=Rd d.1 d.2.1
def aR7:bT:=cj [] Va hDe (q1∘q0 BO) (q1∘q0 ama) aR5 aRZ
theorem awb:abY BO aBU ama:=by
 intro d h_;delta ama;obtain⟨h1,h2,h3⟩:=h_;obtain⟨c,w,n⟩:=d;simp only at h1 h2 h3;subst h3;simp only[aBU,Rd,bW,bH];refine⟨fun h=>?_,fun h=>by rw[if_neg h]⟩;have:=mU .u64 w 8 (by decide);rw[show((8:Nat):Int)=8 from rfl]at this;rw[this,wrap_u64 (by omega) (by omega),if_pos h];rfl
theorem awc:aR7.Ok aA 271:=ay bU func271 call271 (ks:=eU) (fun _=>bq @awb)
abbrev BP:Type:=Int×(Int×Int×Int)
abbrev awd(x:BP):LV:=aw (ar x.1)
abbrev awe(x:BP):List ao:= [(0,Oe.wr x.2)]
def ZO(bound p7:Int)(d:Int×Int×Int):Tr BP:=.ite (decide (d.1<bound)) (.need (BO (d.1,bound,d.2.2)) (.ret (0,Rd d.1 bound))) (.need (BO (u64.wrap (d.1-bound),p7,d.2.2)) (.ret (1,Rd (u64.wrap (d.1-bound)) p7)))
abbrev tP(bound p7:Int)(d:Dc):Prop:=Hw d∧d.2.2=0∧65536≤bound∧bound<4294967296∧65536≤p7∧p7<4294967296
abbrev LD(bound p7:Int)(d:Dc):BP:=mC d bound p7
def awf:bT:=cj [] aRX hDe (q1∘q2 tP) (q1∘q2 LD) awd awe
theorem ad3:ab6 tP ZO LD:=by
 intro bound p7 d h_;delta LD;obtain⟨⟨h1,h2,h3,h4⟩,h5,h6,h7,h8,h9⟩:=h_;simp only[ZO,mC,bW,bF,bH];refine⟨fun h=>⟨⟨by simp only;omega,h7,h5⟩,by rw[if_pos h]⟩,fun h=>?_⟩;have e:u64.wrap (d.1-bound)=d.1-bound:=wrap_u64 (by omega) (by omega);rw[e];exact⟨⟨by simp only;omega,h9,h5⟩,by rw[if_neg h]⟩
theorem Hy:awf.Ok aA 268:=ay (bI awc bU) func268 call268 (ks:=eU) (fun x_=>bq (@ad3 x_.1 x_.2.1))
theorem ad4(p:Int):eu (eu p)=eu p:=by
 have:=nx p;rw[eu,if_neg (by omega),if_neg (by omega)]
theorem Vh(p b:Int):kC (eu p) b=kC p b:=by unfold kC;rw[ad4]
theorem BQ(d:Dc):Rb d=true↔d.2.2=0∧d.1<d.2.1:=by unfold Rb;simp
def EV(p:Int)(d:Int×Int×Int):Int×Int×Int×Int:=mC d (u64.wrap (shr u64 d.2.1 11*u64.wrap (eu p))) (u64.wrap (d.2.1-u64.wrap (shr u64 d.2.1 11*u64.wrap (eu p))))
abbrev ZP:Type:=Int×Int×(Int×Int×Int)
abbrev aR8(x:ZP):LV:=LV.dB [VV.sc (ar x.1),VV.sc (ar x.2.1)]
abbrev aR9(x:ZP):List ao:= [(0,Oe.wr x.2.2)]
def aBV(p:Int)(d:Int×Int×Int):Tr ZP:=.need (BN d) (.ite (!Rb d) (.ret (0,eu p,d)) (.need (tP (u64.wrap (shr u64 d.2.1 11*u64.wrap (eu p))) (u64.wrap (d.2.1-u64.wrap (shr u64 d.2.1 11*u64.wrap (eu p)))) d) (.ret ((EV p d).1,kC (eu p) (EV p d).1,(EV p d).2))))
abbrev tQ(p:Int)(d:Dc):Prop:=Hw d
abbrev amb(p:Int)(d:Dc):ZP:=jq p d
def aSa:bT:=cj [] Pa hDe (q1∘q1 tQ) (q1∘q1 amb) aR8 aR9
theorem awg:ab1 tQ aBV amb:=by
 intro p d h_;delta amb;obtain⟨h1,h2,h3,h4⟩:=h_;have hb:=AA p h2 h3;have hh:=nx p;have e0:u64.wrap (eu p)=eu p:=wrap_u64 (by omega) (by omega);have e1:shr .u64 d.2.1 11=d.2.1/2048:=wo .u64 d.2.1 11 (by decide);have e2:u64.wrap (d.2.1/2048*eu p)=d.2.1/2048*eu p:=wrap_u64 (by omega) (by omega);have e3:u64.wrap (d.2.1-d.2.1/2048*eu p)=d.2.1-d.2.1/2048*eu p:=wrap_u64 (by omega) (by omega);have ea:EV p d=mC d (d.2.1/2048*eu p) (d.2.1-d.2.1/2048*eu p):=by unfold EV;rw[e0,e1,e2,e3]
 simp only[aBV,jq,bF,cm,bH,e0,e1,e2,e3,ea,Vh];refine⟨trivial,fun h=>⟨⟨⟨h1,h2,h3,h4⟩,((BQ d).1 h).1,by omega,by omega,by omega,by omega⟩,by rw[if_pos h]⟩,fun h=>by rw[if_neg (by simp[h])]⟩
theorem awh:aSa.Ok aA 261:=ay (bI ZM (bI Hy (bI O7 (bI GX bU)))) func261 call261 (ks:=eU) (fun x_=>bq (@awg x_.1))
def BR(d:Int×Int×Int):Int×Int×Int×Int:=mC d (u64.wrap (d.2.1.tdiv 2)) (u64.wrap (d.2.1.tdiv 2))
def amc(d:Int×Int×Int):Tr BP:=.need (BN d) (.ite (!Rb d) (.ret (0,d)) (.need (tP (u64.wrap (d.2.1.tdiv 2)) (u64.wrap (d.2.1.tdiv 2)) d) (.ret ((BR d).1,(BR d).2))))
abbrev EW(d:Dc):Prop:=Hw d
abbrev Vi(d:Dc):BP:=nS d
def aIo:bT:=cj [] Va hDe (q1∘q0 EW) (q1∘q0 Vi) awd awe
theorem amd:abY EW amc Vi:=by
 intro d h_;delta Vi;obtain⟨h1,h2,h3,h4⟩:=h_;have e1:d.2.1.tdiv 2=d.2.1/2:=Int.tdiv_eq_ediv_of_nonneg (by omega);have e2:u64.wrap (d.2.1/2)=d.2.1/2:=wrap_u64 (by omega) (by omega);have ea:BR d=mC d (d.2.1/2) (d.2.1/2):=by unfold BR;rw[e1,e2]
 simp only[amc,nS,bF,cm,bH,e1,e2,ea];refine⟨trivial,fun h=>⟨⟨⟨h1,h2,h3,h4⟩,((BQ d).1 h).1,by omega,by omega,by omega,by omega⟩,by rw[if_pos h]⟩,fun h=>by rw[if_neg (by simp[h])]⟩
theorem ame:aIo.Ok aA 262:=ay (bI ZM (bI Hy bU)) func262 call262 (ks:=eU) (fun _=>bq @amd)
structure RH where
 cs:ab
 bh:Int
 part:Int
 node:Int
 t:RY
abbrev cRH(a b c:Nat):cl (List SV) RH:=(bD (oa (.int .i64) 2) (bD (bX .i64) (bR (cr a 0) (bR (cr b 0) (bR (cr c 0) (bD (bX .i64) (bD (bX .i64) (bD (bX .i64) (bD (bX .i64) (bD (bX .u8) bG)))))))))).jr (fun x=>⟨x.1,x.2.1,x.2.2.1,x.2.2.2.1,(x.2.2.2.2.1,x.2.2.2.2.2.1,x.2.2.2.2.2.2.1)⟩) (fun y=>(y.cs,y.bh,y.part,y.node,y.t.1,y.t.2.1,y.t.2.2,())) (fun _=>rfl)
abbrev jRd:cl bE RH:=fe 318 (cRH 1 3 5)
abbrev hRd:cl Hp (RH×ab×ab×ab×Unit):=bD (cb jRd) (bR (cb jT2) (bD (dd 0 (.int .u16)) (bR (cb jT4) (bD (dd 0 (.int .u16)) (bR (cb jT6) (bD (dd 0 (.int .u16)) bG))))))
abbrev aSb:cl Hp (RH×ab×ab×ab×Dc×Unit):=bD (cb jRd) (bR (cb jT2) (bD (dd 0 (.int .u16)) (bR (cb jT4) (bD (dd 0 (.int .u16)) (bR (cb jT6) (bD (dd 0 (.int .u16)) (bD (cb Oe) bG)))))))
def xV(part:Int):Int:=if part=0 then 1 else if part=1∨part=2 then 8 else 6
def mD(r:RH)(v:Int):Bool×RH:=if r.part=0 then(false,⟨r.cs,v,if v=1 then 2 else 1,r.node,(0,0,0)⟩) else if r.part=1 then(true,⟨r.cs,r.bh,0,r.node,(r.t.1,r.t.2.1,v)⟩) else if r.part=2 then(false,⟨r.cs,r.bh,3,r.node,(v+2,r.t.2)⟩) else if r.part=3 then(false,⟨r.cs,r.bh,4,r.node,(r.t.1,v*64,r.t.2.2)⟩) else(true,⟨r.cs,r.bh,0,r.node,(r.t.1,r.t.2.1+(v+1),r.t.2.2)⟩)
abbrev amf(x:IK):LV:=aw (SV.ptr 1 0)
abbrev amh(x:IK):LV:=aw (SV.ptr 3 0)
abbrev amj(x:IK):LV:=aw (SV.ptr 5 0)
def BS(r:RH)(p1 p2 p3:ab):Tr (IK⊕IK⊕IK):=.ite (r.part==1) (.ret (.inl ())) (.ite (r.part==2) (.ret (.inr (.inl ()))) (.ret (.inr (.inr ()))))
abbrev p9(r:RH)(p1 p2 p3:ab):Prop:=True
abbrev xZ(r:RH)(p1 p2 p3:ab):Bool:=decide (r.part=1)
abbrev LH(r:RH)(p1 p2 p3:ab):IK:=()
abbrev BT(r:RH)(p1 p2 p3:ab):Bool:=decide (r.part=2)
abbrev LI(r:RH)(p1 p2 p3:ab):IK:=()
abbrev LJ(r:RH)(p1 p2 p3:ab):IK:=()
def awi:bT:=Xp [] Va hRd (q4∘q0 p9) (q4∘q0 xZ) (q4∘q0 LH) (q4∘q0 BT) (q4∘q0 LI) (q4∘q0 LJ) amf aEQ amh aEQ amj aEQ
theorem ad5(r:RH)(p1 p2 p3:ab)(h_:p9 r p1 p2 p3):(xZ r p1 p2 p3=true→(BS r p1 p2 p3).Is (.inl (LH r p1 p2 p3)))∧(xZ r p1 p2 p3=false→BT r p1 p2 p3=true→(BS r p1 p2 p3).Is (.inr (.inl (LI r p1 p2 p3))))∧(xZ r p1 p2 p3=false→BT r p1 p2 p3=false→(BS r p1 p2 p3).Is (.inr (.inr (LJ r p1 p2 p3)))):=by
 delta xZ LH BT LI LJ;simp only[BS,cd,bH,decide_eq_true_eq,decide_eq_false_iff_not];grind
theorem ad6:awi.Ok aA 263:=SM bJ bU func263 (by kernel_rfl) call263 (ks:=eU) (fun _ _=>cn.nil _) (fun _ _=>by kernel_rfl) fun x_ y_ h=>ad5 y_.1 y_.2.1 y_.2.2.1 y_.2.2.2.1 h
def ZQ(r:RH)(p1 p2 p3:ab):Tr sk:=.ite (r.part==0) (.ret (1)) (.ite (r.part==1) (.ite (r.part==1) (.ret (8)) (.ite (r.part==3) (.ret (6)) (.ret (6)))) (.ite (r.part==2) (.ret (8)) (.ite (r.part==3) (.ret (6)) (.ret (6)))))
abbrev zI(r:RH)(p1 p2 p3:ab):Prop:=True
abbrev LK(r:RH)(p1 p2 p3:ab):sk:=xV r.part
def awl:bT:=cj [] Va hRd (q4∘q0 zI) (q4∘q0 LK) aED aEE
theorem ad7(r:RH)(p1 p2 p3:ab)(h_:zI r p1 p2 p3):(ZQ r p1 p2 p3).Is (LK r p1 p2 p3):=by
 delta LK;simp only[ZQ,xV,cd,bH];grind
theorem ad8:awl.Ok aA 258:=ay bU func258 call258 (ks:=eU) (fun x_ y_ h=>ad7 y_.1 y_.2.1 y_.2.2.1 y_.2.2.2.1 h)
abbrev x3:Type:=Bool×RH
abbrev aml(x:x3):LV:=aw (au x.1)
abbrev amm(x:x3):List ao:= [(0,jRd.wr x.2)]
def Rg(v:Int)(r:RH)(p1 p2 p3:ab):Tr x3:=(.ite (r.part==0) (.ite (v==1) (.ret (false,{cs:=r.cs,bh:=v,part:=2,node:=r.node,t:=(0,0,0)})) (.ret (false,{cs:=r.cs,bh:=v,part:=1,node:=r.node,t:=(0,0,0)}))) (.ite (r.part==1) (.ret (true,{cs:=r.cs,bh:=r.bh,part:=0,node:=r.node,t:=(r.t.1,r.t.2.1,IntKind.u8.wrap v)})) (.ite (r.part==2) (.ret (false,{cs:=r.cs,bh:=r.bh,part:=3,node:=r.node,t:=(i64.wrap (v+2),r.t.2)})) (.ite (r.part==3) (.ret (false,{cs:=r.cs,bh:=r.bh,part:=4,node:=r.node,t:=(r.t.1,shl i64 v 6,r.t.2.2)})) (.ite (r.part==4) (.ret (true,{cs:=r.cs,bh:=r.bh,part:=0,node:=r.node,t:=(r.t.1,i64.wrap (r.t.2.1+i64.wrap (v+1)),r.t.2.2)})) (.ret (true,{cs:=r.cs,bh:=r.bh,part:=0,node:=r.node,t:=r.t})))))))
abbrev vr(v:Int)(r:RH)(p1 p2 p3:ab):Prop:=0≤v∧v<256∧0≤r.part∧r.part≤4∧0≤r.t.2.1∧r.t.2.1<1000000
abbrev EX(v:Int)(r:RH)(p1 p2 p3:ab):x3:=mD r v
def amn:bT:=cj [] Pa hRd (q4∘q1 vr) (q4∘q1 EX) aml amm
theorem Vj(v:Int)(r:RH)(p1 p2 p3:ab)(h_:vr v r p1 p2 p3):(Rg v r p1 p2 p3).Is (EX v r p1 p2 p3):=by
 delta EX;obtain⟨h1,h2,h3,h4,h5,h6⟩:=h_;have e1:IntKind.u8.wrap v=v:=by rw[wrap_u8];omega
 have e2:i64.wrap (v+2)=v+2:=bM (by omega) (by omega);have e3:i64.wrap (v+1)=v+1:=bM (by omega) (by omega);have e4:i64.wrap (r.t.2.1+(v+1))=r.t.2.1+(v+1):=bM (by omega) (by omega);have e5:shl .i64 v 6=v*64:=by
  have:=mU .i64 v 6 (by decide);rw[show((6:Nat):Int)=6 from rfl]at this;rw[this];exact bM (by omega) (by omega)
 simp only[Rg,mD,cd,bH,e1,e2,e3,e4,e5];grind
theorem Vk:amn.Ok aA 259:=ay bU func259 call259 (ks:=eU) (fun x_ y_ h=>Vj x_.1 y_.1 y_.2.1 y_.2.2.1 y_.2.2.2.1 h)
def x8(r:RH)(d:Int×Int×Int):Int×Int×Int×Int×Int:=jq ((List.take 2 (List.drop 0 r.cs)).getD r.bh.toNat 0) d
abbrev LL:Type:=Int×RH×ab×ab×ab×(Int×Int×Int)
abbrev aIp(x:LL):LV:=aw (ar x.1)
abbrev aIq(x:LL):List ao:= [(0,jRd.wr x.2.1),(1,bE.cK [SV.sl 2 1] 336),(2,bE.own 1 (Ty.int u16) x.2.2.1),(3,bE.cK [SV.sl 4 1] 336),(4,bE.own 1 (Ty.int u16) x.2.2.2.1),(5,bE.cK [SV.sl 6 1] 336),(6,bE.own 1 (Ty.int u16) x.2.2.2.2.1),(7,Oe.wr x.2.2.2.2.2)]
def amo(r:RH)(p1 p2 p3:ab)(d:Int×Int×Int):Tr LL:=.ite (r.part==0) (.need (0 ≤r.bh∧r.bh<2) (.need (tQ ((List.take 2 (List.drop 0 r.cs)).getD r.bh.toNat 0) d) (.need (0≤r.bh∧r.bh<2) (.ret ((x8 r d).1,{cs:=r.cs.set (0+r.bh.toNat) (x8 r d).2.1,bh:=r.bh,part:=r.part,node:=r.node,t:=r.t},p1,p2,p3,(x8 r d).2.2))))) (.ite (r.part==4) (.need (EW d) (.ret ((nS d).1,r,p1,p2,p3,(nS d).2))) (.ite (decide (r.part=1)) (.need (p9 r p1 p2 p3) (.need (jB p1) (.need (tQ (Ob p1 r.node) d) (.need (jB p1) (.ret ((jq (Ob p1 r.node) d).1,r,pO p1 r.node (jq (Ob p1 r.node) d).1,p2,p3,(jq (Ob p1 r.node) d).2.2)))))) (.ite (decide (r.part=2)) (.need (p9 r p1 p2 p3) (.need (jB p2) (.need (tQ (Ob p2 r.node) d) (.need (jB p2) (.ret ((jq (Ob p2 r.node) d).1,r,p1,pO p2 r.node (jq (Ob p2 r.node) d).1,p3,(jq (Ob p2 r.node) d).2.2)))))) (.need (p9 r p1 p2 p3) (.need (jB p3) (.need (tQ (Ob p3 r.node) d) (.need (jB p3) (.ret ((jq (Ob p3 r.node) d).1,r,p1,p2,pO p3 r.node (jq (Ob p3 r.node) d).1,(jq (Ob p3 r.node) d).2.2)))))))))
def mE(r:RH)(p1 p2 p3:ab)(d:Dc):Int×RH×ab×ab×ab×Dc:=if r.part=0 then
  let x:=jq (r.cs.getD r.bh.toNat 0) d
  (x.1,⟨r.cs.set r.bh.toNat x.2.1,r.bh,r.part,r.node,r.t⟩,p1,p2,p3,x.2.2)
 else if r.part=4 then((nS d).1,r,p1,p2,p3,(nS d).2)
 else if r.part=1 then
  let x:=jq (Ob p1 r.node) d
  (x.1,r,pO p1 r.node x.1,p2,p3,x.2.2)
 else if r.part=2 then
  let x:=jq (Ob p2 r.node) d
  (x.1,r,p1,pO p2 r.node x.1,p3,x.2.2)
 else
  let x:=jq (Ob p3 r.node) d
  (x.1,r,p1,p2,pO p3 r.node x.1,x.2.2)
abbrev EY(r:RH)(p1 p2 p3:ab)(d:Dc):Prop:=r.cs.length=2∧(r.bh=0∨r.bh=1)∧jB p1∧jB p2∧jB p3∧Hw d
abbrev Vl(r:RH)(p1 p2 p3:ab)(d:Dc):LL:=mE r p1 p2 p3 d
def aIr:bT:=cj [] ((bR (bO (cr 0 0)) (bR (bO (cr 7 0)) bG))) aSb (q5∘q0 EY) (q5∘q0 Vl) aIp aIq
theorem amp(r:RH)(p1 p2 p3:ab)(d:Dc)(h_:EY r p1 p2 p3 d):(amo r p1 p2 p3 d).Is (Vl r p1 p2 p3 d):=by
 delta Vl;obtain⟨h1,h2,h3,h4,h5,h6⟩:=h_;have e1:(List.take 2 (List.drop 0 r.cs)).getD r.bh.toNat 0=r.cs.getD r.bh.toNat 0:=by rw[List.drop_zero,List.take_of_length_le (by omega)]
 have ea:x8 r d=jq (r.cs.getD r.bh.toNat 0) d:=by unfold x8;rw[e1]
 have hb:0≤r.bh∧r.bh<2:=by omega
 simp only[amo,mE,cd,bW,bF,bH,e1,ea,Nat.zero_add];refine⟨fun e=>⟨hb,h6,hb,by rw[if_pos e]⟩,fun e=>?_⟩;rw[if_neg e];refine⟨fun e2=>⟨h6,by rw[if_pos e2]⟩,fun e2=>?_⟩;rw[if_neg e2];refine⟨fun e3=>⟨trivial,h3,h6,h3,by rw[if_pos e3]⟩,fun e3=>?_⟩;rw[if_neg e3];refine⟨fun e4=>⟨trivial,h4,h6,h4,by rw[if_pos e4]⟩,fun e4=>?_⟩;rw[if_neg e4];exact⟨trivial,h5,h6,h5,rfl⟩
theorem amq:aIr.Ok aA 257:=ay (bI ad6 (bI awh (bI ame (bI aEw (bI af3 bU))))) func257 call257 (ks:= [.one 2,.one 4,.one 6,.fr [.sym],.cu,.bS,.ck]) (fun x_ y_ h=>amp y_.1 y_.2.1 y_.2.2.1 y_.2.2.2.1 y_.2.2.2.2.1 h)
theorem amr{d:Dc}(h:Hw d){b:Int}(hb:By b):Hw (Hx d b):=by
 obtain⟨h1,h2,h3,h4⟩:=h;obtain⟨h5,h6⟩:=hb;unfold Hx;split
 ·exact⟨h1,h2,h3,h4⟩
 ·exact⟨by simp only;omega,h2,h3,by simp only;omega⟩
def x9(part:Int):Int:=if part=0 then 2 else if part=1∨part=2 then 256 else 64
theorem Rh(part:Int):shl .i64 1 (xV part)=x9 part:=by
 unfold xV x9;split
 ·exact BL 1 (by omega)
 ·split
  ·exact BL 8 (by omega)
  ·exact BL 6 (by omega)
theorem size_pos(part:Int):0≤xV part:=by unfold xV;split<;>(try split)<;>omega
structure ROk (r:RH):Prop where
 len:r.cs.length=2
 bh:r.bh=0∨r.bh=1
 part:0≤r.part∧r.part≤4
 node:1≤r.node∧r.node<x9 r.part
 a3P:0≤r.t.2.1∧r.t.2.1≤4096
 tb:0≤r.t.2.2∧r.t.2.2<256
 p4:r.part=4→r.t.2.1≤4032
theorem BV(p:Int)(d:Dc):0≤(jq p d).1∧(jq p d).1≤1:=by
 unfold jq mC;split
 ·simp only;split<;>simp
 ·simp
theorem ams(d:Dc):0≤(nS d).1∧(nS d).1≤1:=by
 unfold nS mC;split
 ·split<;>simp
 ·simp
theorem zJ(r:RH)(p1 p2 p3:ab)(d:Dc):(mE r p1 p2 p3 d).2.1.bh=r.bh∧(mE r p1 p2 p3 d).2.1.part=r.part∧(mE r p1 p2 p3 d).2.1.node=r.node∧(mE r p1 p2 p3 d).2.1.t=r.t∧(mE r p1 p2 p3 d).2.1.cs.length=r.cs.length∧0≤(mE r p1 p2 p3 d).1∧(mE r p1 p2 p3 d).1≤1:=by
 have h:=ams d;unfold mE;split
 ·have:=BV (r.cs.getD r.bh.toNat 0) d;exact⟨rfl,rfl,rfl,rfl,by simp,this⟩
 ·split
  ·exact⟨rfl,rfl,rfl,rfl,rfl,h⟩
  ·split
   ·exact⟨rfl,rfl,rfl,rfl,rfl,BV _ d⟩
   ·split
    ·exact⟨rfl,rfl,rfl,rfl,rfl,BV _ d⟩
    ·exact⟨rfl,rfl,rfl,rfl,rfl,BV _ d⟩
def cE(r:RH)(p1 p2 p3:ab)(d:Dc):(RY×Bool)×RH×ab×ab×ab×Dc:=let x:=mE r p1 p2 p3 d
 let n:=2*r.node+x.1
 if n<x9 r.part then(((0,0,0),false),⟨x.2.1.cs,r.bh,r.part,n,r.t⟩,x.2.2)
 else
  let y:=mD ⟨x.2.1.cs,r.bh,r.part,1,r.t⟩ (n-x9 r.part)
  if y.1=true then((y.2.t,true),y.2,x.2.2)else(((0,0,0),false),y.2,x.2.2)
theorem Hz(part:Int):2≤x9 part∧x9 part≤256:=by unfold x9;split<;>(try split)<;>omega
theorem ad9{r:RH}(h:ROk r){v:Int}(h0:0≤v)(h1:v<x9 r.part)(hn:r.node=1):ROk (mD r v).2:=by
 obtain⟨k1,k2,k3,k4,k5,k6,k7⟩:=h;unfold mD;split
 ·rename_i e;rw[e]at h1;have h1:v<2:=h1;refine⟨k1,by simp only;omega,by simp only;split<;>omega,?_,by simp,by simp,by simp⟩;simp only;split<;>(rw[hn];decide)
 ·split
  ·rename_i e;rw[e]at h1;have h1:v<256:=h1;exact⟨k1,k2,by simp,by simp only[hn];decide,k5,⟨h0,h1⟩,by simp⟩
  ·split
   ·rename_i e;exact⟨k1,k2,by simp,by simp only[hn];decide,k5,k6,by simp⟩
   ·split
    ·rename_i e;rw[e]at h1;have h1:v<64:=h1;exact⟨k1,k2,by simp,by simp only[hn];decide,by simp only;omega,k6,by simp only;omega⟩
    ·rename_i e1 e2 e3 e4;have e5:r.part=4:=(by omega);rw[e5]at h1;have h1:v<64:=h1;have:=k7 e5;exact⟨k1,k2,by simp,by simp only[hn];decide,by simp only;omega,k6,by simp⟩
theorem amt{r:RH}(h:ROk r)(p1 p2 p3:ab)(d:Dc):ROk (cE r p1 p2 p3 d).2.1:=by
 obtain⟨h1,h2,h3,h4,h5,h6,h7⟩:=zJ r p1 p2 p3 d;have hc:=Hz r.part;have hr:=h;obtain⟨k1,k2,k3,k4,k5,k6,k7⟩:=h;unfold cE;simp only;split
 ·rename_i e;exact⟨by simp only;omega,k2,k3,by simp only;omega,k5,k6,k7⟩
 ·have:=ad9 (r:=⟨(mE r p1 p2 p3 d).2.1.cs,r.bh,r.part,1,r.t⟩) ⟨by simp only;omega,k2,k3,by simp only;omega,k5,k6,k7⟩ (v:=2*r.node+(mE r p1 p2 p3 d).1-x9 r.part) (by omega) (by simp only;omega) rfl;split<;>exact this
def da(r:RH)(p1 p2 p3:ab)(d:Int×Int×Int):Int×RH×ab×ab×ab×Int×Int×Int:=mE r p1 p2 p3 d
def kT(r:RH)(p1 p2 p3:ab)(d:Int×Int×Int):Int:=i64.wrap (i64.wrap (i64.wrap (2*r.node)+(da r p1 p2 p3 d).1)-shl i64 1 (xV (da r p1 p2 p3 d).2.1.part))
def yc(r:RH)(p1 p2 p3:ab)(d:Int×Int×Int):Int×Int×Int:=(da r p1 p2 p3 d).2.1.t
def kU(r:RH)(p1 p2 p3:ab)(d:Int×Int×Int):RH:= {cs:=(da r p1 p2 p3 d).2.1.cs,bh:=(da r p1 p2 p3 d).2.1.bh,part:=(da r p1 p2 p3 d).2.1.part,node:=1,t:=yc r p1 p2 p3 d}
abbrev BW:Type:=Int×Int×Int×Bool×RH×ab×ab×ab×(Int×Int×Int)
abbrev awn(x:BW):LV:=LV.dB [VV.agg [ar x.1,ar x.2.1,SV.int IntKind.u8 (SI.sym x.2.2.1)],VV.sc (au x.2.2.2.1)]
abbrev awo(x:BW):List ao:= [(0,jRd.wr x.2.2.2.2.1),(1,bE.cK [SV.sl 2 1] 336),(2,bE.own 1 (Ty.int u16) x.2.2.2.2.2.1),(3,bE.cK [SV.sl 4 1] 336),(4,bE.own 1 (Ty.int u16) x.2.2.2.2.2.2.1),(5,bE.cK [SV.sl 6 1] 336),(6,bE.own 1 (Ty.int u16) x.2.2.2.2.2.2.2.1),(7,Oe.wr x.2.2.2.2.2.2.2.2)]
def ZR(r:RH)(p1 p2 p3:ab)(d:Int×Int×Int):Tr BW:=(.need (EY r p1 p2 p3 d) (.need ((Out.bN none (LV.one (VV.sc (SV.int i64 (SI.sym (da r p1 p2 p3 d).2.1.node)))) [],[0])=(Out.bN none (LV.one (VV.sc (SV.int i64 (SI.sym r.node)))) [],[0])) (.need (zI {cs:=(da r p1 p2 p3 d).2.1.cs,bh:=(da r p1 p2 p3 d).2.1.bh,part:=(da r p1 p2 p3 d).2.1.part,node:=i64.wrap (i64.wrap (2*r.node)+(da r p1 p2 p3 d).1),t:=yc r p1 p2 p3 d} (da r p1 p2 p3 d).2.2.1 (da r p1 p2 p3 d).2.2.2.1 (da r p1 p2 p3 d).2.2.2.2.1) (.need (0≤xV (da r p1 p2 p3 d).2.1.part) (.ite (decide (i64.wrap (i64.wrap (2*r.node)+(da r p1 p2 p3 d).1)<shl i64 1 (xV (da r p1 p2 p3 d).2.1.part))) (.ret (0,0,0,false,{cs:=(da r p1 p2 p3 d).2.1.cs,bh:=(da r p1 p2 p3 d).2.1.bh,part:=(da r p1 p2 p3 d).2.1.part,node:=i64.wrap (i64.wrap (2*r.node)+(da r p1 p2 p3 d).1),t:=(da r p1 p2 p3 d).2.1.t},(da r p1 p2 p3 d).2.2.1,(da r p1 p2 p3 d).2.2.2.1,(da r p1 p2 p3 d).2.2.2.2.1,(da r p1 p2 p3 d).2.2.2.2.2)) (.need (vr (kT r p1 p2 p3 d) (kU r p1 p2 p3 d) (da r p1 p2 p3 d).2.2.1 (da r p1 p2 p3 d).2.2.2.1 (da r p1 p2 p3 d).2.2.2.2.1) (.ite (!(mD (kU r p1 p2 p3 d) (kT r p1 p2 p3 d)).1) (.ret (0,0,0,false,(mD (kU r p1 p2 p3 d) (kT r p1 p2 p3 d)).2,(da r p1 p2 p3 d).2.2.1,(da r p1 p2 p3 d).2.2.2.1,(da r p1 p2 p3 d).2.2.2.2.1,(da r p1 p2 p3 d).2.2.2.2.2)) (.ret ((mD (kU r p1 p2 p3 d) (kT r p1 p2 p3 d)).2.t.1,(mD (kU r p1 p2 p3 d) (kT r p1 p2 p3 d)).2.t.2.1,(mD (kU r p1 p2 p3 d) (kT r p1 p2 p3 d)).2.t.2.2,true,(mD (kU r p1 p2 p3 d) (kT r p1 p2 p3 d)).2,(da r p1 p2 p3 d).2.2.1,(da r p1 p2 p3 d).2.2.2.1,(da r p1 p2 p3 d).2.2.2.2.1,(da r p1 p2 p3 d).2.2.2.2.2)))))))))
abbrev zK(r:RH)(p1 p2 p3:ab)(d:Dc):Prop:=ROk r∧jB p1∧jB p2∧jB p3∧Hw d
abbrev LM(r:RH)(p1 p2 p3:ab)(d:Dc):BW:=((cE r p1 p2 p3 d).1.1.1,(cE r p1 p2 p3 d).1.1.2.1,(cE r p1 p2 p3 d).1.1.2.2,(cE r p1 p2 p3 d).1.2,(cE r p1 p2 p3 d).2)
def awp:bT:=cj [] ((bR (bO (cr 0 0)) (bR (bO (cr 7 0)) bG))) aSb (q5∘q0 zK) (q5∘q0 LM) awn awo
theorem aea(r:RH)(p1 p2 p3:ab)(d:Dc)(h_:zK r p1 p2 p3 d):(ZR r p1 p2 p3 d).Is (LM r p1 p2 p3 d):=by
 delta LM;obtain⟨hr,h3,h4,h5,h6⟩:=h_;obtain⟨b1,b2,b3,b4,b5,b6,b7⟩:=zJ r p1 p2 p3 d;obtain⟨k1,k2,k3,k4,k5,k6,k7⟩:=hr;have hc:=Hz r.part;have ea:da r p1 p2 p3 d=mE r p1 p2 p3 d:=rfl;have w1:i64.wrap (2*r.node)=2*r.node:=bM (by omega) (by omega);have w2:i64.wrap (2*r.node+(mE r p1 p2 p3 d).1)=2*r.node+(mE r p1 p2 p3 d).1:=bM (by omega) (by omega);have w3:i64.wrap (2*r.node+(mE r p1 p2 p3 d).1-x9 r.part)=2*r.node+(mE r p1 p2 p3 d).1-x9 r.part:=bM (by omega) (by omega);have ea1:kT r p1 p2 p3 d=2*r.node+(mE r p1 p2 p3 d).1-x9 r.part:=by
  unfold kT;rw[ea,b2,Rh,w1,w2,w3]
 have ea2:yc r p1 p2 p3 d=r.t:=by unfold yc;rw[ea,b4]
 have ea3:kU r p1 p2 p3 d=⟨(mE r p1 p2 p3 d).2.1.cs,r.bh,r.part,1,r.t⟩:=by
  unfold kU;rw[ea,b1,b2,ea2]
 simp only[ZR,cE,bF,bW,cm,bH,ea,ea1,ea2,ea3,b1,b2,b3,b4,w1,w2,Rh];refine⟨⟨k1,k2,h3,h4,h5,h6⟩,trivial,trivial,size_pos _,fun h=>by rw[if_pos h],fun h=>?_⟩;rw[if_neg h];refine⟨⟨by omega,by omega,k3.1,k3.2,by simp only;omega,by simp only;omega⟩,fun h1=>by rw[if_pos h1],fun h1=>by rw[if_neg (by simp[h1])]⟩
theorem aeb:awp.Ok aA 246:=ay (bI amq (bI ad8 (bI Vk bU))) func246 call246 (ks:= [.one 2,.one 4,.one 6,.fr [.sym],.cu,.bS,.ck]) (fun x_ y_ h=>aea y_.1 y_.2.1 y_.2.2.1 y_.2.2.2.1 y_.2.2.2.2.1 h)
abbrev LN:Type:=RH×ab×ab×ab
abbrev aIs(x:LN):LV:=aw (SV.ptr 0 0)
abbrev aIt(x:LN):List ao:= [(0,jRd.wr x.1),(1,jT2.wr ()),(2,bE.own 0 (Ty.int u16) x.2.1),(3,jT4.wr ()),(4,bE.own 0 (Ty.int u16) x.2.2.1),(5,jT6.wr ()),(6,bE.own 0 (Ty.int u16) x.2.2.2)]
def aIu:Tr LN:=.need zH (.ret ({cs:= [1024,1024],bh:=0,part:=0,node:=1,t:=(0,0,0)},ia 8,ia 8,ia 6))
abbrev EZ:Prop:=True
abbrev Vm:LN:=(⟨[1024,1024],0,0,1,(0,0,0)⟩,ia 8,ia 8,ia 6)
def aIv:bT:=cj [] bG bG (q0∘q0 EZ) (q0∘q0 Vm) aIs aIt
theorem amu(h_:EZ):(aIu).Is (Vm):=by
 delta Vm;exact⟨trivial,rfl⟩
theorem amv:aIv.Ok aA 223:=ay (bI ad2 bU) func223 call223 (ks:= [.fr [.sym],.cu,.bS,.ck,.iN 0 0 2 .i64]) (fun x_ y_ h=>amu h)
theorem zL{p:ab}(h:jB p)(n b:Int):jB (pO p n b):=by
 intro i;have ha:=As (p.getD n.toNat 0) b;unfold pO;split
 ·rw[adY];split
  ·omega
  ·exact h i
 ·exact h i
theorem amw{c w:Int}(h1:0≤c)(h2:c≤w)(h3:65536≤w)(h4:w<4294967296):Hw (Rd c w):=by
 unfold Rd;split
 ·exact⟨h1,by simp only;omega,by simp only;omega,.inr (.inl ⟨rfl,by simp only;omega⟩)⟩
 ·exact⟨h1,by simp only;omega,h4,.inl ⟨rfl,by simp only;omega⟩⟩
theorem Ri{d:Dc}(h:Hw d){x y:Int}(hx:65536≤x∧x<4294967296)(hy:65536≤y∧y<4294967296)(iZ:d.1≤x+y):Hw (mC d x y).2:=by
 have h1:=h.1;unfold mC;split
 ·exact amw h1 (by omega) hx.1 hx.2
 ·exact amw (by omega) (by omega) hy.1 hy.2
theorem yd{d:Dc}(h:Hw d)(p:Int):Hw (jq p d).2.2:=by
 unfold jq;split
 ·rename_i hm;have hb:=AA p h.2.1 h.2.2.1;have hm':=(BQ d).1 hm;have:=h.2.2.1;exact Ri h ⟨by omega,by omega⟩ ⟨by omega,by omega⟩ (by omega)
 ·exact h
theorem aec{d:Dc}(h:Hw d):Hw (nS d).2:=by
 unfold nS;split
 ·rename_i hm;have hm':=(BQ d).1 hm;have h1:=h.2.1;have h2:=h.2.2.1;exact Ri h ⟨by omega,by omega⟩ ⟨by omega,by omega⟩ (by omega)
 ·exact h
theorem aIw{r:RH}{p1 p2 p3:ab}{d:Dc}(h1:jB p1)(h2:jB p2)(h3:jB p3)(h:Hw d):
  let x:=(mE r p1 p2 p3 d).2.2
  jB x.1∧jB x.2.1∧jB x.2.2.1∧Hw x.2.2.2:=by
 unfold mE;split
 ·exact⟨h1,h2,h3,yd h _⟩
 ·split
  ·exact⟨h1,h2,h3,aec h⟩
  ·split
   ·exact⟨zL h1 _ _,h2,h3,yd h _⟩
   ·split
    ·exact⟨h1,zL h2 _ _,h3,yd h _⟩
    ·exact⟨h1,h2,zL h3 _ _,yd h _⟩
theorem Vn(r:RH)(p1 p2 p3:ab)(d:Dc):(cE r p1 p2 p3 d).2.2=(mE r p1 p2 p3 d).2.2:=by
 unfold cE;simp only;split
 ·rfl
 ·split<;>rfl
def muR(r:RH):Nat:=(if r.part=0 then 21 else if r.part=1 then 8 else if r.part=2 then 20 else if r.part=3 then 12 else 6)-r.node.toNat.log2
theorem amx(n b:Int)(h:1≤n)(h0:0≤b)(h1:b≤1):(2*n+b).toNat.log2=n.toNat.log2+1:=by
 have e:(2*n+b).toNat/2=n.toNat:=by omega
 rw[Nat.log2_def,if_pos (by omega),e]
theorem awr{n:Int}{k:Nat}(h:1≤n)(h1:n<2 ^ k):n.toNat.log2<k:=by
 rw[Nat.log2_lt (by omega)];have:((2 ^ k:Nat):Int)=2 ^ k:=by exact_mod_cast rfl
 omega
theorem aws{r:RH}(h:ROk r)(p1 p2 p3:ab)(d:Dc)(hw:(cE r p1 p2 p3 d).1.2=false):muR (cE r p1 p2 p3 d).2.1<muR r:=by
 obtain⟨b1,b2,b3,b4,b5,b6,b7⟩:=zJ r p1 p2 p3 d;obtain⟨k1,k2,k3,k4,k5,k6,k7⟩:=h;have hl:=amx r.node (mE r p1 p2 p3 d).1 k4.1 b6 b7;have F7:r.node.toNat.log2<(if r.part=0 then 1 else if r.part=1∨r.part=2 then 8 else 6):=by
  refine awr k4.1 ?_;have:=k4.2;unfold x9 at this;split at this
  ·rename_i e;rw[if_pos e];simpa using this
  ·rename_i e;split at this
   ·rename_i e1;rw[if_neg e,if_pos e1];simpa using this
   ·rename_i e1;rw[if_neg e,if_neg e1];simpa using this
 unfold cE at hw ⊢;simp only at hw ⊢;have l1:(1:Int).toNat.log2=0:=by decide
 split
 ·rename_i e;unfold muR;simp only[hl];split at F7
  ·rename_i e1;simp only[e1,if_true];omega
  ·rename_i e1;simp only[e1,if_false];split at F7
   ·rename_i e2;rcases e2 with e2|e2
    ·simp only[e2,if_true];omega
    ·simp only[e2];simp;omega
   ·rename_i e2;rw[if_neg (fun h=>e2 (.inl h)),if_neg (fun h=>e2 (.inr h))];split<;>omega
 ·rename_i e;rw[if_neg e]at hw;split
  ·rename_i hy;rw[if_pos hy]at hw;cases hw
  ·rename_i hy;unfold mD at hy ⊢;simp only at hy ⊢;unfold muR;by_cases c0:r.part=0
   ·rw[if_pos c0]at F7;simp only[c0,if_true,l1]at hy ⊢;split<;>simp<;>omega
   ·by_cases c1:r.part=1
    ·simp[c1]at hy
    ·by_cases c2:r.part=2
     ·rw[if_neg c0,if_pos (.inr c2)]at F7;simp[c2,l1];omega
     ·by_cases c3:r.part=3
      ·rw[if_neg c0,if_neg (by omega)]at F7;simp[c3,l1];omega
      ·simp[c0,c1,c2,c3]at hy
def r0H:RH:=⟨[1024,1024],0,0,1,(0,0,0)⟩
theorem E0(k:Nat)(h:k≤8):jB (ia k):=(al2 k h).1.2.2.1
theorem aZF:ROk r0H:=⟨rfl,.inl rfl,by decide,by decide,by decide,by decide,by decide⟩
end Go.Proofs.YtliehnnljilacaaGreat
