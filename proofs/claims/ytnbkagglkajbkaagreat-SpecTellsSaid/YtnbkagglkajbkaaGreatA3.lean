/- What the laws lean on, part 3: a reader of code, plain facts, and what each function gives; no conditions. -/
import Derived.Laws.BitsLemmas
import Derived.Laws.NewFold
import Derived.Deep.AppendSrc
import Derived.Lib.AppendZerosOnto
import Derived.Test.YtnbkagglkajbkaaGreatA2
set_option linter.unusedVariables false
set_option linter.unusedSimpArgs false
noncomputable section
namespace Go.Ev
open Go
open Go.IntKind (i64 signed u16 u64 wrap)
theorem AZ(a:Addr)(i j:Nat):(a.add i).add j=a.add (i+j):=by
 obtain⟨b,o,s⟩:=a
 by_cases hi:i=0
 ·subst hi;have:(⟨b,o,s⟩:Addr).add 0=⟨b,o,s⟩:=if_pos rfl;rw[this,Nat.zero_add]
 ·have:(⟨b,o,s⟩:Addr).add i=⟨b,o+i,none⟩:=if_neg hi;rw[this,bT];unfold Addr.add;rw[if_neg (by omega),Nat.add_assoc]
theorem wrap_small{n:Int}(h0:0≤n)(h1:n≤9223372036854775807):i64.wrap n=n:=by rw[IntKind.wrap_i64];omega
theorem me{P:Program}{w:World}{a:Addr}{cs:List Value}{elem:TypeId}{fz:Nat×Nat}(h:w.heap[a.block]? =some (.cells cs.toArray elem fz))(hf:AM fz cs.length):
  ∃w' fz',(markStringish a).run P w= .ok () w'∧w'.heap[a.block]? =some (.cells cs.toArray elem fz')∧AM fz' cs.length∧(∀b,b≠a.block→w'.heap[b]? =w.heap[b]?)∧w'.heap.size=w.heap.size∧w'.os=w.os∧w'.output=w.output:=by
 have hsh:w.shape? a.block=some (elem,cs.length):=by simp[World.shape?,h]
 refine⟨w.freeze ⟨a.block,cs.length,none⟩ 1,if fz.1==fz.2 then(cs.length,cs.length+1)else(min fz.1 cs.length,max fz.2 (cs.length+1)),?_,?_,?_,?_,?_,?_,?_⟩
 ·simp[markStringish,hsh]
 ·obtain⟨lo,hi⟩:=fz;simp only[World.freeze,Nat.one_ne_zero,if_false,Array.getElem?_modify,if_true,h];rfl
 ·unfold AM at hf ⊢
  split
  ·exact .inr (Nat.le_refl _)
  ·rename_i gJ;have:fz.1≠fz.2:=(by simpa using gJ);right;simp only;omega
 ·intro b hb;simp only[World.freeze,Nat.one_ne_zero,if_false,Array.getElem?_modify];rw[if_neg (fun e=>hb e.symm)]
 ·simp[World.freeze]
 ·simp[World.freeze]
 ·simp[World.freeze]
theorem KS{z:List Value}{s:Nat}(hz:z.length=s)(d:Value):∀n:Nat,(List.range (n*s)).map (fun i=>z.getD (i%s) d)=(List.replicate n z).flatten
 |0=>by simp
 |n+1=>by
  rw[Nat.succ_mul,List.range_add,List.map_append,KS hz d n,List.replicate_succ',List.flatten_append]
  congr 1
  rw[List.map_map];simp only[List.flatten_cons,List.flatten_nil,List.append_nil]
  apply List.ext_getElem
  ·simp[hz]
  ·intro i h1 h2;have hi:i<s:=(by simpa using h1);simp[List.getD,Nat.add_mod,Nat.mod_eq_of_lt hi,hz,hi]
theorem KT{β:Env}{L:Nat→Option Kd}{z:List SV}{zc:List Value}(h:bf β L z zc):∀n:Nat,bf β L ((List.replicate n z).flatten) ((List.replicate n zc).flatten)
 |0=>.nil
 |n+1=>by simp only[List.replicate_succ,List.flatten_cons];exact h.append (KT h n)
theorem A0{α:Type}{R:α→List Value→Prop}{x:α}{zc:List Value}(h:R x zc):∀n:Nat,aU R (List.replicate n x) ((List.replicate n zc).flatten)
 |0=>.nil
 |n+1=>by simp only[List.replicate_succ,List.flatten_cons];exact .cons h (A0 h n)
theorem mL{z:Value}{s:Nat}(n:Nat)(hz:z.cells.size=s):(Array.range (n*s)).map (fun i=>z.cells[i%z.cells.size]!)=((List.replicate n z.cells.toList).flatten).toArray:=by
 apply Array.ext'
 rw[← KS (z:=z.cells.toList) (s:=s) (by simpa using hz) default n,hz];simp only[Array.toList_map,Array.toList_range]
 apply List.map_congr_left
 intro i _;simp[Array.getElem!_eq_getD,Array.getD_eq_getD_getElem?,List.getD]
noncomputable section
variable {P:Program} {st:St} {o:Oper} {q:Option Prop} {v:LV} {d:List (Nat×Item)}
theorem nt{β:Env}{w:World}{b:Nat}{t:Ty}{l:List t.D}{eD rest:List Value}{elem:TypeId}{fz:Nat×Nat}{c:Nat}(hw:w.heap[b]? =some (.cells (eD++rest).toArray elem fz))(hl:aU (t.has β true) l eD)
  (hc:l.length≤c) (hr:(c-l.length)*t.w≤rest.length) (hf:AM fz (eD++rest).length):dE β w (.slice (some ⟨b,0,none⟩) l.length c) t l:=
 ⟨_,_,_,rfl,rfl,hc,by simp,fun _=>⟨_,[],eD,rest,elem,fz,rfl,rfl,by simpa using hw,rfl,hl,hr,by simpa using hf⟩⟩
theorem anQ{id:Nat}{src dst:TypeId}{x:Operand}{s:SV}(ho:o.op= .convert src dst x)(hx:jD (ev st x)=some s)(h:(PU P id src dst s).val st.hp=some (q,v,d))(pA:(∃x,(id,x)∈d)→kd st.hp id=none):gE P o st q v d:=by
 unfold PU at h
 split at h
 ·rename_i d' k hs En;simp only[Ask.val]at h
  split at h
  ·rename_i k' n;simp at h;obtain⟨rfl,rfl,rfl⟩:=h;refine gE.pure fun _ W ak β₀ β a w hr=>?_;have e:a.eval x= .int k' n.val:=bg hx (aT hr x);refine⟨.int k (k.wrap n.val),by simp[execOp,ho,e,convert,run_underlying hs,run_underlying En,Conv.intToInt],?_⟩;show Value.int k (k.wrap n.val)= .int k (ad7 k n).val;rw[Za]
  ·cases h
 ·rename_i e hs En
  split at h
  ·rename_i he;rw[Ask.cU]at h;obtain⟨⟨pm,l⟩,hc,he2⟩:=map_some h;simp at he2;obtain⟨rfl,rfl,rfl⟩:=he2;refine gE.pure fun _ W ak β₀ β a w hr=>?_;have pY:=nk hr.heap hc (bg hx (aT hr x));have eR:=run_bytesToString (P:=P) pY;obtain⟨aa,n,c,e1,_⟩:=pY;refine⟨_,?_,rfl⟩;rw[e1]at eR;simp[execOp,ho,e1,convert,run_underlying hs,run_underlying En,run_underlying he,eR]
  ·simp[Ask.val]at h
 ·rename_i hs En;simp only[Ask.val]at h
  split at h
  ·rename_i l hl;simp at h;obtain⟨rfl,rfl,rfl⟩:=h;refine gE.pure fun _ W ak β₀ β a w hr=>?_;have e:=jC hl (bg hx (aT hr x));exact⟨.string (strOf l),by simp[execOp,ho,e,convert,run_underlying hs,run_underlying En],rfl⟩
  ·cases h
 ·rename_i e hs En;simp only[Ask.val]at h
  split at h
  ·rename_i l he hl
   split at h
   ·rename_i hsz
    cases h
    have pA:=pA ⟨_,by simp;rfl⟩;intro _ W ak β₀ β a w hr;have ex:=jC hl (bg hx (aT hr x))
    let s:=strOf l
    have hlen:s.size=l.length:=sN l
    let cap:=(Question.appendCap s.size 0 e).cut (w.tape w.drawn (.appendCap s.size 0 e))
    have Eo:s.size≤cap:=by simp[cap,Question.cut]
    let eD:List Value:=(l.map fun n=>((UInt8.ofNat n.toNat).toNat:Int)).map (.int .u8)
    let rest:List Value:=List.replicate (cap-s.size) (.int .u8 0)
    let w1:=w.drew.alloc (.cells (eD++rest).toArray e)
    have hw1:w1.heap[w.heap.size]? =some (.cells (eD++rest).toArray e (0,0)):=heap_alloc_new w.drew _;obtain⟨w2,fz',r1,r2,r3,r4,r5,r6,r7⟩:=me (P:=P) (a:=⟨w.heap.size,0,none⟩) hw1 (.inl rfl)
    have aEk:aU ((Ty.int .u8).has β true) (l.map fun n=>((UInt8.ofNat n.toNat).toNat:Int)) eD:=by
     show aU _ _ (List.map _ (List.map _ l));generalize (l.map fun n=>((UInt8.ofNat n.toNat).toNat:Int))=m
     induction m with
     |nil=>exact .nil
     |cons x m ih=>exact aU.cons (vs:= [_]) rfl ih
    have iO:=nt (c:=cap) r2 aEk (by simp;omega) (by simp[rest,Ty.w];omega) r3;have hll:(l.map fun n=>((UInt8.ofNat n.toNat).toNat:Int)).length=s.size:=(by simp[hlen]);rw[hll]at iO
    obtain⟨β',h1,h2,h3⟩:=hr.heap.sS pA (ver:=0) (w':=w2) (by rw[r5];show w.heap.size≤(w.drew.alloc _).heap.size;rw[World.size_alloc];exact Nat.le_succ _) (by rw[r6];rfl) (by rw[r7];rfl) (fun b hb=>by
     rw[r4 b (by show b≠w.heap.size;omega)];exact heap_alloc_old w.drew _ b hb) iO (fun a n c e _=>by simp at e;obtain⟨rfl,_⟩:=e;exact Nat.le_refl _)
    refine⟨β',w2,_,.slice (some ⟨w.heap.size,0,none⟩) s.size cap,?_,.inl rfl,?_,h1,h2⟩
    ·have hel:(strOf l).data.map (fun b=>Value.int .u8 b.toNat)=eD.toArray:=by
      apply Array.ext'
      simp[strOf,eD,List.map_map,Function.comp_def]
     have aEl:(strOf l).data.map (fun b=>Value.int .u8 b.toNat)++Array.replicate (cap-s.size) (Value.int .u8 0)=(eD++rest).toArray:=by
      rw[hel];apply Array.ext';simp[rest]
     have hq:(Question.appendCap s.size 0 e).forced=false:=rfl;simp only[execOp,ho,ex,convert,Sem.run_bind,run_underlying hs,run_underlying En,run_underlying he,Result.andThen_ok,Conv.stringToBytes,run_choose_drew,hq,Bool.false_eq_true,if_false,newRow,run_newObj,Sem.run_pure];show((Sem.run P (markStringish ⟨w.drew.heap.size,0,none⟩) (w.drew.alloc (.cells ((strOf l).data.map (fun b=>Value.int .u8 b.toNat)++Array.replicate (cap-s.size) (Value.int .u8 0)) e))).andThen _).andThen _=_;rw[aEl];show((Sem.run P (markStringish ⟨w.heap.size,0,none⟩) w1).andThen _).andThen _=_;rw[r1];rfl
    ·refine⟨rfl,0,?_,Nat.le_refl _,fun _=>h3.symm⟩;show kd (setAt st.hp id _) id=_;rw[dq,if_pos rfl];rfl
   ·cases h
  ·cases h
 ·rename_i e' e hs En
  split at h
  ·rename_i i ver
   split at h
   ·rename_i hsd
    split at h
    ·rename_i he;simp only[Ask.val]at h
     split at h
     ·rename_i ver' l hi
      split at h
      ·rename_i hc;obtain⟨rfl,gJ⟩:=hc;simp at h;obtain⟨rfl,rfl,rfl⟩:=h;intro _ W ak β₀ β a w hr;have hd:=bg hx (aT hr x);obtain⟨sk,hh⟩:=hr.heap.pX (p:=fun v=>a.eval x=v) (aB hi) hd.2;have aIY:=sk;obtain⟨a0,n,c,e1,hn,VC,ha,eX⟩:=sk
       have hc0:0<c:=by
        have:0<l.length:=List.length_pos_iff.2 gJ;omega
       obtain⟨a1,pre,eD,rest,elem,fz,rfl,k1,k2,k3,k4,k5,k6⟩:=eX hc0;obtain⟨w',fz',r1,r2,r3,r4,r5,r6,r7⟩:=me (P:=P) k2 k6
       obtain⟨β',h1,h2,h3⟩:=hr.heap.xg (aB hi) (ver':=ver) (l':=l) (v:=β.h i) (w':=w') (.inr ⟨rfl,rfl⟩) (by omega) r6 r7 (fun b hb sC=>r4 b fun e=>sC (by subst e;exact⟨a1,n,c,e1,hc0,rfl⟩))
        (by rw[e1];exact⟨_,n,c,rfl,hn,VC,by simp,fun _=>⟨a1,pre,eD,rest,elem,fz',rfl,k1,r2,k3,k4,k5,r3⟩⟩) (fun a n c e h0=>.inl ⟨a,n,c,e,h0,rfl⟩)
       refine⟨β',w',_,a.eval x,?_,.inl rfl,SV.eZ h2 hd,h1,h2⟩;rw[hh,e1];subst hsd;have hee:e'=e:=(by rw[hs]at En;simpa using En);subst hee;have:a.eval x= .slice (some a1) n c:=(by rw[hh,e1]);simp[execOp,ho,this,convert,run_underlying hs,run_underlying he,r1]
      ·cases h
     ·cases h
    ·simp[Ask.val]at h
   ·simp[Ask.val]at h
  ·simp[Ask.val]at h
 ·simp[Ask.val]at h
end
noncomputable section
variable {P:Program} {st:St} {o:Oper} {q:Option Prop} {v:LV} {d:List (Nat×Item)}
theorem azI{lo hi mx:Option Operand}{W:World}{ak:Hp}{β₀ β:Env}{a:Act}{w:World}(hr:Rel W ak β₀ β st a w){isS:Bool}{n c:Nat}{r:Nat×Nat×Nat}(h:nm n c (lo.map (ev st)) (hi.map (ev st)) (mx.map (ev st))=some r):
  (Instr.sliceBounds isS n c (lo.map a.eval) (hi.map a.eval) (mx.map a.eval)).run P w= .ok r w:=
 Em (P:=P) (w:=w) (β:=β) (L:=kd st.hp) (lov:=lo.map a.eval) (hiv:=hi.map a.eval) (mxv:=mx.map a.eval) h
  (fun y hy=>by obtain⟨z,hz,rfl⟩:=map_some hy;exact⟨a.eval z,by simp[hz],aT hr z⟩) (by cases lo<;>simp)
  (fun y hy=>by obtain⟨z,hz,rfl⟩:=map_some hy;exact⟨a.eval z,by simp[hz],aT hr z⟩) (by cases hi<;>simp) (by cases mx<;>simp)
theorem KU{t el:TypeId}{x:Operand}{lo hi mx:Option Operand}{b off n:Nat}(ho:o.op= .slice t x lo hi mx)(hx:jD (ev st x)=some (.ptr b off))(pB:pU P t=some (n,el))
  (h:((ga P 0 (ev st) (.slice t x lo hi mx)).val st.hp)=some (q,v,d)):gE P o st q v d:=by
 have hu:=nh pB;simp only[ga,hx,pB,Ask.val]at h
 split at h
 ·rename_i cells elem sz hb hs
  split at h
  ·rename_i ty n' l j8
   split at h
   ·rename_i x' y' Ef hhi
    split at h
    ·rename_i hc;obtain⟨rfl,rfl⟩:=hc
     cases h
     refine gE.pure fun hq W ak β₀ β a w hr=>?_;obtain⟨q1,q2,q3⟩:0≤x'∧x'≤y'∧y'≤(n':Int):=hq;obtain⟨uc,ex⟩:=bg hx (aT hr x);have hsb:=tZ (P:=P) hr (isS:=false) Ef hhi q1 q2 q3 (Nat.le_refl _);refine⟨.slice (some (if n'=x'.toNat then⟨β.b b,off,none⟩else(⟨β.b b,off,none⟩:Addr).add (x'.toNat*ty.w))) (y'.toNat-x'.toNat) (n'-x'.toNat),?_,uc,q1,by omega,by omega,some (if n'=x'.toNat then⟨β.b b,off,none⟩else(⟨β.b b,off,none⟩:Addr).add (x'.toNat*ty.w)),n'-x'.toNat,?_,?_,(fun e=>by cases e),fun h0=>?_⟩
     ·simp only[execOp,ho,ex,Instr.sliceAt,underlying,Sem.run_bind,run_program,Result.andThen_ok,hu,Instr.sureAddr,Sem.run_pure,hsb,run_sizeOf hs,Option.map_none]
     ·rw[show(y'-x').toNat=y'.toNat-x'.toNat from by omega]
     ·omega
     ·rw[if_neg (by omega)]
    ·cases h
   ·cases h
  ·obtain⟨r,hsp,he⟩:=map_some h
   cases he
   refine gE.pure fun _ W ak β₀ β a w hr=>?_;obtain⟨uc,ex⟩:=bg hx (aT hr x);have hsb:=azI (P:=P) hr (isS:=false) hsp;refine⟨.slice (some ⟨β.b b,if r.2.2=r.1 then off else off+r.1*sz,none⟩) (r.2.1-r.1) (r.2.2-r.1),?_,uc,rfl⟩;simp only[execOp,ho,ex,Instr.sliceAt,underlying,Sem.run_bind,run_program,Result.andThen_ok,hu,Instr.sureAddr,Sem.run_pure,hsb,run_sizeOf hs]
   split<;>simp[bT]
 ·cases h
theorem zw{a:Option Addr}{c k:Nat}{f:Addr→Addr}(h:a=none→c=0):(if c=k then a else a.map f)=none→c-k=0:=by
 intro e
 split at e
 ·have:=h e;omega
 ·cases a with
  |none=>have:=h rfl;omega
  |some a=>cases e
theorem bb.aeg{W:World}{ak:Hp}{β₀ β:Env}{hp:Hp}{w:World}(h:bb W ak β₀ β hp w){pm:Bool}{u u':Value}{t:Ty}{l l':List t.D}(hr:β.rd pm u t l)(pY:bN β pm w u' t l')(np:∀b,inBlock u' b→inBlock u b):
  ∃β',bb W ak β₀ β' hp w∧bO β β' (kd hp) (kd hp)∧β'.rd pm u' t l':=by
 obtain⟨h1,h2,h3⟩:=h.o8 pY fun b hb=>⟨((h.reads _ _ _ _ hr).2 b (np b hb)).1,((h.reads _ _ _ _ hr).2 b (np b hb)).2,h.from_ pm u t l b hr (np b hb)⟩;exact⟨_,h1,h2,h3⟩
theorem anR{W:World}{ak:Hp}{β₀ β:Env}{hp:Hp}{w:World}(h:bb W ak β₀ β hp w){s r:SV}{pm:Bool}{t:Ty}{l:List t.D}{x y:Int}(hc:(jG s).val hp=some (pm,⟨t,l⟩))(hs:au8 t.w x y s=some r)
  {a:Option Addr} {n c:Nat} (hd:s.den β (kd hp) (.slice a n c)) (q1:0≤x) (q2:x≤y) (q3:y≤l.length):
  ∃β',bb W ak β₀ β' hp w∧bO β β' (kd hp) (kd hp)∧r.den β' (kd hp) (.slice (if c=x.toNat then a else a.map (·.add (x.toNat*t.w))) (y.toNat-x.toNat) (c-x.toNat)):=by
 have pY:=lr h hc hd;obtain⟨a',n',c',e,hn,VC,hz,eX⟩:=pY;simp at e;obtain⟨rfl,rfl,rfl⟩:=e;have hyx:(y-x).toNat=y.toNat-x.toNat:=by omega
 unfold au8 at hs
 split at hs
 ·rename_i lW nn t' l';simp at hs;subst hs
  have sQ:pm=lW∧(⟨t,l⟩:(t:Ty)×List t.D)=⟨t',l'⟩:=by
   unfold jG at hc;rw[Ask.eF]at hc;simp[GB,Ask.val,Ask.cU,jF]at hc;obtain⟨h1,rfl,h2⟩:=hc;exact⟨h1.symm,by simpa using h2.symm⟩
  obtain⟨rfl,e⟩:=sQ
  cases e
  have Zc:yF (.slice a n c) t.w x (y-x) (.slice (if c=x.toNat then a else a.map (·.add (x.toNat*t.w))) (y.toNat-x.toNat) (c-x.toNat)):=by
   refine⟨_,_,_,_,_,rfl,q1,by omega,by omega,by rw[hyx],by omega,zw hz,fun h0=>?_⟩;obtain⟨a0,_,rfl,_⟩:=eX (by omega);exact⟨a0,rfl,by rw[if_neg (by omega)];rfl⟩
  have aEm:bN β pm w (.slice a n c) t l:=⟨_,_,_,rfl,hn,VC,hz,eX⟩;obtain⟨_,_,pJ⟩:=hd
  have np:∀b,inBlock (Value.slice (if c=x.toNat then a else a.map (·.add (x.toNat*t.w))) (y.toNat-x.toNat) (c-x.toNat)) b→inBlock (Value.slice a n c) b:=by
   intro b hb
   cases a with
   |none=>split at hb<;>exact hb.elim
   |some a=>
    split at hb
    ·obtain⟨h1,h2⟩:=hb;exact⟨by omega,h2⟩
    ·obtain⟨h1,h2⟩:=hb;exact⟨by omega,by rw[← h2,dU]⟩
  rcases pJ with pJ|⟨rfl,pJ⟩|⟨e,rfl⟩
  ·obtain⟨β',k1,k2,k3⟩:=h.aeg pJ ((h.reads _ _ _ _ pJ).1.sub Zc) np;exact⟨β',k1,k2,rfl,fun e=>(by cases e),.inl k3⟩
  ·obtain⟨β',k1,k2,k3⟩:=h.aeg pJ ((h.reads _ _ _ _ pJ).1.sub Zc) np;exact⟨β',k1,k2,rfl,fun e=>(by cases e),.inr (.inl ⟨rfl,k3⟩)⟩
  ·simp at e;obtain⟨rfl,rfl,rfl⟩:=e;refine⟨β,h,bO.refl _ _,rfl,fun e=>(by cases e),.inr (.inr ⟨?_,by simp⟩)⟩;have xh:x.toNat=0:=(by simp at q3;omega);have AX:y.toNat=0:=(by simp at q3;omega);rw[xh,AX];rfl
 ·rename_i i ver;simp at hs;subst hs;obtain⟨k1,cc,k2,k3,k4⟩:=hd;refine⟨β,h,bO.refl _ _,rfl,cc,k2,k3,fun e=>⟨a,n,c,_,_,(k4 e).symm,q1,by omega,by omega,by rw[hyx],by omega,zw hz,fun h0=>?_⟩⟩;obtain⟨a0,_,rfl,_⟩:=eX (by omega);exact⟨a0,rfl,by rw[if_neg (by omega)];rfl⟩
 ·rename_i i ver w' z m;simp at hs;subst hs
  have hw:w'=t.w:=by
   unfold jG at hc;rw[Ask.eF]at hc
   split at hc
   ·rename_i t0 _;rw[Ask.cU]at hc;obtain⟨⟨lW,l'⟩,h1,h2⟩:=map_some hc;simp at h2;obtain⟨_,rfl,_⟩:=h2;simp only[jF,Ask.val]at h1
    split at h1
    ·split at h1
     ·split at h1
      ·rename_i hh;exact hh.2
      ·cases h1
     ·cases h1
    ·cases h1
   ·cases hc
  subst hw;obtain⟨k1,cc,k2,k3,k4⟩:=hd;refine⟨β,h,bO.refl _ _,rfl,cc,k2,k3,fun e=>?_⟩;obtain⟨a1,m1,c1,a2,c2,e1,z0,m0,hle,e2,hc2,hz2,ub⟩:=k4 e;simp at e2;obtain⟨rfl,e3,rfl⟩:=e2;refine⟨a1,m1,c1,_,_,e1,by omega,by omega,by omega,by rw[hyx],by omega,zw hz2,fun h0=>?_⟩;obtain⟨a0,rfl,rfl⟩:=ub (by omega);refine⟨a0,rfl,?_⟩;rw[if_neg (by omega),Option.map_some,AZ,← Nat.add_mul,show(z+x).toNat=z.toNat+x.toNat from by omega]
 ·rename_i b o' t' m z k;simp at hs;subst hs;have ht:t'=t:=by have:=Zb hc;simp[GB,Ask.val]at this;exact this
  subst ht;obtain⟨k1,z0,m0,zm,a2,c2,e2,hc2,hz2,ub⟩:=hd;simp at e2;obtain⟨rfl,e3,rfl⟩:=e2;refine⟨β,h,bO.refl _ _,k1,by omega,by omega,by omega,_,_,by rw[hyx],by omega,zw hz2,fun h0=>?_⟩;have:=ub (by omega);subst this;rw[if_neg (by omega),Option.map_some,AZ,← Nat.add_mul,show(z+x).toNat=z.toNat+x.toNat from by omega]
 ·cases hs
end
noncomputable section
variable {P:Program} {st:St} {o:Oper} {q:Option Prop} {v:LV} {d:List (Nat×Item)}
theorem aeh{id:Nat}{t:TypeId}{x:Operand}{lo hi mx:Option Operand}(ho:o.op= .slice t x lo hi mx)
  (h:((ga P id (ev st) (.slice t x lo hi mx)).val st.hp)=some (q,v,d)):gE P o st q v d:=by
 have h0:=h;simp only[ga]at h
 split at h
 ·rename_i b off n el _ hx pB;refine KU ho hx pB ?_;simp only[ga]at h0 ⊢;exact h0
 ·rename_i b off len cap el hx pB pe;have hu:=dV pe;simp only[Ask.val]at h
  split at h
  ·rename_i l hh m sz hsp hs
   cases h
   refine gE.pure fun _ W ak β₀ β a w hr=>?_;obtain⟨uc,ex⟩:=bg hx (aT hr x);have hsb:=azI (P:=P) hr (isS:=true) hsp;refine⟨.slice (some ⟨β.b b,if m=l then off else off+l*sz,none⟩) (hh-l) (m-l),?_,uc,rfl⟩;simp only[execOp,ho,ex,Instr.sliceAt,Instr.slice,underlying,Sem.run_bind,run_program,Result.andThen_ok,hu,Sem.run_pure,hsb,run_sizeOf hs]
   split<;>simp[bT]
  ·cases h
 ·rename_i s el hx pB pe;have hu:=dV pe;rw[Ask.cU]at h
  split at h
  ·rename_i pm ty l sz hc hs
   split at h
   ·rename_i x' y' Ef hhi
    split at h
    ·rename_i hw;subst hw;obtain⟨r,PA,he⟩:=map_some h
     cases he
     intro hq W ak β₀ β a w hr;obtain⟨q1,q2,q3⟩:0≤x'∧x'≤y'∧y'≤(l.length:Int):=hq;have hd:=bg hx (aT hr x);obtain⟨a',n',c',ex,hn,VC,_⟩:=lr hr.heap hc hd;rw[ex]at hd;rw[← hn]at hhi q3;have hsb:=tZ (P:=P) hr (isS:=true) Ef hhi q1 q2 q3 VC;obtain⟨β',k1,k2,k3⟩:=anR hr.heap hc PA hd q1 q2 (by rw[← hn];exact q3);refine⟨β',w,_,_,?_,.inl rfl,k3,k1,k2⟩;simp only[execOp,ho,ex,Instr.sliceAt,Instr.slice,underlying,Sem.run_bind,run_program,Result.andThen_ok,hu,Sem.run_pure,Option.map_none];rw[hsb];simp only[Result.andThen_ok,run_sizeOf hs,Sem.run_pure]
    ·cases h
   ·cases h
  ·cases h
 ·simp[Ask.val]at h
theorem GG{id:Nat}{t:TypeId}{x y:Operand}(ho:o.op= .makeSlice t x y)(h:((ga P id (ev st) (.makeSlice t x y)).val st.hp)=some (q,v,d))(pA:(∃x,(id,x)∈d)→kd st.hp id=none):gE P o st q v d:=by
 simp only[ga,Ask.val]at h
 split at h
 ·rename_i el k1 n k2 c pe hn hc;have hu:=dV pe
  split at h
  ·rename_i ty sz z w7 hty hs hz PB
   split at h
   ·rename_i nq;obtain⟨rfl,jB,hwz⟩:=nq
    split at h
    ·rename_i z0 hz0
     cases h
     have aej:=pA ⟨_,by simp;rfl⟩;intro hq W ak β₀ β a w hr;obtain⟨rfl,Ep,aIZ,aI0⟩:c=n∧0≤n∧(w7:Int)*n≤2 ^ 46∧n≤2 ^ 46:=hq;have en:=fy hn (aT hr x);have ec:=fy hc (aT hr y);obtain⟨zv,VD,hzd⟩:=pV (P:=P) (w:=w) (β:=β) (L:=kd st.hp) hz;have hzs:zv.cells.size=ty.w:=(by have:=hzd.length;simp at this;omega);have hzh:=ty.gD hz0 hzd;have ave:=wrap_small (n:=c) Ep (by omega)
     have aEo:∃i,P.info? el=some i∧i.bytes=w7:=by
      unfold pT at PB;obtain⟨i,h1,h2⟩:=map_some PB;exact⟨i,h1,h2⟩
     obtain⟨i,hi,hib⟩:=aEo;have j8:aU (ty.has β true) (List.replicate c.toNat z0) ((List.replicate c.toNat zv.cells.toList).flatten):=A0 hzh _;have iO:=nt (β:=β) (w:=w.alloc (.cells ((List.replicate c.toNat zv.cells.toList).flatten++ []).toArray el)) (b:=w.heap.size) (elem:=el) (fz:=(0,0)) (rest:= []) (c:=c.toNat) (heap_alloc_new w _) j8 (by simp) (by simp) (.inl rfl);rw[List.append_nil,List.length_replicate]at iO;obtain⟨β',h1,h2,h3⟩:=hr.heap.sS aej (ver:=0) (w':=w.alloc (.cells ((List.replicate c.toNat zv.cells.toList).flatten).toArray el)) (by rw[World.size_alloc];exact Nat.le_succ _) rfl rfl (fun b hb=>heap_alloc_old w _ b hb) iO (fun a n c e _=>by simp at e;obtain⟨rfl,_⟩:=e;exact Nat.le_refl _);refine⟨β',_,_,.slice (some ⟨w.heap.size,0,none⟩) c.toNat c.toNat,?_,.inl rfl,?_,h1,h2⟩
     ·have hti:(typeInfo el).run P w= .ok i w:=by simp[typeInfo,hi]
      have aek:¬ ((c<0)∨((i.bytes:Int)*c>2 ^ 48)):=by
       rw[hib];intro hh;rcases hh with hh|hh<;>omega
      have anU:(decide (c<0)||decide ((i.bytes:Int)*c>2 ^ 48))=false:=by
       have:¬ (c<0)∧¬ ((i.bytes:Int)*c>2 ^ 48):=⟨fun hh=>aek (.inl hh),fun hh=>aek (.inr hh)⟩;simp only[this.1,this.2,decide_false,Bool.or_self]
      simp only[execOp,ho,en,ec,Instr.makeSlice,Sem.run_bind,run_underlying hu,Result.andThen_ok,asInt,asIntOf,Sem.run_pure,hti,ave,anU,Bool.false_or];rw[if_neg (by simp;omega)];simp only[Sem.run_bind,run_askRoom,Result.andThen_ok,run_sizeOf hs]
      by_cases PY:c.toNat*ty.w=0
      ·have h01:c.toNat=0:=by
        rcases Nat.mul_eq_zero.1 PY with k|k
        ·exact k
        ·omega
       rw[if_pos PY];simp only[Sem.run_bind,Result.andThen_ok,newRow,run_newObj,Sem.run_pure,h01];have hr0:(Array.range 0).map (fun x=>(#[]:Array Value)[x%(#[]:Array Value).size]!)= #[]:=(by simp);rw[Nat.zero_mul,hr0];simp
      ·rw[if_neg PY];simp only[Sem.run_bind,VD,Result.andThen_ok,newRow,run_newObj,Sem.run_pure,mL c.toNat hzs];rfl
     ·refine⟨rfl,0,?_,Nat.le_refl _,fun _=>h3.symm⟩;show kd (setAt st.hp id _) id=_;rw[dq,if_pos rfl];rfl
    ·cases h
   ·cases h
  ·cases h
 ·cases h
theorem Er{id:Nat}{t:TypeId}{len:Nat}{parts:Array (Nat×Operand)}(ho:o.op= .buildSlice t len parts)(h:((ga P id (ev st) (.buildSlice t len parts)).val st.hp)=some (q,v,d))(pA:(∃x,(id,x)∈d)→kd st.hp id=none):gE P o st q v d:=by
 simp only[ga,Ask.val]at h
 split at h
 ·rename_i el pe;have hu:=dV pe
  split at h
  ·rename_i sz z hs hz
   split at h
   ·rename_i nq;obtain⟨h16,hwz,jB⟩:=nq
    split at h
    ·rename_i l hl
     have base:∀ (W:World) (ak:Hp) (β₀ β:Env) (a:Act) (w:World),Rel W ak β₀ β st a w→
       ∃c:List Value,bf β (kd st.hp) l c∧(execOp a.eval o).run P w= .ok (.value (.slice (some ⟨w.heap.size,0,none⟩) len len)) (w.alloc (.cells c.toArray el)):=by
      intro W ak β₀ β a w hr;obtain⟨zv,VD,hzd⟩:=pV (P:=P) (w:=w) (β:=β) (L:=kd st.hp) hz;have hzs:zv.cells.size=sz:=by have:=hzd.length;simp at this;omega
      obtain⟨c,hcc,hd⟩:=Gx (β:=β) (L:=kd st.hp) (place:=fun i=>some (i*sz,sz)) _ (parts.toList.map fun p=>(p.1,a.eval p.2)) _ _ l (KT hzd len)
       (bM.of_map _ _ _ fun p _=>⟨rfl,aT hr p.2⟩) hl
      refine⟨c,hd,?_⟩;simp only[execOp,ho,Instr.buildSlice,Sem.run_bind,run_underlying hu,Result.andThen_ok,run_sizeOf hs];rw[if_neg (by omega)]
      have azK:Instr.fill (fun i=>some (i*sz,sz)) ((List.replicate len zv.cells.toList).flatten).toArray (Array.map (fun x=>match x with|(i,x)=>(i,a.eval x)) parts).toList=some c.toArray:=by
       rw[← hcc];simp
      by_cases PY:len*sz=0
      ·have h01:len=0:=by
        rcases Nat.mul_eq_zero.1 PY with k|k
        ·exact k
        ·omega
       rw[if_pos PY]
       have aEq:Instr.fill (fun i=>some (i*sz,sz)) #[] (Array.map (fun x=>match x with|(i,x)=>(i,a.eval x)) parts).toList=some c.toArray:=by
        rw[← azK,h01];simp
       simp only[Sem.run_bind,Result.andThen_ok,Sem.run_pure,PY];have hr0:(Array.range 0).map (fun x=>(#[]:Array Value)[x%(#[]:Array Value).size]!)= #[]:=(by simp);rw[hr0,aEq];simp[newRow]
      ·rw[if_neg PY];simp only[Sem.run_bind,VD,Result.andThen_ok,Sem.run_pure,mL len hzs];rw[azK];simp[newRow]
     have azL:some (q,v,d)=some ((none:Option Prop),LV.one (.sc (.slice id 0 len len)),[(id,Item.aW l el)])→gE P o st q v d:=by
      intro he;cases he;have pA:=pA ⟨_,by simp;rfl⟩;intro _ W ak β₀ β a w hr;obtain⟨c,hd,eR⟩:=base W ak β₀ β a w hr;obtain⟨β',h1,h2,h3⟩:=hr.heap.aea pA el hd;refine⟨β',_,_,_,eR,.inl rfl,⟨?_,by rw[h3]⟩,h1,h2⟩;show kd (setAt st.hp id _) id=_;rw[dq,if_pos rfl];rfl
     split at h
     ·rename_i ty hty
      split at h
      ·rename_i hw;subst hw
       split at h
       ·rename_i xs hxs
        cases h
        have pA:=pA ⟨_,by simp;rfl⟩;intro _ W ak β₀ β a w hr;obtain⟨c,hd,eR⟩:=base W ak β₀ β a w hr;obtain⟨hh,hlen⟩:=gW (R:=ty.has β true) (fun a x vs h hd=>ty.gD h hd) _ hxs hd;have iO:=nt (β:=β) (w:=w.alloc (.cells (c++ []).toArray el)) (b:=w.heap.size) (elem:=el) (fz:=(0,0)) (rest:= []) (c:=len) (heap_alloc_new w _) hh (by omega) (by simp[hlen]) (.inl rfl);rw[List.append_nil,hlen]at iO;obtain⟨β',h1,h2,h3⟩:=hr.heap.sS pA (ver:=0) (w':=w.alloc (.cells c.toArray el)) (by rw[World.size_alloc];exact Nat.le_succ _) rfl rfl (fun b hb=>heap_alloc_old w _ b hb) iO (fun a n c e _=>by simp at e;obtain⟨rfl,_⟩:=e;exact Nat.le_refl _);refine⟨β',_,_,_,eR,.inl rfl,⟨rfl,0,?_,Nat.le_refl _,fun _=>h3.symm⟩,h1,h2⟩;show kd (setAt st.hp id _) id=_;rw[dq,if_pos rfl];rfl
       ·exact azL h.symm
      ·cases h
     ·exact azL h.symm
    ·cases h
   ·cases h
  ·cases h
 ·cases h
theorem Zd{op:BinOp}{t:TypeId}{ox oy:Operand}{x y:LV}{b:Bool}(h:PV P op t x y=some b){w:World}{β:Env}{L:Nat→Option Kd}{xv yv:Value}(hx:x.den β L xv)(hy:y.den β L yv):
  (do eqGuard op t ox oy xv yv;binOp op t xv yv:Sem Value).run P w= .ok (.bool b) w:=by
 unfold PV at h
 have key:∀ {pm:Bool} {ty:Ty} {l:List ty.D} {n c:Nat} {e:TypeId},eu P t=some e→(LV.one (.sc (.rd pm true ty l))).den β L xv→(LV.one (.sc (.iM (.slice none n c)))).den β L yv→
   ∃a n c n' c',xv= .slice (some a) n c∧yv= .slice none n' c':=by
  intro pm ty l n c e _ h1 h2;obtain⟨_,h3,_⟩:=h1;obtain⟨_,rfl⟩:=h2;have:=h3 rfl
  cases xv with
  |slice a n' c'=>cases a with
   |none=>exact absurd rfl this
   |some a=>exact⟨a,n',c',n,c,rfl,rfl⟩
  |_=>exact this.elim
 split at h
 ·rename_i e pe
  cases h
  obtain⟨a,n,c,n',c',rfl,rfl⟩:=key pe hx hy;rw[Sem.run_bind,dn (by simp) (by simp)];exact rh rfl (kU (dV pe))
 ·rename_i e pe
  cases h
  obtain⟨a,n,c,n',c',rfl,rfl⟩:=key pe hx hy;rw[Sem.run_bind,dn (by simp) (by simp)];exact rk rfl (kU (dV pe))
 ·cases h
theorem anV{id:Nat}(h:(ga P id (ev st) o.op).val st.hp=some (q,v,d))(pA:(∃x,(id,x)∈d)→kd st.hp id=none):gE P o st q v d:=by
 cases ho:o.op<;>rw[ho]at h<;>(try (simp[ga,Ask.val]at h;done))
 case slice t x lo hi mx=>exact aeh ho h
 case makeSlice t x y=>exact GG ho h pA
 case buildSlice t n parts=>exact Er ho h pA
 all_goals simp only[ga]at h
 case move x=>
  cases h
  exact .pure fun _ W ak β₀ β a w hr=>⟨a.eval x,by simp[execOp,ho],aT hr x⟩
 case assign x=>
  cases h
  exact .pure fun _ W ak β₀ β a w hr=>⟨a.eval x,by simp[execOp,ho],aT hr x⟩
 case pick c x y=>
  simp only[Ask.val]at h
  split at h
  ·rename_i t hc
   cases h
   refine .pure fun _ W ak β₀ β a w hr=>⟨if t then a.eval x else a.eval y,?_,?_⟩
   ·have:=aT hr c;rw[hc]at this;have e:a.eval c= .bool t:=this;simp[execOp,ho,e,asBool]
   ·cases t
    ·exact aT hr y
    ·exact aT hr x
  ·rename_i t hc
   have ael:∀ (a:Act) (w:World) {W:World} {ak:Hp} {β₀ β:Env},Rel W ak β₀ β st a w→(execOp a.eval o).run P w= .ok (.value (if t then a.eval x else a.eval y)) w:=by
    intro a w W ak β₀ β hr;have:=aT hr c;rw[hc]at this;have e:a.eval c= .bool t:=this;simp[execOp,ho,e,asBool]
   split at h
   ·rename_i u v hx hy
    cases h
    refine .pure fun _ W ak β₀ β a w hr=>⟨_,ael a w hr,?_⟩
    cases t
    ·exact KN (J:=ad8) (L₁:=kd st.hp) ⟨fun _ _ h=>h,fun _ _ _ _ h=>(by cases h),fun _ h=>(by cases h)⟩ (hy▸aT hr y)
    ·exact PM (J:=ad8) (L₁:=kd st.hp) ⟨fun _ _ h=>h,fun _ _ _ _ h=>(by cases h),fun _ h=>(by cases h)⟩ (hx▸aT hr x)
   ·rename_i u hx _
    cases h
    refine .pure fun hq W ak β₀ β a w hr=>⟨_,ael a w hr,?_⟩;have ht:t=true:=hq;subst ht;exact hx▸aT hr x
   ·rename_i u hy _
    cases h
    refine .pure fun hq W ak β₀ β a w hr=>⟨_,ael a w hr,?_⟩;have ht:t=false:=hq;subst ht;exact hy▸aT hr y
   ·cases h
  ·cases h
 case alloc t=>
  simp only[Ask.val]at h;obtain⟨l,hl,he⟩:=map_some h
  cases he
  have pA:=pA ⟨_,by simp;rfl⟩;refine KQ (mk:=fun _=>Instr.alloc t true (.tuple #[])) (fun a=>by simp[execOp,ho]) (fun W ak β₀ β a w hr=>?_) pA;obtain⟨z,hz,hd⟩:=pV (P:=P) (w:=w) (β:=β) (L:=kd st.hp) hl;refine⟨_,hd,?_⟩;simp only[Instr.alloc,Sem.run_bind,hz,Result.andThen_ok,newVar,newRow,run_newObj,Sem.run_pure];simp
 case box t x=>
  simp only[Ask.val]at h;obtain⟨l,hl,he⟩:=map_some h
  cases he
  have pA:=pA ⟨_,by simp;rfl⟩;refine KQ (mk:=fun a=>Instr.box t (a.eval x)) (fun a=>by simp[execOp,ho]) (fun W ak β₀ β a w hr=>?_) pA;obtain⟨cs,hcs,hd⟩:=pS hl (aT hr x);refine⟨_,hd,?_⟩;simp only[Instr.box,Sem.run_bind,Result.andThen_ok,newVar,newRow,run_newObj,Sem.run_pure,hcs];rfl
 case build t parts=>
  simp only[Ask.val]at h
  split at h
  ·rename_i z place hz hpl;obtain⟨l,hl,he⟩:=map_some h
   cases he
   refine .pure fun _ W ak β₀ β a w hr=>?_;obtain⟨zv,VD,hzd⟩:=pV (P:=P) (w:=w) (β:=β) (L:=kd st.hp) hz
   obtain⟨c,hc,hd⟩:=Gx (β:=β) (L:=kd st.hp) (place:=place) _ (parts.toList.map fun p=>(p.1,a.eval p.2)) z zv.cells.toList l hzd
    (bM.of_map _ _ _ fun p _=>⟨rfl,aT hr p.2⟩) hl
   refine⟨.agg c.toArray,?_,c,rfl,hd⟩;unfold Vu at hpl
   split at hpl
   ·rename_i fs hu;obtain⟨pl,aEr,rfl⟩:=map_some hpl;have:=pd (P:=P) (w:=w) fs.toList pl aEr;simp only[execOp,ho,Instr.build,Sem.run_bind,VD,Result.andThen_ok,underlying,run_program,hu,Sem.run_pure];rw[Array.mapM_eq_mapM_toList];simp only[Sem.run_map,this,Result.andThen_ok];simp at hc;simp[hc]
   ·rename_i n e hu;obtain⟨s,hs,rfl⟩:=map_some hpl;simp only[execOp,ho,Instr.build,Sem.run_bind,VD,Result.andThen_ok,underlying,run_program,hu,Sem.run_pure,run_sizeOf hs];simp at hc;simp[hc]
   ·simp at hpl
  ·cases h
 case load t x=>
  split at h
  ·rename_i s hx;exact anP ho hx h
  ·simp[Ask.val]at h
 case store t x y=>
  split at h
  ·rename_i s l hx hl;exact aef ho hx hl h
  ·simp[Ask.val]at h
 case nilCheck x=>
  simp only[Ask.val]at h
  split at h
  ·rename_i b off hx
   cases h
   refine .pure fun _ W ak β₀ β a w hr=>?_;have hd:=aT hr x;rw[hx]at hd;obtain⟨dL,e⟩:kd st.hp b=some .aW∧a.eval x= .pointer (some ⟨β.b b,off,none⟩):=hd;exact⟨_,by simp[execOp,ho,e],dL,rfl⟩
  ·rename_i s wd z f hx
   cases h
   refine .pure fun _ W ak β₀ β a w hr=>?_;have hd:=aT hr x;rw[hx]at hd;have hd':=hd;obtain⟨ad,n,c,h1,h2,h3,e⟩:=hd;refine⟨.pointer (some (ad.add (z.toNat*wd+f))),by simp[execOp,ho,e],?_⟩;rw[e]at hd';exact hd'
  ·cases h
 case binOp op t x y yt=>
  simp only[Ask.val]at h
  split at h
  ·rename_i b hn
   cases h
   refine .pure fun hq W ak β₀ β a w hr=>⟨.bool b,?_,rfl⟩;have:=Zd (w:=w) (ox:=x) (oy:=y) hn (aT hr x) (aT hr y);simp only[execOp,ho];rw[Sem.run_bind,this];rfl
  ·obtain⟨r,PA,he⟩:=map_some h
   cases he
   refine .pure fun hq W ak β₀ β a w hr=>?_;obtain⟨val,e1,e2⟩:=ad4 (P:=P) (w:=w) (ox:=x) (oy:=y) (s:=r.2) (q:=r.1) (by rw[PA]) hq (aT hr x) (aT hr y);refine⟨val,?_,e2⟩;simp only[execOp,ho];rw[Sem.run_bind,e1];rfl
 case unOp op t x=>
  simp only[Ask.val]at h
  split at h
  ·rename_i s h1;obtain⟨r,PA,he⟩:=map_some h
   cases he
   refine .pure fun hq W ak β₀ β a w hr=>?_;have hd:=bg h1 (aT hr x)
   cases s<;>simp only[azB]at PA<;>try (simp at PA;done)
   ·cases op<;>simp at PA<;>subst PA<;>(have e:a.eval x=_:=hd)
    ·exact⟨_,by simp[execOp,ho,e,Op.unary,Op.intArith];rfl,by simp only[LV.den,VV.den,SV.den,map2_val];simp[SI.val]⟩
    ·exact⟨_,by simp only[execOp,ho,e,Op.unary,Op.intBits];rfl,by simp only[LV.den,VV.den,SV.den,map2_val];rfl⟩
   ·rename_i b
    cases op<;>simp at PA<;>subst PA
    have e:a.eval x=_:=hd;exact⟨_,by simp[execOp,ho,e,Op.unary];rfl,by cases b<;>simp[LV.den,VV.den,SV.den,SB.val]⟩
  ·cases h
 case convert src dst x=>
  split at h
  ·rename_i s hx;exact anQ ho hx h pA
  ·simp[Ask.val]at h
 case sliceToArrayPointer t x=>
  split at h
  ·rename_i b off len cap n e hx ha;simp only[Ask.val]at h
   split at h
   ·rename_i hle
    cases h
    refine .pure fun _ W ak β₀ β a w hr=>?_;obtain⟨dL,ex⟩:=bg hx (aT hr x);have hu:=nh ha;exact⟨_,by simp[execOp,ho,ex,Instr.arrayAt,underlying,hu,Nat.not_lt.2 hle],dL,rfl⟩
   ·cases h
  ·rename_i s n e hns hx ha;rw[Ask.cU]at h
   split at h
   ·rename_i pm ty l hc
    split at h
    ·rename_i nq;obtain⟨Ep,hs⟩:=nq
     cases h
     refine .pure fun hq W ak β₀ β a w hr=>?_;have hq':n≤l.length:=hq;have hd:=bg hx (aT hr x);obtain⟨a',n',c',ex,hn,VC,_,eX⟩:=lr hr.heap hc hd;obtain⟨a0,_,rfl,_⟩:=eX (by omega);have hu:=nh ha;rw[ex]at hd;refine⟨.pointer (some a0),?_,a0,n',c',hd,Int.le_refl _,by omega,by simp[Addr.add]⟩;simp[execOp,ho,ex,Instr.arrayAt,underlying,hu,show ¬n'<n by omega]
    ·cases h
   ·cases h
  ·simp[Ask.val]at h
 case fieldAddr s x f=>
  simp only[Ask.val]at h
  split at h
  ·rename_i av fs hx hf;have hu:=AT hf
   split at h
   ·rename_i fd hfd;have anY:fs.toArray[f]? =some fd:=by simpa using hfd
    split at h
    ·rename_i n hn
     split at h
     ·cases h
     ·rename_i Ep
      split at h
      ·rename_i b off
       cases h
       refine .pure fun _ W ak β₀ β a w hr=>?_;obtain⟨dL,ex⟩:=bg hx (aT hr x);refine⟨.pointer (some ⟨β.b b,off+fd.offset,none⟩),?_,dL,rfl⟩;simp only[execOp,ho,ex,Instr.fieldAt,underlying,Sem.run_bind,run_program,Result.andThen_ok,hu,Sem.run_pure,anY,Instr.sureAddr,fieldPlace,run_sizeOf hn,Ep,if_false,bT]
      ·rename_i s' wd z f0
       cases h
       refine .pure fun _ W ak β₀ β a w hr=>?_;obtain⟨ad,n',c,h1,h2,h3,ex⟩:=bg hx (aT hr x);refine⟨.pointer (some (ad.add (z.toNat*wd+(f0+fd.offset)))),?_,ad,n',c,h1,h2,h3,rfl⟩;simp only[execOp,ho,ex,Instr.fieldAt,underlying,Sem.run_bind,run_program,Result.andThen_ok,hu,Sem.run_pure,anY,Instr.sureAddr,fieldPlace,run_sizeOf hn,Ep,if_false,AZ,Nat.add_assoc]
      ·cases h
    ·cases h
   ·cases h
  ·cases h
 case field s x f=>
  simp only[Ask.val]at h
  split at h
  ·rename_i l fs hx hf
   split at h
   ·rename_i fd hfd;obtain⟨y,hy,he⟩:=map_some h
    cases he
    refine .pure fun _ W ak β₀ β a w hr=>?_;have hd:=aT hr x;rw[hx]at hd;obtain⟨cs,ex,hd⟩:=hd;have hu:=AT hf;have anY:fs.toArray[f]? =some fd:=(by simpa using hfd);obtain⟨val,h1,h2⟩:=j7 (P:=P) (w:=w) hd hy;refine⟨val,?_,h2⟩;simp[execOp,ho,ex,Instr.field,underlying,hu,anY,asAgg,h1]
   ·cases h
  ·cases h
 case indexAddr t x i=>
  split at h
  ·rename_i s hx;exact PX ho hx h
  ·simp[Ask.val]at h
 case index t x i=>
  simp only[Ask.val]at h;obtain⟨r,PA,he⟩:=map_some h
  cases he
  exact ava ho (by rw[PA])
 case extract x i=>
  simp only[Ask.val]at h
  split at h
  ·rename_i l hx;obtain⟨y,hy,he⟩:=map_some h
   cases he
   refine .pure fun _ W ak β₀ β a w hr=>?_;have hd:=aT hr x;rw[hx]at hd;obtain⟨cs,ex,hd⟩:=hd;obtain⟨val,h1,h2⟩:=hd.get hy;have h1':cs.toArray[i]? =some val:=(by simpa using h1);exact⟨val,by simp[execOp,ho,ex,Instr.extract,h1'],h2⟩
  ·cases h
end
def aem(P:Program)(ty:Ty)(t:TypeId)(x:SV):Ask (Option (Bool×List ty.D)):=
 match eu P t with
 |some _=>jF ty x
 |none=>match P.underlying t with
  |some .string=>.ret (if h:Ty.int .u8=ty then(pP x).map fun l=>(true,h▸(l.map fun n=>((UInt8.ofNat n.toNat).toNat:Int)))else none)
  |_=>.ret none
def avg(P:Program)(t:TypeId)(x:SV):Ask (Option SI):=
 match x with
 | .iM (.slice _ n _)=>.ret ((eu P t).map fun _=>.lit n)
 | .slice _ _ n _=>.ret ((eu P t).map fun _=>.lit n)
 | .str l=>.ret (if P.underlying t matches some .string then some (.sym l.length)else none)
 | .iM (.string s)=>.ret (if P.underlying t matches some .string then some (.lit s.size)else none)
 |x=>match eu P t with
  |some _=>(jG x).map fun c=>c.map fun c=>.sym c.2.2.length
  |none=>.ret none
def xi(f:Int→Int→Int)(k:IntKind):SI→List SV→Option SI
 |x,[]=>some x
 |x,.int k' y::l=>if k'=k then xi f k (map2 f x y) l else none
 |_,_=>none
def aen(x y:Int):Int:=if y<x then y else x
def aeo(x y:Int):Int:=if y>x then y else x
def jv{α:Type}(l:List α)(z len:Nat)(m:List α):List α:=l.take z++(m.take len++l.drop (z+min len m.length))
def aep(P:Program)(id:Nat)(t u:TypeId)(s x:SV):Ask Stp:=
 match eu P t with
 |none=>.ret none
 |some el=>match El P 8 el,dk P el,pc P el,pT P el with
  |some ty,some sz,some z,some w7=>
   if sz=ty.w∧0<ty.w∧wL z=ty.w then
    (aem P ty u x).bind fun c=>match c with
     |some (pm,m)=>if pm||ty.flat then
       match s with
       | .iM (.slice none 0 0)=>.ret (some (some (m.length*w7≤70368744177664∧m.length≤70368744177664),.one (.sc (.sl id 0)),[(id,.own 0 ty m)]))
       | .sl i ver=>.get i fun y=>.ret (match y with
        |some (.own ver' w6 l)=>if h:w6=ty then(if ver=ver' then some (some ((l.length+m.length)*w7≤70368744177664∧l.length+m.length≤70368744177664),.one (.sc (.sl i (ver+1))),[(i,.own (ver+1) ty ((h▸l:List ty.D)++m))])else none)else none
        |_=>none)
       |_=>.ret none
      else .ret none
     |none=>.ret none
   else .ret none
  |_,_,_,_=>.ret none
def PZ(P:Program)(id:Nat)(t u:TypeId)(s:SV)(n:Int):Ask Stp:=
 match eu P t,P.underlying u with
 |some el,some (.int _)=>match El P 8 el,dk P el,pc P el,pT P el with
  |some ty,some sz,some z,some w7=>
   if sz=ty.w∧0<ty.w∧wL z=ty.w then
    match ty.read true z with
    |some z0=>match s with
     | .iM (.slice none 0 0)=>.ret (some (some (0≤n∧n.toNat*w7≤70368744177664∧n.toNat≤70368744177664),.one (.sc (.sl id 0)),[(id,.own 0 ty (List.replicate n.toNat z0))]))
     | .sl i ver=>.get i fun y=>.ret (match y with
      |some (.own ver' w6 l)=>if h:w6=ty then(if ver=ver' then some (some (0≤n∧(l.length+n.toNat)*w7≤70368744177664∧l.length+n.toNat≤70368744177664),.one (.sc (.sl i (ver+1))),[(i,.own (ver+1) ty ((h▸l:List ty.D)++List.replicate n.toNat z0))])else none)else none
      |_=>none)
     |_=>.ret none
    |none=>.ret none
   else .ret none
  |_,_,_,_=>.ret none
 |_,_=>.ret none
def P0(P:Program)(t u:TypeId)(d x:SV):Ask Stp:=
 match eu P t with
 |none=>.ret none
 |some el=>match El P 8 el,dk P el with
  |some ty,some sz=>
   if sz=ty.w∧0<ty.w then
    (match eu P u with|some _=>jF ty x|none=>.ret none).bind fun c=>match c with
     |some (pm,m)=>if pm||ty.flat then
       match d with
       | .sl i ver=>.get i fun y=>.ret (match y with
        |some (.own ver' w6 l)=>if h:w6=ty then(if ver=ver' then some (none,.one (.sc (.int .i64 (.sym (min m.length l.length:Nat)))),[(i,.own ver' ty (jv (h▸l) 0 l.length m))])else none)else none
        |_=>none)
       | .vw i ver w z n=>.get i fun y=>.ret (match y with
        |some (.own ver' w6 l)=>if h:w6=ty then(if ver=ver'∧w=ty.w then some (none,.one (.sc (.int .i64 (.sym (min m.length n.toNat:Nat)))),[(i,.own ver' ty (jv (h▸l) z.toNat n.toNat m))])else none)else none
        |_=>none)
       | .vb b o' w6 k z n=>.get b fun y=>.ret (match y with
        |some (.aW cells elem)=>match rowAt cells o' with
         |some (.arr aEt k' l)=>if h:aEt=ty then(if w6=ty∧k'=k then(j9 cells o' (.arr ty k' (jv (h▸l) z.toNat n.toNat m))).map fun c=>(none,.one (.sc (.int .i64 (.sym (min m.length n.toNat:Nat)))),[(b,.aW c elem)])else none)else none
         |_=>none
        |_=>none)
       | .slice b o' n _=>.get b fun y=>.ret (match y with
        |some (.aW cells elem)=>match Y9 cells o' (n*ty.w)with
         |some s=>match dT (ty.read true) ty.w n s with
          |some l=>(sO cells o' ((List.range n).flatMap fun j=>ty.EP true ((jv l 0 n m).getD j ty.z))).map fun c=>(none,.one (.sc (.int .i64 (.sym (min m.length n:Nat)))),[(b,.aW c elem)])
          |none=>none
         |none=>none
        |_=>none)
       |_=>.ret none
      else .ret none
     |none=>.ret none
   else .ret none
  |_,_=>.ret none
def anZ(P:Program)(id:Nat)(b:Builtin)(ts:List TypeId)(xs:List LV):Ask Stp:=
 match b,ts,xs with
 | .len,[t],[x]=>match jD x with
  |some x=>(avg P t x).map fun n=>n.map fun n=>(none,.one (.sc (.int .i64 n)),[])
  |none=>.ret none
 | .append,[t,u],[s,x]=>match jD s,jD x with
  |some s,some (.int _ n)=>PZ P id t u s n.val
  |some s,some x=>aep P id t u s x
  |_,_=>.ret none
 | .copy,[t,u],[s,x]=>match jD s,jD x with
  |some s,some x=>P0 P t u s x
  |_,_=>.ret none
 | .min,_,x::l=>.ret (match jD x,c7 jD l with
  |some (.int k x),some l=>(xi aen k x l).map fun n=>(none,.one (.sc (.int k n)),[])
  |_,_=>none)
 | .max,_,x::l=>.ret (match jD x,c7 jD l with
  |some (.int k x),some l=>(xi aeo k x l).map fun n=>(none,.one (.sc (.int k n)),[])
  |_,_=>none)
 |_,_,_=>.ret none
noncomputable section
variable {P:Program} {W:World} {ak:Hp} {β₀ β:Env} {hp:Hp} {w:World}
theorem Ze{β:Env}{pm:Bool}{ty:Ty}{t e:TypeId}(hu:P.underlying t=some (.slice e)){v:Value}{m:List ty.D}(h:bN β pm w v ty m):
  ∃news,Src P ty.w t v m.length news w∧aU (ty.has β pm) m news:=by
 obtain⟨a,n,c,rfl,rfl,hc,_,hr⟩:=h;rcases Nat.eq_zero_or_pos m.length with h0|h0
 ·have:m= []:=List.eq_nil_of_length_eq_zero h0;subst this;refine⟨[],?_,.nil⟩
  cases a with
  |none=>exact Src.ofNil w hu c
  |some a=>exact Src.ofSlice w hu a 0 c [] (by simp) (fun j u h=>by simp at h) (fun u h=>by cases h)
 ·obtain⟨a0,eD,rfl,h1,h2,h3⟩:=hr h0;exact⟨eD,Src.ofSlice w hu a0 m.length c eD (bm h2) (fun j u hj=>h3 j u hj) (lE h2),h2⟩
theorem Es{β:Env}(l:List Int):aU ((Ty.int .u8).has β true) (l.map fun n=>((UInt8.ofNat n.toNat).toNat:Int)) (byteCells (strOf l)):=by
 have:byteCells (strOf l)=(l.map fun n=>((UInt8.ofNat n.toNat).toNat:Int)).map (Value.int .u8):=by
  simp[byteCells,strOf]
 rw[this];generalize (l.map fun n=>((UInt8.ofNat n.toNat).toNat:Int))=m
 induction m with
 |nil=>exact .nil
 |cons x m ih=>exact aU.cons (vs:= [_]) rfl ih
theorem aeq(h:bb W ak β₀ β hp w){ty:Ty}{t:TypeId}{x:SV}{pm:Bool}{m:List ty.D}(hs:(aem P ty t x).val hp=some (pm,m))(hf:(pm||ty.flat)=true){v:Value}(hd:x.den β (kd hp) v):
  ∃news,Src P ty.w t v m.length news w∧aU (ty.has β true) m news:=by
 unfold aem at hs
 split at hs
 ·rename_i e pe;obtain⟨news,h1,h2⟩:=Ze (P:=P) (dV pe) (nk h hs hd);refine⟨news,h1,?_⟩
  cases pm with
  |true=>exact h2
  |false=>exact h2.imp fun _ _=>ty.sM (by simpa using hf)
 ·split at hs
  ·rename_i hu;simp only[Ask.val]at hs
   split at hs
   ·rename_i e;subst e;obtain⟨l,hl,he⟩:=map_some hs
    cases he
    have hv:=jC hl hd;subst hv;refine⟨byteCells (strOf l),?_,Es l⟩;have:=Src.ofString (P:=P) w hu (strOf l);rw[sN]at this;rw[List.length_map];exact this
   ·cases hs
  ·simp[Ask.val]at hs
theorem A1{el:TypeId}{z:List SV}{n:Nat}(hz:pc P el=some z)(hw:wL z=n):∃i zv,P.info? el=some i∧i.zero=some zv∧zv.cells.size=n:=by
 unfold pc at hz
 split at hz
 ·rename_i i lay hi _
  split at hz
  ·rename_i zv VD;have:=(rl (β:=⟨fun _=>0,fun _=>.nilIface,fun _ _ _ _=>False⟩) (L:=fun _=>none) _ _ hz).length;exact⟨i,zv,hi,VD,by simpa [hw]using this⟩
  ·cases hz
 ·cases hz
theorem A2{t u el ty_:TypeId}{ty:Ty}{z:List SV}{w7:Nat}(pe:eu P t=some el)(hs:dk P el=some ty.w)(jB:0<ty.w)(hz:pc P el=some z)(hwz:wL z=ty.w)(PB:pT P el=some w7)
  {hd:Value} {l m:List ty.D} (sk:dE β w hd ty l) {x:Value} {news:List Value} (Et:Src P ty.w u x m.length news w) (mf:aU (ty.has β true) m news)
  (hb1:(l.length+m.length)*w7≤70368744177664) (uc:l.length+m.length≤70368744177664):
  ∃v' w',(Builtin.append_ #[t,u] ty_ #[hd,x]).run P w= .ok v' w'∧dE β w' v' ty (l++m)∧w.heap.size≤w'.heap.size∧w'.os=w.os∧w'.output=w.output∧
   (∀b,b<w.heap.size→¬ (∃a n c,hd= .slice (some a) n c∧0<c∧a.block=b)→w'.heap[b]? =w.heap[b]?)∧
   (∀a n c,v'= .slice (some a) n c→0<c→(∃n' c',hd= .slice (some a) n' c'∧0<c')∨w.heap.size≤a.block):=by
 obtain⟨base,n,c,rfl,hn,VC,jw,eX⟩:=sk;have hu:=dV pe;obtain⟨i,zv,hi,VD,hzs⟩:=A1 (P:=P) hz hwz;have his:i.size=ty.w:=by unfold dk at hs;rw[hi]at hs;simpa using hs
 have hib:i.bytes=w7:=by unfold pT at PB;rw[hi]at PB;simpa using PB
 by_cases KV:n+m.length≤c
 ·
  rcases Nat.eq_zero_or_pos c with h0|h0
  ·have VE:l= []:=List.eq_nil_of_length_eq_zero (by omega);have GH:m= []:=List.eq_nil_of_length_eq_zero (by omega);subst VE GH;have hnw:news= []:=(by cases mf;rfl);subst hnw;refine⟨.slice base n c,w,?_,⟨base,n,c,rfl,hn,VC,jw,eX⟩,Nat.le_refl _,rfl,rfl,fun _ _ _=>rfl,fun a n' c' e h=>by simp at e;omega⟩;have hle:n≤c:=VC;have aer:=Et.cells;have hlen:=Et.len;have hr2:n+0≤c:=(by simpa using VC);simp only[List.length_nil]at hlen aer;rcases Et.kind with⟨e',hk⟩|hk<;>cases base<;>simp[Builtin.append_,run_underlying hu,run_underlying hk,sizeOf,typeInfo,hi,his,hlen,aer,hle,storeCells]
  ·obtain⟨a0,pre,eD,rest,elem,fz,rfl,k1,k2,k3,k4,k5,k6⟩:=eX h0;have hnl:news.length=m.length*ty.w:=bm mf;have hvl:eD.length=n*ty.w:=(by rw[bm k4,hn]);have hrl:m.length*ty.w≤rest.length:=Nat.le_trans (Nat.mul_le_mul_right _ (by omega)) k5
   obtain⟨w',r1,r2,r3,r4,r5,r6⟩:=dM (P:=P) (a:=a0.add (n*ty.w)) (nf k1 _) (elem:=elem) (fz:=fz) news 0 (pre++eD) (rest.take (m.length*ty.w)) (rest.drop (m.length*ty.w)) w
    (by rw[dU,k2];simp) (by
     obtain⟨b0,o0,s0⟩:=a0;simp at k1 k3;subst k1;rw[bT];simp[k3,hvl]) (by rw[hnl,List.length_take,Nat.min_eq_left hrl]) (lE mf) (fun off q1 q2=>k6.not (by simp[hnl]at q2 ⊢;omega))
   rw[dU]at r2 r3;refine⟨.slice (some a0) (n+m.length) c,w',?_,⟨some a0,n+m.length,c,rfl,by simp[hn],KV,by simp,fun _=>⟨a0,pre,eD++news,rest.drop (m.length*ty.w),elem,fz,rfl,k1,?_,k3,k4.append mf,?_,?_⟩⟩,by omega,r5,r6,fun b _ sC=>r3 b fun e=>sC ⟨a0,n,c,rfl,h0,e.symm⟩,fun a n' c' e _=>.inl (by simp at e;obtain⟨rfl,_,_⟩:=e;exact⟨n,c,rfl,h0⟩)⟩
   ·rcases Et.kind with⟨e',hk⟩|hk<;>simp[Builtin.append_,run_underlying hu,run_underlying hk,sizeOf,typeInfo,hi,his,Et.len,KV,Et.cells,r1]
   ·rw[r2];simp
   ·rw[List.length_drop];have:(c-(n+m.length))*ty.w=(c-n)*ty.w-m.length*ty.w:=(by rw[← Nat.sub_sub,Nat.sub_mul]);omega
   ·have:(pre++((eD++news)++rest.drop (m.length*ty.w))).length=(pre++(eD++rest)).length:=(by simp[hnl];omega);rw[this];exact k6
 ·
  have hg:c<n+m.length:=by omega
  have Zf:Builtin.nextslicecap (n+m.length) c*i.bytes≤281474976710656:=growslice_fits hg (by rw[hib,hn];omega)
  have holds:∃pZ,aU (ty.has β true) l pZ∧∀ (w':World),(∀b,b<w.heap.size→w'.heap[b]? =w.heap[b]?)→(Builtin.firstCells i.size n (.slice base n c)).run P w'= .ok pZ.toArray w':=by
   rcases Nat.eq_zero_or_pos c with h0|h0
   ·have VE:l= []:=List.eq_nil_of_length_eq_zero (by omega);have Ep:n=0:=(by omega);subst VE Ep;refine⟨[],.nil,fun w' _=>?_⟩
    cases base with
    |none=>simp[Builtin.firstCells]
    |some a=>simp[Builtin.firstCells,loadCells,loadCellsFrom]
   ·obtain⟨a0,pre,eD,rest,elem,fz,rfl,k1,k2,k3,k4,k5,k6⟩:=eX h0;refine⟨eD,k4,fun w' hw'=>?_⟩;have hvl:eD.length=n*i.size:=(by rw[bm k4,hn,his]);have dL:a0.block<w.heap.size:=(Array.getElem?_eq_some_iff.1 k2).1;refine run_firstCells_some (P:=P) w' i.size n a0 n c eD hvl fun j u hj=>?_
    have hh:c8 w a0 eD:=by
     have:=eQ k2;obtain⟨b0,o0,s0⟩:=a0;simp at k1 k3;subst k1 k3;exact this
    exact hh.of (fun _=>hw' _ dL) j u hj
  obtain⟨pZ,ho1,ho2⟩:=holds;have KB:Src P i.size u x m.length news w:=by rw[his];exact Et
  have eR:=run_append_grow_src (P:=P) w t u ty_ el i zv hu hi VD base n c pZ (ho2 _ (fun _ _=>rfl)) x m.length news KB hg (by omega) Zf;have Eo:=grownCap_ge w (n+m.length) c el;have hzc:(Builtin.zeroCells zv.cells (grownCap w (n+m.length) c el-(n+m.length))).size=(grownCap w (n+m.length) c el-(n+m.length))*ty.w:=by simp[Builtin.zeroCells,hzs]
  generalize azO:grownCap w (n+m.length) c el=cap at eR Eo hzc
  have pB:((pZ++news).toArray++Builtin.zeroCells zv.cells (cap-(n+m.length)))=((pZ++news)++(Builtin.zeroCells zv.cells (cap-(n+m.length))).toList).toArray:=by
   apply Array.ext';simp
  rw[pB]at eR
  have iO:=nt (β:=β) (w:=w.drew.alloc (.cells ((pZ++news)++(Builtin.zeroCells zv.cells (cap-(n+m.length))).toList).toArray el)) (b:=w.heap.size) (t:=ty) (l:=l++m) (elem:=el) (fz:=(0,0)) (c:=cap)
   (heap_alloc_new w.drew _) (ho1.append mf) (by simp;omega) (Nat.le_of_eq (by rw[List.length_append,← hn];exact(Array.length_toList.trans hzc).symm)) (.inl rfl)
  refine⟨_,_,eR,?_,?_,rfl,rfl,fun b hb _=>heap_alloc_old w.drew _ b hb,fun a n' c' e _=>.inr (by simp at e;obtain⟨rfl,_,_⟩:=e;exact Nat.le_refl _)⟩
  ·rw[List.length_append,← hn]at iO;exact iO
  ·show w.heap.size≤(w.drew.alloc _).heap.size;rw[World.size_alloc];exact Nat.le_succ _
theorem ue{t u el ty_:TypeId}{ty:Ty}{z:List SV}{w7:Nat}(pe:eu P t=some el)(hs:dk P el=some ty.w)(jB:0<ty.w)(hz:pc P el=some z)(hwz:wL z=ty.w)(PB:pT P el=some w7)
  {hd:Value} {l:List ty.D} (sk:dE β w hd ty l) {kn kq:IntKind} (hku:P.underlying u=some (.int kn)) {z0:ty.D} (hz0:ty.read true z=some z0) (k:Nat)
  (hb1:(l.length+k)*w7≤70368744177664) (uc:l.length+k≤70368744177664):
  ∃v' w',(Builtin.append_ #[t,u] ty_ #[hd,.int kq k]).run P w= .ok v' w'∧dE β w' v' ty (l++List.replicate k z0)∧w.heap.size≤w'.heap.size∧w'.os=w.os∧w'.output=w.output∧
   (∀b,b<w.heap.size→¬ (∃a n c,hd= .slice (some a) n c∧0<c∧a.block=b)→w'.heap[b]? =w.heap[b]?)∧
   (∀a n c,v'= .slice (some a) n c→0<c→(∃n' c',hd= .slice (some a) n' c'∧0<c')∨w.heap.size≤a.block):=by
 obtain⟨base,n,c,rfl,hn,VC,jw,eX⟩:=sk;have hu:=dV pe;obtain⟨i,zv,hi,VD,hzs⟩:=A1 (P:=P) hz hwz;have his:i.size=ty.w:=by unfold dk at hs;rw[hi]at hs;simpa using hs
 have hib:i.bytes=w7:=by unfold pT at PB;rw[hi]at PB;simpa using PB
 have hzr:(zeroValue el).run P w= .ok zv w:=by simp[zeroValue,typeInfo,hi,VD]
 obtain⟨zv',azP,hzd⟩:=pV (P:=P) (w:=w) (β:=β) (L:=fun _=>none) hz;obtain rfl:zv'=zv:=by rw[hzr]at azP;injection azP with e;exact e.symm
 have hzh:=ty.gD hz0 hzd;have mf:aU (ty.has β true) (List.replicate k z0) ((List.replicate k zv'.cells.toList).flatten):=A0 hzh _
 have azQ:∀m,Builtin.zeroCells zv'.cells m=((List.replicate m zv'.cells.toList).flatten).toArray:=fun m=>by
  rw[← mL m hzs];unfold Builtin.zeroCells;rw[hzs]
 have ave:i64.wrap (k:Int)=k:=by rw[IntKind.wrap_i64];omega
 have aEx:¬ ((k:Int)<0):=by omega
 have aEy:¬ (281474976710656<(k:Int)*(i.bytes:Int)):=by
  rw[← Int.natCast_mul,hib];have:k*w7≤(l.length+k)*w7:=Nat.mul_le_mul_right _ (by omega);omega
 generalize hnw:(List.replicate k zv'.cells.toList).flatten=news at mf
 by_cases KV:n+k≤c
 ·
  rcases Nat.eq_zero_or_pos c with h0|h0
  ·have VE:l= []:=List.eq_nil_of_length_eq_zero (by omega);have GH:k=0:=(by omega);subst VE GH;refine⟨.slice base n c,w,?_,⟨base,n,c,rfl,hn,VC,jw,eX⟩,Nat.le_refl _,rfl,rfl,fun _ _ _=>rfl,fun a n' c' e h=>by simp at e;omega⟩;have hle:n≤c:=VC;have hw0:i64.wrap 0=0:=rfl
   cases base<;>simp[Builtin.append_,run_underlying hu,run_underlying hku,sizeOf,typeInfo,hi,his,hle,storeCells,asInt,asIntOf,hw0]
  ·obtain⟨a0,pre,eD,rest,elem,fz,rfl,k1,k2,k3,k4,k5,k6⟩:=eX h0;have hnl:news.length=k*ty.w:=(by rw[bm mf,List.length_replicate]);have hvl:eD.length=n*ty.w:=(by rw[bm k4,hn]);have hrl:k*ty.w≤rest.length:=Nat.le_trans (Nat.mul_le_mul_right _ (by omega)) k5
   obtain⟨w',r1,r2,r3,r4,r5,r6⟩:=dM (P:=P) (a:=a0.add (n*ty.w)) (nf k1 _) (elem:=elem) (fz:=fz) news 0 (pre++eD) (rest.take (k*ty.w)) (rest.drop (k*ty.w)) w
    (by rw[dU,k2];simp) (by
     obtain⟨b0,o0,s0⟩:=a0;simp at k1 k3;subst k1;rw[bT];simp[k3,hvl]) (by rw[hnl,List.length_take,Nat.min_eq_left hrl]) (lE mf) (fun off q1 q2=>k6.not (by simp[hnl]at q2 ⊢;omega))
   rw[dU]at r2 r3;refine⟨.slice (some a0) (n+k) c,w',?_,⟨some a0,n+k,c,rfl,by simp[hn],KV,by simp,fun _=>⟨a0,pre,eD++news,rest.drop (k*ty.w),elem,fz,rfl,k1,?_,k3,k4.append mf,?_,?_⟩⟩,by omega,r5,r6,fun b _ sC=>r3 b fun e=>sC ⟨a0,n,c,rfl,h0,e.symm⟩,fun a n' c' e _=>.inl (by simp at e;obtain⟨rfl,_,_⟩:=e;exact⟨n,c,rfl,h0⟩)⟩
   ·rcases Nat.eq_zero_or_pos k with hk0|hk0
    ·subst hk0;have hw0:i64.wrap 0=0:=rfl;have Ep:news= []:=(by rw[← hnw];rfl);rw[Ep]at r1;have avk:n≤c:=VC;simp[Builtin.append_,run_underlying hu,run_underlying hku,sizeOf,typeInfo,hi,his,avk,r1,asInt,asIntOf,hw0]
    ·have hns:¬ (k*ty.w=0):=Nat.mul_ne_zero (by omega) (by omega);have hzk:Builtin.zeroCells zv'.cells k=news.toArray:=(by rw[azQ k,hnw]);simp[Builtin.append_,run_underlying hu,run_underlying hku,sizeOf,typeInfo,hi,VD,zeroValue,his,KV,r1,asInt,asIntOf,ave,aEx,aEy,hns,hzk]
   ·rw[r2];simp
   ·rw[List.length_drop];have:(c-(n+k))*ty.w=(c-n)*ty.w-k*ty.w:=(by rw[← Nat.sub_sub,Nat.sub_mul]);omega
   ·have:(pre++((eD++news)++rest.drop (k*ty.w))).length=(pre++(eD++rest)).length:=(by simp[hnl];omega);rw[this];exact k6
 ·
  have hg:c<n+k:=by omega
  have Zf:Builtin.nextslicecap (n+k) c*i.bytes≤281474976710656:=growslice_fits hg (by rw[hib,hn];omega)
  have holds:∃pZ,aU (ty.has β true) l pZ∧∀ (w':World),(∀b,b<w.heap.size→w'.heap[b]? =w.heap[b]?)→(Builtin.firstCells i.size n (.slice base n c)).run P w'= .ok pZ.toArray w':=by
   rcases Nat.eq_zero_or_pos c with h0|h0
   ·have VE:l= []:=List.eq_nil_of_length_eq_zero (by omega);have Ep:n=0:=(by omega);subst VE Ep;refine⟨[],.nil,fun w' _=>?_⟩
    cases base with
    |none=>simp[Builtin.firstCells]
    |some a=>simp[Builtin.firstCells,loadCells,loadCellsFrom]
   ·obtain⟨a0,pre,eD,rest,elem,fz,rfl,k1,k2,k3,k4,k5,k6⟩:=eX h0;refine⟨eD,k4,fun w' hw'=>?_⟩;have hvl:eD.length=n*i.size:=(by rw[bm k4,hn,his]);have dL:a0.block<w.heap.size:=(Array.getElem?_eq_some_iff.1 k2).1;refine run_firstCells_some (P:=P) w' i.size n a0 n c eD hvl fun j u hj=>?_
    have hh:c8 w a0 eD:=by
     have:=eQ k2;obtain⟨b0,o0,s0⟩:=a0;simp at k1 k3;subst k1 k3;exact this
    exact hh.of (fun _=>hw' _ dL) j u hj
  obtain⟨pZ,ho1,ho2⟩:=holds
  have eR:=Go.Lib.run_append_grow_zeros (P:=P) w t u ty_ el i zv' kq kn hu hku hi VD base n c pZ (ho2 _ (fun _ _=>rfl)) k (by omega) (by omega) hg (by omega) (by
   have:k*w7≤(l.length+k)*w7:=Nat.mul_le_mul_right _ (by omega);rw[hib];omega) Zf
  rw[show(pZ.toArray++Builtin.zeroCells zv'.cells k)=(pZ++news).toArray from by rw[azQ k,hnw];simp]at eR;have Eo:=grownCap_ge w (n+k) c el;have hzc:(Builtin.zeroCells zv'.cells (grownCap w (n+k) c el-(n+k))).size=(grownCap w (n+k) c el-(n+k))*ty.w:=by simp[Builtin.zeroCells,hzs]
  generalize azO:grownCap w (n+k) c el=cap at eR Eo hzc
  have pB:((pZ++news).toArray++Builtin.zeroCells zv'.cells (cap-(n+k)))=((pZ++news)++(Builtin.zeroCells zv'.cells (cap-(n+k))).toList).toArray:=by
   apply Array.ext';simp
  rw[pB]at eR
  have iO:=nt (β:=β) (w:=w.drew.alloc (.cells ((pZ++news)++(Builtin.zeroCells zv'.cells (cap-(n+k))).toList).toArray el)) (b:=w.heap.size) (t:=ty) (l:=l++List.replicate k z0) (elem:=el) (fz:=(0,0)) (c:=cap)
   (heap_alloc_new w.drew _) (ho1.append mf) (by simp;omega) (Nat.le_of_eq (by rw[List.length_append,List.length_replicate,← hn];exact(Array.length_toList.trans hzc).symm)) (.inl rfl)
  refine⟨_,_,eR,?_,?_,rfl,rfl,fun b hb _=>heap_alloc_old w.drew _ b hb,fun a n' c' e _=>.inr (by simp at e;obtain⟨rfl,_,_⟩:=e;exact Nat.le_refl _)⟩
  ·rw[List.length_append,List.length_replicate,← hn]at iO;exact iO
  ·show w.heap.size≤(w.drew.alloc _).heap.size;rw[World.size_alloc];exact Nat.le_succ _
end
noncomputable section
variable {P:Program} {W:World} {ak:Hp} {β₀ β:Env} {hp:Hp} {w:World}
theorem GI{α:Type}(l:List α)(z len:Nat)(m:List α):jv l z len m=l.take z++(m.take (min m.length len)++l.drop (z+min m.length len)):=by
 unfold jv;rw[Nat.min_comm len m.length]
 congr 2
 rcases Nat.le_total m.length len with h|h
 ·rw[Nat.min_eq_left h,List.take_of_length_le h,List.take_length]
 ·rw[Nat.min_eq_right h]
theorem p9{α:Type}{l:List α}{z len:Nat}{m:List α}(h:z+len≤l.length):(jv l z len m).length=l.length:=by
 rw[GI];simp only[List.length_append,List.length_take,List.length_drop];omega
theorem uf{β:Env}{pm:Bool}{t u el e' ty_:TypeId}{ty:Ty}(pe:eu P t=some el)(hu:eu P u=some e')(hs:dk P el=some ty.w){v:Value}{m:List ty.D}(hr:bN β pm w v ty m)(GJ c:Nat):
  ∃ws,aU (ty.has β pm) (m.take (min m.length GJ)) ws∧∀ (base:Option Addr) (w':World),(∀a,base=some a→(storeCells a ws).run P w= .ok () w')→(base=none→w'=w)→
   (Builtin.copy_ #[t,u] ty_ #[.slice base GJ c,v]).run P w= .ok (.int .i64 ((min m.length GJ:Nat):Int)) w':=by
 obtain⟨a,n,c',rfl,rfl,hc,_,eX⟩:=hr
 have key:∃ws,aU (ty.has β pm) (m.take (min m.length GJ)) ws∧(Builtin.firstCells ty.w (min m.length GJ) (.slice a m.length c')).run P w= .ok ws.toArray w:=by
  rcases Nat.eq_zero_or_pos m.length with h0|h0
  ·have:m= []:=List.eq_nil_of_length_eq_zero h0;subst this;refine⟨[],by simpa using aU.nil,?_⟩
   cases a with
   |none=>simp[Builtin.firstCells]
   |some a=>simp[Builtin.firstCells,loadCells,loadCellsFrom]
  ·obtain⟨a0,eD,rfl,h1,h2,h3⟩:=eX h0;obtain⟨v1,v2,rfl,k1,k2⟩:=iA h2 (min m.length GJ);refine⟨v1,k1,?_⟩;have hl:v1.length=min m.length GJ*ty.w:=(by rw[bm k1,List.length_take];congr 1;omega);have hh:c8 w a0 v1:=fun i x hi=>h3 i x (by rw[List.getElem?_append_left (List.getElem?_eq_some_iff.1 hi).1];exact hi);have:=mb (P:=P) hh;rw[hl]at this;exact this
 obtain⟨ws,h1,h2⟩:=key;refine⟨ws,h1,fun base w' hw hn=>?_⟩;have Zg:Nat.min m.length GJ=min m.length GJ:=rfl;unfold Builtin.copy_;simp only[List.getElem?_toArray,List.getElem?_cons_zero,List.getElem?_cons_succ,Sem.run_bind,run_underlying (dV pe),Result.andThen_ok,Builtin.lenOf,Sem.run_pure,run_sizeOf hs,Zg,h2]
 cases base with
 |none=>rw[hn rfl];rfl
 |some a=>simp only[Sem.run_bind,hw a rfl];rfl
theorem xj{β:Env}{ty:Ty}{l m:List ty.D}{z len:Nat}{eD ws:List Value}(h:aU (ty.has β true) l eD)(hz:z+len≤l.length)(hw:aU (ty.has β true) (m.take (min m.length len)) ws):
  ∃p old r,eD=p++(old++r)∧p.length=z*ty.w∧old.length=ws.length∧aU (ty.has β true) (jv l z len m) (p++(ws++r)):=by
 obtain⟨p,v2,rfl,k1,k2⟩:=iA h z;obtain⟨old,r,rfl,k3,k4⟩:=iA k2 (min m.length len);refine⟨p,old,r,rfl,?_,?_,?_⟩
 ·rw[bm k1,List.length_take,Nat.min_eq_left (by omega)]
 ·rw[bm k3,bm hw,List.length_take,List.length_take,List.length_drop]
  congr 1;omega
 ·rw[GI];rw[List.drop_drop]at k4;exact k1.append (hw.append k4)
theorem bb.VF(h:bb W ak β₀ β hp w){i ver:Nat}{t:Ty}{l m:List t.D}(hi:hp[i]? =some (some (.own ver t l))){a:Option Addr}{n c:Nat}(he:β.h i= .slice a n c){z len:Nat}(hz:z+len≤l.length)
  {ws:List Value} (hw:aU (t.has β true) (m.take (min m.length len)) ws):
  ∃w' β',(∀a0,a=some a0→(storeCells (a0.add (z*t.w)) ws).run P w= .ok () w')∧(a=none→w'=w)∧(ws= []→w'=w)∧bb W ak β₀ β' (setAt hp i (.own ver t (jv l z len m))) w'∧bO β β' (kd hp) (kd (setAt hp i (.own ver t (jv l z len m)))):=by
 have hit:dE β w (β.h i) t l:=h.items _ _ hi;have aEz:=hit;obtain⟨a',n',c',e,hn1,hn2,jw,h4⟩:=hit;rw[he]at e;simp at e;obtain⟨rfl,rfl,rfl⟩:=e;rcases Nat.eq_zero_or_pos c with hc|hc
 ·have VE:l= []:=List.eq_nil_of_length_eq_zero (by omega);subst VE;have hlen:len=0:=by simp at hz;omega
  subst hlen
  have hws:ws= []:=by
   have:=bm hw;simp only[Nat.min_zero,List.take_zero,List.length_nil,Nat.zero_mul]at this;exact List.eq_nil_of_length_eq_zero this
  subst hws;have Zh:jv ([]:List t.D) z 0 m= []:=by rw[GI];simp
  rw[Zh];obtain⟨β',s1,s2,_⟩:=h.xg hi (ver':=ver) (l':= []) (v:=β.h i) (w':=w) (.inr ⟨rfl,rfl⟩) (Nat.le_refl _) rfl rfl (fun _ _ _=>rfl) aEz (fun a n c e h0=>.inl ⟨a,n,c,e,h0,rfl⟩);exact⟨w,β',fun a0 _=>rfl,fun _=>rfl,fun _=>rfl,s1,s2⟩
 ·obtain⟨a0,pre,eD,rest,elem,fz,rfl,k1,k2,k3,k4,k5,k6⟩:=h4 hc;obtain⟨p,old,r,rfl,e1,e2,h9⟩:=xj k4 hz hw
  obtain⟨w',r1,r2,r3,r4,r5,r6⟩:=dM (P:=P) (a:=a0.add (z*t.w)) (nf k1 _) (elem:=elem) (fz:=fz) ws 0 (pre++p) old (r++rest) w
   (by rw[dU,k2];simp) (by
    obtain⟨b0,o0,s0⟩:=a0;simp at k1 k3;subst k1;rw[bT];simp[k3,e1]) e2 (lE hw) (fun off q1 q2=>k6.not (by simp at q2 ⊢;omega))
  rw[dU]at r2 r3
  obtain⟨β',s1,s2,s3⟩:=h.xg hi (ver':=ver) (l':=jv l z len m) (v:=β.h i) (w':=w') (.inr ⟨rfl,rfl⟩) (by omega) r5 r6 (fun b hb sC=>by
    refine r3 b fun e=>sC ?_;subst e;exact⟨a0,n,c,he,hc,rfl⟩)
   (by
    rw[he];refine⟨some a0,n,c,rfl,by rw[p9 hz];exact hn1,hn2,by simp,fun _=>⟨a0,pre,p++(ws++r),rest,elem,fz,rfl,k1,?_,k3,h9,k5,?_⟩⟩
    ·rw[r2];simp
    ·have:(pre++(p++(ws++r)++rest)).length=(pre++(p++(old++r)++rest)).length:=(by simp[e2]);rw[this];exact k6)
   (fun a n c e h0=>.inl ⟨a,n,c,e,h0,rfl⟩)
  refine⟨w',β',fun a1 e=>by simp at e;subst e;exact r1,fun e=>(by cases e),fun e=>?_,s1,s2⟩;subst e;have:(storeCells (a0.add (z*t.w)) []).run P w= .ok () w:=rfl;rw[this]at r1;cases r1;rfl
theorem bb.an1(h:bb W ak β₀ β hp w){b o:Nat}{t:Ty}{k:Nat}{cells cells':List SV}{elem:TypeId}{l m:List t.D}(hi:hp[b]? =some (some (.aW cells elem)))(j8:rowAt cells o=some (.arr t k l)){z len:Nat}(hz:z+len≤k)
  (sP:j9 cells o (.arr t k (jv l z len m))=some cells') {ws:List Value} (hw:aU (t.has β true) (m.take (min m.length len)) ws):
  ∃w',(storeCells ((⟨β.b b,o,none⟩:Addr).add (z*t.w)) ws).run P w= .ok () w'∧(ws= []→w'=w)∧bb W ak β₀ β (setAt hp b (.aW cells' elem)) w'∧bO β β (kd hp) (kd (setAt hp b (.aW cells' elem))):=by
 obtain⟨cs,fz,g1,g2,g3,_⟩:=h.gI hi
 have hlk:l.length=k:=by
  obtain⟨_,_,_,_,_,hh,_⟩:=pW _ _ j8 g3;exact hh
 obtain⟨pre,mid,post,rfl,e3,_,h6,h7⟩:=mc _ _ j8 sP g3 (by rw[p9 (by omega)];exact hlk);obtain⟨p,old,r,rfl,e1,e2,h9⟩:=xj (z:=z) (len:=len) h6 (by rw[hlk];exact hz) hw
 obtain⟨w',r1,r2,r3,r4,r5,r6⟩:=dM (P:=P) (a:=⟨β.b b,o+z*t.w,none⟩) rfl (elem:=elem) (fz:=fz) ws 0 (pre++p) old (r++post) w
  (by rw[g1];simp) (by simp[e3,e1]) e2 (lE hw) (fun off q1 q2=>g2.not (by simp at q2 ⊢;omega))
 obtain⟨s1,s2⟩:=h.GD hi (cells':=cells') (w':=w') (by omega) r5 r6 r3 (c:=pre++((p++(ws++r))++post)) (fz:=fz)
  (by rw[r2];simp) (by
   have:(pre++((p++(ws++r))++post)).length=(pre++((p++(old++r))++post)).length:=(by simp[e2]);rw[this];exact g2) (h7 _ h9)
 refine⟨w',by rw[bT];exact r1,fun e=>?_,s1,s2⟩;subst e;have:(storeCells ⟨β.b b,o+z*t.w,none⟩ []).run P w= .ok () w:=rfl;rw[this]at r1;cases r1;rfl
theorem yO{L:Nat→Option Kd}{ty:Ty}:∀ {l:List ty.D} {vs:List Value},aU (ty.has β true) l vs→bf β L (l.flatMap (ty.EP true)) vs
 | [],_,h=>by cases h;exact .nil
 |x::l,_,.cons h t=>by rw[List.flatMap_cons];exact(ty.mK h).append (yO t)
theorem A3{α:Type}(l:List α)(d:α):(List.range l.length).map (fun j=>l.getD j d)=l:=by
 apply List.ext_getElem
 ·simp
 ·intro i h1 h2;simp at h1 ⊢;simp[h1]
theorem an2{st:St}{a:Act}(hr:Rel W ak β₀ β st a w){t u ty_:TypeId}{d x:SV}{q:Option Prop}{v:LV}{dl:List (Nat×Item)}(h:(P0 P t u d x).val st.hp=some (q,v,dl)){dv xv:Value}(hd:d.den β (kd st.hp) dv)(hx:x.den β (kd st.hp) xv):
  ∃ (β':Env) (w':World) (val:Value),(Builtin.copy_ #[t,u] ty_ #[dv,xv]).run P w= .ok val w'∧v.den β' (kd (aJ dl st.hp)) val∧bb W ak β₀ β' (aJ dl st.hp) w'∧bO β β' (kd st.hp) (kd (aJ dl st.hp)):=by
 unfold P0 at h
 split at h
 ·simp[Ask.val]at h
 rename_i el pe
 split at h
 rotate_left
 ·simp[Ask.val]at h
 rename_i ty sz hty hs
 split at h
 rotate_left
 ·simp[Ask.val]at h
 rename_i nq;obtain⟨rfl,jB⟩:=nq;rw[Ask.eF]at h
 split at h
 rotate_left
 ·simp[Ask.val]at h
 rename_i pm m hc
 split at h
 rotate_left
 ·simp[Ask.val]at h
 rename_i hf
 have hu:∃e',eu P u=some e'∧(jF ty x).val st.hp=some (pm,m):=by
  split at hc
  ·rename_i e' he;exact⟨e',he,hc⟩
  ·simp[Ask.val]at hc
 obtain⟨e',hu,hc⟩:=hu;have pY:=nk hr.heap hc hx
 have VG:∀ {k:Nat} {ws:List Value},aU (ty.has β pm) (m.take k) ws→aU (ty.has β true) (m.take k) ws:=by
  intro k ws hh
  cases pm with
  |true=>exact hh
  |false=>exact hh.imp fun _ _=>ty.sM (by simpa using hf)
 split at h
 ·
  rename_i i ver;simp only[Ask.val]at h
  split at h
  ·rename_i ver' w6 l hi
   split at h
   ·rename_i e;subst e
    split at h
    ·rename_i e;subst e
     cases h
     obtain⟨sk,hh⟩:=hr.heap.pX (p:=fun v=>dv=v) (aB hi) hd.2;obtain⟨base,n,c,e1,hn,_⟩:=sk;obtain⟨ws,k1,k2⟩:=uf (ty_:=ty_) pe hu hs pY n c;rw[hn]at k1;obtain⟨w',β',r1,r2,_,r3,r4⟩:=hr.heap.VF (P:=P) (aB hi) e1 (z:=0) (len:=l.length) (by omega) (VG k1);have eR:=k2 base w' (fun a0 e=>by have:=r1 a0 e;rw[Nat.zero_mul]at this;exact this) r2;refine⟨β',w',_,by rw[hh,e1];exact eR,?_,r3,r4⟩;rw[hn];rfl
    ·cases h
   ·cases h
  ·cases h
 ·
  rename_i i ver w0 z n;simp only[Ask.val]at h
  split at h
  ·rename_i ver' w6 l hi
   split at h
   ·rename_i e;subst e
    split at h
    ·rename_i e;obtain⟨rfl,rfl⟩:=e
     cases h
     obtain⟨sk,hh⟩:=hr.heap.pX (p:=fun v=>yF v w6.w z n dv) (aB hi) hd.2;obtain⟨base,n1,c1,e1,hn,_⟩:=sk;obtain⟨a2,m2,c2,a3,c3,e2,z0,n0,hle,rfl,_,_,ub⟩:=hh;rw[e1]at e2;simp at e2;obtain⟨rfl,rfl,rfl⟩:=e2;obtain⟨ws,k1,k2⟩:=uf (ty_:=ty_) pe hu hs pY n.toNat c3;obtain⟨w',β',r1,r2,r0,r3,r4⟩:=hr.heap.VF (P:=P) (aB hi) e1 (z:=z.toNat) (len:=n.toNat) (by omega) (VG k1);refine⟨β',w',_,k2 a3 w' (fun a0 e=>?_) (fun e=>?_),rfl,r3,r4⟩
     ·rcases Int.lt_or_le 0 n with h0|h0
      ·obtain⟨a4,e4,e5⟩:=ub h0;rw[e]at e5;simp at e5;subst e5;exact r1 _ e4
      ·have:ws= []:=by
        have:=bm k1;rw[show n.toNat=0 from by omega]at this;simp at this;exact this
       subst this;rw[r0 rfl];rfl
     ·rcases Int.lt_or_le 0 n with h0|h0
      ·obtain⟨a4,e4,e5⟩:=ub h0;rw[e]at e5;cases e5
      ·have:ws= []:=by
        have:=bm k1;rw[show n.toNat=0 from by omega]at this;simp at this;exact this
       exact r0 this
    ·cases h
   ·cases h
  ·cases h
 ·
  rename_i b o' ty0 k z n;simp only[Ask.val]at h
  split at h
  ·rename_i cells elem hi
   split at h
   ·rename_i w6 k' l j8
    split at h
    ·rename_i e;subst e
     split at h
     ·rename_i e;obtain⟨rfl,rfl⟩:=e;obtain⟨cells',sP,he⟩:=map_some h
      cases he
      obtain⟨hb,z0,n0,zn,a3,c3,rfl,_,_,ub⟩:=hd;obtain⟨ws,k1,k2⟩:=uf (ty_:=ty_) pe hu hs pY n.toNat c3;obtain⟨w',r1,r0,r3,r4⟩:=hr.heap.an1 (P:=P) (aB hi) j8 (z:=z.toNat) (len:=n.toNat) (by omega) sP (VG k1);refine⟨β,w',_,k2 a3 w' (fun a0 e=>?_) (fun e=>?_),rfl,r3,r4⟩
      ·rcases Int.lt_or_le 0 n with h0|h0
       ·have e5:=ub h0;rw[e]at e5;simp at e5;subst e5;exact r1
       ·have:ws= []:=by
         have:=bm k1;rw[show n.toNat=0 from by omega]at this;simp at this;exact this
        subst this;rw[r0 rfl];rfl
      ·rcases Int.lt_or_le 0 n with h0|h0
       ·have e5:=ub h0;rw[e]at e5;cases e5
       ·have:ws= []:=by
         have:=bm k1;rw[show n.toNat=0 from by omega]at this;simp at this;exact this
        exact r0 this
     ·cases h
    ·cases h
   ·cases h
  ·cases h
 ·
  rename_i b o' n cp;simp only[Ask.val]at h
  split at h
  ·rename_i cells elem hi
   split at h
   ·rename_i s Zc
    split at h
    ·rename_i l hl;obtain⟨cells',ad1,he⟩:=map_some h
     cases he
     obtain⟨hb,rfl⟩:=hd;obtain⟨ws,k1,k2⟩:=uf (ty_:=ty_) pe hu hs pY n cp;obtain⟨cs,fz,g1,g2,g3,_⟩:=hr.heap.gI (aB hi);obtain⟨pre,mid,post,e1,e2,e3,h4⟩:=rb Zc g3;obtain⟨h5,h6⟩:=gW (R:=ty.has β true) (fun a x vs h hd=>ty.gD h hd) _ hl h4;obtain⟨p,old,r,e4,e5,e6,h9⟩:=xj h5 (z:=0) (len:=n) (by omega) (VG k1);have EW:p= []:=List.eq_nil_of_length_eq_zero (by rw[e5];simp);subst EW
     have aEA:bf β (kd st.hp) ((List.range n).flatMap fun j=>ty.EP true ((jv l 0 n m).getD j ty.z)) (ws++r):=by
      have:((List.range n).flatMap fun j=>ty.EP true ((jv l 0 n m).getD j ty.z))=(jv l 0 n m).flatMap (ty.EP true):=by
       have hlen:(jv l 0 n m).length=n:=by rw[p9 (by omega)];exact h6
       conv=>rhs;rw[← A3 (jv l 0 n m) ty.z,hlen]
       rw[List.flatMap_map]
      rw[this];exact yO (by simpa using h9)
     obtain⟨aEB,ua,azS,f1,f2,f3,f4⟩:=rf ad1 _ _ g3 aEA
     have PW:pre=aEB∧mid=ua∧post=azS:=by
      have hml:mid.length=ua.length:=by
       rw[f3,e4];simp[e6]
      rw[e1]at f1;obtain⟨g,g'⟩:=List.append_inj f1 (by rw[e2,f2]);obtain⟨g4,g5⟩:=List.append_inj g' hml;exact⟨g,g4,g5⟩
     obtain⟨rfl,rfl,rfl⟩:=PW;subst e4
     obtain⟨w',r1,r2,r3,r4,r5,r6⟩:=dM (P:=P) (a:=⟨β.b b,o',none⟩) rfl (elem:=elem) (fz:=fz) ws 0 pre old (r++post) w
      (by rw[g1,e1];simp) (by simp[e2]) e6 (lE k1) (fun off q1 q2=>g2.not (by rw[e1];simp at q2 ⊢;omega))
     obtain⟨s1,s2⟩:=hr.heap.GD (aB hi) (cells':=cells') (w':=w') (by omega) r5 r6 r3 (c:=pre++((ws++r)++post)) (fz:=fz)
      (by rw[r2];simp) (by
       have:(pre++((ws++r)++post)).length=cs.length:=(by rw[e1];simp[e6]);rw[this];exact g2) f4
     exact⟨β,w',_,k2 _ w' (fun a0 e=>by simp at e;subst e;exact r1) (fun e=>by cases e),rfl,s1,s2⟩
    ·cases h
   ·cases h
  ·cases h
 ·simp[Ask.val]at h
end
end Go.Ev
end
