/- What the laws lean on, part 3: a reader of code, plain facts, and what each function gives; no conditions. -/
import Derived.Laws.BitsLemmas
import Derived.Laws.NewFold
import Derived.Deep.AppendSrc
import Derived.Lib.AppendZerosOnto
import Derived.Test.YtmhcoaflmgajhaaGreatA2
set_option linter.unusedVariables false
set_option linter.unusedSimpArgs false
noncomputable section
namespace Go.Ev
open Go
open Go.IntKind (i64 signed u32 u64 wrap wrap_u32)
theorem p6(a:Addr)(i j:Nat):(a.add i).add j=a.add (i+j):=by
 obtain⟨b,o,s⟩:=a
 by_cases hi:i=0
 ·subst hi;have:(⟨b,o,s⟩:Addr).add 0=⟨b,o,s⟩:=if_pos rfl;rw[this,Nat.zero_add]
 ·have:(⟨b,o,s⟩:Addr).add i=⟨b,o+i,none⟩:=if_neg hi;rw[this,bo];unfold Addr.add;rw[if_neg (by omega),Nat.add_assoc]
theorem wrap_small{n:Int}(h0:0≤n)(h1:n≤9223372036854775807):i64.wrap n=n:=by rw[IntKind.wrap_i64];omega
theorem gE{P:Program}{w:World}{a:Addr}{cs:List Value}{elem:TypeId}{fz:Nat×Nat}(h:w.heap[a.block]? =some (.cells cs.toArray elem fz))(hf:pP fz cs.length):
  ∃w' XU,(markStringish a).run P w= .ok () w'∧w'.heap[a.block]? =some (.cells cs.toArray elem XU)∧pP XU cs.length∧(∀b,b≠a.block→w'.heap[b]? =w.heap[b]?)∧w'.heap.size=w.heap.size∧w'.os=w.os∧w'.output=w.output:=by
 have hsh:w.shape? a.block=some (elem,cs.length):=by simp[World.shape?,h]
 refine⟨w.freeze ⟨a.block,cs.length,none⟩ 1,if fz.1==fz.2 then(cs.length,cs.length+1)else(min fz.1 cs.length,max fz.2 (cs.length+1)),?_,?_,?_,?_,?_,?_,?_⟩
 ·simp[markStringish,hsh]
 ·obtain⟨lo,hi⟩:=fz;simp only[World.freeze,Nat.one_ne_zero,if_false,Array.getElem?_modify,if_true,h];rfl
 ·unfold pP at hf ⊢
  split
  ·exact .inr (Nat.le_refl _)
  ·rename_i eC;have:fz.1≠fz.2:=(by simpa using eC);right;simp only;omega
 ·intro b hb;simp only[World.freeze,Nat.one_ne_zero,if_false,Array.getElem?_modify];rw[if_neg (fun e=>hb e.symm)]
 ·simp[World.freeze]
 ·simp[World.freeze]
 ·simp[World.freeze]
theorem wN{z:List Value}{s:Nat}(hz:z.length=s)(d:Value):∀n:Nat,(List.range (n*s)).map (fun i=>z.getD (i%s) d)=(List.replicate n z).flatten
 |0=>by simp
 |n+1=>by
  rw[Nat.succ_mul,List.range_add,List.map_append,wN hz d n,List.replicate_succ',List.flatten_append]
  congr 1
  rw[List.map_map];simp only[List.flatten_cons,List.flatten_nil,List.append_nil]
  apply List.ext_getElem
  ·simp[hz]
  ·intro i h1 h2;have hi:i<s:=(by simpa using h1);simp[List.getD,Nat.add_mod,Nat.mod_eq_of_lt hi,hz,hi]
theorem wO{β:Env}{L:Nat→Option Kd}{z:List SV}{zc:List Value}(h:aP β L z zc):∀n:Nat,aP β L ((List.replicate n z).flatten) ((List.replicate n zc).flatten)
 |0=>.nil
 |n+1=>by simp only[List.replicate_succ,List.flatten_cons];exact h.append (wO h n)
theorem p7{α:Type}{R:α→List Value→Prop}{x:α}{zc:List Value}(h:R x zc):∀n:Nat,aF R (List.replicate n x) ((List.replicate n zc).flatten)
 |0=>.nil
 |n+1=>by simp only[List.replicate_succ,List.flatten_cons];exact .cons h (p7 h n)
theorem gT{z:Value}{s:Nat}(n:Nat)(hz:z.cells.size=s):(Array.range (n*s)).map (fun i=>z.cells[i%z.cells.size]!)=((List.replicate n z.cells.toList).flatten).toArray:=by
 apply Array.ext'
 rw[← wN (z:=z.cells.toList) (s:=s) (by simpa using hz) default n,hz];simp only[Array.toList_map,Array.toList_range]
 apply List.map_congr_left
 intro i _;simp[Array.getElem!_eq_getD,Array.getD_eq_getD_getElem?,List.getD]
noncomputable section
variable {P:Program} {st:St} {o:Oper} {q:Option Prop} {v:LV} {d:List (Nat×Item)}
theorem ig{β:Env}{w:World}{b:Nat}{t:Ty}{l:List t.D}{cz rest:List Value}{elem:TypeId}{fz:Nat×Nat}{c:Nat}(hw:w.heap[b]? =some (.cells (cz++rest).toArray elem fz))(hl:aF (t.has β true) l cz)
  (hc:l.length≤c) (hr:(c-l.length)*t.w≤rest.length) (hf:pP fz (cz++rest).length):bI β w (.slice (some ⟨b,0,none⟩) l.length c) t l:=
 ⟨_,_,_,rfl,rfl,hc,by simp,fun _=>⟨_,[],cz,rest,elem,fz,rfl,rfl,by simpa using hw,rfl,hl,hr,by simpa using hf⟩⟩
theorem M1{id:Nat}{src dst:TypeId}{x:Operand}{s:SV}(ho:o.op= .convert src dst x)(hx:eK (ev st x)=some s)(h:(zM P id src dst s).val st.hp=some (q,v,d))(jo:(∃x,(id,x)∈d)→kd st.hp id=none):dn P o st q v d:=by
 unfold zM at h
 split at h
 ·rename_i d' k hs oS;simp only[Ask.val]at h
  split at h
  ·rename_i k' n;simp at h;obtain⟨rfl,rfl,rfl⟩:=h;refine dn.pure fun _ W ag β₀ β a w hr=>?_;have e:a.eval x= .int k' n.val:=aO hx (aB hr x);refine⟨.int k (k.wrap n.val),by simp[execOp,ho,e,convert,run_underlying hs,run_underlying oS,Conv.intToInt],?_⟩;show Value.int k (k.wrap n.val)= .int k (GR k n).val;rw[Et]
  ·cases h
 ·rename_i d' hs oS;simp only[Ask.val]at h
  split at h
  ·rename_i k' n;simp at h;obtain⟨rfl,rfl,rfl⟩:=h;refine dn.pure fun _ W ag β₀ β a w hr=>?_;have e:a.eval x= .int k' n.val:=aO hx (aB hr x);exact⟨.float .f64 (lf n.val),by simp[execOp,ho,e,convert,run_underlying hs,run_underlying oS,Conv.intToFloat,lf],rfl⟩
  ·cases h
 ·rename_i e hs oS
  split at h
  ·rename_i he;rw[Ask.bL]at h;obtain⟨⟨pm,l⟩,hc,he2⟩:=map_some h;simp at he2;obtain⟨rfl,rfl,rfl⟩:=he2;refine dn.pure fun _ W ag β₀ β a w hr=>?_;have jN:=ib hr.heap hc (aO hx (aB hr x));have ck:=run_bytesToString (P:=P) jN;obtain⟨aa,n,c,e1,_⟩:=jN;refine⟨_,?_,rfl⟩;rw[e1]at ck;simp[execOp,ho,e1,convert,run_underlying hs,run_underlying oS,run_underlying he,ck]
  ·simp[Ask.val]at h
 ·rename_i hs oS;simp only[Ask.val]at h
  split at h
  ·rename_i l hl;simp at h;obtain⟨rfl,rfl,rfl⟩:=h;refine dn.pure fun _ W ag β₀ β a w hr=>?_;have e:=eJ hl (aO hx (aB hr x));exact⟨.string (strOf l),by simp[execOp,ho,e,convert,run_underlying hs,run_underlying oS],rfl⟩
  ·cases h
 ·rename_i e hs oS;simp only[Ask.val]at h
  split at h
  ·rename_i l he hl
   split at h
   ·rename_i Gz
    cases h
    have jo:=jo ⟨_,by simp;rfl⟩;intro _ W ag β₀ β a w hr;have ex:=eJ hl (aO hx (aB hr x))
    let s:=strOf l
    have hlen:s.size=l.length:=k9 l
    let cap:=(Question.appendCap s.size 0 e).cut (w.tape w.drawn (.appendCap s.size 0 e))
    have M3:s.size≤cap:=by simp[cap,Question.cut]
    let cz:List Value:=(l.map fun n=>((UInt8.ofNat n.toNat).toNat:Int)).map (.int .u8)
    let rest:List Value:=List.replicate (cap-s.size) (.int .u8 0)
    let w1:=w.drew.alloc (.cells (cz++rest).toArray e)
    have hw1:w1.heap[w.heap.size]? =some (.cells (cz++rest).toArray e (0,0)):=heap_alloc_new w.drew _;obtain⟨w2,XU,r1,r2,r3,r4,r5,r6,r7⟩:=gE (P:=P) (a:=⟨w.heap.size,0,none⟩) hw1 (.inl rfl)
    have adH:aF ((Ty.int .u8).has β true) (l.map fun n=>((UInt8.ofNat n.toNat).toNat:Int)) cz:=by
     show aF _ _ (List.map _ (List.map _ l));generalize (l.map fun n=>((UInt8.ofNat n.toNat).toNat:Int))=m
     induction m with
     |nil=>exact .nil
     |cons x m ih=>exact aF.cons (vs:= [_]) rfl ih
    have dY:=ig (c:=cap) r2 adH (by simp;omega) (by simp[rest,Ty.w];omega) r3;have hll:(l.map fun n=>((UInt8.ofNat n.toNat).toNat:Int)).length=s.size:=(by simp[hlen]);rw[hll]at dY
    obtain⟨β',h1,h2,h3⟩:=hr.heap.jM jo (ver:=0) (w':=w2) (by rw[r5];show w.heap.size≤(w.drew.alloc _).heap.size;rw[World.size_alloc];exact Nat.le_succ _) (by rw[r6];rfl) (by rw[r7];rfl) (fun b hb=>by
     rw[r4 b (by show b≠w.heap.size;omega)];exact heap_alloc_old w.drew _ b hb) dY (fun a n c e _=>by simp at e;obtain⟨rfl,_⟩:=e;exact Nat.le_refl _)
    refine⟨β',w2,_,.slice (some ⟨w.heap.size,0,none⟩) s.size cap,?_,.inl rfl,?_,h1,h2⟩
    ·have hel:(strOf l).data.map (fun b=>Value.int .u8 b.toNat)=cz.toArray:=by
      apply Array.ext'
      simp[strOf,cz,List.map_map,Function.comp_def]
     have adI:(strOf l).data.map (fun b=>Value.int .u8 b.toNat)++Array.replicate (cap-s.size) (Value.int .u8 0)=(cz++rest).toArray:=by
      rw[hel];apply Array.ext';simp[rest]
     have hq:(Question.appendCap s.size 0 e).forced=false:=rfl;simp only[execOp,ho,ex,convert,Sem.run_bind,run_underlying hs,run_underlying oS,run_underlying he,Result.andThen_ok,Conv.stringToBytes,run_choose_drew,hq,Bool.false_eq_true,if_false,newRow,run_newObj,Sem.run_pure];show((Sem.run P (markStringish ⟨w.drew.heap.size,0,none⟩) (w.drew.alloc (.cells ((strOf l).data.map (fun b=>Value.int .u8 b.toNat)++Array.replicate (cap-s.size) (Value.int .u8 0)) e))).andThen _).andThen _=_;rw[adI];show((Sem.run P (markStringish ⟨w.heap.size,0,none⟩) w1).andThen _).andThen _=_;rw[r1];rfl
    ·refine⟨rfl,0,?_,Nat.le_refl _,fun _=>h3.symm⟩;show kd (setAt st.hp id _) id=_;rw[bR,if_pos rfl];rfl
   ·cases h
  ·cases h
 ·rename_i e' e hs oS
  split at h
  ·rename_i i ver
   split at h
   ·rename_i hsd
    split at h
    ·rename_i he;simp only[Ask.val]at h
     split at h
     ·rename_i ver' l hi
      split at h
      ·rename_i hc;obtain⟨rfl,eC⟩:=hc;simp at h;obtain⟨rfl,rfl,rfl⟩:=h;intro _ W ag β₀ β a w hr;have hd:=aO hx (aB hr x);obtain⟨kI,hh⟩:=hr.heap.jL (p:=fun v=>a.eval x=v) (an hi) hd.2;have ahJ:=kI;obtain⟨a0,n,c,e1,hn,Cj,ha,cG⟩:=kI
       have GZ:0<c:=by
        have:0<l.length:=List.length_pos_iff.2 eC;omega
       obtain⟨a1,pre,cz,rest,elem,fz,rfl,k1,k2,k3,k4,k5,k6⟩:=cG GZ;obtain⟨w',XU,r1,r2,r3,r4,r5,r6,r7⟩:=gE (P:=P) k2 k6
       obtain⟨β',h1,h2,h3⟩:=hr.heap.nD (an hi) (ver':=ver) (l':=l) (v:=β.h i) (w':=w') (.inr ⟨rfl,rfl⟩) (by omega) r6 r7 (fun b hb nE=>r4 b fun e=>nE (by subst e;exact⟨a1,n,c,e1,GZ,rfl⟩))
        (by rw[e1];exact⟨_,n,c,rfl,hn,Cj,by simp,fun _=>⟨a1,pre,cz,rest,elem,XU,rfl,k1,r2,k3,k4,k5,r3⟩⟩) (fun a n c e h0=>.inl ⟨a,n,c,e,h0,rfl⟩)
       refine⟨β',w',_,a.eval x,?_,.inl rfl,SV.cM h2 hd,h1,h2⟩;rw[hh,e1];subst hsd;have XV:e'=e:=(by rw[hs]at oS;simpa using oS);subst XV;have:a.eval x= .slice (some a1) n c:=(by rw[hh,e1]);simp[execOp,ho,this,convert,run_underlying hs,run_underlying he,r1]
      ·cases h
     ·cases h
    ·simp[Ask.val]at h
   ·simp[Ask.val]at h
  ·simp[Ask.val]at h
 ·simp[Ask.val]at h
end
noncomputable section
variable {P:Program} {st:St} {o:Oper} {q:Option Prop} {v:LV} {d:List (Nat×Item)}
theorem XW{lo hi mx:Option Operand}{W:World}{ag:Hp}{β₀ β:Env}{a:Act}{w:World}(hr:Rel W ag β₀ β st a w){isS:Bool}{n c:Nat}{r:Nat×Nat×Nat}(h:ic n c (lo.map (ev st)) (hi.map (ev st)) (mx.map (ev st))=some r):
  (Instr.sliceBounds isS n c (lo.map a.eval) (hi.map a.eval) (mx.map a.eval)).run P w= .ok r w:=
 rO (P:=P) (w:=w) (β:=β) (L:=kd st.hp) (lov:=lo.map a.eval) (hiv:=hi.map a.eval) (mxv:=mx.map a.eval) h
  (fun y hy=>by obtain⟨z,hz,rfl⟩:=map_some hy;exact⟨a.eval z,by simp[hz],aB hr z⟩) (by cases lo<;>simp)
  (fun y hy=>by obtain⟨z,hz,rfl⟩:=map_some hy;exact⟨a.eval z,by simp[hz],aB hr z⟩) (by cases hi<;>simp) (by cases mx<;>simp)
theorem wP{t el:TypeId}{x:Operand}{lo hi mx:Option Operand}{b off n:Nat}(ho:o.op= .slice t x lo hi mx)(hx:eK (ev st x)=some (.ptr b off))(jq:jI P t=some (n,el))
  (h:((c8 P 0 (ev st) (.slice t x lo hi mx)).val st.hp)=some (q,v,d)):dn P o st q v d:=by
 have hu:=hZ jq;simp only[c8,hx,jq,Ask.val]at h
 split at h
 ·rename_i cells elem sz hb hs
  split at h
  ·rename_i ty n' l eY
   split at h
   ·rename_i x' y' MZ Gy
    split at h
    ·rename_i hc;obtain⟨rfl,rfl⟩:=hc
     cases h
     refine dn.pure fun hq W ag β₀ β a w hr=>?_;obtain⟨q1,q2,q3⟩:0≤x'∧x'≤y'∧y'≤(n':Int):=hq;obtain⟨rQ,ex⟩:=aO hx (aB hr x);have S4:=lY (P:=P) hr (isS:=false) MZ Gy q1 q2 q3 (Nat.le_refl _);refine⟨.slice (some (if n'=x'.toNat then⟨β.b b,off,none⟩else(⟨β.b b,off,none⟩:Addr).add (x'.toNat*ty.w))) (y'.toNat-x'.toNat) (n'-x'.toNat),?_,rQ,q1,by omega,by omega,some (if n'=x'.toNat then⟨β.b b,off,none⟩else(⟨β.b b,off,none⟩:Addr).add (x'.toNat*ty.w)),n'-x'.toNat,?_,?_,(fun e=>by cases e),fun h0=>?_⟩
     ·simp only[execOp,ho,ex,Instr.sliceAt,underlying,Sem.run_bind,run_program,Result.andThen_ok,hu,Instr.sureAddr,Sem.run_pure,S4,run_sizeOf hs,Option.map_none]
     ·rw[show(y'-x').toNat=y'.toNat-x'.toNat from by omega]
     ·omega
     ·rw[if_neg (by omega)]
    ·cases h
   ·cases h
  ·obtain⟨r,S2,he⟩:=map_some h
   cases he
   refine dn.pure fun _ W ag β₀ β a w hr=>?_;obtain⟨rQ,ex⟩:=aO hx (aB hr x);have S4:=XW (P:=P) hr (isS:=false) S2;refine⟨.slice (some ⟨β.b b,if r.2.2=r.1 then off else off+r.1*sz,none⟩) (r.2.1-r.1) (r.2.2-r.1),?_,rQ,rfl⟩;simp only[execOp,ho,ex,Instr.sliceAt,underlying,Sem.run_bind,run_program,Result.andThen_ok,hu,Instr.sureAddr,Sem.run_pure,S4,run_sizeOf hs]
   split<;>simp[bo]
 ·cases h
theorem o5{a:Option Addr}{c k:Nat}{f:Addr→Addr}(h:a=none→c=0):(if c=k then a else a.map f)=none→c-k=0:=by
 intro e
 split at e
 ·have:=h e;omega
 ·cases a with
  |none=>have:=h rfl;omega
  |some a=>cases e
theorem aQ.G0{W:World}{ag:Hp}{β₀ β:Env}{hp:Hp}{w:World}(h:aQ W ag β₀ β hp w){pm:Bool}{u u':Value}{t:Ty}{l l':List t.D}(hr:β.rd pm u t l)(jN:bg β pm w u' t l')(gv:∀b,inBlock u' b→inBlock u b):
  ∃β',aQ W ag β₀ β' hp w∧bh β β' (kd hp) (kd hp)∧β'.rd pm u' t l':=by
 obtain⟨h1,h2,h3⟩:=h.jf jN fun b hb=>⟨((h.reads _ _ _ _ hr).2 b (gv b hb)).1,((h.reads _ _ _ _ hr).2 b (gv b hb)).2,h.from_ pm u t l b hr (gv b hb)⟩;exact⟨_,h1,h2,h3⟩
theorem M4{W:World}{ag:Hp}{β₀ β:Env}{hp:Hp}{w:World}(h:aQ W ag β₀ β hp w){s r:SV}{pm:Bool}{t:Ty}{l:List t.D}{x y:Int}(hc:(eN s).val hp=some (pm,⟨t,l⟩))(hs:S1 t.w x y s=some r)
  {a:Option Addr} {n c:Nat} (hd:s.den β (kd hp) (.slice a n c)) (q1:0≤x) (q2:x≤y) (q3:y≤l.length):
  ∃β',aQ W ag β₀ β' hp w∧bh β β' (kd hp) (kd hp)∧r.den β' (kd hp) (.slice (if c=x.toNat then a else a.map (·.add (x.toNat*t.w))) (y.toNat-x.toNat) (c-x.toNat)):=by
 have jN:=fL h hc hd;obtain⟨a',n',c',e,hn,Cj,hz,cG⟩:=jN;simp at e;obtain⟨rfl,rfl,rfl⟩:=e;have hyx:(y-x).toNat=y.toNat-x.toNat:=by omega
 unfold S1 at hs
 split at hs
 ·rename_i gu nn t' l';simp at hs;subst hs
  have lb:pm=gu∧(⟨t,l⟩:(t:Ty)×List t.D)=⟨t',l'⟩:=by
   unfold eN at hc;rw[Ask.cA]at hc;simp[tr,Ask.val,Ask.bL,eM]at hc;obtain⟨h1,rfl,h2⟩:=hc;exact⟨h1.symm,by simpa using h2.symm⟩
  obtain⟨rfl,e⟩:=lb
  cases e
  have Ey:ot (.slice a n c) t.w x (y-x) (.slice (if c=x.toNat then a else a.map (·.add (x.toNat*t.w))) (y.toNat-x.toNat) (c-x.toNat)):=by
   refine⟨_,_,_,_,_,rfl,q1,by omega,by omega,by rw[hyx],by omega,o5 hz,fun h0=>?_⟩;obtain⟨a0,_,rfl,_⟩:=cG (by omega);exact⟨a0,rfl,by rw[if_neg (by omega)];rfl⟩
  have adJ:bg β pm w (.slice a n c) t l:=⟨_,_,_,rfl,hn,Cj,hz,cG⟩;obtain⟨_,_,kG⟩:=hd
  have gv:∀b,inBlock (Value.slice (if c=x.toNat then a else a.map (·.add (x.toNat*t.w))) (y.toNat-x.toNat) (c-x.toNat)) b→inBlock (Value.slice a n c) b:=by
   intro b hb
   cases a with
   |none=>split at hb<;>exact hb.elim
   |some a=>
    split at hb
    ·obtain⟨h1,h2⟩:=hb;exact⟨by omega,h2⟩
    ·obtain⟨h1,h2⟩:=hb;exact⟨by omega,by rw[← h2,cd]⟩
  rcases kG with kG|⟨rfl,kG⟩|⟨e,rfl⟩
  ·obtain⟨β',k1,k2,k3⟩:=h.G0 kG ((h.reads _ _ _ _ kG).1.sub Ey) gv;exact⟨β',k1,k2,rfl,fun e=>(by cases e),.inl k3⟩
  ·obtain⟨β',k1,k2,k3⟩:=h.G0 kG ((h.reads _ _ _ _ kG).1.sub Ey) gv;exact⟨β',k1,k2,rfl,fun e=>(by cases e),.inr (.inl ⟨rfl,k3⟩)⟩
  ·simp at e;obtain⟨rfl,rfl,rfl⟩:=e;refine⟨β,h,bh.refl _ _,rfl,fun e=>(by cases e),.inr (.inr ⟨?_,by simp⟩)⟩;have Ch:x.toNat=0:=(by simp at q3;omega);have MO:y.toNat=0:=(by simp at q3;omega);rw[Ch,MO];rfl
 ·rename_i i ver;simp at hs;subst hs;obtain⟨k1,cc,k2,k3,k4⟩:=hd;refine⟨β,h,bh.refl _ _,rfl,cc,k2,k3,fun e=>⟨a,n,c,_,_,(k4 e).symm,q1,by omega,by omega,by rw[hyx],by omega,o5 hz,fun h0=>?_⟩⟩;obtain⟨a0,_,rfl,_⟩:=cG (by omega);exact⟨a0,rfl,by rw[if_neg (by omega)];rfl⟩
 ·rename_i i ver w' z m;simp at hs;subst hs
  have hw:w'=t.w:=by
   unfold eN at hc;rw[Ask.cA]at hc
   split at hc
   ·rename_i t0 _;rw[Ask.bL]at hc;obtain⟨⟨gu,l'⟩,h1,h2⟩:=map_some hc;simp at h2;obtain⟨_,rfl,_⟩:=h2;simp only[eM,Ask.val]at h1
    split at h1
    ·split at h1
     ·split at h1
      ·rename_i hh;exact hh.2
      ·cases h1
     ·cases h1
    ·cases h1
   ·cases hc
  subst hw;obtain⟨k1,cc,k2,k3,k4⟩:=hd;refine⟨β,h,bh.refl _ _,rfl,cc,k2,k3,fun e=>?_⟩;obtain⟨a1,m1,c1,a2,c2,e1,z0,m0,hle,e2,hc2,hz2,l5⟩:=k4 e;simp at e2;obtain⟨rfl,e3,rfl⟩:=e2;refine⟨a1,m1,c1,_,_,e1,by omega,by omega,by omega,by rw[hyx],by omega,o5 hz2,fun h0=>?_⟩;obtain⟨a0,rfl,rfl⟩:=l5 (by omega);refine⟨a0,rfl,?_⟩;rw[if_neg (by omega),Option.map_some,p6,← Nat.add_mul,show(z+x).toNat=z.toNat+x.toNat from by omega]
 ·rename_i b o' t' m z k;simp at hs;subst hs;have ht:t'=t:=by have:=Ew hc;simp[tr,Ask.val]at this;exact this
  subst ht;obtain⟨k1,z0,m0,zm,a2,c2,e2,hc2,hz2,l5⟩:=hd;simp at e2;obtain⟨rfl,e3,rfl⟩:=e2;refine⟨β,h,bh.refl _ _,k1,by omega,by omega,by omega,_,_,by rw[hyx],by omega,o5 hz2,fun h0=>?_⟩;have:=l5 (by omega);subst this;rw[if_neg (by omega),Option.map_some,p6,← Nat.add_mul,show(z+x).toNat=z.toNat+x.toNat from by omega]
 ·cases hs
end
noncomputable section
variable {P:Program} {st:St} {o:Oper} {q:Option Prop} {v:LV} {d:List (Nat×Item)}
theorem G1{id:Nat}{t:TypeId}{x:Operand}{lo hi mx:Option Operand}(ho:o.op= .slice t x lo hi mx)
  (h:((c8 P id (ev st) (.slice t x lo hi mx)).val st.hp)=some (q,v,d)):dn P o st q v d:=by
 have h0:=h;simp only[c8]at h
 split at h
 ·rename_i b off n el _ hx jq;refine wP ho hx jq ?_;simp only[c8]at h0 ⊢;exact h0
 ·rename_i b off len cap el hx jq ji;have hu:=cf ji;simp only[Ask.val]at h
  split at h
  ·rename_i l hh m sz S2 hs
   cases h
   refine dn.pure fun _ W ag β₀ β a w hr=>?_;obtain⟨rQ,ex⟩:=aO hx (aB hr x);have S4:=XW (P:=P) hr (isS:=true) S2;refine⟨.slice (some ⟨β.b b,if m=l then off else off+l*sz,none⟩) (hh-l) (m-l),?_,rQ,rfl⟩;simp only[execOp,ho,ex,Instr.sliceAt,Instr.slice,underlying,Sem.run_bind,run_program,Result.andThen_ok,hu,Sem.run_pure,S4,run_sizeOf hs]
   split<;>simp[bo]
  ·cases h
 ·rename_i s el hx jq ji;have hu:=cf ji;rw[Ask.bL]at h
  split at h
  ·rename_i pm ty l sz hc hs
   split at h
   ·rename_i x' y' MZ Gy
    split at h
    ·rename_i hw;subst hw;obtain⟨r,zr,he⟩:=map_some h
     cases he
     intro hq W ag β₀ β a w hr;obtain⟨q1,q2,q3⟩:0≤x'∧x'≤y'∧y'≤(l.length:Int):=hq;have hd:=aO hx (aB hr x);obtain⟨a',n',c',ex,hn,Cj,_⟩:=fL hr.heap hc hd;rw[ex]at hd;rw[← hn]at Gy q3;have S4:=lY (P:=P) hr (isS:=true) MZ Gy q1 q2 q3 Cj;obtain⟨β',k1,k2,k3⟩:=M4 hr.heap hc zr hd q1 q2 (by rw[← hn];exact q3);refine⟨β',w,_,_,?_,.inl rfl,k3,k1,k2⟩;simp only[execOp,ho,ex,Instr.sliceAt,Instr.slice,underlying,Sem.run_bind,run_program,Result.andThen_ok,hu,Sem.run_pure,Option.map_none];rw[S4];simp only[Result.andThen_ok,run_sizeOf hs,Sem.run_pure]
    ·cases h
   ·cases h
  ·cases h
 ·simp[Ask.val]at h
theorem tw{id:Nat}{t:TypeId}{x y:Operand}(ho:o.op= .makeSlice t x y)(h:((c8 P id (ev st) (.makeSlice t x y)).val st.hp)=some (q,v,d))(jo:(∃x,(id,x)∈d)→kd st.hp id=none):dn P o st q v d:=by
 simp only[c8,Ask.val]at h
 split at h
 ·rename_i el k1 n k2 c ji hn hc;have hu:=cf ji
  split at h
  ·rename_i ty sz z by_ hty hs hz zt
   split at h
   ·rename_i ie;obtain⟨rfl,eI,Ez⟩:=ie
    split at h
    ·rename_i z0 Xk
     cases h
     have G2:=jo ⟨_,by simp;rfl⟩;intro hq W ag β₀ β a w hr;obtain⟨rfl,o6,ahL,ahM⟩:c=n∧0≤n∧(by_:Int)*n≤2 ^ 46∧n≤2 ^ 46:=hq;have en:=cX hn (aB hr x);have ec:=cX hc (aB hr y);obtain⟨zv,Cl,M5⟩:=jJ (P:=P) (w:=w) (β:=β) (L:=kd st.hp) hz;have M6:zv.cells.size=ty.w:=(by have:=M5.length;simp at this;omega);have hzh:=ty.dZ Xk M5;have S5:=wrap_small (n:=c) o6 (by omega)
     have adM:∃i,P.info? el=some i∧i.bytes=by_:=by
      unfold jH at zt;obtain⟨i,h1,h2⟩:=map_some zt;exact⟨i,h1,h2⟩
     obtain⟨i,hi,S6⟩:=adM;have eY:aF (ty.has β true) (List.replicate c.toNat z0) ((List.replicate c.toNat zv.cells.toList).flatten):=p7 hzh _;have dY:=ig (β:=β) (w:=w.alloc (.cells ((List.replicate c.toNat zv.cells.toList).flatten++ []).toArray el)) (b:=w.heap.size) (elem:=el) (fz:=(0,0)) (rest:= []) (c:=c.toNat) (heap_alloc_new w _) eY (by simp) (by simp) (.inl rfl);rw[List.append_nil,List.length_replicate]at dY;obtain⟨β',h1,h2,h3⟩:=hr.heap.jM G2 (ver:=0) (w':=w.alloc (.cells ((List.replicate c.toNat zv.cells.toList).flatten).toArray el)) (by rw[World.size_alloc];exact Nat.le_succ _) rfl rfl (fun b hb=>heap_alloc_old w _ b hb) dY (fun a n c e _=>by simp at e;obtain⟨rfl,_⟩:=e;exact Nat.le_refl _);refine⟨β',_,_,.slice (some ⟨w.heap.size,0,none⟩) c.toNat c.toNat,?_,.inl rfl,?_,h1,h2⟩
     ·have hti:(typeInfo el).run P w= .ok i w:=by simp[typeInfo,hi]
      have G3:¬ ((c<0)∨((i.bytes:Int)*c>2 ^ 48)):=by
       rw[S6];intro hh;rcases hh with hh|hh<;>omega
      have M7:(decide (c<0)||decide ((i.bytes:Int)*c>2 ^ 48))=false:=by
       have:¬ (c<0)∧¬ ((i.bytes:Int)*c>2 ^ 48):=⟨fun hh=>G3 (.inl hh),fun hh=>G3 (.inr hh)⟩;simp only[this.1,this.2,decide_false,Bool.or_self]
      simp only[execOp,ho,en,ec,Instr.makeSlice,Sem.run_bind,run_underlying hu,Result.andThen_ok,asInt,asIntOf,Sem.run_pure,hti,S5,M7,Bool.false_or];rw[if_neg (by simp;omega)];simp only[Sem.run_bind,run_askRoom,Result.andThen_ok,run_sizeOf hs]
      by_cases Cn:c.toNat*ty.w=0
      ·have h01:c.toNat=0:=by
        rcases Nat.mul_eq_zero.1 Cn with k|k
        ·exact k
        ·omega
       rw[if_pos Cn];simp only[Sem.run_bind,Result.andThen_ok,newRow,run_newObj,Sem.run_pure,h01];have hr0:(Array.range 0).map (fun x=>(#[]:Array Value)[x%(#[]:Array Value).size]!)= #[]:=(by simp);rw[Nat.zero_mul,hr0];simp
      ·rw[if_neg Cn];simp only[Sem.run_bind,Cl,Result.andThen_ok,newRow,run_newObj,Sem.run_pure,gT c.toNat M6];rfl
     ·refine⟨rfl,0,?_,Nat.le_refl _,fun _=>h3.symm⟩;show kd (setAt st.hp id _) id=_;rw[bR,if_pos rfl];rfl
    ·cases h
   ·cases h
  ·cases h
 ·cases h
theorem rR{id:Nat}{t:TypeId}{len:Nat}{parts:Array (Nat×Operand)}(ho:o.op= .buildSlice t len parts)(h:((c8 P id (ev st) (.buildSlice t len parts)).val st.hp)=some (q,v,d))(jo:(∃x,(id,x)∈d)→kd st.hp id=none):dn P o st q v d:=by
 simp only[c8,Ask.val]at h
 split at h
 ·rename_i el ji;have hu:=cf ji
  split at h
  ·rename_i sz z hs hz
   split at h
   ·rename_i ie;obtain⟨h16,Ez,eI⟩:=ie
    split at h
    ·rename_i l hl
     have base:∀ (W:World) (ag:Hp) (β₀ β:Env) (a:Act) (w:World),Rel W ag β₀ β st a w→
       ∃c:List Value,aP β (kd st.hp) l c∧(execOp a.eval o).run P w= .ok (.value (.slice (some ⟨w.heap.size,0,none⟩) len len)) (w.alloc (.cells c.toArray el)):=by
      intro W ag β₀ β a w hr;obtain⟨zv,Cl,M5⟩:=jJ (P:=P) (w:=w) (β:=β) (L:=kd st.hp) hz;have M6:zv.cells.size=sz:=by have:=M5.length;simp at this;omega
      obtain⟨c,hcc,hd⟩:=tm (β:=β) (L:=kd st.hp) (place:=fun i=>some (i*sz,sz)) _ (parts.toList.map fun p=>(p.1,a.eval p.2)) _ _ l (wO M5 len)
       (bd.of_map _ _ _ fun p _=>⟨rfl,aB hr p.2⟩) hl
      refine⟨c,hd,?_⟩;simp only[execOp,ho,Instr.buildSlice,Sem.run_bind,run_underlying hu,Result.andThen_ok,run_sizeOf hs];rw[if_neg (by omega)]
      have XX:Instr.fill (fun i=>some (i*sz,sz)) ((List.replicate len zv.cells.toList).flatten).toArray (Array.map (fun x=>match x with|(i,x)=>(i,a.eval x)) parts).toList=some c.toArray:=by
       rw[← hcc];simp
      by_cases Cn:len*sz=0
      ·have h01:len=0:=by
        rcases Nat.mul_eq_zero.1 Cn with k|k
        ·exact k
        ·omega
       rw[if_pos Cn]
       have adQ:Instr.fill (fun i=>some (i*sz,sz)) #[] (Array.map (fun x=>match x with|(i,x)=>(i,a.eval x)) parts).toList=some c.toArray:=by
        rw[← XX,h01];simp
       simp only[Sem.run_bind,Result.andThen_ok,Sem.run_pure,Cn];have hr0:(Array.range 0).map (fun x=>(#[]:Array Value)[x%(#[]:Array Value).size]!)= #[]:=(by simp);rw[hr0,adQ];simp[newRow]
      ·rw[if_neg Cn];simp only[Sem.run_bind,Cl,Result.andThen_ok,Sem.run_pure,gT len M6];rw[XX];simp[newRow]
     have XY:some (q,v,d)=some ((none:Option Prop),LV.one (.sc (.slice id 0 len len)),[(id,Item.aZ l el)])→dn P o st q v d:=by
      intro he;cases he;have jo:=jo ⟨_,by simp;rfl⟩;intro _ W ag β₀ β a w hr;obtain⟨c,hd,ck⟩:=base W ag β₀ β a w hr;obtain⟨β',h1,h2,h3⟩:=hr.heap.GV jo el hd;refine⟨β',_,_,_,ck,.inl rfl,⟨?_,by rw[h3]⟩,h1,h2⟩;show kd (setAt st.hp id _) id=_;rw[bR,if_pos rfl];rfl
     split at h
     ·rename_i ty hty
      split at h
      ·rename_i hw;subst hw
       split at h
       ·rename_i xs Xi
        cases h
        have jo:=jo ⟨_,by simp;rfl⟩;intro _ W ag β₀ β a w hr;obtain⟨c,hd,ck⟩:=base W ag β₀ β a w hr;obtain⟨hh,hlen⟩:=jD (R:=ty.has β true) (fun a x vs h hd=>ty.dZ h hd) _ Xi hd;have dY:=ig (β:=β) (w:=w.alloc (.cells (c++ []).toArray el)) (b:=w.heap.size) (elem:=el) (fz:=(0,0)) (rest:= []) (c:=len) (heap_alloc_new w _) hh (by omega) (by simp[hlen]) (.inl rfl);rw[List.append_nil,hlen]at dY;obtain⟨β',h1,h2,h3⟩:=hr.heap.jM jo (ver:=0) (w':=w.alloc (.cells c.toArray el)) (by rw[World.size_alloc];exact Nat.le_succ _) rfl rfl (fun b hb=>heap_alloc_old w _ b hb) dY (fun a n c e _=>by simp at e;obtain⟨rfl,_⟩:=e;exact Nat.le_refl _);refine⟨β',_,_,_,ck,.inl rfl,⟨rfl,0,?_,Nat.le_refl _,fun _=>h3.symm⟩,h1,h2⟩;show kd (setAt st.hp id _) id=_;rw[bR,if_pos rfl];rfl
       ·exact XY h.symm
      ·cases h
     ·exact XY h.symm
    ·cases h
   ·cases h
  ·cases h
 ·cases h
theorem EA{op:BinOp}{t:TypeId}{ox oy:Operand}{x y:LV}{b:Bool}(h:zN P op t x y=some b){w:World}{β:Env}{L:Nat→Option Kd}{xv yv:Value}(hx:x.den β L xv)(hy:y.den β L yv):
  (do eqGuard op t ox oy xv yv;binOp op t xv yv:Sem Value).run P w= .ok (.bool b) w:=by
 unfold zN at h
 have key:∀ {pm:Bool} {ty:Ty} {l:List ty.D} {n c:Nat} {e:TypeId},cu P t=some e→(LV.one (.sc (.rd pm true ty l))).den β L xv→(LV.one (.sc (.cQ (.slice none n c)))).den β L yv→
   ∃a n c n' c',xv= .slice (some a) n c∧yv= .slice none n' c':=by
  intro pm ty l n c e _ h1 h2;obtain⟨_,h3,_⟩:=h1;obtain⟨_,rfl⟩:=h2;have:=h3 rfl
  cases xv with
  |slice a n' c'=>cases a with
   |none=>exact absurd rfl this
   |some a=>exact⟨a,n',c',n,c,rfl,rfl⟩
  |_=>exact this.elim
 split at h
 ·rename_i e ji
  cases h
  obtain⟨a,n,c,n',c',rfl,rfl⟩:=key ji hx hy;rw[Sem.run_bind,bK (by simp) (by simp)];exact ko rfl (fC (cf ji))
 ·rename_i e ji
  cases h
  obtain⟨a,n,c,n',c',rfl,rfl⟩:=key ji hx hy;rw[Sem.run_bind,bK (by simp) (by simp)];exact kp rfl (fC (cf ji))
 ·cases h
theorem M8{id:Nat}(h:(c8 P id (ev st) o.op).val st.hp=some (q,v,d))(jo:(∃x,(id,x)∈d)→kd st.hp id=none):dn P o st q v d:=by
 cases ho:o.op<;>rw[ho]at h<;>(try (simp[c8,Ask.val]at h;done))
 case slice t x lo hi mx=>exact G1 ho h
 case makeSlice t x y=>exact tw ho h jo
 case buildSlice t n parts=>exact rR ho h jo
 all_goals simp only[c8]at h
 case move x=>
  cases h
  exact .pure fun _ W ag β₀ β a w hr=>⟨a.eval x,by simp[execOp,ho],aB hr x⟩
 case assign x=>
  cases h
  exact .pure fun _ W ag β₀ β a w hr=>⟨a.eval x,by simp[execOp,ho],aB hr x⟩
 case pick c x y=>
  simp only[Ask.val]at h
  split at h
  ·rename_i t hc
   cases h
   refine .pure fun _ W ag β₀ β a w hr=>⟨if t then a.eval x else a.eval y,?_,?_⟩
   ·have:=aB hr c;rw[hc]at this;have e:a.eval c= .bool t:=this;simp[execOp,ho,e,asBool]
   ·cases t
    ·exact aB hr y
    ·exact aB hr x
  ·rename_i t hc
   have G4:∀ (a:Act) (w:World) {W:World} {ag:Hp} {β₀ β:Env},Rel W ag β₀ β st a w→(execOp a.eval o).run P w= .ok (.value (if t then a.eval x else a.eval y)) w:=by
    intro a w W ag β₀ β hr;have:=aB hr c;rw[hc]at this;have e:a.eval c= .bool t:=this;simp[execOp,ho,e,asBool]
   split at h
   ·rename_i u v hx hy
    cases h
    refine .pure fun _ W ag β₀ β a w hr=>⟨_,G4 a w hr,?_⟩
    cases t
    ·exact wG (J:=GS) (L₁:=kd st.hp) ⟨fun _ _ h=>h,fun _ _ _ _ h=>(by cases h),fun _ h=>(by cases h)⟩ (hy▸aB hr y)
    ·exact zG (J:=GS) (L₁:=kd st.hp) ⟨fun _ _ h=>h,fun _ _ _ _ h=>(by cases h),fun _ h=>(by cases h)⟩ (hx▸aB hr x)
   ·rename_i u hx _
    cases h
    refine .pure fun hq W ag β₀ β a w hr=>⟨_,G4 a w hr,?_⟩;have ht:t=true:=hq;subst ht;exact hx▸aB hr x
   ·rename_i u hy _
    cases h
    refine .pure fun hq W ag β₀ β a w hr=>⟨_,G4 a w hr,?_⟩;have ht:t=false:=hq;subst ht;exact hy▸aB hr y
   ·cases h
  ·cases h
 case alloc t=>
  simp only[Ask.val]at h;obtain⟨l,hl,he⟩:=map_some h
  cases he
  have jo:=jo ⟨_,by simp;rfl⟩;refine wK (mk:=fun _=>Instr.alloc t true (.tuple #[])) (fun a=>by simp[execOp,ho]) (fun W ag β₀ β a w hr=>?_) jo;obtain⟨z,hz,hd⟩:=jJ (P:=P) (w:=w) (β:=β) (L:=kd st.hp) hl;refine⟨_,hd,?_⟩;simp only[Instr.alloc,Sem.run_bind,hz,Result.andThen_ok,newVar,newRow,run_newObj,Sem.run_pure];simp
 case box t x=>
  simp only[Ask.val]at h;obtain⟨l,hl,he⟩:=map_some h
  cases he
  have jo:=jo ⟨_,by simp;rfl⟩;refine wK (mk:=fun a=>Instr.box t (a.eval x)) (fun a=>by simp[execOp,ho]) (fun W ag β₀ β a w hr=>?_) jo;obtain⟨cs,G5,hd⟩:=jG hl (aB hr x);refine⟨_,hd,?_⟩;simp only[Instr.box,Sem.run_bind,Result.andThen_ok,newVar,newRow,run_newObj,Sem.run_pure,G5];rfl
 case build t parts=>
  simp only[Ask.val]at h
  split at h
  ·rename_i z place hz SW;obtain⟨l,hl,he⟩:=map_some h
   cases he
   refine .pure fun _ W ag β₀ β a w hr=>?_;obtain⟨zv,Cl,M5⟩:=jJ (P:=P) (w:=w) (β:=β) (L:=kd st.hp) hz
   obtain⟨c,hc,hd⟩:=tm (β:=β) (L:=kd st.hp) (place:=place) _ (parts.toList.map fun p=>(p.1,a.eval p.2)) z zv.cells.toList l M5
    (bd.of_map _ _ _ fun p _=>⟨rfl,aB hr p.2⟩) hl
   refine⟨.agg c.toArray,?_,c,rfl,hd⟩;unfold Cb at SW
   split at SW
   ·rename_i fs hu;obtain⟨pl,adR,rfl⟩:=map_some SW;have:=jh (P:=P) (w:=w) fs.toList pl adR;simp only[execOp,ho,Instr.build,Sem.run_bind,Cl,Result.andThen_ok,underlying,run_program,hu,Sem.run_pure];rw[Array.mapM_eq_mapM_toList];simp only[Sem.run_map,this,Result.andThen_ok];simp at hc;simp[hc]
   ·rename_i n e hu;obtain⟨s,hs,rfl⟩:=map_some SW;simp only[execOp,ho,Instr.build,Sem.run_bind,Cl,Result.andThen_ok,underlying,run_program,hu,Sem.run_pure,run_sizeOf hs];simp at hc;simp[hc]
   ·simp at SW
  ·cases h
 case load t x=>
  split at h
  ·rename_i s hx;exact M0 ho hx h
  ·simp[Ask.val]at h
 case store t x y=>
  split at h
  ·rename_i s l hx hl;exact GY ho hx hl h
  ·simp[Ask.val]at h
 case nilCheck x=>
  simp only[Ask.val]at h
  split at h
  ·rename_i b off hx
   cases h
   refine .pure fun _ W ag β₀ β a w hr=>?_;have hd:=aB hr x;rw[hx]at hd;obtain⟨dE,e⟩:kd st.hp b=some .aZ∧a.eval x= .pointer (some ⟨β.b b,off,none⟩):=hd;exact⟨_,by simp[execOp,ho,e],dE,rfl⟩
  ·rename_i s wd z f hx
   cases h
   refine .pure fun _ W ag β₀ β a w hr=>?_;have hd:=aB hr x;rw[hx]at hd;have hd':=hd;obtain⟨ad,n,c,h1,h2,h3,e⟩:=hd;refine⟨.pointer (some (ad.add (z.toNat*wd+f))),by simp[execOp,ho,e],?_⟩;rw[e]at hd';exact hd'
  ·cases h
 case binOp op t x y yt=>
  simp only[Ask.val]at h
  split at h
  ·rename_i b hn
   cases h
   refine .pure fun hq W ag β₀ β a w hr=>⟨.bool b,?_,rfl⟩;have:=EA (w:=w) (ox:=x) (oy:=y) hn (aB hr x) (aB hr y);simp only[execOp,ho];rw[Sem.run_bind,this];rfl
  ·obtain⟨r,zr,he⟩:=map_some h
   cases he
   refine .pure fun hq W ag β₀ β a w hr=>?_;obtain⟨val,e1,e2⟩:=GO (P:=P) (w:=w) (ox:=x) (oy:=y) (s:=r.2) (q:=r.1) (by rw[zr]) hq (aB hr x) (aB hr y);refine⟨val,?_,e2⟩;simp only[execOp,ho];rw[Sem.run_bind,e1];rfl
 case unOp op t x=>
  simp only[Ask.val]at h
  split at h
  ·rename_i s h1;obtain⟨r,zr,he⟩:=map_some h
   cases he
   refine .pure fun hq W ag β₀ β a w hr=>?_;have hd:=aO h1 (aB hr x)
   cases s<;>simp only[XN]at zr<;>try (simp at zr;done)
   ·cases op<;>simp at zr<;>subst zr<;>(have e:a.eval x=_:=hd)
    ·exact⟨_,by simp[execOp,ho,e,Op.unary,Op.intArith];rfl,by simp only[LV.den,VV.den,SV.den,map2_val];simp[SI.val]⟩
    ·exact⟨_,by simp only[execOp,ho,e,Op.unary,Op.intBits];rfl,by simp only[LV.den,VV.den,SV.den,map2_val];rfl⟩
   ·rename_i b
    cases op<;>simp at zr<;>subst zr
    have e:a.eval x=_:=hd;exact⟨_,by simp[execOp,ho,e,Op.unary];rfl,by cases b<;>simp[LV.den,VV.den,SV.den,SB.val]⟩
  ·cases h
 case convert src dst x=>
  split at h
  ·rename_i s hx;exact M1 ho hx h jo
  ·simp[Ask.val]at h
 case makeFunc fn fs cs=>
  cases fn with
  |func g=>
   simp only[Ask.val]at h
   split at h
   ·rename_i Q4;have Q4:fs= #[]:=(by simpa using Q4);subst Q4;have ecs:∀a:Act,cs.map a.eval=(cs.toList.map a.eval).toArray:=fun a=>by rw[← Array.toList_map,Array.toArray_toList]
    split at h
    ·rename_i G5
     cases h
     have:cs.toList= []:=(by simpa using G5);exact .pure fun _ W ag β₀ β a w hr=>⟨.func (.func g) #[] #[],by simp[execOp,ho,Instr.makeFunc,ecs,this],rfl,rfl⟩
    ·rename_i b off G5
     cases h
     obtain⟨x,hx,XK⟩:∃x,cs.toList= [x]∧ev st x= .one (.sc (.ptr b off)):=by
      match hl:cs.toList,G5 with
      | [x],G5=>exact⟨x,rfl,by simpa using G5⟩
      |_::_::_,G5=>simp at G5
     refine .pure fun _ W ag β₀ β a w hr=>?_;have hd:=aB hr x;rw[XK]at hd;obtain⟨h1,h2⟩:=hd;exact⟨.func (.func g) #[] #[a.eval x],by simp[execOp,ho,Instr.makeFunc,ecs,hx],h1,by rw[h2]⟩
    ·cases h
   ·cases h
  |_=>simp[Ask.val]at h
 case sliceToArrayPointer t x=>
  split at h
  ·rename_i b off len cap n e hx ha;simp only[Ask.val]at h
   split at h
   ·rename_i hle
    cases h
    refine .pure fun _ W ag β₀ β a w hr=>?_;obtain⟨dE,ex⟩:=aO hx (aB hr x);have hu:=hZ ha;exact⟨_,by simp[execOp,ho,ex,Instr.arrayAt,underlying,hu,Nat.not_lt.2 hle],dE,rfl⟩
   ·cases h
  ·rename_i s n e hns hx ha;rw[Ask.bL]at h
   split at h
   ·rename_i pm ty l hc
    split at h
    ·rename_i ie;obtain⟨o6,hs⟩:=ie
     cases h
     refine .pure fun hq W ag β₀ β a w hr=>?_;have Eu:n≤l.length:=hq;have hd:=aO hx (aB hr x);obtain⟨a',n',c',ex,hn,Cj,_,cG⟩:=fL hr.heap hc hd;obtain⟨a0,_,rfl,_⟩:=cG (by omega);have hu:=hZ ha;rw[ex]at hd;refine⟨.pointer (some a0),?_,a0,n',c',hd,Int.le_refl _,by omega,by simp[Addr.add]⟩;simp[execOp,ho,ex,Instr.arrayAt,underlying,hu,show ¬n'<n by omega]
    ·cases h
   ·cases h
  ·simp[Ask.val]at h
 case fieldAddr s x f=>
  simp only[Ask.val]at h
  split at h
  ·rename_i av fs hx hf;have hu:=pW hf
   split at h
   ·rename_i fd hfd;have M9:fs.toArray[f]? =some fd:=by simpa using hfd
    split at h
    ·rename_i n hn
     split at h
     ·cases h
     ·rename_i o6
      split at h
      ·rename_i b off
       cases h
       refine .pure fun _ W ag β₀ β a w hr=>?_;obtain⟨dE,ex⟩:=aO hx (aB hr x);refine⟨.pointer (some ⟨β.b b,off+fd.offset,none⟩),?_,dE,rfl⟩;simp only[execOp,ho,ex,Instr.fieldAt,underlying,Sem.run_bind,run_program,Result.andThen_ok,hu,Sem.run_pure,M9,Instr.sureAddr,fieldPlace,run_sizeOf hn,o6,if_false,bo]
      ·rename_i s' wd z f0
       cases h
       refine .pure fun _ W ag β₀ β a w hr=>?_;obtain⟨ad,n',c,h1,h2,h3,ex⟩:=aO hx (aB hr x);refine⟨.pointer (some (ad.add (z.toNat*wd+(f0+fd.offset)))),?_,ad,n',c,h1,h2,h3,rfl⟩;simp only[execOp,ho,ex,Instr.fieldAt,underlying,Sem.run_bind,run_program,Result.andThen_ok,hu,Sem.run_pure,M9,Instr.sureAddr,fieldPlace,run_sizeOf hn,o6,if_false,p6,Nat.add_assoc]
      ·cases h
    ·cases h
   ·cases h
  ·cases h
 case field s x f=>
  simp only[Ask.val]at h
  split at h
  ·rename_i l fs hx hf
   split at h
   ·rename_i fd hfd;obtain⟨y,hy,he⟩:=map_some h
    cases he
    refine .pure fun _ W ag β₀ β a w hr=>?_;have hd:=aB hr x;rw[hx]at hd;obtain⟨cs,ex,hd⟩:=hd;have hu:=pW hf;have M9:fs.toArray[f]? =some fd:=(by simpa using hfd);obtain⟨val,h1,h2⟩:=eX (P:=P) (w:=w) hd hy;refine⟨val,?_,h2⟩;simp[execOp,ho,ex,Instr.field,underlying,hu,M9,asAgg,h1]
   ·cases h
  ·cases h
 case indexAddr t x i=>
  split at h
  ·rename_i s hx;exact zP ho hx h
  ·simp[Ask.val]at h
 case index t x i=>
  simp only[Ask.val]at h;obtain⟨r,zr,he⟩:=map_some h
  cases he
  exact S3 ho (by rw[zr])
 case extract x i=>
  simp only[Ask.val]at h
  split at h
  ·rename_i l hx;obtain⟨y,hy,he⟩:=map_some h
   cases he
   refine .pure fun _ W ag β₀ β a w hr=>?_;have hd:=aB hr x;rw[hx]at hd;obtain⟨cs,ex,hd⟩:=hd;obtain⟨val,h1,h2⟩:=hd.get hy;have S7:cs.toArray[i]? =some val:=(by simpa using h1);exact⟨val,by simp[execOp,ho,ex,Instr.extract,S7],h2⟩
  ·cases h
end
def G6(P:Program)(ty:Ty)(t:TypeId)(x:SV):Ask (Option (Bool×List ty.D)):=
 match cu P t with
 |some _=>eM ty x
 |none=>match P.underlying t with
  |some .string=>.ret (if h:Ty.int .u8=ty then(jE x).map fun l=>(true,h▸(l.map fun n=>((UInt8.ofNat n.toNat).toNat:Int)))else none)
  |_=>.ret none
def S8(P:Program)(t:TypeId)(x:SV):Ask (Option SI):=
 match x with
 | .cQ (.slice _ n _)=>.ret ((cu P t).map fun _=>.lit n)
 | .slice _ _ n _=>.ret ((cu P t).map fun _=>.lit n)
 | .str l=>.ret (if P.underlying t matches some .string then some (.sym l.length)else none)
 | .cQ (.string s)=>.ret (if P.underlying t matches some .string then some (.lit s.size)else none)
 |x=>match cu P t with
  |some _=>(eN x).map fun c=>c.map fun c=>.sym c.2.2.length
  |none=>.ret none
def nF(f:Int→Int→Int)(k:IntKind):SI→List SV→Option SI
 |x,[]=>some x
 |x,.int k' y::l=>if k'=k then nF f k (map2 f x y) l else none
 |_,_=>none
def G7(x y:Int):Int:=if y<x then y else x
def G8(x y:Int):Int:=if y>x then y else x
def dF{α:Type}(l:List α)(z len:Nat)(m:List α):List α:=l.take z++(m.take len++l.drop (z+min len m.length))
def G9(P:Program)(id:Nat)(t u:TypeId)(s x:SV):Ask MN:=
 match cu P t with
 |none=>.ret none
 |some el=>match rN P 8 el,bU P el,ia P el,jH P el with
  |some ty,some sz,some z,some by_=>
   if sz=ty.w∧0<ty.w∧wL z=ty.w then
    (G6 P ty u x).bind fun c=>match c with
     |some (pm,m)=>if pm||ty.flat then
       match s with
       | .cQ (.slice none 0 0)=>.ret (some (some (m.length*by_≤70368744177664∧m.length≤70368744177664),.one (.sc (.sl id 0)),[(id,.own 0 ty m)]))
       | .sl i ver=>.get i fun y=>.ret (match y with
        |some (.own ver' nu l)=>if h:nu=ty then(if ver=ver' then some (some ((l.length+m.length)*by_≤70368744177664∧l.length+m.length≤70368744177664),.one (.sc (.sl i (ver+1))),[(i,.own (ver+1) ty ((h▸l:List ty.D)++m))])else none)else none
        |_=>none)
       |_=>.ret none
      else .ret none
     |none=>.ret none
   else .ret none
  |_,_,_,_=>.ret none
def zQ(P:Program)(id:Nat)(t u:TypeId)(s:SV)(n:Int):Ask MN:=
 match cu P t,P.underlying u with
 |some el,some (.int _)=>match rN P 8 el,bU P el,ia P el,jH P el with
  |some ty,some sz,some z,some by_=>
   if sz=ty.w∧0<ty.w∧wL z=ty.w then
    match ty.read true z with
    |some z0=>match s with
     | .cQ (.slice none 0 0)=>.ret (some (some (0≤n∧n.toNat*by_≤70368744177664∧n.toNat≤70368744177664),.one (.sc (.sl id 0)),[(id,.own 0 ty (List.replicate n.toNat z0))]))
     | .sl i ver=>.get i fun y=>.ret (match y with
      |some (.own ver' nu l)=>if h:nu=ty then(if ver=ver' then some (some (0≤n∧(l.length+n.toNat)*by_≤70368744177664∧l.length+n.toNat≤70368744177664),.one (.sc (.sl i (ver+1))),[(i,.own (ver+1) ty ((h▸l:List ty.D)++List.replicate n.toNat z0))])else none)else none
      |_=>none)
     |_=>.ret none
    |none=>.ret none
   else .ret none
  |_,_,_,_=>.ret none
 |_,_=>.ret none
def zR(P:Program)(t u:TypeId)(d x:SV):Ask MN:=
 match cu P t with
 |none=>.ret none
 |some el=>match rN P 8 el,bU P el with
  |some ty,some sz=>
   if sz=ty.w∧0<ty.w then
    (match cu P u with|some _=>eM ty x|none=>.ret none).bind fun c=>match c with
     |some (pm,m)=>if pm||ty.flat then
       match d with
       | .sl i ver=>.get i fun y=>.ret (match y with
        |some (.own ver' nu l)=>if h:nu=ty then(if ver=ver' then some (none,.one (.sc (.int .i64 (.sym (min m.length l.length:Nat)))),[(i,.own ver' ty (dF (h▸l) 0 l.length m))])else none)else none
        |_=>none)
       | .vw i ver w z n=>.get i fun y=>.ret (match y with
        |some (.own ver' nu l)=>if h:nu=ty then(if ver=ver'∧w=ty.w then some (none,.one (.sc (.int .i64 (.sym (min m.length n.toNat:Nat)))),[(i,.own ver' ty (dF (h▸l) z.toNat n.toNat m))])else none)else none
        |_=>none)
       | .vb b o' nu k z n=>.get b fun y=>.ret (match y with
        |some (.aZ cells elem)=>match rowAt cells o' with
         |some (.arr adT k' l)=>if h:adT=ty then(if nu=ty∧k'=k then(eZ cells o' (.arr ty k' (dF (h▸l) z.toNat n.toNat m))).map fun c=>(none,.one (.sc (.int .i64 (.sym (min m.length n.toNat:Nat)))),[(b,.aZ c elem)])else none)else none
         |_=>none
        |_=>none)
       | .slice b o' n _=>.get b fun y=>.ret (match y with
        |some (.aZ cells elem)=>match Es cells o' (n*ty.w)with
         |some s=>match lS (ty.read true) ty.w n s with
          |some l=>(la cells o' ((List.range n).flatMap fun j=>ty.sg true ((dF l 0 n m).getD j ty.z))).map fun c=>(none,.one (.sc (.int .i64 (.sym (min m.length n:Nat)))),[(b,.aZ c elem)])
          |none=>none
         |none=>none
        |_=>none)
       |_=>.ret none
      else .ret none
     |none=>.ret none
   else .ret none
  |_,_=>.ret none
def Na(P:Program)(id:Nat)(b:Builtin)(ts:List TypeId)(xs:List LV):Ask MN:=
 match b,ts,xs with
 | .len,[t],[x]=>match eK x with
  |some x=>(S8 P t x).map fun n=>n.map fun n=>(none,.one (.sc (.int .i64 n)),[])
  |none=>.ret none
 | .append,[t,u],[s,x]=>match eK s,eK x with
  |some s,some (.int _ n)=>zQ P id t u s n.val
  |some s,some x=>G9 P id t u s x
  |_,_=>.ret none
 | .copy,[t,u],[s,x]=>match eK s,eK x with
  |some s,some x=>zR P t u s x
  |_,_=>.ret none
 | .min,_,x::l=>.ret (match eK x,bP eK l with
  |some (.int k x),some l=>(nF G7 k x l).map fun n=>(none,.one (.sc (.int k n)),[])
  |_,_=>none)
 | .max,_,x::l=>.ret (match eK x,bP eK l with
  |some (.int k x),some l=>(nF G8 k x l).map fun n=>(none,.one (.sc (.int k n)),[])
  |_,_=>none)
 |_,_,_=>.ret none
noncomputable section
variable {P:Program} {W:World} {ag:Hp} {β₀ β:Env} {hp:Hp} {w:World}
theorem sr{β:Env}{pm:Bool}{ty:Ty}{t e:TypeId}(hu:P.underlying t=some (.slice e)){v:Value}{m:List ty.D}(h:bg β pm w v ty m):
  ∃news,Src P ty.w t v m.length news w∧aF (ty.has β pm) m news:=by
 obtain⟨a,n,c,rfl,rfl,hc,_,hr⟩:=h;rcases Nat.eq_zero_or_pos m.length with h0|h0
 ·have:m= []:=List.eq_nil_of_length_eq_zero h0;subst this;refine⟨[],?_,.nil⟩
  cases a with
  |none=>exact Src.ofNil w hu c
  |some a=>exact Src.ofSlice w hu a 0 c [] (by simp) (fun j u h=>by simp at h) (fun u h=>by cases h)
 ·obtain⟨a0,cz,rfl,h1,h2,h3⟩:=hr h0;exact⟨cz,Src.ofSlice w hu a0 m.length c cz (aR h2) (fun j u hj=>h3 j u hj) (fR h2),h2⟩
theorem rS{β:Env}(l:List Int):aF ((Ty.int .u8).has β true) (l.map fun n=>((UInt8.ofNat n.toNat).toNat:Int)) (byteCells (strOf l)):=by
 have:byteCells (strOf l)=(l.map fun n=>((UInt8.ofNat n.toNat).toNat:Int)).map (Value.int .u8):=by
  simp[byteCells,strOf]
 rw[this];generalize (l.map fun n=>((UInt8.ofNat n.toNat).toNat:Int))=m
 induction m with
 |nil=>exact .nil
 |cons x m ih=>exact aF.cons (vs:= [_]) rfl ih
theorem Ha(h:aQ W ag β₀ β hp w){ty:Ty}{t:TypeId}{x:SV}{pm:Bool}{m:List ty.D}(hs:(G6 P ty t x).val hp=some (pm,m))(hf:(pm||ty.flat)=true){v:Value}(hd:x.den β (kd hp) v):
  ∃news,Src P ty.w t v m.length news w∧aF (ty.has β true) m news:=by
 unfold G6 at hs
 split at hs
 ·rename_i e ji;obtain⟨news,h1,h2⟩:=sr (P:=P) (cf ji) (ib h hs hd);refine⟨news,h1,?_⟩
  cases pm with
  |true=>exact h2
  |false=>exact h2.imp fun _ _=>ty.k8 (by simpa using hf)
 ·split at hs
  ·rename_i hu;simp only[Ask.val]at hs
   split at hs
   ·rename_i e;subst e;obtain⟨l,hl,he⟩:=map_some hs
    cases he
    have hv:=eJ hl hd;subst hv;refine⟨byteCells (strOf l),?_,rS l⟩;have:=Src.ofString (P:=P) w hu (strOf l);rw[k9]at this;rw[List.length_map];exact this
   ·cases hs
  ·simp[Ask.val]at hs
theorem p8{el:TypeId}{z:List SV}{n:Nat}(hz:ia P el=some z)(hw:wL z=n):∃i zv,P.info? el=some i∧i.zero=some zv∧zv.cells.size=n:=by
 unfold ia at hz
 split at hz
 ·rename_i i lay hi _
  split at hz
  ·rename_i zv Cl;have:=(kr (β:=⟨fun _=>0,fun _=>.nilIface,fun _ _ _ _=>False⟩) (L:=fun _=>none) _ _ hz).length;exact⟨i,zv,hi,Cl,by simpa [hw]using this⟩
  ·cases hz
 ·cases hz
theorem lh{t u el ty_:TypeId}{ty:Ty}{z:List SV}{by_:Nat}(ji:cu P t=some el)(hs:bU P el=some ty.w)(eI:0<ty.w)(hz:ia P el=some z)(Ez:wL z=ty.w)(zt:jH P el=some by_)
  {hd:Value} {l m:List ty.D} (kI:bI β w hd ty l) {x:Value} {news:List Value} (nG:Src P ty.w u x m.length news w) (fa:aF (ty.has β true) m news)
  (hb1:(l.length+m.length)*by_≤70368744177664) (rQ:l.length+m.length≤70368744177664):
  ∃v' w',(Builtin.append_ #[t,u] ty_ #[hd,x]).run P w= .ok v' w'∧bI β w' v' ty (l++m)∧w.heap.size≤w'.heap.size∧w'.os=w.os∧w'.output=w.output∧
   (∀b,b<w.heap.size→¬ (∃a n c,hd= .slice (some a) n c∧0<c∧a.block=b)→w'.heap[b]? =w.heap[b]?)∧
   (∀a n c,v'= .slice (some a) n c→0<c→(∃n' c',hd= .slice (some a) n' c'∧0<c')∨w.heap.size≤a.block):=by
 obtain⟨base,n,c,rfl,hn,Cj,fU,cG⟩:=kI;have hu:=cf ji;obtain⟨i,zv,hi,Cl,M6⟩:=p8 (P:=P) hz Ez;have Nb:i.size=ty.w:=by unfold bU at hs;rw[hi]at hs;simpa using hs
 have S6:i.bytes=by_:=by unfold jH at zt;rw[hi]at zt;simpa using zt
 by_cases wQ:n+m.length≤c
 ·
  rcases Nat.eq_zero_or_pos c with h0|h0
  ·have zw:l= []:=List.eq_nil_of_length_eq_zero (by omega);have Hb:m= []:=List.eq_nil_of_length_eq_zero (by omega);subst zw Hb;have XZ:news= []:=(by cases fa;rfl);subst XZ;refine⟨.slice base n c,w,?_,⟨base,n,c,rfl,hn,Cj,fU,cG⟩,Nat.le_refl _,rfl,rfl,fun _ _ _=>rfl,fun a n' c' e h=>by simp at e;omega⟩;have hle:n≤c:=Cj;have Hc:=nG.cells;have hlen:=nG.len;have hr2:n+0≤c:=(by simpa using Cj);simp only[List.length_nil]at hlen Hc;rcases nG.kind with⟨e',hk⟩|hk<;>cases base<;>simp[Builtin.append_,run_underlying hu,run_underlying hk,sizeOf,typeInfo,hi,Nb,hlen,Hc,hle,storeCells]
  ·obtain⟨a0,pre,cz,rest,elem,fz,rfl,k1,k2,k3,k4,k5,k6⟩:=cG h0;have S9:news.length=m.length*ty.w:=aR fa;have Ta:cz.length=n*ty.w:=(by rw[aR k4,hn]);have hrl:m.length*ty.w≤rest.length:=Nat.le_trans (Nat.mul_le_mul_right _ (by omega)) k5
   obtain⟨w',r1,r2,r3,r4,r5,r6⟩:=ca (P:=P) (a:=a0.add (n*ty.w)) (hX k1 _) (elem:=elem) (fz:=fz) news 0 (pre++cz) (rest.take (m.length*ty.w)) (rest.drop (m.length*ty.w)) w
    (by rw[cd,k2];simp) (by
     obtain⟨b0,o0,s0⟩:=a0;simp at k1 k3;subst k1;rw[bo];simp[k3,Ta]) (by rw[S9,List.length_take,Nat.min_eq_left hrl]) (fR fa) (fun off q1 q2=>k6.not (by simp[S9]at q2 ⊢;omega))
   rw[cd]at r2 r3;refine⟨.slice (some a0) (n+m.length) c,w',?_,⟨some a0,n+m.length,c,rfl,by simp[hn],wQ,by simp,fun _=>⟨a0,pre,cz++news,rest.drop (m.length*ty.w),elem,fz,rfl,k1,?_,k3,k4.append fa,?_,?_⟩⟩,by omega,r5,r6,fun b _ nE=>r3 b fun e=>nE ⟨a0,n,c,rfl,h0,e.symm⟩,fun a n' c' e _=>.inl (by simp at e;obtain⟨rfl,_,_⟩:=e;exact⟨n,c,rfl,h0⟩)⟩
   ·rcases nG.kind with⟨e',hk⟩|hk<;>simp[Builtin.append_,run_underlying hu,run_underlying hk,sizeOf,typeInfo,hi,Nb,nG.len,wQ,nG.cells,r1]
   ·rw[r2];simp
   ·rw[List.length_drop];have:(c-(n+m.length))*ty.w=(c-n)*ty.w-m.length*ty.w:=(by rw[← Nat.sub_sub,Nat.sub_mul]);omega
   ·have:(pre++((cz++news)++rest.drop (m.length*ty.w))).length=(pre++(cz++rest)).length:=(by simp[S9];omega);rw[this];exact k6
 ·
  have hg:c<n+m.length:=by omega
  have EB:Builtin.nextslicecap (n+m.length) c*i.bytes≤281474976710656:=growslice_fits hg (by rw[S6,hn];omega)
  have holds:∃jO,aF (ty.has β true) l jO∧∀ (w':World),(∀b,b<w.heap.size→w'.heap[b]? =w.heap[b]?)→(Builtin.firstCells i.size n (.slice base n c)).run P w'= .ok jO.toArray w':=by
   rcases Nat.eq_zero_or_pos c with h0|h0
   ·have zw:l= []:=List.eq_nil_of_length_eq_zero (by omega);have o6:n=0:=(by omega);subst zw o6;refine⟨[],.nil,fun w' _=>?_⟩
    cases base with
    |none=>simp[Builtin.firstCells]
    |some a=>simp[Builtin.firstCells,loadCells,loadCellsFrom]
   ·obtain⟨a0,pre,cz,rest,elem,fz,rfl,k1,k2,k3,k4,k5,k6⟩:=cG h0;refine⟨cz,k4,fun w' hw'=>?_⟩;have Ta:cz.length=n*i.size:=(by rw[aR k4,hn,Nb]);have dE:a0.block<w.heap.size:=(Array.getElem?_eq_some_iff.1 k2).1;refine run_firstCells_some (P:=P) w' i.size n a0 n c cz Ta fun j u hj=>?_
    have hh:bQ w a0 cz:=by
     have:=cC k2;obtain⟨b0,o0,s0⟩:=a0;simp at k1 k3;subst k1 k3;exact this
    exact hh.of (fun _=>hw' _ dE) j u hj
  obtain⟨jO,ho1,Xl⟩:=holds;have wy:Src P i.size u x m.length news w:=by rw[Nb];exact nG
  have ck:=run_append_grow_src (P:=P) w t u ty_ el i zv hu hi Cl base n c jO (Xl _ (fun _ _=>rfl)) x m.length news wy hg (by omega) EB;have M3:=grownCap_ge w (n+m.length) c el;have X0:(Builtin.zeroCells zv.cells (grownCap w (n+m.length) c el-(n+m.length))).size=(grownCap w (n+m.length) c el-(n+m.length))*ty.w:=by simp[Builtin.zeroCells,M6]
  generalize X1:grownCap w (n+m.length) c el=cap at ck M3 X0
  have jq:((jO++news).toArray++Builtin.zeroCells zv.cells (cap-(n+m.length)))=((jO++news)++(Builtin.zeroCells zv.cells (cap-(n+m.length))).toList).toArray:=by
   apply Array.ext';simp
  rw[jq]at ck
  have dY:=ig (β:=β) (w:=w.drew.alloc (.cells ((jO++news)++(Builtin.zeroCells zv.cells (cap-(n+m.length))).toList).toArray el)) (b:=w.heap.size) (t:=ty) (l:=l++m) (elem:=el) (fz:=(0,0)) (c:=cap)
   (heap_alloc_new w.drew _) (ho1.append fa) (by simp;omega) (Nat.le_of_eq (by rw[List.length_append,← hn];exact(Array.length_toList.trans X0).symm)) (.inl rfl)
  refine⟨_,_,ck,?_,?_,rfl,rfl,fun b hb _=>heap_alloc_old w.drew _ b hb,fun a n' c' e _=>.inr (by simp at e;obtain⟨rfl,_,_⟩:=e;exact Nat.le_refl _)⟩
  ·rw[List.length_append,← hn]at dY;exact dY
  ·show w.heap.size≤(w.drew.alloc _).heap.size;rw[World.size_alloc];exact Nat.le_succ _
theorem l6{t u el ty_:TypeId}{ty:Ty}{z:List SV}{by_:Nat}(ji:cu P t=some el)(hs:bU P el=some ty.w)(eI:0<ty.w)(hz:ia P el=some z)(Ez:wL z=ty.w)(zt:jH P el=some by_)
  {hd:Value} {l:List ty.D} (kI:bI β w hd ty l) {kn kq:IntKind} (Tb:P.underlying u=some (.int kn)) {z0:ty.D} (Xk:ty.read true z=some z0) (k:Nat)
  (hb1:(l.length+k)*by_≤70368744177664) (rQ:l.length+k≤70368744177664):
  ∃v' w',(Builtin.append_ #[t,u] ty_ #[hd,.int kq k]).run P w= .ok v' w'∧bI β w' v' ty (l++List.replicate k z0)∧w.heap.size≤w'.heap.size∧w'.os=w.os∧w'.output=w.output∧
   (∀b,b<w.heap.size→¬ (∃a n c,hd= .slice (some a) n c∧0<c∧a.block=b)→w'.heap[b]? =w.heap[b]?)∧
   (∀a n c,v'= .slice (some a) n c→0<c→(∃n' c',hd= .slice (some a) n' c'∧0<c')∨w.heap.size≤a.block):=by
 obtain⟨base,n,c,rfl,hn,Cj,fU,cG⟩:=kI;have hu:=cf ji;obtain⟨i,zv,hi,Cl,M6⟩:=p8 (P:=P) hz Ez;have Nb:i.size=ty.w:=by unfold bU at hs;rw[hi]at hs;simpa using hs
 have S6:i.bytes=by_:=by unfold jH at zt;rw[hi]at zt;simpa using zt
 have hzr:(zeroValue el).run P w= .ok zv w:=by simp[zeroValue,typeInfo,hi,Cl]
 obtain⟨GA,X2,M5⟩:=jJ (P:=P) (w:=w) (β:=β) (L:=fun _=>none) hz;obtain rfl:GA=zv:=by rw[hzr]at X2;injection X2 with e;exact e.symm
 have hzh:=ty.dZ Xk M5;have fa:aF (ty.has β true) (List.replicate k z0) ((List.replicate k GA.cells.toList).flatten):=p7 hzh _
 have X3:∀m,Builtin.zeroCells GA.cells m=((List.replicate m GA.cells.toList).flatten).toArray:=fun m=>by
  rw[← gT m M6];unfold Builtin.zeroCells;rw[M6]
 have S5:i64.wrap (k:Int)=k:=by rw[IntKind.wrap_i64];omega
 have adX:¬ ((k:Int)<0):=by omega
 have adY:¬ (281474976710656<(k:Int)*(i.bytes:Int)):=by
  rw[← Int.natCast_mul,S6];have:k*by_≤(l.length+k)*by_:=Nat.mul_le_mul_right _ (by omega);omega
 generalize XZ:(List.replicate k GA.cells.toList).flatten=news at fa
 by_cases wQ:n+k≤c
 ·
  rcases Nat.eq_zero_or_pos c with h0|h0
  ·have zw:l= []:=List.eq_nil_of_length_eq_zero (by omega);have Hb:k=0:=(by omega);subst zw Hb;refine⟨.slice base n c,w,?_,⟨base,n,c,rfl,hn,Cj,fU,cG⟩,Nat.le_refl _,rfl,rfl,fun _ _ _=>rfl,fun a n' c' e h=>by simp at e;omega⟩;have hle:n≤c:=Cj;have X4:i64.wrap 0=0:=rfl
   cases base<;>simp[Builtin.append_,run_underlying hu,run_underlying Tb,sizeOf,typeInfo,hi,Nb,hle,storeCells,asInt,asIntOf,X4]
  ·obtain⟨a0,pre,cz,rest,elem,fz,rfl,k1,k2,k3,k4,k5,k6⟩:=cG h0;have S9:news.length=k*ty.w:=(by rw[aR fa,List.length_replicate]);have Ta:cz.length=n*ty.w:=(by rw[aR k4,hn]);have hrl:k*ty.w≤rest.length:=Nat.le_trans (Nat.mul_le_mul_right _ (by omega)) k5
   obtain⟨w',r1,r2,r3,r4,r5,r6⟩:=ca (P:=P) (a:=a0.add (n*ty.w)) (hX k1 _) (elem:=elem) (fz:=fz) news 0 (pre++cz) (rest.take (k*ty.w)) (rest.drop (k*ty.w)) w
    (by rw[cd,k2];simp) (by
     obtain⟨b0,o0,s0⟩:=a0;simp at k1 k3;subst k1;rw[bo];simp[k3,Ta]) (by rw[S9,List.length_take,Nat.min_eq_left hrl]) (fR fa) (fun off q1 q2=>k6.not (by simp[S9]at q2 ⊢;omega))
   rw[cd]at r2 r3;refine⟨.slice (some a0) (n+k) c,w',?_,⟨some a0,n+k,c,rfl,by simp[hn],wQ,by simp,fun _=>⟨a0,pre,cz++news,rest.drop (k*ty.w),elem,fz,rfl,k1,?_,k3,k4.append fa,?_,?_⟩⟩,by omega,r5,r6,fun b _ nE=>r3 b fun e=>nE ⟨a0,n,c,rfl,h0,e.symm⟩,fun a n' c' e _=>.inl (by simp at e;obtain⟨rfl,_,_⟩:=e;exact⟨n,c,rfl,h0⟩)⟩
   ·rcases Nat.eq_zero_or_pos k with hk0|hk0
    ·subst hk0;have X4:i64.wrap 0=0:=rfl;have o6:news= []:=(by rw[← XZ];rfl);rw[o6]at r1;have Tc:n≤c:=Cj;simp[Builtin.append_,run_underlying hu,run_underlying Tb,sizeOf,typeInfo,hi,Nb,Tc,r1,asInt,asIntOf,X4]
    ·have hns:¬ (k*ty.w=0):=Nat.mul_ne_zero (by omega) (by omega);have hzk:Builtin.zeroCells GA.cells k=news.toArray:=(by rw[X3 k,XZ]);simp[Builtin.append_,run_underlying hu,run_underlying Tb,sizeOf,typeInfo,hi,Cl,zeroValue,Nb,wQ,r1,asInt,asIntOf,S5,adX,adY,hns,hzk]
   ·rw[r2];simp
   ·rw[List.length_drop];have:(c-(n+k))*ty.w=(c-n)*ty.w-k*ty.w:=(by rw[← Nat.sub_sub,Nat.sub_mul]);omega
   ·have:(pre++((cz++news)++rest.drop (k*ty.w))).length=(pre++(cz++rest)).length:=(by simp[S9];omega);rw[this];exact k6
 ·
  have hg:c<n+k:=by omega
  have EB:Builtin.nextslicecap (n+k) c*i.bytes≤281474976710656:=growslice_fits hg (by rw[S6,hn];omega)
  have holds:∃jO,aF (ty.has β true) l jO∧∀ (w':World),(∀b,b<w.heap.size→w'.heap[b]? =w.heap[b]?)→(Builtin.firstCells i.size n (.slice base n c)).run P w'= .ok jO.toArray w':=by
   rcases Nat.eq_zero_or_pos c with h0|h0
   ·have zw:l= []:=List.eq_nil_of_length_eq_zero (by omega);have o6:n=0:=(by omega);subst zw o6;refine⟨[],.nil,fun w' _=>?_⟩
    cases base with
    |none=>simp[Builtin.firstCells]
    |some a=>simp[Builtin.firstCells,loadCells,loadCellsFrom]
   ·obtain⟨a0,pre,cz,rest,elem,fz,rfl,k1,k2,k3,k4,k5,k6⟩:=cG h0;refine⟨cz,k4,fun w' hw'=>?_⟩;have Ta:cz.length=n*i.size:=(by rw[aR k4,hn,Nb]);have dE:a0.block<w.heap.size:=(Array.getElem?_eq_some_iff.1 k2).1;refine run_firstCells_some (P:=P) w' i.size n a0 n c cz Ta fun j u hj=>?_
    have hh:bQ w a0 cz:=by
     have:=cC k2;obtain⟨b0,o0,s0⟩:=a0;simp at k1 k3;subst k1 k3;exact this
    exact hh.of (fun _=>hw' _ dE) j u hj
  obtain⟨jO,ho1,Xl⟩:=holds
  have ck:=Go.Lib.run_append_grow_zeros (P:=P) w t u ty_ el i GA kq kn hu Tb hi Cl base n c jO (Xl _ (fun _ _=>rfl)) k (by omega) (by omega) hg (by omega) (by
   have:k*by_≤(l.length+k)*by_:=Nat.mul_le_mul_right _ (by omega);rw[S6];omega) EB
  rw[show(jO.toArray++Builtin.zeroCells GA.cells k)=(jO++news).toArray from by rw[X3 k,XZ];simp]at ck;have M3:=grownCap_ge w (n+k) c el;have X0:(Builtin.zeroCells GA.cells (grownCap w (n+k) c el-(n+k))).size=(grownCap w (n+k) c el-(n+k))*ty.w:=by simp[Builtin.zeroCells,M6]
  generalize X1:grownCap w (n+k) c el=cap at ck M3 X0
  have jq:((jO++news).toArray++Builtin.zeroCells GA.cells (cap-(n+k)))=((jO++news)++(Builtin.zeroCells GA.cells (cap-(n+k))).toList).toArray:=by
   apply Array.ext';simp
  rw[jq]at ck
  have dY:=ig (β:=β) (w:=w.drew.alloc (.cells ((jO++news)++(Builtin.zeroCells GA.cells (cap-(n+k))).toList).toArray el)) (b:=w.heap.size) (t:=ty) (l:=l++List.replicate k z0) (elem:=el) (fz:=(0,0)) (c:=cap)
   (heap_alloc_new w.drew _) (ho1.append fa) (by simp;omega) (Nat.le_of_eq (by rw[List.length_append,List.length_replicate,← hn];exact(Array.length_toList.trans X0).symm)) (.inl rfl)
  refine⟨_,_,ck,?_,?_,rfl,rfl,fun b hb _=>heap_alloc_old w.drew _ b hb,fun a n' c' e _=>.inr (by simp at e;obtain⟨rfl,_,_⟩:=e;exact Nat.le_refl _)⟩
  ·rw[List.length_append,List.length_replicate,← hn]at dY;exact dY
  ·show w.heap.size≤(w.drew.alloc _).heap.size;rw[World.size_alloc];exact Nat.le_succ _
end
noncomputable section
variable {P:Program} {W:World} {ag:Hp} {β₀ β:Env} {hp:Hp} {w:World}
theorem tx{α:Type}(l:List α)(z len:Nat)(m:List α):dF l z len m=l.take z++(m.take (min m.length len)++l.drop (z+min m.length len)):=by
 unfold dF;rw[Nat.min_comm len m.length]
 congr 2
 rcases Nat.le_total m.length len with h|h
 ·rw[Nat.min_eq_left h,List.take_of_length_le h,List.take_length]
 ·rw[Nat.min_eq_right h]
theorem jP{α:Type}{l:List α}{z len:Nat}{m:List α}(h:z+len≤l.length):(dF l z len m).length=l.length:=by
 rw[tx];simp only[List.length_append,List.length_take,List.length_drop];omega
theorem l7{β:Env}{pm:Bool}{t u el e' ty_:TypeId}{ty:Ty}(ji:cu P t=some el)(hu:cu P u=some e')(hs:bU P el=some ty.w){v:Value}{m:List ty.D}(hr:bg β pm w v ty m)(tz c:Nat):
  ∃ws,aF (ty.has β pm) (m.take (min m.length tz)) ws∧∀ (base:Option Addr) (w':World),(∀a,base=some a→(storeCells a ws).run P w= .ok () w')→(base=none→w'=w)→
   (Builtin.copy_ #[t,u] ty_ #[.slice base tz c,v]).run P w= .ok (.int .i64 ((min m.length tz:Nat):Int)) w':=by
 obtain⟨a,n,c',rfl,rfl,hc,_,cG⟩:=hr
 have key:∃ws,aF (ty.has β pm) (m.take (min m.length tz)) ws∧(Builtin.firstCells ty.w (min m.length tz) (.slice a m.length c')).run P w= .ok ws.toArray w:=by
  rcases Nat.eq_zero_or_pos m.length with h0|h0
  ·have:m= []:=List.eq_nil_of_length_eq_zero h0;subst this;refine⟨[],by simpa using aF.nil,?_⟩
   cases a with
   |none=>simp[Builtin.firstCells]
   |some a=>simp[Builtin.firstCells,loadCells,loadCellsFrom]
  ·obtain⟨a0,cz,rfl,h1,h2,h3⟩:=cG h0;obtain⟨v1,v2,rfl,k1,k2⟩:=dQ h2 (min m.length tz);refine⟨v1,k1,?_⟩;have hl:v1.length=min m.length tz*ty.w:=(by rw[aR k1,List.length_take];congr 1;omega);have hh:bQ w a0 v1:=fun i x hi=>h3 i x (by rw[List.getElem?_append_left (List.getElem?_eq_some_iff.1 hi).1];exact hi);have:=gC (P:=P) hh;rw[hl]at this;exact this
 obtain⟨ws,h1,h2⟩:=key;refine⟨ws,h1,fun base w' hw hn=>?_⟩;have adZ:Nat.min m.length tz=min m.length tz:=rfl;unfold Builtin.copy_;simp only[List.getElem?_toArray,List.getElem?_cons_zero,List.getElem?_cons_succ,Sem.run_bind,run_underlying (cf ji),Result.andThen_ok,Builtin.lenOf,Sem.run_pure,run_sizeOf hs,adZ,h2]
 cases base with
 |none=>rw[hn rfl];rfl
 |some a=>simp only[Sem.run_bind,hw a rfl];rfl
theorem nH{β:Env}{ty:Ty}{l m:List ty.D}{z len:Nat}{cz ws:List Value}(h:aF (ty.has β true) l cz)(hz:z+len≤l.length)(hw:aF (ty.has β true) (m.take (min m.length len)) ws):
  ∃p old r,cz=p++(old++r)∧p.length=z*ty.w∧old.length=ws.length∧aF (ty.has β true) (dF l z len m) (p++(ws++r)):=by
 obtain⟨p,v2,rfl,k1,k2⟩:=dQ h z;obtain⟨old,r,rfl,k3,k4⟩:=dQ k2 (min m.length len);refine⟨p,old,r,rfl,?_,?_,?_⟩
 ·rw[aR k1,List.length_take,Nat.min_eq_left (by omega)]
 ·rw[aR k3,aR hw,List.length_take,List.length_take,List.length_drop]
  congr 1;omega
 ·rw[tx];rw[List.drop_drop]at k4;exact k1.append (hw.append k4)
theorem aQ.Co(h:aQ W ag β₀ β hp w){i ver:Nat}{t:Ty}{l m:List t.D}(hi:hp[i]? =some (some (.own ver t l))){a:Option Addr}{n c:Nat}(he:β.h i= .slice a n c){z len:Nat}(hz:z+len≤l.length)
  {ws:List Value} (hw:aF (t.has β true) (m.take (min m.length len)) ws):
  ∃w' β',(∀a0,a=some a0→(storeCells (a0.add (z*t.w)) ws).run P w= .ok () w')∧(a=none→w'=w)∧(ws= []→w'=w)∧aQ W ag β₀ β' (setAt hp i (.own ver t (dF l z len m))) w'∧bh β β' (kd hp) (kd (setAt hp i (.own ver t (dF l z len m)))):=by
 have Gx:bI β w (β.h i) t l:=h.items _ _ hi;have ad0:=Gx;obtain⟨a',n',c',e,XR,XS,fU,h4⟩:=Gx;rw[he]at e;simp at e;obtain⟨rfl,rfl,rfl⟩:=e;rcases Nat.eq_zero_or_pos c with hc|hc
 ·have zw:l= []:=List.eq_nil_of_length_eq_zero (by omega);subst zw;have hlen:len=0:=by simp at hz;omega
  subst hlen
  have hws:ws= []:=by
   have:=aR hw;simp only[Nat.min_zero,List.take_zero,List.length_nil,Nat.zero_mul]at this;exact List.eq_nil_of_length_eq_zero this
  subst hws;have EC:dF ([]:List t.D) z 0 m= []:=by rw[tx];simp
  rw[EC];obtain⟨β',s1,s2,_⟩:=h.nD hi (ver':=ver) (l':= []) (v:=β.h i) (w':=w) (.inr ⟨rfl,rfl⟩) (Nat.le_refl _) rfl rfl (fun _ _ _=>rfl) ad0 (fun a n c e h0=>.inl ⟨a,n,c,e,h0,rfl⟩);exact⟨w,β',fun a0 _=>rfl,fun _=>rfl,fun _=>rfl,s1,s2⟩
 ·obtain⟨a0,pre,cz,rest,elem,fz,rfl,k1,k2,k3,k4,k5,k6⟩:=h4 hc;obtain⟨p,old,r,rfl,e1,e2,h9⟩:=nH k4 hz hw
  obtain⟨w',r1,r2,r3,r4,r5,r6⟩:=ca (P:=P) (a:=a0.add (z*t.w)) (hX k1 _) (elem:=elem) (fz:=fz) ws 0 (pre++p) old (r++rest) w
   (by rw[cd,k2];simp) (by
    obtain⟨b0,o0,s0⟩:=a0;simp at k1 k3;subst k1;rw[bo];simp[k3,e1]) e2 (fR hw) (fun off q1 q2=>k6.not (by simp at q2 ⊢;omega))
  rw[cd]at r2 r3
  obtain⟨β',s1,s2,s3⟩:=h.nD hi (ver':=ver) (l':=dF l z len m) (v:=β.h i) (w':=w') (.inr ⟨rfl,rfl⟩) (by omega) r5 r6 (fun b hb nE=>by
    refine r3 b fun e=>nE ?_;subst e;exact⟨a0,n,c,he,hc,rfl⟩)
   (by
    rw[he];refine⟨some a0,n,c,rfl,by rw[jP hz];exact XR,XS,by simp,fun _=>⟨a0,pre,p++(ws++r),rest,elem,fz,rfl,k1,?_,k3,h9,k5,?_⟩⟩
    ·rw[r2];simp
    ·have:(pre++(p++(ws++r)++rest)).length=(pre++(p++(old++r)++rest)).length:=(by simp[e2]);rw[this];exact k6)
   (fun a n c e h0=>.inl ⟨a,n,c,e,h0,rfl⟩)
  refine⟨w',β',fun a1 e=>by simp at e;subst e;exact r1,fun e=>(by cases e),fun e=>?_,s1,s2⟩;subst e;have:(storeCells (a0.add (z*t.w)) []).run P w= .ok () w:=rfl;rw[this]at r1;cases r1;rfl
theorem aQ.Nc(h:aQ W ag β₀ β hp w){b o:Nat}{t:Ty}{k:Nat}{cells cells':List SV}{elem:TypeId}{l m:List t.D}(hi:hp[b]? =some (some (.aZ cells elem)))(eY:rowAt cells o=some (.arr t k l)){z len:Nat}(hz:z+len≤k)
  (oR:eZ cells o (.arr t k (dF l z len m))=some cells') {ws:List Value} (hw:aF (t.has β true) (m.take (min m.length len)) ws):
  ∃w',(storeCells ((⟨β.b b,o,none⟩:Addr).add (z*t.w)) ws).run P w= .ok () w'∧(ws= []→w'=w)∧aQ W ag β₀ β (setAt hp b (.aZ cells' elem)) w'∧bh β β (kd hp) (kd (setAt hp b (.aZ cells' elem))):=by
 obtain⟨cs,fz,g1,g2,g3,_⟩:=h.eD hi
 have hlk:l.length=k:=by
  obtain⟨_,_,_,_,_,hh,_⟩:=jK _ _ eY g3;exact hh
 obtain⟨pre,mid,post,rfl,e3,_,h6,h7⟩:=gD _ _ eY oR g3 (by rw[jP (by omega)];exact hlk);obtain⟨p,old,r,rfl,e1,e2,h9⟩:=nH (z:=z) (len:=len) h6 (by rw[hlk];exact hz) hw
 obtain⟨w',r1,r2,r3,r4,r5,r6⟩:=ca (P:=P) (a:=⟨β.b b,o+z*t.w,none⟩) rfl (elem:=elem) (fz:=fz) ws 0 (pre++p) old (r++post) w
  (by rw[g1];simp) (by simp[e3,e1]) e2 (fR hw) (fun off q1 q2=>g2.not (by simp at q2 ⊢;omega))
 obtain⟨s1,s2⟩:=h.tu hi (cells':=cells') (w':=w') (by omega) r5 r6 r3 (c:=pre++((p++(ws++r))++post)) (fz:=fz)
  (by rw[r2];simp) (by
   have:(pre++((p++(ws++r))++post)).length=(pre++((p++(old++r))++post)).length:=(by simp[e2]);rw[this];exact g2) (h7 _ h9)
 refine⟨w',by rw[bo];exact r1,fun e=>?_,s1,s2⟩;subst e;have:(storeCells ⟨β.b b,o+z*t.w,none⟩ []).run P w= .ok () w:=rfl;rw[this]at r1;cases r1;rfl
theorem oE{L:Nat→Option Kd}{ty:Ty}:∀ {l:List ty.D} {vs:List Value},aF (ty.has β true) l vs→aP β L (l.flatMap (ty.sg true)) vs
 | [],_,h=>by cases h;exact .nil
 |x::l,_,.cons h t=>by rw[List.flatMap_cons];exact(ty.gS h).append (oE t)
theorem p9{α:Type}(l:List α)(d:α):(List.range l.length).map (fun j=>l.getD j d)=l:=by
 apply List.ext_getElem
 ·simp
 ·intro i h1 h2;simp at h1 ⊢;simp[h1]
theorem Nd{st:St}{a:Act}(hr:Rel W ag β₀ β st a w){t u ty_:TypeId}{d x:SV}{q:Option Prop}{v:LV}{dl:List (Nat×Item)}(h:(zR P t u d x).val st.hp=some (q,v,dl)){dv xv:Value}(hd:d.den β (kd st.hp) dv)(hx:x.den β (kd st.hp) xv):
  ∃ (β':Env) (w':World) (val:Value),(Builtin.copy_ #[t,u] ty_ #[dv,xv]).run P w= .ok val w'∧v.den β' (kd (ax dl st.hp)) val∧aQ W ag β₀ β' (ax dl st.hp) w'∧bh β β' (kd st.hp) (kd (ax dl st.hp)):=by
 unfold zR at h
 split at h
 ·simp[Ask.val]at h
 rename_i el ji
 split at h
 rotate_left
 ·simp[Ask.val]at h
 rename_i ty sz hty hs
 split at h
 rotate_left
 ·simp[Ask.val]at h
 rename_i ie;obtain⟨rfl,eI⟩:=ie;rw[Ask.cA]at h
 split at h
 rotate_left
 ·simp[Ask.val]at h
 rename_i pm m hc
 split at h
 rotate_left
 ·simp[Ask.val]at h
 rename_i hf
 have hu:∃e',cu P u=some e'∧(eM ty x).val st.hp=some (pm,m):=by
  split at hc
  ·rename_i e' he;exact⟨e',he,hc⟩
  ·simp[Ask.val]at hc
 obtain⟨e',hu,hc⟩:=hu;have jN:=ib hr.heap hc hx
 have Cp:∀ {k:Nat} {ws:List Value},aF (ty.has β pm) (m.take k) ws→aF (ty.has β true) (m.take k) ws:=by
  intro k ws hh
  cases pm with
  |true=>exact hh
  |false=>exact hh.imp fun _ _=>ty.k8 (by simpa using hf)
 split at h
 ·
  rename_i i ver;simp only[Ask.val]at h
  split at h
  ·rename_i ver' nu l hi
   split at h
   ·rename_i e;subst e
    split at h
    ·rename_i e;subst e
     cases h
     obtain⟨kI,hh⟩:=hr.heap.jL (p:=fun v=>dv=v) (an hi) hd.2;obtain⟨base,n,c,e1,hn,_⟩:=kI;obtain⟨ws,k1,k2⟩:=l7 (ty_:=ty_) ji hu hs jN n c;rw[hn]at k1;obtain⟨w',β',r1,r2,_,r3,r4⟩:=hr.heap.Co (P:=P) (an hi) e1 (z:=0) (len:=l.length) (by omega) (Cp k1);have ck:=k2 base w' (fun a0 e=>by have:=r1 a0 e;rw[Nat.zero_mul]at this;exact this) r2;refine⟨β',w',_,by rw[hh,e1];exact ck,?_,r3,r4⟩;rw[hn];rfl
    ·cases h
   ·cases h
  ·cases h
 ·
  rename_i i ver w0 z n;simp only[Ask.val]at h
  split at h
  ·rename_i ver' nu l hi
   split at h
   ·rename_i e;subst e
    split at h
    ·rename_i e;obtain⟨rfl,rfl⟩:=e
     cases h
     obtain⟨kI,hh⟩:=hr.heap.jL (p:=fun v=>ot v nu.w z n dv) (an hi) hd.2;obtain⟨base,n1,c1,e1,hn,_⟩:=kI;obtain⟨a2,m2,c2,a3,c3,e2,z0,n0,hle,rfl,_,_,l5⟩:=hh;rw[e1]at e2;simp at e2;obtain⟨rfl,rfl,rfl⟩:=e2;obtain⟨ws,k1,k2⟩:=l7 (ty_:=ty_) ji hu hs jN n.toNat c3;obtain⟨w',β',r1,r2,r0,r3,r4⟩:=hr.heap.Co (P:=P) (an hi) e1 (z:=z.toNat) (len:=n.toNat) (by omega) (Cp k1);refine⟨β',w',_,k2 a3 w' (fun a0 e=>?_) (fun e=>?_),rfl,r3,r4⟩
     ·rcases Int.lt_or_le 0 n with h0|h0
      ·obtain⟨a4,e4,e5⟩:=l5 h0;rw[e]at e5;simp at e5;subst e5;exact r1 _ e4
      ·have:ws= []:=by
        have:=aR k1;rw[show n.toNat=0 from by omega]at this;simp at this;exact this
       subst this;rw[r0 rfl];rfl
     ·rcases Int.lt_or_le 0 n with h0|h0
      ·obtain⟨a4,e4,e5⟩:=l5 h0;rw[e]at e5;cases e5
      ·have:ws= []:=by
        have:=aR k1;rw[show n.toNat=0 from by omega]at this;simp at this;exact this
       exact r0 this
    ·cases h
   ·cases h
  ·cases h
 ·
  rename_i b o' ty0 k z n;simp only[Ask.val]at h
  split at h
  ·rename_i cells elem hi
   split at h
   ·rename_i nu k' l eY
    split at h
    ·rename_i e;subst e
     split at h
     ·rename_i e;obtain⟨rfl,rfl⟩:=e;obtain⟨cells',oR,he⟩:=map_some h
      cases he
      obtain⟨hb,z0,n0,zn,a3,c3,rfl,_,_,l5⟩:=hd;obtain⟨ws,k1,k2⟩:=l7 (ty_:=ty_) ji hu hs jN n.toNat c3;obtain⟨w',r1,r0,r3,r4⟩:=hr.heap.Nc (P:=P) (an hi) eY (z:=z.toNat) (len:=n.toNat) (by omega) oR (Cp k1);refine⟨β,w',_,k2 a3 w' (fun a0 e=>?_) (fun e=>?_),rfl,r3,r4⟩
      ·rcases Int.lt_or_le 0 n with h0|h0
       ·have e5:=l5 h0;rw[e]at e5;simp at e5;subst e5;exact r1
       ·have:ws= []:=by
         have:=aR k1;rw[show n.toNat=0 from by omega]at this;simp at this;exact this
        subst this;rw[r0 rfl];rfl
      ·rcases Int.lt_or_le 0 n with h0|h0
       ·have e5:=l5 h0;rw[e]at e5;cases e5
       ·have:ws= []:=by
         have:=aR k1;rw[show n.toNat=0 from by omega]at this;simp at this;exact this
        exact r0 this
     ·cases h
    ·cases h
   ·cases h
  ·cases h
 ·
  rename_i b o' n cp;simp only[Ask.val]at h
  split at h
  ·rename_i cells elem hi
   split at h
   ·rename_i s Ey
    split at h
    ·rename_i l hl;obtain⟨cells',GJ,he⟩:=map_some h
     cases he
     obtain⟨hb,rfl⟩:=hd;obtain⟨ws,k1,k2⟩:=l7 (ty_:=ty_) ji hu hs jN n cp;obtain⟨cs,fz,g1,g2,g3,_⟩:=hr.heap.eD (an hi);obtain⟨pre,mid,post,e1,e2,e3,h4⟩:=kl Ey g3;obtain⟨h5,h6⟩:=jD (R:=ty.has β true) (fun a x vs h hd=>ty.dZ h hd) _ hl h4;obtain⟨p,old,r,e4,e5,e6,h9⟩:=nH h5 (z:=0) (len:=n) (by omega) (Cp k1);have wz:p= []:=List.eq_nil_of_length_eq_zero (by rw[e5];simp);subst wz
     have ad1:aP β (kd st.hp) ((List.range n).flatMap fun j=>ty.sg true ((dF l 0 n m).getD j ty.z)) (ws++r):=by
      have:((List.range n).flatMap fun j=>ty.sg true ((dF l 0 n m).getD j ty.z))=(dF l 0 n m).flatMap (ty.sg true):=by
       have hlen:(dF l 0 n m).length=n:=by rw[jP (by omega)];exact h6
       conv=>rhs;rw[← p9 (dF l 0 n m) ty.z,hlen]
       rw[List.flatMap_map]
      rw[this];exact oE (by simpa using h9)
     obtain⟨Nf,lZ,X5,f1,f2,f3,f4⟩:=km GJ _ _ g3 ad1
     have zO:pre=Nf∧mid=lZ∧post=X5:=by
      have hml:mid.length=lZ.length:=by
       rw[f3,e4];simp[e6]
      rw[e1]at f1;obtain⟨g,g'⟩:=List.append_inj f1 (by rw[e2,f2]);obtain⟨g4,g5⟩:=List.append_inj g' hml;exact⟨g,g4,g5⟩
     obtain⟨rfl,rfl,rfl⟩:=zO;subst e4
     obtain⟨w',r1,r2,r3,r4,r5,r6⟩:=ca (P:=P) (a:=⟨β.b b,o',none⟩) rfl (elem:=elem) (fz:=fz) ws 0 pre old (r++post) w
      (by rw[g1,e1];simp) (by simp[e2]) e6 (fR k1) (fun off q1 q2=>g2.not (by rw[e1];simp at q2 ⊢;omega))
     obtain⟨s1,s2⟩:=hr.heap.tu (an hi) (cells':=cells') (w':=w') (by omega) r5 r6 r3 (c:=pre++((ws++r)++post)) (fz:=fz)
      (by rw[r2];simp) (by
       have:(pre++((ws++r)++post)).length=cs.length:=(by rw[e1];simp[e6]);rw[this];exact g2) f4
     exact⟨β,w',_,k2 _ w' (fun a0 e=>by simp at e;subst e;exact r1) (fun e=>by cases e),rfl,s1,s2⟩
    ·cases h
   ·cases h
  ·cases h
 ·simp[Ask.val]at h
end
end Go.Ev
end
